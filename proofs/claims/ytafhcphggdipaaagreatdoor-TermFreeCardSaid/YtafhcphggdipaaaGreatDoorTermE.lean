/- Terms. -/
import Derived.Test.YtafhcphggdipaaaGreatDoorTermD
import Derived.Test.YtafhcphggdipaaaGreatDoorKonH
import Derived.Test.YtafhcphggdipaaaGreatDoorTermB
set_option linter.unusedSimpArgs false
set_option linter.unusedVariables false
namespace Go.Abs.Kon
open Go Go.Proofs Go.Abs
set_option maxRecDepth 100000
set_option maxHeartbeats 4000000
mutual
def replP (us:List ConT):ConT→Int→ConT
 | .mk op n s k names l,d=>
   if op=1 then (if n - d<0 then .mk op n s k names l else if n - d<us.length then (shiftF (us.getD (n - d).toNat zeroC) d 0).1 else .mk op (n - us.length) s k names l)
   else .mk op n s k names (replPL us l (deepF op d))
def replPL (us:List ConT):List ConT→Int→List ConT
 | [],_=>[]
 |x::r,d=>replP us x d::replPL us r d
end
theorem valid_parts {c:ConT}(h:validF c=true):sizeF c≤20000∧depthF c≤400∧formedF c=true:=by
 rw[validF] at h
 simp only[Bool.and_eq_true,decide_eq_true_iff] at h
 exact h
theorem valid_child {op n:Int}{s:ByteArray}{k:List KindT}{names:List ByteArray}{l:List ConT}(h:validF (.mk op n s k names l)=true):∀x∈l,validF x=true:=by
 intro x hx
 obtain ⟨h1,h2,h3⟩:=valid_parts h
 rw[sizeF] at h1
 rw[depthF] at h2
 rw[formedF,Bool.and_eq_true,formedL_all] at h3
 have e1:=sizeF_mem hx
 have e2:=depthF_mem hx
 rw[validF]
 simp only[Bool.and_eq_true,decide_eq_true_iff]
 exact ⟨by omega,by omega,List.all_eq_true.1 h3.2 x hx⟩
theorem not_child {op n:Int}{s:ByteArray}{k:List KindT}{names:List ByteArray}{l:List ConT}(h:∃x∈l,validF x=false):validF (.mk op n s k names l)=false:=by
 cases h1:validF (.mk op n s k names l) with
 |false=>rfl
 |true=>
   obtain ⟨x,hx,h2⟩:=h
   rw[valid_child h1 x hx] at h2
   exact h2
theorem getD_valid {us:List ConT}(h:us.all validF=true) {i:Nat}(hi:i<us.length):validF (us.getD i zeroC)=true:=by
 rw[List.getD_eq_getElem?_getD,List.getElem?_eq_getElem hi,Option.getD_some]
 exact List.all_eq_true.1 h _ (List.getElem_mem hi)
mutual
theorem repl_eq (us:List ConT) (hus:us.all validF=true):∀(c:ConT) (d:Int),formedF c=true→0≤d→d+depthF c≤20000→replP us c d=mapF (substM us) c d∨(validF (replP us c d)=false∧validF (mapF (substM us) c d)=false)
 | .mk op n s k names l,d,hf,h0,h1=>by
   rw[replP,mapF]
   by_cases ho:op=1
   · rw[if_pos ho,if_pos (Or.inl ho:op=1∨op=2)]
     by_cases h2:n - d<0
     · rw[if_pos h2,sub_lo (x:=.mk op n s k names l) (b:=d) (Or.inr h2),leafC_self hf (.inl ho)]
       exact .inl rfl
     · rw[if_neg h2]
       by_cases h3:n - d<us.length
       · rw[if_pos h3,sub_in (x:=.mk op n s k names l) (b:=d) (m:=n - d) ho rfl (by omega) h3]
         have hv:=getD_valid hus (i:=(n - d).toNat) (by omega)
         generalize us.getD (n - d).toNat zeroC=u at hv
         rw[shiftF_up u d 0 hv h0 (by omega) (Int.le_refl _),replF_eq]
         cases h4:validF (mapF (shiftLeaf d 0) u 0) with
         |true=>left;rw[if_pos rfl]
         |false=>right;rw[if_neg (by decide)];exact ⟨valid_zero,rfl⟩
       · rw[if_neg h3,sub_hi (x:=.mk op n s k names l) (b:=d) (m:=n - us.length) ho (show 0≤n - d by omega) (show n - d≥us.length by omega) rfl]
         left
         have:=var_formed (x:=.mk op n s k names l) ho hf
         rw[varC] at this
         cases this
         rw[varC]
   · rw[if_neg ho]
     by_cases h2:op=2
     · rw[if_pos (Or.inr h2:op=1∨op=2)]
       have:=leaf_nil hf (.inr h2)
       subst this
       left
       rw[sub_lo (x:=.mk op n s k names []) (b:=d) (Or.inl (show op≠1 from ho)),leafC_self hf (.inr h2),replPL]
     · rw[if_neg (by rintro (e|e);exact ho e;exact h2 e)]
       rw[depthF] at h1
       rw[formedF,Bool.and_eq_true] at hf
       have e:deepF op d=if isBinder op=true then d+1 else d:=rfl
       rw[e]
       have hd:0≤(if isBinder op=true then d+1 else d)∧(if isBinder op=true then d+1 else d)+depthL l≤20000:=by split<;>omega
       generalize (if isBinder op=true then d+1 else d)=dd at hd
       rcases replL_eq us hus l dd hf.2 hd.1 hd.2 with h|h
       · left;rw[h]
       · right;exact ⟨not_child h.1,not_child h.2⟩
theorem replL_eq (us:List ConT) (hus:us.all validF=true):∀(l:List ConT) (d:Int),formedL l=true→0≤d→d+depthL l≤20000→replPL us l d=mapL (substM us) l d∨((∃x∈replPL us l d,validF x=false)∧∃x∈mapL (substM us) l d,validF x=false)
 | [],d,_,_,_=>.inl (by rw[replPL,mapL])
 |x::r,d,hf,h0,h1=>by
   rw[formedL,Bool.and_eq_true] at hf
   rw[depthL] at h1
   rw[replPL,mapL]
   rcases repl_eq us hus x d hf.1 h0 (by omega) with h|⟨h2,h3⟩
   · rcases replL_eq us hus r d hf.2 h0 (by omega) with h'|⟨⟨y,hy,e1⟩,z,hz,e2⟩
     · left;rw[h,h']
     · right;exact ⟨⟨y,List.mem_cons_of_mem _ hy,e1⟩,z,List.mem_cons_of_mem _ hz,e2⟩
   · right;exact ⟨⟨_,List.mem_cons_self,h2⟩,_,List.mem_cons_self,h3⟩
end
theorem shiftF_size (c:ConT) (n f:Int):sizeF (shiftF c n f).1≤20000:=by
 have hz:sizeF zeroC≤20000:=by decide
 rw[shiftF]
 split
 · exact hz
 · split
   · exact hz
   · rw[replF_eq]
     split
     · rename_i hv
       exact (valid_parts hv).1
     · exact hz
mutual
theorem repl_size (us:List ConT):∀(c:ConT) (d:Int),sizeF (replP us c d)≤sizeF c*20000
 | .mk op n s k names l,d=>by
   rw[replP,sizeF]
   split
   · split
     · rw[sizeF];omega
     · split
       · have:=shiftF_size (us.getD (n - d).toNat zeroC) d 0;omega
       · rw[sizeF];omega
   · have:=replL_size us l (deepF op d)
     rw[sizeF];omega
theorem replL_size (us:List ConT):∀(l:List ConT) (d:Int),sizeL (replPL us l d)≤sizeL l*20000
 | [],d=>by rw[replPL,sizeL];omega
 |x::r,d=>by
   have h1:=repl_size us x d
   have h2:=replL_size us r d
   rw[replPL,sizeL,sizeL];omega
end
theorem okS_getD {us:List ConT}(h:∀x∈us,okS x) (i:Nat):okS (us.getD i zeroC):=by
 rw[List.getD_eq_getElem?_getD]
 by_cases hi:i<us.length
 · rw[List.getElem?_eq_getElem hi,Option.getD_some]
   exact h _ (List.getElem_mem hi)
 · rw[List.getElem?_eq_none (by omega),Option.getD_none]
   exact okS_zero
mutual
theorem repl_okS (us:List ConT) (hus:∀x∈us,okS x):∀(c:ConT) (d:Int),okS c→okS (replP us c d)
 | .mk op n s k names l,d,h=>by
   rw[replP]
   split
   · split
     · exact h
     · split
       · exact (shiftF_ok _ d 0 (okS_getD hus _)).2
       · simp only[okS] at h ⊢;exact h
   · simp only[okS] at h ⊢
     exact ⟨h.1,h.2.1,replL_okS us hus l _ h.2.2⟩
theorem replL_okS (us:List ConT) (hus:∀x∈us,okS x):∀(l:List ConT) (d:Int),okSs l→okSs (replPL us l d)
 | [],d,_=>by rw[replPL,okSs];trivial
 |x::r,d,h=>by
   simp only[okSs] at h
   rw[replPL,okSs]
   exact ⟨repl_okS us hus x d h.1,replL_okS us hus r d h.2⟩
end
theorem repl_ok (us:List ConT) (hus:∀x∈us,okS x) (c:ConT) (d:Int) (h:validF c=true) (h1:okS c):okCon (replP us c d):=by
 have h2:=repl_size us c d
 have h3:=(valid_parts h).1
 exact ⟨by omega,repl_okS us hus c d h1⟩
def repCf (us:List ConT) (c:ConT) (uc _ut:Int):ConT×Int:=(replP us c uc,0)
def idVf (n _uc _ut:Int):TermT×Int:=(varT n,0)
def SubstConsT (t:TermT) (us:List ConT):TermT×Int:=if validT t=false∨us.all validF=false then (zeroT,1) else if us.length>1000 then (zeroT,5) else finT (chT (repCf us) idVf t 0 0)
theorem subCT_ok (us:List ConT) (hus:∀x∈us,okS x) (t:TermT) (h1:okT t) (h2:wfT t=true):okT (chT (repCf us) idVf t 0 0).1:=
 chT_okW _ _ (fun c uc _ h h'=>repl_ok us hus c uc h h') (fun n _ _=>okT_var n) t 0 0 h1 h2
mutual
def mapT (cf:ConT→Int→ConT) (vf:Int→Int→Int→TermT):TermT→Int→Int→TermT
 | .mk op n s con to k names l,uc,ut=>
   if op=1 then vf n uc ut else .mk op n s (if hasConF op=true then cf con uc else zeroC) (if op=8 then cf to uc else zeroC) k names (mapTL cf vf op l 0 uc ut)
def mapTL (cf:ConT→Int→ConT) (vf:Int→Int→Int→TermT) (op:Int):List TermT→Nat→Int→Int→List TermT
 | [],_,_,_=>[]
 |x::r,i,uc,ut=>mapT cf vf x (uc+insC op i) (ut+insT op i)::mapTL cf vf op r (i+1) uc ut
end
theorem mapTL_len (cf:ConT→Int→ConT) (vf:Int→Int→Int→TermT) (op:Int):∀(l:List TermT) (i:Nat) (uc ut:Int),(mapTL cf vf op l i uc ut).length=l.length
 | [],i,uc,ut=>by rw[mapTL]
 |x::r,i,uc,ut=>by rw[mapTL,List.length_cons,List.length_cons,mapTL_len cf vf op r]
section fuse
variable {c1 c2 c3 c4:ConT→Int→ConT}{v1 v2 v3 v4:Int→Int→Int→TermT}{b1 b2 b3 b4 d1 d2 d3 d4:Int}
mutual
theorem fuseT (hc:∀c u,0≤u→validF c=true→c2 (c1 c (b1+u)) (b2+u)=c4 (c3 c (b3+u)) (b4+u))
   (hv:∀n u w,0≤n→n≤20000→0≤u→0≤w→mapT c2 v2 (v1 n (b1+u) (d1+w)) (b2+u) (d2+w)=mapT c4 v4 (v3 n (b3+u) (d3+w)) (b4+u) (d4+w)) :
   ∀(t:TermT) (u w:Int),wfT t=true→0≤u→0≤w→mapT c2 v2 (mapT c1 v1 t (b1+u) (d1+w)) (b2+u) (d2+w)=mapT c4 v4 (mapT c3 v3 t (b3+u) (d3+w)) (b4+u) (d4+w)
 | .mk op n s con to k names l,u,w,hwf,hu,hw=>by
   rw[wfT,Bool.and_eq_true] at hwf
   obtain ⟨n1,_,n3,_⟩:=node_con hwf.1
   by_cases ho:op=1
   · obtain ⟨_,_,_,_,_,_,g1,g2⟩:=node_op1 hwf.1 ho
     rw[mapT,mapT.eq_def c3]
     simp only[if_pos ho]
     exact hv n u w g1 g2 hu hw
   · have hL:=fuseTL hc hv op l 0 u w hwf.2 hu hw
     rw[mapT,mapT.eq_def c3]
     simp only[if_neg ho]
     rw[mapT,mapT.eq_def c4]
     simp only[if_neg ho]
     rw[hL]
     have hC:(if hasConF op=true then c2 (if hasConF op=true then c1 con (b1+u) else zeroC) (b2+u) else zeroC)=(if hasConF op=true then c4 (if hasConF op=true then c3 con (b3+u) else zeroC) (b4+u) else zeroC):=by
       by_cases e:hasConF op=true
       · simp only[if_pos e];exact hc con u hu (n1 e)
       · simp only[if_neg e]
     have hT:(if op=8 then c2 (if op=8 then c1 to (b1+u) else zeroC) (b2+u) else zeroC)=(if op=8 then c4 (if op=8 then c3 to (b3+u) else zeroC) (b4+u) else zeroC):=by
       by_cases e:op=8
       · simp only[if_pos e];exact hc to u hu (n3 e)
       · simp only[if_neg e]
     rw[hC,hT]
theorem fuseTL (hc:∀c u,0≤u→validF c=true→c2 (c1 c (b1+u)) (b2+u)=c4 (c3 c (b3+u)) (b4+u))
   (hv:∀n u w,0≤n→n≤20000→0≤u→0≤w→mapT c2 v2 (v1 n (b1+u) (d1+w)) (b2+u) (d2+w)=mapT c4 v4 (v3 n (b3+u) (d3+w)) (b4+u) (d4+w)) (op:Int) :
   ∀(l:List TermT) (i:Nat) (u w:Int),wfL l=true→0≤u→0≤w→mapTL c2 v2 op (mapTL c1 v1 op l i (b1+u) (d1+w)) i (b2+u) (d2+w)=mapTL c4 v4 op (mapTL c3 v3 op l i (b3+u) (d3+w)) i (b4+u) (d4+w)
 | [],i,u,w,_,_,_=>by simp only[mapTL]
 |x::r,i,u,w,hwf,hu,hw=>by
   rw[wfL,Bool.and_eq_true] at hwf
   have h1:=fuseT hc hv x (u+insC op i) (w+insT op i) hwf.1 (by have:=insC_nn op i;omega) (by have:=insT_nn op i;omega)
   have h2:=fuseTL hc hv op r (i+1) u w hwf.2 hu hw
   simp only[mapTL]
   rw[h2]
   simp only[Int.add_assoc]
   rw[h1]
end
mutual
theorem fuse1T (hc:∀c u,0≤u→validF c=true→c2 (c1 c (b1+u)) (b2+u)=c3 c (b3+u))
   (hv:∀n u w,0≤n→n≤20000→0≤u→0≤w→mapT c2 v2 (v1 n (b1+u) (d1+w)) (b2+u) (d2+w)=v3 n (b3+u) (d3+w)) :
   ∀(t:TermT) (u w:Int),wfT t=true→0≤u→0≤w→mapT c2 v2 (mapT c1 v1 t (b1+u) (d1+w)) (b2+u) (d2+w)=mapT c3 v3 t (b3+u) (d3+w)
 | .mk op n s con to k names l,u,w,hwf,hu,hw=>by
   rw[wfT,Bool.and_eq_true] at hwf
   obtain ⟨n1,_,n3,_⟩:=node_con hwf.1
   by_cases ho:op=1
   · obtain ⟨_,_,_,_,_,_,g1,g2⟩:=node_op1 hwf.1 ho
     rw[mapT,mapT.eq_def c3]
     simp only[if_pos ho]
     exact hv n u w g1 g2 hu hw
   · have hL:=fuse1TL hc hv op l 0 u w hwf.2 hu hw
     rw[mapT,mapT.eq_def c3]
     simp only[if_neg ho]
     rw[mapT]
     simp only[if_neg ho]
     rw[hL]
     have hC:(if hasConF op=true then c2 (if hasConF op=true then c1 con (b1+u) else zeroC) (b2+u) else zeroC)=(if hasConF op=true then c3 con (b3+u) else zeroC):=by
       by_cases e:hasConF op=true
       · simp only[if_pos e];exact hc con u hu (n1 e)
       · simp only[if_neg e]
     have hT:(if op=8 then c2 (if op=8 then c1 to (b1+u) else zeroC) (b2+u) else zeroC)=(if op=8 then c3 to (b3+u) else zeroC):=by
       by_cases e:op=8
       · simp only[if_pos e];exact hc to u hu (n3 e)
       · simp only[if_neg e]
     rw[hC,hT]
theorem fuse1TL (hc:∀c u,0≤u→validF c=true→c2 (c1 c (b1+u)) (b2+u)=c3 c (b3+u))
   (hv:∀n u w,0≤n→n≤20000→0≤u→0≤w→mapT c2 v2 (v1 n (b1+u) (d1+w)) (b2+u) (d2+w)=v3 n (b3+u) (d3+w)) (op:Int) :
   ∀(l:List TermT) (i:Nat) (u w:Int),wfL l=true→0≤u→0≤w→mapTL c2 v2 op (mapTL c1 v1 op l i (b1+u) (d1+w)) i (b2+u) (d2+w)=mapTL c3 v3 op l i (b3+u) (d3+w)
 | [],i,u,w,_,_,_=>by simp only[mapTL]
 |x::r,i,u,w,hwf,hu,hw=>by
   rw[wfL,Bool.and_eq_true] at hwf
   have h1:=fuse1T hc hv x (u+insC op i) (w+insT op i) hwf.1 (by have:=insC_nn op i;omega) (by have:=insT_nn op i;omega)
   have h2:=fuse1TL hc hv op r (i+1) u w hwf.2 hu hw
   simp only[mapTL]
   rw[h2]
   simp only[Int.add_assoc]
   rw[h1]
end
end fuse
mutual
theorem mapT_id {c1:ConT→Int→ConT}{v1:Int→Int→Int→TermT}(hc:∀c u,0≤u→validF c=true→c1 c u=c) (hv:∀n u w,v1 n u w=varT n) :
   ∀(t:TermT) (u w:Int),wfT t=true→0≤u→mapT c1 v1 t u w=t
 | .mk op n s con to k names l,u,w,hwf,hu=>by
   rw[wfT,Bool.and_eq_true] at hwf
   obtain ⟨n1,n2,n3,n4⟩:=node_con hwf.1
   rw[mapT]
   by_cases ho:op=1
   · obtain ⟨rfl,rfl,rfl,rfl,rfl,g,_⟩:=node_op1 hwf.1 ho
     rw[if_pos ho,hv,varT,List.eq_nil_of_length_eq_zero g,ho]
   · rw[if_neg ho,mapTL_id hc hv op l 0 u w hwf.2 hu]
     have hC:(if hasConF op=true then c1 con u else zeroC)=con:=by
       by_cases e:hasConF op=true
       · rw[if_pos e,hc con u hu (n1 e)]
       · rw[if_neg e,n2 (by simpa using e)]
     have hT:(if op=8 then c1 to u else zeroC)=to:=by
       by_cases e:op=8
       · rw[if_pos e,hc to u hu (n3 e)]
       · rw[if_neg e,n4 e]
     rw[hC,hT]
theorem mapTL_id {c1:ConT→Int→ConT}{v1:Int→Int→Int→TermT}(hc:∀c u,0≤u→validF c=true→c1 c u=c) (hv:∀n u w,v1 n u w=varT n) (op:Int) :
   ∀(l:List TermT) (i:Nat) (u w:Int),wfL l=true→0≤u→mapTL c1 v1 op l i u w=l
 | [],i,u,w,_,_=>by rw[mapTL]
 |x::r,i,u,w,hwf,hu=>by
   rw[wfL,Bool.and_eq_true] at hwf
   rw[mapTL,mapT_id hc hv x _ _ hwf.1 (by have:=insC_nn op i;omega),mapTL_id hc hv op r (i+1) u w hwf.2 hu]
end
/-! Rebuilding is mapping -/
theorem node_with {op n:Int}{s:ByteArray}{con to:ConT}{k:List KindT}{names:List ByteArray}{len:Nat}(h:nodeT op n s con to k names len=true) (c' t':ConT):nodeT op n s c' t' k names len=(fitsC c' (hasConF op)&&fitsC t' (op==8)):=by
 obtain ⟨h1,h2,h3,h4,h5,h6,h7,_⟩:=node_op h
 rw[nodeT,decide_eq_true h1,decide_eq_true h2,h3,decide_eq_true h4,h5,h6,h7]
 rfl
theorem chL_len (cf:ConT→Int→Int→ConT×Int) (vf:Int→Int→Int→TermT×Int) (op:Int):∀(l:List TermT) (i:Nat) (u w:Int),(chL cf vf op l i u w).2=0→(chL cf vf op l i u w).1.length=l.length
 | [],i,u,w,_=>by rw[chL]
 |x::r,i,u,w,h=>by
   rw[chL] at h ⊢
   by_cases h1:(chT cf vf x (u+insC op i) (w+insT op i)).2≠0
   · rw[if_pos h1] at h;exact absurd h h1
   · rw[if_neg h1] at h ⊢
     by_cases h2:(chL cf vf op r (i+1) u w).2≠0
     · rw[if_pos h2] at h;exact absurd h h2
     · rw[if_neg h2,List.length_cons,List.length_cons,chL_len cf vf op r (i+1) u w (by simpa using h2)]
theorem chT_node (cf:ConT→Int→Int→ConT×Int) (vf:Int→Int→Int→TermT×Int) {op n:Int}{s:ByteArray}{con to:ConT}{k:List KindT}{names:List ByteArray}{l:List TermT}{u w:Int}(ho:op≠1) :
   ((hasConF op=true→(cf con u w).2=0)∧(op=8→(cf to u w).2=0)∧(chL cf vf op l 0 u w).2=0 ∧
     chT cf vf (.mk op n s con to k names l) u w=(.mk op n s (if hasConF op=true then (cf con u w).1 else zeroC) (if op=8 then (cf to u w).1 else zeroC) k names (chL cf vf op l 0 u w).1,0)) ∨
   (((hasConF op=true∧(cf con u w).2≠0)∨(op=8∧(cf to u w).2≠0)∨(chL cf vf op l 0 u w).2≠0)∧(chT cf vf (.mk op n s con to k names l) u w).2≠0):=by
 rw[chT,if_neg ho]
 by_cases h1:hasConF op=true∧(cf con u w).2≠0
 · right
   rw[if_pos h1]
   exact ⟨.inl h1,h1.2⟩
 · rw[if_neg h1]
   by_cases h2:op=8∧(cf to u w).2≠0
   · right
     rw[if_pos h2]
     exact ⟨.inr (.inl h2),h2.2⟩
   · rw[if_neg h2]
     by_cases h3:(chL cf vf op l 0 u w).2≠0
     · right
       rw[if_pos h3]
       exact ⟨.inr (.inr h3),h3⟩
     · left
       rw[if_neg h3]
       refine ⟨fun e=>?_,fun e=>?_,by simpa using h3,rfl⟩
       · by_cases g:(cf con u w).2=0
         · exact g
         · exact absurd ⟨e,g⟩ h1
       · by_cases g:(cf to u w).2=0
         · exact g
         · exact absurd ⟨e,g⟩ h2
theorem ins_le {op n:Int}{s:ByteArray}{con to:ConT}{k:List KindT}{names:List ByteArray}{l:List TermT}(h:nodeT op n s con to k names l.length=true):op=9→l.length≤2:=fun e=>by
 subst e
 have:=node_parts9 h
 omega
theorem ins_bound {op:Int}{i:Nat}(h:op=9→i+1≤2):insC op i≤1∧insT op i≤1:=by
 rw[insC,insT]
 by_cases e9:op=9
 · have:=h e9
   constructor<;>(repeat' split)<;>omega
 · constructor<;>(repeat' split)<;>omega
section kept
variable {cf:ConT→Int→Int→ConT×Int}{vf:Int→Int→Int→TermT×Int}{cf':ConT→Int→ConT}{vf':Int→Int→Int→TermT}
mutual
theorem chT_map (hc:∀c u w,validF c=true→0≤u→u≤400→((cf c u w).2=0∧(cf c u w).1=cf' c u)∨(validF (cf' c u)=false∧((cf c u w).2=0→validF (cf c u w).1=false)))
   (hv:∀n u w,0≤n→n≤20000→0≤u→u≤400→0≤w→w≤400→((vf n u w).2=0∧(vf n u w).1=vf' n u w)∨(wfT (vf' n u w)=false∧((vf n u w).2=0→wfT (vf n u w).1=false))) :
   ∀(t:TermT) (u w:Int),wfT t=true→0≤u→u+depthT t≤401→0≤w→w+depthT t≤401 →
   ((chT cf vf t u w).2=0∧(chT cf vf t u w).1=mapT cf' vf' t u w)∨(wfT (mapT cf' vf' t u w)=false∧((chT cf vf t u w).2=0→wfT (chT cf vf t u w).1=false))
 | .mk op n s con to k names l,u,w,hwf,h1,h2,h3,h4=>by
   rw[wfT,Bool.and_eq_true] at hwf
   obtain ⟨hn,hl⟩:=hwf
   obtain ⟨n1,_,n3,_⟩:=node_con hn
   rw[depthT] at h2 h4
   by_cases ho:op=1
   · obtain ⟨_,_,_,_,_,_,g1,g2⟩:=node_op1 hn ho
     rw[chT,mapT,if_pos ho,if_pos ho]
     exact hv n u w g1 g2 h1 (by omega) h3 (by omega)
   · have hL:=chL_map hc hv op l 0 u w hl (fun e=>by have:=ins_le hn e;omega) h1 (by omega) h3 (by omega)
     have hM:mapT cf' vf' (.mk op n s con to k names l) u w=.mk op n s (if hasConF op=true then cf' con u else zeroC) (if op=8 then cf' to u else zeroC) k names (mapTL cf' vf' op l 0 u w):=by rw[mapT,if_neg ho]
     have hwM:wfT (mapT cf' vf' (.mk op n s con to k names l) u w)=((fitsC (if hasConF op=true then cf' con u else zeroC) (hasConF op)&&fitsC (if op=8 then cf' to u else zeroC) (op==8))&&wfL (mapTL cf' vf' op l 0 u w)):=by
       rw[hM,wfT,mapTL_len,node_with hn]
     have e8:∀{c:ConT},op=8→fitsC c (op==8)=validF c:=fun e=>by
       have:(op==8)=true:=by simp[e]
       rw[this,fitsC,if_pos rfl]
     have eC:∀{c:ConT},hasConF op=true→fitsC c (hasConF op)=validF c:=fun e=>by rw[e,fitsC,if_pos rfl]
     rcases chT_node cf vf (n:=n) (s:=s) (con:=con) (to:=to) (k:=k) (names:=names) (l:=l) (u:=u) (w:=w) ho with ⟨a,b,r,e⟩|⟨bad,e⟩
     · have hwA:wfT (chT cf vf (.mk op n s con to k names l) u w).1=((fitsC (if hasConF op=true then (cf con u w).1 else zeroC) (hasConF op)&&fitsC (if op=8 then (cf to u w).1 else zeroC) (op==8))&&wfL (chL cf vf op l 0 u w).1):=by
         rw[e,wfT,chL_len cf vf op l 0 u w r,node_with hn]
       have PC:(if hasConF op=true then (cf con u w).1 else zeroC)=(if hasConF op=true then cf' con u else zeroC)∨(fitsC (if hasConF op=true then cf' con u else zeroC) (hasConF op)=false∧fitsC (if hasConF op=true then (cf con u w).1 else zeroC) (hasConF op)=false):=by
         by_cases hh:hasConF op=true
         · rw[if_pos hh,if_pos hh,eC hh,eC hh]
           rcases hc con u w (n1 hh) h1 (by omega) with ⟨_,g⟩|⟨g1,g2⟩
           · exact .inl g
           · exact .inr ⟨g1,g2 (a hh)⟩
         · rw[if_neg hh,if_neg hh];exact .inl rfl
       have PT:(if op=8 then (cf to u w).1 else zeroC)=(if op=8 then cf' to u else zeroC)∨(fitsC (if op=8 then cf' to u else zeroC) (op==8)=false∧fitsC (if op=8 then (cf to u w).1 else zeroC) (op==8)=false):=by
         by_cases hh:op=8
         · rw[if_pos hh,if_pos hh,e8 hh,e8 hh]
           rcases hc to u w (n3 hh) h1 (by omega) with ⟨_,g⟩|⟨g1,g2⟩
           · exact .inl g
           · exact .inr ⟨g1,g2 (b hh)⟩
         · rw[if_neg hh,if_neg hh];exact .inl rfl
       rcases PC with pc|⟨pc,pc'⟩
       · rcases PT with pt|⟨pt,pt'⟩
         · rcases hL with ⟨_,pl⟩|⟨pl,pl'⟩
           · left
             refine ⟨by rw[e],?_⟩
             rw[e,hM,pc,pt,pl]
           · right
             rw[hwM,hwA,pl,pl' r,Bool.and_false,Bool.and_false]
             exact ⟨rfl,fun _=>rfl⟩
         · right
           rw[hwM,hwA,pt,pt',Bool.and_false,Bool.and_false,Bool.false_and,Bool.false_and]
           exact ⟨rfl,fun _=>rfl⟩
       · right
         rw[hwM,hwA,pc,pc',Bool.false_and,Bool.false_and,Bool.false_and,Bool.false_and]
         exact ⟨rfl,fun _=>rfl⟩
     · right
       refine ⟨?_,fun h=>absurd h e⟩
       rw[hwM]
       rcases bad with ⟨hh,g⟩|⟨hh,g⟩|g
       · rcases hc con u w (n1 hh) h1 (by omega) with ⟨g1,_⟩|⟨g1,_⟩
         · exact absurd g1 g
         · rw[eC hh,if_pos hh,g1,Bool.false_and,Bool.false_and]
       · rcases hc to u w (n3 hh) h1 (by omega) with ⟨g1,_⟩|⟨g1,_⟩
         · exact absurd g1 g
         · rw[e8 hh,if_pos hh,g1,Bool.and_false,Bool.false_and]
       · rcases hL with ⟨g1,_⟩|⟨g1,_⟩
         · exact absurd g1 g
         · rw[g1,Bool.and_false]
theorem chL_map (hc:∀c u w,validF c=true→0≤u→u≤400→((cf c u w).2=0∧(cf c u w).1=cf' c u)∨(validF (cf' c u)=false∧((cf c u w).2=0→validF (cf c u w).1=false)))
   (hv:∀n u w,0≤n→n≤20000→0≤u→u≤400→0≤w→w≤400→((vf n u w).2=0∧(vf n u w).1=vf' n u w)∨(wfT (vf' n u w)=false∧((vf n u w).2=0→wfT (vf n u w).1=false))) (op:Int) :
   ∀(l:List TermT) (i:Nat) (u w:Int),wfL l=true→(op=9→i+l.length≤2)→0≤u→u+depthTL l≤400→0≤w→w+depthTL l≤400 →
   ((chL cf vf op l i u w).2=0∧(chL cf vf op l i u w).1=mapTL cf' vf' op l i u w)∨(wfL (mapTL cf' vf' op l i u w)=false∧((chL cf vf op l i u w).2=0→wfL (chL cf vf op l i u w).1=false))
 | [],i,u,w,_,_,_,_,_,_=>by
   rw[chL,mapTL]
   exact .inl ⟨rfl,rfl⟩
 |x::r,i,u,w,hl,h9,h1,h2,h3,h4=>by
   rw[wfL,Bool.and_eq_true] at hl
   rw[depthTL] at h2 h4
   have b0:=insC_nn op i
   have b1:=insT_nn op i
   obtain ⟨b2,b3⟩:=ins_bound (op:=op) (i:=i) (fun e=>by have:=h9 e;rw[List.length_cons] at this;omega)
   have hX:=chT_map hc hv x (u+insC op i) (w+insT op i) hl.1 (by omega) (by omega) (by omega) (by omega)
   have hR:=chL_map hc hv op r (i+1) u w hl.2 (fun e=>by have:=h9 e;rw[List.length_cons] at this;omega) h1 (by omega) h3 (by omega)
   rw[chL,mapTL,wfL]
   generalize chT cf vf x (u+insC op i) (w+insT op i)=A at hX
   generalize chL cf vf op r (i+1) u w=B at hR
   generalize mapT cf' vf' x (u+insC op i) (w+insT op i)=A' at hX
   generalize mapTL cf' vf' op r (i+1) u w=B' at hR
   by_cases a0:A.2≠0
   · right
     rw[if_pos a0]
     rcases hX with ⟨g,_⟩|⟨g,_⟩
     · exact absurd g a0
     · rw[g,Bool.false_and]
       exact ⟨rfl,fun h=>absurd h a0⟩
   · rw[if_neg a0]
     have a0':A.2=0:=by simpa using a0
     by_cases c0:B.2≠0
     · right
       rw[if_pos c0]
       rcases hR with ⟨g,_⟩|⟨g,_⟩
       · exact absurd g c0
       · rw[g,Bool.and_false]
         exact ⟨rfl,fun h=>absurd h c0⟩
     · rw[if_neg c0]
       have c0':B.2=0:=by simpa using c0
       rcases hX with ⟨_,g⟩|⟨g,g'⟩
       · rcases hR with ⟨_,q⟩|⟨q,q'⟩
         · left
           rw[g,q]
           exact ⟨rfl,rfl⟩
         · right
           refine ⟨by rw[q,Bool.and_false],fun _=>?_⟩
           rw[wfL,q' c0',Bool.and_false]
       · right
         refine ⟨by rw[g,Bool.false_and],fun _=>?_⟩
         rw[wfL,g' a0',Bool.false_and]
end
theorem not_wf {t:TermT}(h:wfT t=false):validT t=false:=by
 cases hv:validT t with
 |false=>rfl
 |true=>rw[(valid_wf hv).1] at h;exact h
theorem fin_map {t:TermT}(hc:∀c u w,validF c=true→0≤u→u≤400→((cf c u w).2=0∧(cf c u w).1=cf' c u)∨(validF (cf' c u)=false∧((cf c u w).2=0→validF (cf c u w).1=false)))
   (hv:∀n u w,0≤n→n≤20000→0≤u→u≤400→0≤w→w≤400→((vf n u w).2=0∧(vf n u w).1=vf' n u w)∨(wfT (vf' n u w)=false∧((vf n u w).2=0→wfT (vf n u w).1=false))) (h:validT t=true) :
   finT (chT cf vf t 0 0)=keptT (mapT cf' vf' t 0 0):=by
 obtain ⟨hwf,hd⟩:=valid_wf h
 rw[finT,keptT]
 rcases chT_map hc hv t 0 0 hwf (by decide) (by omega) (by decide) (by omega) with ⟨e1,e2⟩|⟨e1,e2⟩
 · rw[e2]
   cases hv2:validT (mapT cf' vf' t 0 0) with
   |true=>rw[if_neg (by rw[e1];simp),if_pos rfl]
   |false=>rw[if_pos (.inr rfl),if_neg (by decide)]
 · have hk:(if validT (mapT cf' vf' t 0 0)=true then (mapT cf' vf' t 0 0,(0:Int)) else (zeroT,6))=(zeroT,6):=if_neg (by rw[not_wf e1];decide)
   rw[hk]
   by_cases e3:(chT cf vf t 0 0).2=0
   · rw[if_pos (Or.inr (not_wf (e2 e3)))]
   · rw[if_pos (Or.inl e3)]
end kept
def cshM (n:Int) (c:ConT) (u:Int):ConT:=mapF (shiftLeaf n 0) c u
def vshM (m n _u w:Int):TermT:=varT (if n≥w then n+m else n)
def shM (n m:Int) (t:TermT):TermT:=mapT (cshM n) (vshM m) t 0 0
def cidM (c:ConT) (_u:Int):ConT:=c
def vsubM (by':TermT) (n u w:Int):TermT:=if n=w then shM u w by' else varT (if n>w then n - 1 else n)
def subM (by' t:TermT):TermT:=mapT cidM (vsubM by') t 0 0
def csubM (us:List ConT) (c:ConT) (u:Int):ConT:=mapF (substM us) c u
def vidM (n _u _w:Int):TermT:=varT n
def subCM (us:List ConT) (t:TermT):TermT:=mapT (csubM us) vidM t 0 0
theorem mapT_var (cf:ConT→Int→ConT) (vf:Int→Int→Int→TermT) (n u w:Int):mapT cf vf (varT n) u w=vf n u w:=by rw[varT,mapT,if_pos rfl]
theorem mshift0 {c:ConT}(h:formedF c=true) (u:Int):mapF (shiftLeaf 0 0) c u=c:=by
 refine map_id (fun x b hx hfx=>?_) c u h
 by_cases h1:x.op=1∧x.n - b≥0
 · rw[shift_hi h1.1 h1.2,Int.add_zero]
   exact var_formed h1.1 hfx
 · rw[shift_lo h1]
   exact leafC_formed hx hfx
theorem csh_valid {c:ConT}(h:validF c=true) (n u:Int):cshR c n u=cshM n c u:=by
 rw[cshR,if_neg (by rw[valid_notzero h];decide),cshM]
 exact (shift_eq n 0 c u u (validF_formed h) (by rw[Int.zero_add])).symm
mutual
theorem rsh_map (n m:Int):∀(t:TermT) (u w:Int),wfT t=true→rshT n m t u w=mapT (cshM n) (vshM m) t u w
 | .mk op i s con to k names l,u,w,hwf=>by
   rw[wfT,Bool.and_eq_true] at hwf
   obtain ⟨n1,n2,n3,n4⟩:=node_con hwf.1
   rw[rshT,mapT]
   by_cases ho:op=1
   · obtain ⟨rfl,rfl,rfl,rfl,rfl,g,_⟩:=node_op1 hwf.1 ho
     have:=List.eq_nil_of_length_eq_zero g
     subst this ho
     rw[if_pos rfl,vshM,varT,zero_csh,rshL]
     by_cases h:i≥w
     · rw[if_pos h,if_pos ⟨rfl,h⟩]
     · rw[if_neg h,if_neg (fun e=>h e.2)]
   · rw[if_neg ho,if_neg (fun e:op=1∧i≥w=>ho e.1),rshL_map n m op l 0 u w hwf.2 (fun e=>by have:=ins_le hwf.1 e;omega)]
     have hC:cshR con n u=(if hasConF op=true then cshM n con u else zeroC):=by
       by_cases e:hasConF op=true
       · rw[if_pos e,csh_valid (n1 e)]
       · rw[if_neg e,n2 (by simpa using e),zero_csh]
     have hT:cshR to n u=(if op=8 then cshM n to u else zeroC):=by
       by_cases e:op=8
       · rw[if_pos e,csh_valid (n3 e)]
       · rw[if_neg e,n4 e,zero_csh]
     rw[hC,hT]
theorem rshL_map (n m op:Int):∀(l:List TermT) (i:Nat) (u w:Int),wfL l=true→(op=9→i+l.length≤2)→rshL n m op l i u w=mapTL (cshM n) (vshM m) op l i u w
 | [],i,u,w,_,_=>by rw[rshL,mapTL]
 |x::r,i,u,w,hwf,h9=>by
   rw[wfL,Bool.and_eq_true] at hwf
   have h9':op=9→i≤1:=fun e=>by have:=h9 e;rw[List.length_cons] at this;omega
   rw[rshL,mapTL,ins_cons h9',ins_terms h9',rsh_map n m x _ _ hwf.1,rshL_map n m op r (i+1) u w hwf.2 (fun e=>by have:=h9 e;rw[List.length_cons] at this;omega)]
end
theorem ShiftT_M {t:TermT}{n m:Int}(h:validT t=true) (h1:inB n=true) (h2:inB m=true) (h3:headLt (sortU (consF t 0)) n=false) (h4:headLt (sortU (termsF t 0)) m=false):ShiftT t n m=keptT (shM n m t):=by
 rw[ShiftT_eq h h1 h2 h3 h4,rsh_map n m t 0 0 (valid_wf h).1,shM]
theorem shT_M {t:TermT}(h:wfT t=true) (n m:Int) (h1:0≤n) (h2:n≤20000) :
   ((shT n m t).2=0∧(shT n m t).1=shM n m t)∨(wfT (shM n m t)=false∧((shT n m t).2=0→wfT (shT n m t).1=false)):=by
 obtain ⟨e1,e2⟩:=sh_eq n m (by omega) h2 t 0 0 h (by decide) (fun i hi=>by have:=consF_n t 0 (by decide) i hi;omega)
 rw[rsh_map n m t 0 0 h] at e1 e2
 rw[shT,shM]
 by_cases h0:(chT (shCf n) (shVf m) t 0 0).2=0
 · exact .inl ⟨h0,e1 h0⟩
 · exact .inr ⟨e2 h0,fun h=>absurd h h0⟩
theorem SubstT_M {t by':TermT}(h:validT t=true) (h':validT by'=true):SubstT t by'=keptT (subM by' t):=by
 rw[SubstT,if_neg (by rw[h,h'];rintro (e|e)<;>cases e),subM]
 refine fin_map (fun c u w hc _ _=>?_) (fun n u w _ _ hu hu' hw hw'=>?_) h
 · rw[sameCf,shc0 hc,cidM]
   exact .inl ⟨rfl,rfl⟩
 · rw[subVf,vsubM]
   by_cases e:n=w
   · rw[if_pos e,if_pos e]
     exact shT_M (valid_wf h').1 u w hu (by omega)
   · rw[if_neg e,if_neg e]
     exact .inl ⟨rfl,rfl⟩
theorem SubstConsT_M {t:TermT}{us:List ConT}(h:validT t=true) (h':us.all validF=true) (hl:us.length≤1000):SubstConsT t us=keptT (subCM us t):=by
 rw[SubstConsT,if_neg (by rw[h,h'];rintro (e|e)<;>cases e),if_neg (by omega),subCM]
 refine fin_map (fun c u w hc hu hu'=>?_) (fun n u w _ _ _ _ _ _=>?_) h
 · rw[repCf,csubM]
   obtain ⟨_,hd,hf⟩:=valid_parts hc
   rcases repl_eq us h' c u hf hu (by omega) with e|⟨e1,e2⟩
   · exact .inl ⟨rfl,e⟩
   · exact .inr ⟨e2,fun _=>e1⟩
 · rw[idVf,vidM]
   exact .inl ⟨rfl,rfl⟩
/-! There and back -/
theorem shM_back (n m:Int) (hn:0≤n) (hm:0≤m) {t:TermT}(h:wfT t=true):shM (-n) (-m) (shM n m t)=t:=by
 have:=fuse1T (c1:=cshM n) (c2:=cshM (-n)) (c3:=cidM) (v1:=vshM m) (v2:=vshM (-m)) (v3:=vidM) (b1:=0) (b2:=0) (b3:=0) (d1:=0) (d2:=0) (d3:=0) (fun c u hu hc=>by
   simp only[Int.zero_add,cshM,cidM]
   rw[shift_shift n (-n) 0 hn c u hu,Int.add_right_neg,mshift0 (validF_formed hc)]) (fun i u w _ _ _ _=>by
   simp only[Int.zero_add]
   rw[vshM,mapT_var,vshM,vidM]
   congr 1
   by_cases e:i≥w
   · rw[if_pos e,if_pos (by omega)];omega
   · rw[if_neg e,if_neg e]) t 0 0 h (by decide) (by decide)
 simp only[Int.add_zero] at this
 rw[shM,shM,this]
 exact mapT_id (fun _ _ _ _=>rfl) (fun _ _ _=>rfl) t 0 0 h (by decide)
theorem sub_shM (by':TermT) {t:TermT}(h:wfT t=true):subM by' (shM 0 1 t)=t:=by
 have:=fuse1T (c1:=cshM 0) (c2:=cidM) (c3:=cidM) (v1:=vshM 1) (v2:=vsubM by') (v3:=vidM) (b1:=0) (b2:=0) (b3:=0) (d1:=0) (d2:=0) (d3:=0) (fun c u hu hc=>by
   simp only[Int.zero_add,cshM,cidM]
   rw[mshift0 (validF_formed hc)]) (fun i u w _ _ _ _=>by
   simp only[Int.zero_add]
   rw[vshM,mapT_var,vsubM,vidM]
   by_cases e:i≥w
   · rw[if_pos e,if_neg (by omega),if_pos (by omega)]
     congr 1;omega
   · rw[if_neg e,if_neg (by omega),if_neg (by omega)]) t 0 0 h (by decide) (by decide)
 simp only[Int.add_zero] at this
 rw[shM,subM,this]
 exact mapT_id (fun _ _ _ _=>rfl) (fun _ _ _=>rfl) t 0 0 h (by decide)
theorem subst_shiftN (us:List ConT) (c:ConT) (hf:formedF c=true) (u:Int) (hu:0≤u):mapF (substM us) (mapF (shiftLeaf us.length 0) c u) u=c:=by
 have:=fuse1 (l1:=shiftLeaf us.length 0) (l2:=substM us) (l3:=shiftLeaf 0 0) (b1:=0) (b2:=0) (b3:=0) (fun x t ht hx=>by
   rw[Int.zero_add]
   by_cases h1:x.op=1∧x.n - t≥0
   · rw[shift_hi h1.1 h1.2,mapF_varC,shift_hi h1.1 h1.2,sub_hi (m:=x.n+0) (varC_op _) (by rw[varC_n];omega) (by rw[varC_n];omega) (by rw[varC_n];omega)]
   · rw[shift_lo h1,mapF_leafC _ hx,shift_lo h1,sub_lo (by rw[leafC_op,leafC_n];by_cases ho:x.op=1<;>omega),leafC_leafC]) c u hu
 simp only[Int.zero_add] at this
 rw[this,mshift0 hf]
theorem subC_shM (us:List ConT) {t:TermT}(h:wfT t=true):subCM us (shM us.length 0 t)=t:=by
 have:=fuse1T (c1:=cshM us.length) (c2:=csubM us) (c3:=cidM) (v1:=vshM 0) (v2:=vidM) (v3:=vidM) (b1:=0) (b2:=0) (b3:=0) (d1:=0) (d2:=0) (d3:=0) (fun c u hu hc=>by
   simp only[Int.zero_add,cshM,cidM,csubM]
   rw[subst_shiftN us c (validF_formed hc) u hu]) (fun i u w _ _ _ _=>by
   simp only[Int.zero_add]
   rw[vshM,mapT_var,vidM,vidM,Int.add_zero]
   congr 1
   split<;>rfl) t 0 0 h (by decide) (by decide)
 simp only[Int.add_zero] at this
 rw[shM,subCM,this]
 exact mapT_id (fun _ _ _ _=>rfl) (fun _ _ _=>rfl) t 0 0 h (by decide)
/-! Substitutions commute -/
theorem subst_underU (us:List ConT) (d:Int) (hd:0≤d) (a:ConT) (u:Int) (hu:0≤u):mapF (substM us) (mapF (shiftLeaf d 0) a u) (d+u)=mapF (shiftLeaf d 0) (mapF (substM us) a u) u:=by
 have:=fuse (l1:=shiftLeaf d 0) (l2:=substM us) (l3:=substM us) (l4:=shiftLeaf d 0) (b1:=0) (b2:=d) (b3:=0) (b4:=0) (fun x t ht hx=>by
   simp only[Int.zero_add]
   by_cases h1:x.op=1∧x.n - t≥0
   · rw[shift_hi h1.1 h1.2,mapF_varC]
     by_cases h2:x.n - t≥us.length
     · rw[sub_hi (m:=x.n - us.length+d) (varC_op _) (by rw[varC_n];omega) (by rw[varC_n];omega) (by rw[varC_n];omega),sub_hi (m:=x.n - us.length) h1.1 (by omega) h2 rfl,mapF_varC,shift_hi (varC_op _) (by rw[varC_n];omega),varC_n]
     · rw[sub_in (m:=x.n - t) (varC_op _) (by rw[varC_n];omega) (by omega) (by omega),sub_in (m:=x.n - t) h1.1 rfl (by omega) (by omega)]
       generalize us.getD (x.n - t).toNat zeroC=u
       have h3:=shift_base d 0 (mapF (shiftLeaf t 0) u 0) t
       rw[h3,Int.zero_add,shift_over d t ht]
   · have h2:x.op≠1∨x.n - t<0:=by by_cases ho:x.op=1<;>omega
     have h3:x.op≠1∨x.n - (d+t)<0:=by by_cases ho:x.op=1<;>omega
     rw[shift_lo h1,mapF_leafC _ hx,sub_lo h2,sub_lo (x:=leafC x) h3,mapF_leafC _ hx,shift_lo (x:=leafC x) h1]) a u hu
 simpa only[Int.zero_add] using this
theorem subC_under (us:List ConT) (e f:Int) (he:0≤e) {t:TermT}(h:wfT t=true):mapT (csubM us) vidM (shM e f t) e f=shM e f (subCM us t):=by
 have:=fuseT (c1:=cshM e) (c2:=csubM us) (c3:=csubM us) (c4:=cshM e) (v1:=vshM f) (v2:=vidM) (v3:=vidM) (v4:=vshM f) (b1:=0) (b2:=e) (b3:=0) (b4:=0) (d1:=0) (d2:=f) (d3:=0) (d4:=0) (fun c u hu hc=>by
   simp only[Int.zero_add,cshM,csubM]
   exact subst_underU us e he c u hu) (fun i u w _ _ _ _=>by
   simp only[Int.zero_add]
   rw[vidM,mapT_var,vshM,mapT_var,vidM]) t 0 0 h (by decide) (by decide)
 simpa only[Int.add_zero,shM,subCM] using this
theorem sub_commutes (us:List ConT) {by' t:TermT}(h:wfT t=true) (h':wfT by'=true):subCM us (subM by' t)=subM (subCM us by') (subCM us t):=by
 have:=fuseT (c1:=cidM) (c2:=csubM us) (c3:=csubM us) (c4:=cidM) (v1:=vsubM by') (v2:=vidM) (v3:=vidM) (v4:=vsubM (subCM us by')) (b1:=0) (b2:=0) (b3:=0) (b4:=0) (d1:=0) (d2:=0) (d3:=0) (d4:=0) (fun c u hu hc=>by
   simp only[Int.zero_add,cidM]) (fun i u w _ _ hu hw=>by
   simp only[Int.zero_add]
   rw[vidM,mapT_var,vsubM,vsubM]
   by_cases e:i=w
   · rw[if_pos e,if_pos e]
     exact subC_under us u w hu h'
   · rw[if_neg e,if_neg e,mapT_var,vidM]) t 0 0 h (by decide) (by decide)
 simpa only[Int.add_zero,subM,subCM] using this
/-! How great it is -/
mutual
theorem sub_size (us:List ConT) (hus:us.all validF=true):∀(c:ConT) (b:Int),sizeF (mapF (substM us) c b)≤sizeF c*20000
 | .mk op n s k names l,b=>by
   rw[mapF]
   split
   · rw[sizeF,substM]
     split
     · rw[size_leafC];omega
     · split
       · have:sizeF (varC ((ConT.mk op n s k names l).n - us.length))=1:=rfl
         rw[this];omega
       · have hv:=getD_valid hus (i:=((ConT.mk op n s k names l).n - b).toNat) (by omega)
         rw[shift_size _ _ _ _ (validF_formed hv)]
         have:=(valid_parts hv).1
         omega
   · have:=subL_size us hus l (if isBinder op=true then b+1 else b)
     rw[sizeF,sizeF];omega
theorem subL_size (us:List ConT) (hus:us.all validF=true):∀(l:List ConT) (b:Int),sizeL (mapL (substM us) l b)≤sizeL l*20000
 | [],b=>by rw[mapL,sizeL];omega
 |x::r,b=>by
   have h1:=sub_size us hus x b
   have h2:=subL_size us hus r b
   rw[mapL,sizeL,sizeL];omega
end
theorem sub_okS (us:List ConT) (hl:∀x∈us,okS x) (c:ConT) (b:Int) (h:okS c):okS (mapF (substM us) c b):=by
 refine mapF_okS _ c b h fun x b' hx=>?_
 have hx':=(leaves_mem c b x b' hx).2.1 h
 rw[substM]
 split
 · exact okS_leafC hx'
 · split
   · exact okS_varC _
   · exact okS_shift _ _ (okS_getD hl _)
theorem csub_ok (us:List ConT) (hus:us.all validF=true) (hl:∀x∈us,okS x) (c:ConT) (u:Int) (h:validF c=true) (h':okS c):okCon (csubM us c u):=by
 have h1:=sub_size us hus c u
 have h2:=(valid_parts h).1
 exact ⟨by rw[csubM];omega,sub_okS us hl c u h'⟩
mutual
theorem mapT_okW {cf:ConT→Int→ConT}{vf:Int→Int→Int→TermT}(hc:∀c u,validF c=true→okS c→okCon (cf c u)) (hv:∀n u w,okT (vf n u w)) :
   ∀(t:TermT) (u w:Int),okT t→wfT t=true→okT (mapT cf vf t u w)
 | .mk op n s con to k names l,u,w,hok,hwf=>by
   rw[wfT,Bool.and_eq_true] at hwf
   obtain ⟨n1,_,n3,_⟩:=node_con hwf.1
   simp only[okT] at hok
   rw[mapT]
   by_cases ho:op=1
   · rw[if_pos ho];exact hv n u w
   · rw[if_neg ho]
     have hL:=mapTL_okW hc hv op l 0 u w hok.2.2.2.2.2.2.2 hwf.2
     simp only[okT]
     refine ⟨hok.1,?_,?_,hok.2.2.2.1,hok.2.2.2.2.1,hok.2.2.2.2.2.1,?_,hL⟩
     · split
       · rename_i e;exact hc con u (n1 e) hok.2.1.2
       · exact okCon_zero
     · split
       · rename_i e;exact hc to u (n3 e) hok.2.2.1.2
       · exact okCon_zero
     · rw[mapTL_len];exact hok.2.2.2.2.2.2.1
theorem mapTL_okW {cf:ConT→Int→ConT}{vf:Int→Int→Int→TermT}(hc:∀c u,validF c=true→okS c→okCon (cf c u)) (hv:∀n u w,okT (vf n u w)) (op:Int) :
   ∀(l:List TermT) (i:Nat) (u w:Int),okTs l→wfL l=true→okTs (mapTL cf vf op l i u w)
 | [],i,u,w,_,_=>by rw[mapTL];trivial
 |x::r,i,u,w,hok,hwf=>by
   rw[wfL,Bool.and_eq_true] at hwf
   simp only[okTs] at hok
   rw[mapTL]
   simp only[okTs]
   exact ⟨mapT_okW hc hv x _ _ hok.1 hwf.1,mapTL_okW hc hv op r (i+1) u w hok.2 hwf.2⟩
end
theorem subCM_okT (us:List ConT) (hus:us.all validF=true) (hl:∀x∈us,okS x) {t:TermT}(h:okT t) (h':wfT t=true):okT (subCM us t):=
 mapT_okW (csub_ok us hus hl) (fun n _ _=>okT_var n) t 0 0 h h'
/-! Under binders -/
/-! Constructors -/
theorem shiftF_err {c:ConT}{n f:Int}(h:(shiftF c n f).2≠0):(shiftF c n f).1=zeroC:=by
 rw[shiftF] at h ⊢
 split
 · rfl
 · rename_i h1
   rw[if_neg h1] at h
   split
   · rfl
   · rename_i h2
     rw[if_neg h2,replF_eq] at h
     rw[replF_eq]
     split
     · rename_i h3
       rw[if_pos h3] at h;exact absurd rfl h
     · rfl
theorem replace_spec (us:List ConT) (hus:∀x∈us,wtF x≤900000000∧okS x) (hul:us.length≤100000000) (c:ConT):∀d:Int,0≤d→d+depthF c≤100000000→(formedF c=true∨c=zeroC)→wtF c≤900000000 →
   Spec Tryz.prog 68 [pp (encC c),pp (.slice (us.map encC)),ii d] [] (encC (replP us c d)) []:=by
 revert c
 refine ConT.ind1 fun op n s k names l ih=>?_
 intro d h1 h2 h4 h5
 have hn:op=1→0≤n∧n≤20000:=fun e=>by
   rcases h4 with h4|h4
   · exact formed_n h4
   · rw[zeroC] at h4;cases h4;cases e
 have hfm:∀x∈l,formedF x=true:=by
   rcases h4 with h4|h4
   · rw[formedF,Bool.and_eq_true,formedL_all] at h4
     exact List.all_eq_true.1 h4.2
   · rw[zeroC] at h4;cases h4;intro x hx;cases hx
 rw[wtF] at h5
 rw[depthF] at h2
 have hwl:=wtL_len l
 clear h4
 by_cases hop:op=1
 · obtain ⟨n1,n2⟩:=hn hop
   have e1:(op==1)=true:=by simp[hop]
   have w1:IntKind.i64.wrap (n - d)=n - d:=wrap_id (by omega) (by omega)
   have w2:IntKind.i64.wrap (n - us.length)=n - us.length:=wrap_id (by omega) (by omega)
   rw[replP,if_pos hop]
   clear ih hfm
   by_cases a1:n - d<0
   · rw[if_pos a1]
     refine wk (rv:=[.cell 6 28]) ann68 87 Tryz.func68 ?_
     simp only[go_sem,encC_mk,e1,w1,decide_eq_true a1]
   · rw[if_neg a1]
     by_cases a2:n - d<us.length
     · rw[if_pos a2]
       obtain ⟨i,hi⟩:=Int.eq_ofNat_of_zero_le (show 0≤n - d by omega)
       have hlt:i<us.length:=by omega
       have hx:(us.map encC)[i]? = some (encC us[i]):=by simp[hlt]
       rw[hi,Int.toNat_natCast,List.getD_eq_getElem?_getD,List.getElem?_eq_getElem hlt,Option.getD_some]
       obtain ⟨g1,g2⟩:=hus us[i] (List.getElem_mem _)
       have hS:=Shift_specV us[i] d 0 (by have:=sizeF_wt us[i];omega) g2
       have hz:=@shiftF_err us[i] d 0
       have w1':IntKind.i64.wrap (n - d)=(i:Int):=by rw[w1,hi]
       have d1:decide ((i:Int)<0)=false:=decide_eq_false (by omega)
       have d2:decide ((i:Int)<us.length)=true:=decide_eq_true (by omega)
       generalize shiftF us[i] d 0=r at hS hz
       refine wk (rv:=[.cell 6 28]) ann68 87 Tryz.func68 ?_
       simp only[go_sem,encC_mk,e1,w1',d1,d2,List.length_map,Int.toNat_natCast,Int.natCast_nonneg,hx,encC_sz]
       refine aCall_intro hS ?_
       cases hb:(r.2 != 0)
       · simp only[go_sem,encC_sz,hb]
       · have:=hz (by simpa using hb)
         rw[this,zeroC,encC_mk]
         simp only[go_sem,encC_sz,hb]
     · rw[if_neg a2]
       refine wk (rv:=[.cell 6 28]) ann68 87 Tryz.func68 ?_
       simp only[go_sem,encC_mk,e1,w1,w2,decide_eq_false a1,decide_eq_false a2,List.length_map]
 · have hr:replP us (.mk op n s k names l) d=.mk op n s k names (replPL us l (deepF op d)):=by rw[replP,if_neg hop]
   rw[hr]
   have e1:(op==1)=false:=by simp[hop]
   have hN:=Clone_spec names (by omega)
   have w2:IntKind.i64.wrap (d+1)=d+1:=wrap_id (by omega) (by omega)
   have hdd0:0≤deepF op d:=by rw[deepF];split<;>omega
   have hdd1:deepF op d+depthL l≤100000000:=by rw[deepF];split<;>omega
   obtain ⟨dd,hdd⟩:∃dd,deepF op d=dd:=⟨_,rfl⟩
   have hcase:((op==9)=true∧(op==10)=false∧(op==11)=false∧(op==13)=false∧IntKind.i64.wrap (d+1)=dd)∨((op==9)=false∧(op==10)=true∧(op==11)=false∧(op==13)=false∧IntKind.i64.wrap (d+1)=dd) ∨
       ((op==9)=false∧(op==10)=false∧(op==11)=true∧(op==13)=false∧IntKind.i64.wrap (d+1)=dd)∨((op==9)=false∧(op==10)=false∧(op==11)=false∧(op==13)=true∧IntKind.i64.wrap (d+1)=dd) ∨
       ((op==9)=false∧(op==10)=false∧(op==11)=false∧(op==13)=false∧d=dd):=by
     rw[w2,←hdd,deepF,isBinder]
     rcases (show op=9∨op=10∨op=11∨op=13∨(op≠9∧op≠10∧op≠11∧op≠13) by omega) with e|e|e|e|⟨f1,f2,f3,f4⟩
     · exact .inl ⟨by simp[e],by simp[e],by simp[e],by simp[e],by simp[e]⟩
     · exact .inr (.inl ⟨by simp[e],by simp[e],by simp[e],by simp[e],by simp[e]⟩)
     · exact .inr (.inr (.inl ⟨by simp[e],by simp[e],by simp[e],by simp[e],by simp[e]⟩))
     · exact .inr (.inr (.inr (.inl ⟨by simp[e],by simp[e],by simp[e],by simp[e],by simp[e]⟩)))
     · exact .inr (.inr (.inr (.inr ⟨by simp[f1],by simp[f2],by simp[f3],by simp[f4],by simp[f1,f2,f3,f4]⟩)))
   rw[hdd] at hdd0 hdd1 ⊢
   clear hdd w2 hn hr
   refine wk (rv:=[.cell 6 28]) ann68 87 Tryz.func68 ?_
   simp only[go_sem,encC_mk,e1]
   refine aCall_intro hN ?_
   simp only[go_sem]
   try (refine ⟨by kernel_rfl,?_⟩;try simp only[go_sem])
   clear hN
   rcases hcase with ⟨q9,q10,q11,q13,e⟩|⟨q9,q10,q11,q13,e⟩|⟨q9,q10,q11,q13,e⟩|⟨q9,q10,q11,q13,e⟩|⟨q9,q10,q11,q13,e⟩
   all_goals
     simp only[go_sem,q9,q10,q11,q13,e,List.length_map]
     clear q9 q10 q11 q13 e
     refine aLoop_list (α:=ConT) (β:=List ConT×Nat) (fun rest b=>⟨[(72,ii b.2),(10,.one (.ptr (.loc 10) 0)),(2,ii dd),(1,pp (.slice (us.map encC))),(70,pp (.slice (l.map encC))),(6,.one (.ptr (.loc 6) 0)),(71,ii l.length)],
         [(.loc 6,⟨.agg 6,.agg [.pv (.int .i64 0),.pv (.int .i64 0),.pv (.str ByteArray.empty),.nilS,.nilS,.nilS]⟩),
          (.loc 10,⟨.agg 6,.agg [.pv (.int .i64 op),.pv (.int .i64 n),.pv (.str s),.pv (.slice (k.map encK)),.pv (.slice (names.map .str)),acc 166 (.agg 6) (b.1.map encC)]⟩)],[]⟩)
       (fun rest b=>∃pre,l=pre++rest∧b.2=pre.length∧b.1.length=pre.length∧replPL us l dd=b.1++replPL us rest dd) ?_ ?_ l ([],0) _ ?_ ⟨[],rfl,rfl,rfl,rfl⟩
     · rintro ⟨out,m⟩ ⟨pre,g1,g2,g3,g4⟩ K
       simp only[List.append_nil] at g1 g2 g3 g4
       subst g1
       simp only[replPL,List.append_nil] at g4
       rw[g4]
       simp only[go_sem,g2,lt_false (Int.le_refl _)]
       cases out with
       |nil=>simp only[go_sem,acc,encC_mk]
       |cons x r=>simp only[go_sem,acc,encC_mk]
     · rintro x rest ⟨out,m⟩ ⟨pre,g1,g2,g3,g4⟩ K hK
       simp only at g2 g3 g4
       have hx:(l.map encC)[m]? = some (encC x):=by simp[g1,g2]
       have hlt:(m:Int)<l.length:=by rw[g1,g2];simp;omega
       have hll:l.length=m+(rest.length+1):=by rw[g1,g2];simp
       have hm:x∈l:=by simp[g1]
       have hw:=wtF_mem hm
       have hd:=depthF_mem hm
       have hI:=ih x hm dd hdd0 (by omega) (.inl (hfm x hm)) (by omega)
       have w4:IntKind.i64.wrap ((m:Int)+1)=((m+1:Nat):Int):=by rw[wrap_id (by omega) (by omega)];simp
       simp only[replPL] at g4
       generalize replP us x dd=y at hI g4
       have hK':=fun s' hs=>hK (out++[y],m+1) s' hs ⟨pre++[x],by simp[g1],by simp[g2],by simp[g3],by rw[g4];simp⟩
       clear hK
       cases out with
       |nil=>
         simp only[go_sem,acc,decide_eq_true hlt,Int.toNat_natCast,Int.natCast_nonneg,hx,encC_sz]
         refine aCall_intro hI ?_
         simp only[go_sem,encC_sz,one_le_maxLen,w4]
         refine ⟨by kernel_rfl,hK' _ ?_⟩
         simp only[go_sem,acc]
       |cons z zs=>
         have hb1:(zs.length+1+1)*104≤140737488355328:=by simp at g3;omega
         have hb2:zs.length+1+1≤maxLen:=by rw[maxLen_eq];simp at g3;omega
         simp only[go_sem,acc,decide_eq_true hlt,Int.toNat_natCast,Int.natCast_nonneg,hx,encC_sz]
         refine aCall_intro hI ?_
         simp only[go_sem,encC_sz,List.length_map,hb1,hb2,w4]
         refine ⟨by kernel_rfl,hK' _ ?_⟩
         simp only[go_sem,acc,List.map_append]
     · simp only[go_sem,acc,List.length_nil,Int.natCast_zero]
theorem subcons1_spec (c:ConT) (h1:sizeF c≤1000000000) (h2:okS c):Spec Tryz.prog 65 [pp (encC c)] [] (.bool (!validF c)) []:=by
 have hV:=Valid_spec c h1 h2
 refine wk (rv:=[.tmp 2]) ann65 6 Tryz.func65 ?_
 simp only[go_sem,encC_sz]
 refine aCall_intro hV ?_
 simp only[go_sem]
theorem subconsAny_spec (l:List ConT) (h:∀c∈l,okCon c):Spec Tryz.prog 59 [pp (.slice (l.map encC)),pp (.fn 65 [])] [] (.bool (!l.all validF)) []:=by
 have ha:(!l.all validF)=(l.any fun x=>!validF x):=by simp[List.all_eq_not_any_not]
 rw[ha]
 exact ContainsFuncC encC l 65 [] _ (fun e _=>encC_sz e) fun x hx=>subcons1_spec x (h x hx).1 (h x hx).2
theorem subcons2_spec (us:List ConT) (hus:∀x∈us,wtF x≤900000000∧okS x) (hul:us.length≤100000000) (c:ConT) (uc ut:Int) (h3:0≤uc) (h4:uc≤1000000) (h5:validF c=true∨c=zeroC) :
   Spec Tryz.prog 67 (pp (encC c)::pp (uEnc uc ut)::[capL us].map pp) [] (.tuple [encC (repCf us c uc ut).1,.int .i64 (repCf us c uc ut).2]) []:=by
 have hdw:depthF c≤400∧wtF c≤900000000:=by
   rcases h5 with h|rfl
   · exact valid_dw h
   · decide
 have hR:=replace_spec us hus hul c uc h3 (by omega) (h5.imp validF_formed id) hdw.2
 rw[repCf]
 generalize replP us c uc=r at hR
 refine wk (rv:=[.cell 5 28,.tmp 6]) ann67 12 Tryz.func67 ?_
 simp only[go_sem,capL,uEnc,encC_sz,List.map_cons,List.map_nil]
 refine aCall_intro hR ?_
 simp only[go_sem,encC_sz]
theorem subcons3_spec (n uc ut:Int):Spec Tryz.prog 69 (ii n::pp (uEnc uc ut)::([]:List PV).map pp) [] (.tuple [encT (idVf n uc ut).1,.int .i64 (idVf n uc ut).2]) []:=by
 rw[idVf,encT_var]
 refine wk (rv:=[.cell 4 31,.tmp 5]) ann69 8 Tryz.func69 ?_
 simp only[go_sem,uEnc,List.map_nil]
theorem tSubstCons_specV (t:TermT) (us:List ConT) (hok:okT t) (hus:∀x∈us,wtF x≤900000000∧okS x) (hul:us.length≤100000000):Spec Tryz.prog 21 [pp (encT t),pp (.slice (us.map encC))] [] (.tuple [encT (SubstConsT t us).1,.int .i64 (SubstConsT t us).2]) []:=by
 have hV:=tValid_spec t hok
 have hA:=subconsAny_spec us fun x hx=>⟨by have:=sizeF_wt x;have:=(hus x hx).1;omega,(hus x hx).2⟩
 rw[SubstConsT]
 cases hv:validT t with
 |false=>
   rw[hv] at hV
   rw[if_pos (.inl rfl),encT_zero]
   refine wk (rv:=[.cell 4 31,.tmp 5]) ann21 30 Tryz.func21 ?_
   simp only[go_sem,encT_sz]
   refine aCall_intro hV ?_
   simp only[go_sem]
 |true=>
   rw[hv] at hV
   cases hv':us.all validF with
   |false=>
     rw[hv'] at hA
     rw[if_pos (.inr rfl),encT_zero]
     refine wk (rv:=[.cell 4 31,.tmp 5]) ann21 30 Tryz.func21 ?_
     simp only[go_sem,encT_sz]
     refine aCall_intro hV ?_
     simp only[go_sem,encT_sz]
     refine aCall_intro hA ?_
     simp only[go_sem]
   |true=>
     rw[hv'] at hA
     rw[if_neg (by rintro (e|e)<;>cases e)]
     by_cases hl:us.length>1000
     · rw[if_pos hl,encT_zero]
       have d1:decide ((us.length:Int)>1000)=true:=decide_eq_true (by omega)
       refine wk (rv:=[.cell 4 31,.tmp 5]) ann21 30 Tryz.func21 ?_
       simp only[go_sem,encT_sz]
       refine aCall_intro hV ?_
       simp only[go_sem,encT_sz]
       refine aCall_intro hA ?_
       simp only[go_sem,List.length_map,d1]
     · rw[if_neg hl]
       have d1:decide ((us.length:Int)>1000)=false:=decide_eq_false (by omega)
       obtain ⟨hwf,hd⟩:=valid_wf hv
       have hC:=change_spec 67 69 [capL us] [] (repCf us) idVf (fun c uc ut _ g3 g4 g5=>subcons2_spec us hus hul c uc ut g3 g4 g5) (fun n uc ut _ _ _ _ _ _=>subcons3_spec n uc ut) t 0 0 hwf hok (by decide) (by omega) (by decide) (by omega)
       have hFi:=finish_spec (chT (repCf us) idVf t 0 0) (subCT_ok us (fun x hx=>(hus x hx).2) t hok hwf)
       generalize chT (repCf us) idVf t 0 0=r at hC hFi
       simp only[capL] at hC
       refine wk (rv:=[.cell 4 31,.tmp 5]) ann21 30 Tryz.func21 ?_
       simp only[go_sem,encT_sz]
       refine aCall_intro hV ?_
       simp only[go_sem,encT_sz]
       refine aCall_intro hA ?_
       simp only[go_sem,encT_sz,List.length_map,d1]
       try (refine ⟨by kernel_rfl,?_⟩;try simp only[go_sem,encT_sz])
       refine aCall_intro hC ?_
       simp only[go_sem,encT_sz]
       try (refine ⟨by kernel_rfl,?_⟩;try simp only[go_sem,encT_sz])
       refine aCall_intro hFi ?_
       simp only[go_sem,encT_sz]
       try (first|kernel_rfl | (refine ⟨by kernel_rfl,?_⟩;try simp only[go_sem,encT_sz]))
theorem tSubstCons_spec (t:TermT) (us:List ConT) (hok:okT t) (_hwc:wcT t) (hus:∀x∈us,wtF x≤900000000∧okS x) (hul:us.length≤100000000):Spec Tryz.prog 21 [pp (encT t),pp (.slice (us.map encC))] [] (.tuple [encT (SubstConsT t us).1,.int .i64 (SubstConsT t us).2]) []:=
 tSubstCons_specV t us hok hus hul
/-! How great what is made is -/
def okwc (t:TermT):Prop:=okT t∧wcT t
mutual
theorem mapT_okwc {cf:ConT→Int→ConT}{vf:Int→Int→Int→TermT}(hc:∀c u,wtF c≤900000000→okS c→wtF (cf c u)≤900000000∧okS (cf c u)) (hv:∀n u w,okwc (vf n u w)) :
   ∀(t:TermT) (u w:Int),okT t→wcT t→okwc (mapT cf vf t u w)
 | .mk op n s con to k names l,u,w,hok,hwc=>by
   have hz:wtF zeroC≤900000000∧okS zeroC:=⟨by decide,okS_zero⟩
   simp only[okT] at hok
   simp only[wcT] at hwc
   rw[mapT]
   by_cases ho:op=1
   · rw[if_pos ho];exact hv n u w
   · rw[if_neg ho]
     have hL:=mapTL_okwc hc hv op l 0 u w hok.2.2.2.2.2.2.2 hwc.2.2
     have hC:wtF (if hasConF op=true then cf con u else zeroC)≤900000000∧okS (if hasConF op=true then cf con u else zeroC):=by
       split
       · exact hc con u hwc.1 hok.2.1.2
       · exact hz
     have hT:wtF (if op=8 then cf to u else zeroC)≤900000000∧okS (if op=8 then cf to u else zeroC):=by
       split
       · exact hc to u hwc.2.1 hok.2.2.1.2
       · exact hz
     generalize (if hasConF op=true then cf con u else zeroC)=c' at hC
     generalize (if op=8 then cf to u else zeroC)=t' at hT
     have s1:=sizeF_wt c'
     have s2:=sizeF_wt t'
     constructor
     · simp only[okT]
       refine ⟨hok.1,⟨by omega,hC.2⟩,⟨by omega,hT.2⟩,hok.2.2.2.1,hok.2.2.2.2.1,hok.2.2.2.2.2.1,?_,hL.1⟩
       rw[mapTL_len];exact hok.2.2.2.2.2.2.1
     · simp only[wcT]
       exact ⟨hC.1,hT.1,hL.2⟩
theorem mapTL_okwc {cf:ConT→Int→ConT}{vf:Int→Int→Int→TermT}(hc:∀c u,wtF c≤900000000→okS c→wtF (cf c u)≤900000000∧okS (cf c u)) (hv:∀n u w,okwc (vf n u w)) (op:Int) :
   ∀(l:List TermT) (i:Nat) (u w:Int),okTs l→wcTs l→okTs (mapTL cf vf op l i u w)∧wcTs (mapTL cf vf op l i u w)
 | [],i,u,w,_,_=>by rw[mapTL];exact ⟨trivial,trivial⟩
 |x::r,i,u,w,hok,hwc=>by
   simp only[okTs] at hok
   simp only[wcTs] at hwc
   have h1:=mapT_okwc hc hv x (u+insC op i) (w+insT op i) hok.1 hwc.1
   have h2:=mapTL_okwc hc hv op r (i+1) u w hok.2 hwc.2
   rw[mapTL]
   simp only[okTs,wcTs]
   exact ⟨⟨h1.1,h2.1⟩,h1.2,h2.2⟩
end
theorem wcT_varT (n:Int):wcT (varT n):=by
 simp only[varT,wcT,wcTs]
 exact ⟨by decide,by decide,trivial⟩
theorem okwc_var (n:Int):okwc (varT n):=⟨okT_var n,wcT_varT n⟩
theorem csh_okwc (n:Int) (c:ConT) (u:Int) (h1:wtF c≤900000000) (h2:okS c):wtF (cshM n c u)≤900000000∧okS (cshM n c u):=by
 rw[cshM]
 exact ⟨Nat.le_trans (wt_shift n 0 c u) h1,mapF_okS _ c u h2 fun x b hx=>okS_shiftLeaf n 0 x b ((leaves_mem c u x b hx).2.1 h2)⟩
theorem shM_okwc (n m:Int) {t:TermT}(h1:okT t) (h2:wcT t):okwc (shM n m t):=
 mapT_okwc (csh_okwc n) (fun _ _ _=>okwc_var _) t 0 0 h1 h2
theorem subM_okwc {t by':TermT}(h1:okT t) (h2:wcT t) (h3:okT by') (h4:wcT by'):okwc (subM by' t):=
 mapT_okwc (fun c _ h h'=>⟨h,h'⟩) (fun n u w=>by
   rw[vsubM]
   split
   · exact shM_okwc u w h3 h4
   · exact okwc_var _) t 0 0 h1 h2
/-! Free variables -/
mutual
theorem map_leaves (leaf:ConT→Int→ConT) (hl:∀x b,isLeaf x→isLeaf (leaf x b)):∀(c:ConT) (b:Int) (x:ConT) (b':Int),(x,b')∈leaves c b→(leaf x b',b')∈leaves (mapF leaf c b) b
 | .mk op n s k names l,b,x,b',h=>by
   rw[mapF]
   by_cases ho:op=1∨op=2
   · rw[leaves,if_pos ho] at h
     simp only[List.mem_singleton,Prod.mk.injEq] at h
     obtain ⟨rfl,rfl⟩:=h
     rw[if_pos ho]
     have h1:=hl (.mk op n s k names l) b' ho
     generalize leaf (.mk op n s k names l) b'=z at h1
     obtain ⟨op',n',s',k',names',l'⟩:=z
     have h1':op'=1∨op'=2:=h1
     rw[leaves,if_pos h1']
     simp
   · rw[leaves,if_neg ho] at h
     rw[if_neg ho,leaves,if_neg ho]
     exact map_leavesL leaf hl l _ x b' h
theorem map_leavesL (leaf:ConT→Int→ConT) (hl:∀x b,isLeaf x→isLeaf (leaf x b)):∀(l:List ConT) (b:Int) (x:ConT) (b':Int),(x,b')∈leavesL l b→(leaf x b',b')∈leavesL (mapL leaf l b) b
 | [],b,x,b',h=>by simp[leavesL] at h
 |y::r,b,x,b',h=>by
   rw[leavesL] at h
   rw[mapL,leavesL]
   rcases List.mem_append.1 h with h|h
   · exact List.mem_append_left _ (map_leaves leaf hl y b x b' h)
   · exact List.mem_append_right _ (map_leavesL leaf hl r b x b' h)
end
theorem mem_aboveF {c:ConT}(h:validF c=true) {u:Int}(hu:0≤u) {i:Int}:i∈above (freeF c) u↔∃x b,(x,b)∈leaves c 0∧x.op=1∧x.n - b≥u∧i=x.n - b - u:=by
 rw[mem_above]
 constructor
 · rintro ⟨k,h1,h2,rfl⟩
   obtain ⟨x,b,e1,e2,e3,rfl⟩:=mem_freeL.1 ((mem_freeF h).1 h1)
   exact ⟨x,b,e1,e2,h2,rfl⟩
 · rintro ⟨x,b,e1,e2,e3,rfl⟩
   exact ⟨x.n - b,(mem_freeF h).2 (mem_freeL.2 ⟨x,b,e1,e2,by omega,rfl⟩),e3,rfl⟩
theorem free_csh {c:ConT}{n u:Int}(hn:0≤n) (hu:0≤u) (h:validF c=true) (h':validF (cshM n c u)=true) {i:Int}:i∈above (freeF (cshM n c u)) u↔∃j∈above (freeF c) u,i=j+n:=by
 have e:cshM n c u=mapF (shiftLeaf n u) c 0:=by
   have:=shift_base n 0 c u
   rw[Int.zero_add] at this
   rw[cshM,this]
 rw[mem_aboveF h' hu,e]
 constructor
 · rintro ⟨y,b,h1,h2,h3,rfl⟩
   obtain ⟨x,h4,rfl⟩:=leaves_map (shiftLeaf n u) (fun x b hx=>isLeaf_shift n u x b hx) c 0 y b h1
   by_cases g:x.op=1∧x.n - b≥u
   · refine ⟨x.n - b - u,(mem_aboveF h hu).2 ⟨x,b,h4,g.1,g.2,rfl⟩,?_⟩
     rw[shift_hi g.1 g.2,varC_n];omega
   · rw[shift_lo g,leafC_op] at h2
     rw[shift_lo g,leafC_n] at h3
     exact absurd ⟨h2,h3⟩ g
 · rintro ⟨j,h1,rfl⟩
   obtain ⟨x,b,h2,h3,h4,rfl⟩:=(mem_aboveF h hu).1 h1
   refine ⟨shiftLeaf n u x b,b,map_leaves (shiftLeaf n u) (fun x b hx=>isLeaf_shift n u x b hx) c 0 x b h2,?_,?_,?_⟩
   · rw[shift_hi h3 h4,varC_op]
   · rw[shift_hi h3 h4,varC_n];omega
   · rw[shift_hi h3 h4,varC_n];omega
theorem consF_var (n u:Int):consF (varT n) u=[]:=by
 rw[varT,consF,if_neg (by decide),if_neg (by decide),consL];rfl
theorem termsF_var (n w:Int):termsF (varT n) w=above [n] w:=by
 rw[varT,termsF,if_pos rfl,termsL,List.append_nil]
mutual
theorem consF_sh (n m:Int) (hn:0≤n):∀(t:TermT) (u w:Int),wfT t=true→wfT (mapT (cshM n) (vshM m) t u w)=true→0≤u→∀i,i∈consF (mapT (cshM n) (vshM m) t u w) u↔∃j∈consF t u,i=j+n
 | .mk op a s con to k names l,u,w,hwf,hwf',hu,i=>by
   rw[wfT,Bool.and_eq_true] at hwf
   obtain ⟨n1,_,n3,_⟩:=node_con hwf.1
   by_cases ho:op=1
   · obtain ⟨_,_,_,_,_,g,_⟩:=node_op1 hwf.1 ho
     have:=List.eq_nil_of_length_eq_zero g
     subst this
     rw[mapT,if_pos ho,vshM,consF_var,consF,if_neg (by subst ho;decide),if_neg (by omega),consL]
     simp
   · rw[mapT,if_neg ho] at hwf' ⊢
     rw[wfT,Bool.and_eq_true] at hwf'
     obtain ⟨m1,_,m3,_⟩:=node_con hwf'.1
     have hL:=consL_sh n m hn op l 0 u w hwf.2 hwf'.2 hu i
     rw[consF,consF,List.mem_append,List.mem_append,hL]
     have hC:i∈(if hasConF op=true then above (freeF (if hasConF op=true then cshM n con u else zeroC)) u else [])↔∃j∈(if hasConF op=true then above (freeF con) u else []),i=j+n:=by
       by_cases e:hasConF op=true
       · have:=m1 e
         simp only[if_pos e] at this ⊢
         exact free_csh hn hu (n1 e) this
       · simp only[if_neg e];simp
     have hT:i∈(if op=8 then above (freeF (if op=8 then cshM n to u else zeroC)) u else [])↔∃j∈(if op=8 then above (freeF to) u else []),i=j+n:=by
       by_cases e:op=8
       · have:=m3 e
         simp only[if_pos e] at this ⊢
         exact free_csh hn hu (n3 e) this
       · simp only[if_neg e];simp
     rw[hC,hT]
     simp only[List.mem_append]
     constructor
     · rintro (⟨j,h,e⟩|⟨j,h,e⟩|⟨j,h,e⟩)
       · exact ⟨j,.inl h,e⟩
       · exact ⟨j,.inr (.inl h),e⟩
       · exact ⟨j,.inr (.inr h),e⟩
     · rintro ⟨j,h|h|h,e⟩
       · exact .inl ⟨j,h,e⟩
       · exact .inr (.inl ⟨j,h,e⟩)
       · exact .inr (.inr ⟨j,h,e⟩)
theorem consL_sh (n m:Int) (hn:0≤n) (op:Int):∀(l:List TermT) (q:Nat) (u w:Int),wfL l=true→wfL (mapTL (cshM n) (vshM m) op l q u w)=true→0≤u→∀i,i∈consL op (mapTL (cshM n) (vshM m) op l q u w) q u↔∃j∈consL op l q u,i=j+n
 | [],q,u,w,_,_,_,i=>by rw[mapTL,consL];simp
 |x::r,q,u,w,hwf,hwf',hu,i=>by
   rw[wfL,Bool.and_eq_true] at hwf
   rw[mapTL] at hwf' ⊢
   rw[wfL,Bool.and_eq_true] at hwf'
   have h1:=consF_sh n m hn x (u+insC op q) (w+insT op q) hwf.1 hwf'.1 (by have:=insC_nn op q;omega) i
   have h2:=consL_sh n m hn op r (q+1) u w hwf.2 hwf'.2 hu i
   rw[consL,consL,List.mem_append,h1,h2]
   simp only[List.mem_append]
   constructor
   · rintro (⟨j,h,e⟩|⟨j,h,e⟩)
     · exact ⟨j,.inl h,e⟩
     · exact ⟨j,.inr h,e⟩
   · rintro ⟨j,h|h,e⟩
     · exact .inl ⟨j,h,e⟩
     · exact .inr ⟨j,h,e⟩
end
theorem mem_above1 {a w i:Int}:i∈above [a] w↔a≥w∧i=a - w:=by
 rw[mem_above]
 constructor
 · rintro ⟨n,h,h1,h2⟩
   rw[List.mem_singleton] at h
   subst h
   exact ⟨h1,h2⟩
 · rintro ⟨h1,h2⟩
   exact ⟨a,by simp,h1,h2⟩
mutual
theorem termsF_sh (n m:Int) (hm:0≤m):∀(t:TermT) (u w:Int),wfT t=true→∀i,i∈termsF (mapT (cshM n) (vshM m) t u w) w↔∃j∈termsF t w,i=j+m
 | .mk op a s con to k names l,u,w,hwf,i=>by
   rw[wfT,Bool.and_eq_true] at hwf
   by_cases ho:op=1
   · obtain ⟨_,_,_,_,_,g,_⟩:=node_op1 hwf.1 ho
     have:=List.eq_nil_of_length_eq_zero g
     subst this
     rw[mapT,if_pos ho,vshM,termsF_var,termsF,if_pos ho,termsL,List.append_nil,mem_above1]
     simp only[mem_above1]
     constructor
     · rintro ⟨h1,h2⟩
       refine ⟨a - w,⟨?_,rfl⟩,?_⟩<;>split at h1<;>split at h2<;>omega
     · rintro ⟨j,⟨h1,rfl⟩,rfl⟩
       rw[if_pos h1];omega
   · rw[mapT,if_neg ho,termsF,termsF,if_neg ho]
     simp only[List.nil_append]
     exact termsL_sh n m hm op l 0 u w hwf.2 i
theorem termsL_sh (n m:Int) (hm:0≤m) (op:Int):∀(l:List TermT) (q:Nat) (u w:Int),wfL l=true→∀i,i∈termsL op (mapTL (cshM n) (vshM m) op l q u w) q w↔∃j∈termsL op l q w,i=j+m
 | [],q,u,w,_,i=>by rw[mapTL,termsL];simp
 |x::r,q,u,w,hwf,i=>by
   rw[wfL,Bool.and_eq_true] at hwf
   have h1:=termsF_sh n m hm x (u+insC op q) (w+insT op q) hwf.1 i
   have h2:=termsL_sh n m hm op r (q+1) u w hwf.2 i
   rw[mapTL,termsL,termsL,List.mem_append,h1,h2]
   simp only[List.mem_append]
   constructor
   · rintro (⟨j,h,e⟩|⟨j,h,e⟩)
     · exact ⟨j,.inl h,e⟩
     · exact ⟨j,.inr h,e⟩
   · rintro ⟨j,h|h,e⟩
     · exact .inl ⟨j,h,e⟩
     · exact .inr ⟨j,h,e⟩
end
theorem sortU_add {l l':List Int}{n:Int}(h:∀i,i∈l'↔∃j∈l,i=j+n):sortU l'=(sortU l).map (· + n):=by
 symm
 refine sortU_unique ?_ fun x=>?_
 · rw[List.pairwise_map]
   exact (sortU_asc l).imp fun h=>by omega
 · rw[List.mem_map,h]
   constructor
   · rintro ⟨j,h1,rfl⟩;exact ⟨j,(sortU_mem l).1 h1,rfl⟩
   · rintro ⟨j,h1,rfl⟩;exact ⟨j,(sortU_mem l).2 h1,rfl⟩
theorem cons_shM {n m:Int}(hn:0≤n) {t:TermT}(h:wfT t=true) (h':wfT (shM n m t)=true):sortU (consF (shM n m t) 0)=(sortU (consF t 0)).map (· + n):=
 sortU_add fun i=>consF_sh n m hn t 0 0 h h' (by decide) i
theorem terms_shM {n m:Int}(hm:0≤m) {t:TermT}(h:wfT t=true):sortU (termsF (shM n m t) 0)=(sortU (termsF t 0)).map (· + m):=
 sortU_add fun i=>termsF_sh n m hm t 0 0 h i
theorem head_nonneg {l:List Int}{n:Int}(h:∀i∈l,0≤i+n):headLt l n=false:=by
 cases l with
 |nil=>rfl
 |cons x r=>
   rw[headLt]
   have:=h x (by simp)
   exact decide_eq_false (by omega)
/-! A closed term that is substituted -/
def oneT:TermT:=.mk 2 1 ByteArray.empty zeroC zeroC [] [] []
theorem shM_one (u w:Int):shM u w oneT=oneT:=by
 rw[shM,oneT,mapT,if_neg (by decide),if_neg (by decide),if_neg (by decide),mapTL]
theorem consF_oneT (u:Int):consF oneT u=[]:=by
 rw[oneT,consF,if_neg (by decide),if_neg (by decide),consL];rfl
theorem termsF_oneT (u:Int):termsF oneT u=[]:=by
 rw[oneT,termsF,if_neg (by decide),termsL];rfl
theorem vsub_one (n u w:Int):vsubM oneT n u w=if n=w then oneT else varT (if n>w then n - 1 else n):=by rw[vsubM,shM_one]
mutual
theorem consF_one:∀(t:TermT) (u w:Int),wfT t=true→∀u',consF (mapT cidM (vsubM oneT) t u w) u'=consF t u'
 | .mk op a s con to k names l,u,w,hwf,u'=>by
   rw[wfT,Bool.and_eq_true] at hwf
   by_cases ho:op=1
   · obtain ⟨_,_,_,_,_,g,_⟩:=node_op1 hwf.1 ho
     have:=List.eq_nil_of_length_eq_zero g
     subst this
     have hr:consF (.mk op a s con to k names []) u'=[]:=by
       subst ho
       rw[consF,if_neg (by decide),if_neg (by decide),consL];rfl
     rw[mapT,if_pos ho,vsub_one,hr]
     split
     · exact consF_oneT _
     · exact consF_var _ _
   · rw[mapT,if_neg ho,consF,consF,consL_one op l 0 u w hwf.2 u']
     have hC:(if hasConF op=true then above (freeF (if hasConF op=true then cidM con u else zeroC)) u' else [])=(if hasConF op=true then above (freeF con) u' else []):=by
       by_cases e:hasConF op=true
       · simp only[if_pos e,cidM]
       · simp only[if_neg e]
     have hT:(if op=8 then above (freeF (if op=8 then cidM to u else zeroC)) u' else [])=(if op=8 then above (freeF to) u' else []):=by
       by_cases e:op=8
       · simp only[if_pos e,cidM]
       · simp only[if_neg e]
     rw[hC,hT]
theorem consL_one (op:Int):∀(l:List TermT) (q:Nat) (u w:Int),wfL l=true→∀u',consL op (mapTL cidM (vsubM oneT) op l q u w) q u'=consL op l q u'
 | [],q,u,w,_,u'=>by rw[mapTL]
 |x::r,q,u,w,hwf,u'=>by
   rw[wfL,Bool.and_eq_true] at hwf
   rw[mapTL,consL,consL,consF_one x _ _ hwf.1,consL_one op r (q+1) u w hwf.2]
end
mutual
theorem termsF_one:∀(t:TermT) (u w:Int),wfT t=true→∀i,i∈termsF (mapT cidM (vsubM oneT) t u w) w↔0≤i∧i+1∈termsF t w
 | .mk op a s con to k names l,u,w,hwf,i=>by
   rw[wfT,Bool.and_eq_true] at hwf
   by_cases ho:op=1
   · obtain ⟨_,_,_,_,_,g,_⟩:=node_op1 hwf.1 ho
     have:=List.eq_nil_of_length_eq_zero g
     subst this
     rw[mapT,if_pos ho,vsub_one,termsF.eq_def (.mk op a s con to k names [])]
     simp only
     rw[if_pos ho,termsL,List.append_nil,mem_above1]
     by_cases e:a=w
     · rw[if_pos e,termsF_oneT]
       simp;omega
     · rw[if_neg e,termsF_var,mem_above1]
       split<;>omega
   · rw[mapT,if_neg ho,termsF,termsF,if_neg ho]
     simp only[List.nil_append]
     exact termsL_one op l 0 u w hwf.2 i
theorem termsL_one (op:Int):∀(l:List TermT) (q:Nat) (u w:Int),wfL l=true→∀i,i∈termsL op (mapTL cidM (vsubM oneT) op l q u w) q w↔0≤i∧i+1∈termsL op l q w
 | [],q,u,w,_,i=>by rw[mapTL,termsL];simp
 |x::r,q,u,w,hwf,i=>by
   rw[wfL,Bool.and_eq_true] at hwf
   have h1:=termsF_one x (u+insC op q) (w+insT op q) hwf.1 i
   have h2:=termsL_one op r (q+1) u w hwf.2 i
   rw[mapTL,termsL,termsL,List.mem_append,h1,h2,List.mem_append]
   constructor
   · rintro (h|h)
     · exact ⟨h.1,.inl h.2⟩
     · exact ⟨h.1,.inr h.2⟩
   · rintro ⟨h,g|g⟩
     · exact .inl ⟨h,g⟩
     · exact .inr ⟨h,g⟩
end
def dropZ:List Int→List Int
 | []=>[]
 |x::r=>if x=0 then r else x::r
theorem dropZ_mem {l:List Int}(h:l.Pairwise (· < ·)) (h0:∀x∈l,0≤x):(dropZ l).Pairwise (· < ·)∧∀x,x∈dropZ l↔x∈l∧1≤x:=by
 cases l with
 |nil=>exact ⟨List.Pairwise.nil,fun x=>by simp[dropZ]⟩
 |cons y r=>
   rw[dropZ]
   obtain ⟨h1,h2⟩:=List.pairwise_cons.1 h
   have hy:=h0 y (by simp)
   split
   · rename_i e
     subst e
     refine ⟨h2,fun x=>⟨fun hx=>⟨List.mem_cons_of_mem _ hx,by have:=h1 x hx;omega⟩,fun hx=>?_⟩⟩
     rcases List.mem_cons.1 hx.1 with e|e
     · omega
     · exact e
   · refine ⟨h,fun x=>⟨fun hx=>⟨hx,?_⟩,fun hx=>hx.1⟩⟩
     rcases List.mem_cons.1 hx with e|e
     · omega
     · have:=h1 x e;omega
theorem terms_one {t:TermT}(h:wfT t=true):sortU (termsF (subM oneT t) 0)=(dropZ (sortU (termsF t 0))).map (· + -1):=by
 obtain ⟨d1,d2⟩:=dropZ_mem (sortU_asc (termsF t 0)) fun x hx=>(termsF_n t 0 h (by decide) x ((sortU_mem _).1 hx)).1
 symm
 refine sortU_unique ?_ fun x=>?_
 · rw[List.pairwise_map]
   exact d1.imp fun h=>by omega
 · rw[List.mem_map,subM,termsF_one t 0 0 h x]
   constructor
   · rintro ⟨j,h1,rfl⟩
     obtain ⟨e1,e2⟩:=(d2 j).1 h1
     refine ⟨by omega,?_⟩
     have:j + -1+1=j:=by omega
     rw[this];exact (sortU_mem _).1 e1
   · rintro ⟨h1,h2⟩
     exact ⟨x+1,(d2 _).2 ⟨(sortU_mem _).2 h2,by omega⟩,by omega⟩
theorem cons_one {t:TermT}(h:wfT t=true):sortU (consF (subM oneT t) 0)=sortU (consF t 0):=by
 rw[subM,consF_one t 0 0 h 0]
theorem meas_leaf {op n:Int}(h:nodeT op n ByteArray.empty zeroC zeroC [] [] 0=true) (hh:hasConF op=false) (left depth:Int):measT (.mk op n ByteArray.empty zeroC zeroC [] [] []) left depth=if left≤0∨depth>400 then (0,false) else (1,decide (1≤left)):=by
 rw[measT,List.length_nil,h]
 have e8:op≠8:=fun e=>by subst e;revert hh;decide
 by_cases h1:left≤0∨depth>400
 · rw[if_pos h1,if_pos (by omega)]
 · rw[if_neg h1,if_neg (by rintro (e|e|e);exact h1 (.inl e);exact h1 (.inr e);cases e),hh,if_neg (by decide),if_neg e8,measTL]
   rfl
theorem node_var {n:Int}(h1:0≤n) (h2:n≤20000):nodeT 1 n ByteArray.empty zeroC zeroC [] [] 0=true:=by
 rw[nodeT,numT,if_pos rfl,decide_eq_true (show n≥0 from h1),decide_eq_true h2]
 kernel_rfl
theorem node_one:nodeT 2 1 ByteArray.empty zeroC zeroC [] [] 0=true:=by decide +kernel
mutual
theorem meas_one:∀(t:TermT) (u w:Int),wfT t=true→0≤w→∀left depth,measT (mapT cidM (vsubM oneT) t u w) left depth=measT t left depth
 | .mk op a s con to k names l,u,w,hwf,hw,left,depth=>by
   rw[wfT,Bool.and_eq_true] at hwf
   obtain ⟨_,n2,_,n4⟩:=node_con hwf.1
   by_cases ho:op=1
   · obtain ⟨rfl,rfl,rfl,rfl,rfl,g,g1,g2⟩:=node_op1 hwf.1 ho
     have:=List.eq_nil_of_length_eq_zero g
     subst this ho
     rw[mapT,if_pos rfl,vsub_one,meas_leaf (node_var g1 g2) rfl]
     by_cases e:a=w
     · rw[if_pos e,oneT,meas_leaf node_one rfl]
     · rw[if_neg e,varT]
       by_cases e':a>w
       · rw[if_pos e',meas_leaf (node_var (by omega) (by omega)) rfl]
       · rw[if_neg e',meas_leaf (node_var g1 g2) rfl]
   · rw[mapT,if_neg ho]
     have hC:(if hasConF op=true then cidM con u else zeroC)=con:=by
       by_cases e:hasConF op=true
       · rw[if_pos e,cidM]
       · rw[if_neg e,n2 (by simpa using e)]
     have hT:(if op=8 then cidM to u else zeroC)=to:=by
       by_cases e:op=8
       · rw[if_pos e,cidM]
       · rw[if_neg e,n4 e]
     rw[hC,hT,measT,measT,mapTL_len,measL_one op l 0 u w hwf.2 hw]
theorem measL_one (op:Int):∀(l:List TermT) (q:Nat) (u w:Int),wfL l=true→0≤w→∀left n depth,measTL (mapTL cidM (vsubM oneT) op l q u w) left n depth=measTL l left n depth
 | [],q,u,w,_,_,left,n,depth=>by rw[mapTL]
 |x::r,q,u,w,hwf,hw,left,n,depth=>by
   rw[wfL,Bool.and_eq_true] at hwf
   rw[mapTL,measTL,measTL,meas_one x _ _ hwf.1 (by have:=insT_nn op q;omega),measL_one op r (q+1) u w hwf.2 hw]
end
theorem valid_one:validT oneT=true:=by decide +kernel
theorem subst_one {t:TermT}(h:validT t=true):SubstT t oneT=(subM oneT t,0)∧validT (subM oneT t)=true:=by
 have h1:validT (subM oneT t)=true:=by
   rw[validT,subM,meas_one t 0 0 (valid_wf h).1 (by decide)]
   exact h
 rw[SubstT_M h valid_one,keptT,if_pos h1]
 exact ⟨rfl,h1⟩
theorem ints_all (l:List Int):((ints l).all fun x=>PV.hasSz .one x)=true:=by
 rw[List.all_eq_true]
 intro x hx
 obtain ⟨n,_,rfl⟩:=List.mem_map.1 hx
 rfl
end Go.Abs.Kon
