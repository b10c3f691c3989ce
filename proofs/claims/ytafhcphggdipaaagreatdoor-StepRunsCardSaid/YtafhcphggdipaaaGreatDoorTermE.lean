/- Terms. -/
import Derived.Test.YtafhcphggdipaaaGreatDoorTermD
import Derived.Test.YtafhcphggdipaaaGreatDoorKonH
import Derived.Test.YtafhcphggdipaaaGreatDoorTermB
set_option linter.unusedSimpArgs false
set_option linter.unusedVariables false
namespace Go.Abs.Kon
open Go Go.Proofs Go.Abs
set_option maxRecDepth 100000
set_option maxHeartbeats 4000000
mutual
def replP (us:List ConT):ConT→Int→ConT
 | .mk op n s k names l,d=>
  if op=1 then (if n - d<0 then .mk op n s k names l else if n - d<us.length then (shiftF (us.getD (n - d).toNat zeroC) d 0).1 else .mk op (n - us.length) s k names l)
  else .mk op n s k names (replPL us l (deepF op d))
def replPL (us:List ConT):List ConT→Int→List ConT
 | [],_=>[]
 |x::r,d=>replP us x d::replPL us r d
end
theorem valid_parts {c:ConT}(h:validF c=true):sizeF c≤20000∧depthF c≤400∧formedF c=true:=by
 rw[validF] at h
 simp only[Bool.and_eq_true,decide_eq_true_iff] at h
 exact h
theorem valid_child {op n:Int}{s:ByteArray}{k:List KindT}{names:List ByteArray}{l:List ConT}(h:validF (.mk op n s k names l)=true):∀x∈l,validF x=true:=by
 intro x hx
 obtain ⟨h1,h2,h3⟩:=valid_parts h
 rw[sizeF] at h1
 rw[depthF] at h2
 rw[formedF,Bool.and_eq_true,formedL_all] at h3
 have e1:=sizeF_mem hx
 have e2:=depthF_mem hx
 rw[validF]
 simp only[Bool.and_eq_true,decide_eq_true_iff]
 exact ⟨by omega,by omega,List.all_eq_true.1 h3.2 x hx⟩
theorem not_child {op n:Int}{s:ByteArray}{k:List KindT}{names:List ByteArray}{l:List ConT}(h:∃x∈l,validF x=false):validF (.mk op n s k names l)=false:=by
 cases h1:validF (.mk op n s k names l) with
 |false=>rfl
 |true=>
  obtain ⟨x,hx,h2⟩:=h
  rw[valid_child h1 x hx] at h2
  exact h2
theorem getD_valid {us:List ConT}(h:us.all validF=true) {i:Nat}(hi:i<us.length):validF (us.getD i zeroC)=true:=by
 rw[List.getD_eq_getElem?_getD,List.getElem?_eq_getElem hi,Option.getD_some]
 exact List.all_eq_true.1 h _ (List.getElem_mem hi)
mutual
theorem repl_eq (us:List ConT) (hus:us.all validF=true):∀(c:ConT) (d:Int),formedF c=true→0≤d→d+depthF c≤20000→replP us c d=mapF (substM us) c d∨(validF (replP us c d)=false∧validF (mapF (substM us) c d)=false)
 | .mk op n s k names l,d,hf,h0,h1=>by
  rw[replP,mapF]
  by_cases ho:op=1
  ·rw[if_pos ho,if_pos (Or.inl ho:op=1∨op=2)]
   by_cases h2:n - d<0
   ·rw[if_pos h2,sub_lo (x:=.mk op n s k names l) (b:=d) (Or.inr h2),leafC_self hf (.inl ho)]
    exact .inl rfl
   ·rw[if_neg h2]
    by_cases h3:n - d<us.length
    ·rw[if_pos h3,sub_in (x:=.mk op n s k names l) (b:=d) (m:=n - d) ho rfl (by omega) h3]
     have hv:=getD_valid hus (i:=(n - d).toNat) (by omega)
     generalize us.getD (n - d).toNat zeroC=u at hv
     rw[shiftF_up u d 0 hv h0 (by omega) (Int.le_refl _),replF_eq]
     cases h4:validF (mapF (shiftLeaf d 0) u 0) with
     |true=>left;rw[if_pos rfl]
     |false=>right;rw[if_neg (by decide)];exact ⟨valid_zero,rfl⟩
    ·rw[if_neg h3,sub_hi (x:=.mk op n s k names l) (b:=d) (m:=n - us.length) ho (show 0≤n - d by omega) (show n - d≥us.length by omega) rfl]
     left
     have:=var_formed (x:=.mk op n s k names l) ho hf
     rw[varC] at this
     cases this
     rw[varC]
  ·rw[if_neg ho]
   by_cases h2:op=2
   ·rw[if_pos (Or.inr h2:op=1∨op=2)]
    have:=leaf_nil hf (.inr h2)
    subst this
    left
    rw[sub_lo (x:=.mk op n s k names []) (b:=d) (Or.inl (show op≠1 from ho)),leafC_self hf (.inr h2),replPL]
   ·rw[if_neg (by rintro (e|e);exact ho e;exact h2 e)]
    rw[depthF] at h1
    rw[formedF,Bool.and_eq_true] at hf
    have e:deepF op d=if isBinder op=true then d+1 else d:=rfl
    rw[e]
    have hd:0≤(if isBinder op=true then d+1 else d)∧(if isBinder op=true then d+1 else d)+depthL l≤20000:=by split<;>omega
    generalize (if isBinder op=true then d+1 else d)=dd at hd
    rcases replL_eq us hus l dd hf.2 hd.1 hd.2 with h|h
    ·left;rw[h]
    ·right;exact ⟨not_child h.1,not_child h.2⟩
theorem replL_eq (us:List ConT) (hus:us.all validF=true):∀(l:List ConT) (d:Int),formedL l=true→0≤d→d+depthL l≤20000→replPL us l d=mapL (substM us) l d∨((∃x∈replPL us l d,validF x=false)∧∃x∈mapL (substM us) l d,validF x=false)
 | [],d,_,_,_=>.inl (by rw[replPL,mapL])
 |x::r,d,hf,h0,h1=>by
  rw[formedL,Bool.and_eq_true] at hf
  rw[depthL] at h1
  rw[replPL,mapL]
  rcases repl_eq us hus x d hf.1 h0 (by omega) with h|⟨h2,h3⟩
  ·rcases replL_eq us hus r d hf.2 h0 (by omega) with h'|⟨⟨y,hy,e1⟩,z,hz,e2⟩
   ·left;rw[h,h']
   ·right;exact ⟨⟨y,List.mem_cons_of_mem _ hy,e1⟩,z,List.mem_cons_of_mem _ hz,e2⟩
  ·right;exact ⟨⟨_,List.mem_cons_self,h2⟩,_,List.mem_cons_self,h3⟩
end
theorem shiftF_size (c:ConT) (n f:Int):sizeF (shiftF c n f).1≤20000:=by
 have hz:sizeF zeroC≤20000:=by decide
 rw[shiftF]
 split
 ·exact hz
 ·split
  ·exact hz
  ·rw[replF_eq]
   split
   ·rename_i hv
    exact (valid_parts hv).1
   ·exact hz
mutual
theorem repl_size (us:List ConT):∀(c:ConT) (d:Int),sizeF (replP us c d)≤sizeF c*20000
 | .mk op n s k names l,d=>by
  rw[replP,sizeF]
  split
  ·split
   ·rw[sizeF];omega
   ·split
    ·have:=shiftF_size (us.getD (n - d).toNat zeroC) d 0;omega
    ·rw[sizeF];omega
  ·have:=replL_size us l (deepF op d)
   rw[sizeF];omega
theorem replL_size (us:List ConT):∀(l:List ConT) (d:Int),sizeL (replPL us l d)≤sizeL l*20000
 | [],d=>by rw[replPL,sizeL];omega
 |x::r,d=>by
  have h1:=repl_size us x d
  have h2:=replL_size us r d
  rw[replPL,sizeL,sizeL];omega
end
theorem okS_getD {us:List ConT}(h:∀x∈us,okS x) (i:Nat):okS (us.getD i zeroC):=by
 rw[List.getD_eq_getElem?_getD]
 by_cases hi:i<us.length
 ·rw[List.getElem?_eq_getElem hi,Option.getD_some]
  exact h _ (List.getElem_mem hi)
 ·rw[List.getElem?_eq_none (by omega),Option.getD_none]
  exact okS_zero
mutual
theorem repl_okS (us:List ConT) (hus:∀x∈us,okS x):∀(c:ConT) (d:Int),okS c→okS (replP us c d)
 | .mk op n s k names l,d,h=>by
  rw[replP]
  split
  ·split
   ·exact h
   ·split
    ·exact (shiftF_ok _ d 0 (okS_getD hus _)).2
    ·simp only[okS] at h ⊢;exact h
  ·simp only[okS] at h ⊢
   exact ⟨h.1,h.2.1,replL_okS us hus l _ h.2.2⟩
theorem replL_okS (us:List ConT) (hus:∀x∈us,okS x):∀(l:List ConT) (d:Int),okSs l→okSs (replPL us l d)
 | [],d,_=>by rw[replPL,okSs];trivial
 |x::r,d,h=>by
  simp only[okSs] at h
  rw[replPL,okSs]
  exact ⟨repl_okS us hus x d h.1,replL_okS us hus r d h.2⟩
end
theorem repl_ok (us:List ConT) (hus:∀x∈us,okS x) (c:ConT) (d:Int) (h:validF c=true) (h1:okS c):okCon (replP us c d):=by
 have h2:=repl_size us c d
 have h3:=(valid_parts h).1
 exact ⟨by omega,repl_okS us hus c d h1⟩
def repCf (us:List ConT) (c:ConT) (uc _ut:Int):ConT×Int:=(replP us c uc,0)
def idVf (n _uc _ut:Int):TermT×Int:=(varT n,0)
def SubstConsT (t:TermT) (us:List ConT):TermT×Int:=if validT t=false∨us.all validF=false then (zeroT,1) else if us.length>1000 then (zeroT,5) else finT (chT (repCf us) idVf t 0 0)
theorem subCT_ok (us:List ConT) (hus:∀x∈us,okS x) (t:TermT) (h1:okT t) (h2:wfT t=true):okT (chT (repCf us) idVf t 0 0).1:=
 chT_okW _ _ (fun c uc _ h h'=>repl_ok us hus c uc h h') (fun n _ _=>okT_var n) t 0 0 h1 h2
mutual
def mapT (cf:ConT→Int→ConT) (vf:Int→Int→Int→TermT):TermT→Int→Int→TermT
 | .mk op n s con to k names l,uc,ut=>
  if op=1 then vf n uc ut else .mk op n s (if hasConF op=true then cf con uc else zeroC) (if op=8 then cf to uc else zeroC) k names (mapTL cf vf op l 0 uc ut)
def mapTL (cf:ConT→Int→ConT) (vf:Int→Int→Int→TermT) (op:Int):List TermT→Nat→Int→Int→List TermT
 | [],_,_,_=>[]
 |x::r,i,uc,ut=>mapT cf vf x (uc+insC op i) (ut+insT op i)::mapTL cf vf op r (i+1) uc ut
end
theorem mapTL_len (cf:ConT→Int→ConT) (vf:Int→Int→Int→TermT) (op:Int):∀(l:List TermT) (i:Nat) (uc ut:Int),(mapTL cf vf op l i uc ut).length=l.length
 | [],i,uc,ut=>by rw[mapTL]
 |x::r,i,uc,ut=>by rw[mapTL,List.length_cons,List.length_cons,mapTL_len cf vf op r]
section fuse
variable {c1 c2 c3 c4:ConT→Int→ConT}{v1 v2 v3 v4:Int→Int→Int→TermT}{b1 b2 b3 b4 d1 d2 d3 d4:Int}
end fuse
/-! Rebuilding is mapping -/
theorem node_with {op n:Int}{s:ByteArray}{con to:ConT}{k:List KindT}{names:List ByteArray}{len:Nat}(h:nodeT op n s con to k names len=true) (c' t':ConT):nodeT op n s c' t' k names len=(fitsC c' (hasConF op)&&fitsC t' (op==8)):=by
 obtain ⟨h1,h2,h3,h4,h5,h6,h7,_⟩:=node_op h
 rw[nodeT,decide_eq_true h1,decide_eq_true h2,h3,decide_eq_true h4,h5,h6,h7]
 rfl
theorem chL_len (cf:ConT→Int→Int→ConT×Int) (vf:Int→Int→Int→TermT×Int) (op:Int):∀(l:List TermT) (i:Nat) (u w:Int),(chL cf vf op l i u w).2=0→(chL cf vf op l i u w).1.length=l.length
 | [],i,u,w,_=>by rw[chL]
 |x::r,i,u,w,h=>by
  rw[chL] at h ⊢
  by_cases h1:(chT cf vf x (u+insC op i) (w+insT op i)).2≠0
  ·rw[if_pos h1] at h;exact absurd h h1
  ·rw[if_neg h1] at h ⊢
   by_cases h2:(chL cf vf op r (i+1) u w).2≠0
   ·rw[if_pos h2] at h;exact absurd h h2
   ·rw[if_neg h2,List.length_cons,List.length_cons,chL_len cf vf op r (i+1) u w (by simpa using h2)]
theorem chT_node (cf:ConT→Int→Int→ConT×Int) (vf:Int→Int→Int→TermT×Int) {op n:Int}{s:ByteArray}{con to:ConT}{k:List KindT}{names:List ByteArray}{l:List TermT}{u w:Int}(ho:op≠1) :
  ((hasConF op=true→(cf con u w).2=0)∧(op=8→(cf to u w).2=0)∧(chL cf vf op l 0 u w).2=0 ∧
   chT cf vf (.mk op n s con to k names l) u w=(.mk op n s (if hasConF op=true then (cf con u w).1 else zeroC) (if op=8 then (cf to u w).1 else zeroC) k names (chL cf vf op l 0 u w).1,0)) ∨
  (((hasConF op=true∧(cf con u w).2≠0)∨(op=8∧(cf to u w).2≠0)∨(chL cf vf op l 0 u w).2≠0)∧(chT cf vf (.mk op n s con to k names l) u w).2≠0):=by
 rw[chT,if_neg ho]
 by_cases h1:hasConF op=true∧(cf con u w).2≠0
 ·right
  rw[if_pos h1]
  exact ⟨.inl h1,h1.2⟩
 ·rw[if_neg h1]
  by_cases h2:op=8∧(cf to u w).2≠0
  ·right
   rw[if_pos h2]
   exact ⟨.inr (.inl h2),h2.2⟩
  ·rw[if_neg h2]
   by_cases h3:(chL cf vf op l 0 u w).2≠0
   ·right
    rw[if_pos h3]
    exact ⟨.inr (.inr h3),h3⟩
   ·left
    rw[if_neg h3]
    refine ⟨fun e=>?_,fun e=>?_,by simpa using h3,rfl⟩
    ·by_cases g:(cf con u w).2=0
     ·exact g
     ·exact absurd ⟨e,g⟩ h1
    ·by_cases g:(cf to u w).2=0
     ·exact g
     ·exact absurd ⟨e,g⟩ h2
theorem ins_le {op n:Int}{s:ByteArray}{con to:ConT}{k:List KindT}{names:List ByteArray}{l:List TermT}(h:nodeT op n s con to k names l.length=true):op=9→l.length≤2:=fun e=>by
 subst e
 have:=node_parts9 h
 omega
theorem ins_bound {op:Int}{i:Nat}(h:op=9→i+1≤2):insC op i≤1∧insT op i≤1:=by
 rw[insC,insT]
 by_cases e9:op=9
 ·have:=h e9
  constructor<;>(repeat' split)<;>omega
 ·constructor<;>(repeat' split)<;>omega
section kept
variable {cf:ConT→Int→Int→ConT×Int}{vf:Int→Int→Int→TermT×Int}{cf':ConT→Int→ConT}{vf':Int→Int→Int→TermT}
mutual
theorem chT_map (hc:∀c u w,validF c=true→0≤u→u≤400→((cf c u w).2=0∧(cf c u w).1=cf' c u)∨(validF (cf' c u)=false∧((cf c u w).2=0→validF (cf c u w).1=false)))
  (hv:∀n u w,0≤n→n≤20000→0≤u→u≤400→0≤w→w≤400→((vf n u w).2=0∧(vf n u w).1=vf' n u w)∨(wfT (vf' n u w)=false∧((vf n u w).2=0→wfT (vf n u w).1=false))) :
  ∀(t:TermT) (u w:Int),wfT t=true→0≤u→u+depthT t≤401→0≤w→w+depthT t≤401 →
  ((chT cf vf t u w).2=0∧(chT cf vf t u w).1=mapT cf' vf' t u w)∨(wfT (mapT cf' vf' t u w)=false∧((chT cf vf t u w).2=0→wfT (chT cf vf t u w).1=false))
 | .mk op n s con to k names l,u,w,hwf,h1,h2,h3,h4=>by
  rw[wfT,Bool.and_eq_true] at hwf
  obtain ⟨hn,hl⟩:=hwf
  obtain ⟨n1,_,n3,_⟩:=node_con hn
  rw[depthT] at h2 h4
  by_cases ho:op=1
  ·obtain ⟨_,_,_,_,_,_,g1,g2⟩:=node_op1 hn ho
   rw[chT,mapT,if_pos ho,if_pos ho]
   exact hv n u w g1 g2 h1 (by omega) h3 (by omega)
  ·have hL:=chL_map hc hv op l 0 u w hl (fun e=>by have:=ins_le hn e;omega) h1 (by omega) h3 (by omega)
   have hM:mapT cf' vf' (.mk op n s con to k names l) u w=.mk op n s (if hasConF op=true then cf' con u else zeroC) (if op=8 then cf' to u else zeroC) k names (mapTL cf' vf' op l 0 u w):=by rw[mapT,if_neg ho]
   have hwM:wfT (mapT cf' vf' (.mk op n s con to k names l) u w)=((fitsC (if hasConF op=true then cf' con u else zeroC) (hasConF op)&&fitsC (if op=8 then cf' to u else zeroC) (op==8))&&wfL (mapTL cf' vf' op l 0 u w)):=by
    rw[hM,wfT,mapTL_len,node_with hn]
   have e8:∀{c:ConT},op=8→fitsC c (op==8)=validF c:=fun e=>by
    have:(op==8)=true:=by simp[e]
    rw[this,fitsC,if_pos rfl]
   have eC:∀{c:ConT},hasConF op=true→fitsC c (hasConF op)=validF c:=fun e=>by rw[e,fitsC,if_pos rfl]
   rcases chT_node cf vf (n:=n) (s:=s) (con:=con) (to:=to) (k:=k) (names:=names) (l:=l) (u:=u) (w:=w) ho with ⟨a,b,r,e⟩|⟨bad,e⟩
   ·have hwA:wfT (chT cf vf (.mk op n s con to k names l) u w).1=((fitsC (if hasConF op=true then (cf con u w).1 else zeroC) (hasConF op)&&fitsC (if op=8 then (cf to u w).1 else zeroC) (op==8))&&wfL (chL cf vf op l 0 u w).1):=by
     rw[e,wfT,chL_len cf vf op l 0 u w r,node_with hn]
    have PC:(if hasConF op=true then (cf con u w).1 else zeroC)=(if hasConF op=true then cf' con u else zeroC)∨(fitsC (if hasConF op=true then cf' con u else zeroC) (hasConF op)=false∧fitsC (if hasConF op=true then (cf con u w).1 else zeroC) (hasConF op)=false):=by
     by_cases hh:hasConF op=true
     ·rw[if_pos hh,if_pos hh,eC hh,eC hh]
      rcases hc con u w (n1 hh) h1 (by omega) with ⟨_,g⟩|⟨g1,g2⟩
      ·exact .inl g
      ·exact .inr ⟨g1,g2 (a hh)⟩
     ·rw[if_neg hh,if_neg hh];exact .inl rfl
    have PT:(if op=8 then (cf to u w).1 else zeroC)=(if op=8 then cf' to u else zeroC)∨(fitsC (if op=8 then cf' to u else zeroC) (op==8)=false∧fitsC (if op=8 then (cf to u w).1 else zeroC) (op==8)=false):=by
     by_cases hh:op=8
     ·rw[if_pos hh,if_pos hh,e8 hh,e8 hh]
      rcases hc to u w (n3 hh) h1 (by omega) with ⟨_,g⟩|⟨g1,g2⟩
      ·exact .inl g
      ·exact .inr ⟨g1,g2 (b hh)⟩
     ·rw[if_neg hh,if_neg hh];exact .inl rfl
    rcases PC with pc|⟨pc,pc'⟩
    ·rcases PT with pt|⟨pt,pt'⟩
     ·rcases hL with ⟨_,pl⟩|⟨pl,pl'⟩
      ·left
       refine ⟨by rw[e],?_⟩
       rw[e,hM,pc,pt,pl]
      ·right
       rw[hwM,hwA,pl,pl' r,Bool.and_false,Bool.and_false]
       exact ⟨rfl,fun _=>rfl⟩
     ·right
      rw[hwM,hwA,pt,pt',Bool.and_false,Bool.and_false,Bool.false_and,Bool.false_and]
      exact ⟨rfl,fun _=>rfl⟩
    ·right
     rw[hwM,hwA,pc,pc',Bool.false_and,Bool.false_and,Bool.false_and,Bool.false_and]
     exact ⟨rfl,fun _=>rfl⟩
   ·right
    refine ⟨?_,fun h=>absurd h e⟩
    rw[hwM]
    rcases bad with ⟨hh,g⟩|⟨hh,g⟩|g
    ·rcases hc con u w (n1 hh) h1 (by omega) with ⟨g1,_⟩|⟨g1,_⟩
     ·exact absurd g1 g
     ·rw[eC hh,if_pos hh,g1,Bool.false_and,Bool.false_and]
    ·rcases hc to u w (n3 hh) h1 (by omega) with ⟨g1,_⟩|⟨g1,_⟩
     ·exact absurd g1 g
     ·rw[e8 hh,if_pos hh,g1,Bool.and_false,Bool.false_and]
    ·rcases hL with ⟨g1,_⟩|⟨g1,_⟩
     ·exact absurd g1 g
     ·rw[g1,Bool.and_false]
theorem chL_map (hc:∀c u w,validF c=true→0≤u→u≤400→((cf c u w).2=0∧(cf c u w).1=cf' c u)∨(validF (cf' c u)=false∧((cf c u w).2=0→validF (cf c u w).1=false)))
  (hv:∀n u w,0≤n→n≤20000→0≤u→u≤400→0≤w→w≤400→((vf n u w).2=0∧(vf n u w).1=vf' n u w)∨(wfT (vf' n u w)=false∧((vf n u w).2=0→wfT (vf n u w).1=false))) (op:Int) :
  ∀(l:List TermT) (i:Nat) (u w:Int),wfL l=true→(op=9→i+l.length≤2)→0≤u→u+depthTL l≤400→0≤w→w+depthTL l≤400 →
  ((chL cf vf op l i u w).2=0∧(chL cf vf op l i u w).1=mapTL cf' vf' op l i u w)∨(wfL (mapTL cf' vf' op l i u w)=false∧((chL cf vf op l i u w).2=0→wfL (chL cf vf op l i u w).1=false))
 | [],i,u,w,_,_,_,_,_,_=>by
  rw[chL,mapTL]
  exact .inl ⟨rfl,rfl⟩
 |x::r,i,u,w,hl,h9,h1,h2,h3,h4=>by
  rw[wfL,Bool.and_eq_true] at hl
  rw[depthTL] at h2 h4
  have b0:=insC_nn op i
  have b1:=insT_nn op i
  obtain ⟨b2,b3⟩:=ins_bound (op:=op) (i:=i) (fun e=>by have:=h9 e;rw[List.length_cons] at this;omega)
  have hX:=chT_map hc hv x (u+insC op i) (w+insT op i) hl.1 (by omega) (by omega) (by omega) (by omega)
  have hR:=chL_map hc hv op r (i+1) u w hl.2 (fun e=>by have:=h9 e;rw[List.length_cons] at this;omega) h1 (by omega) h3 (by omega)
  rw[chL,mapTL,wfL]
  generalize chT cf vf x (u+insC op i) (w+insT op i)=A at hX
  generalize chL cf vf op r (i+1) u w=B at hR
  generalize mapT cf' vf' x (u+insC op i) (w+insT op i)=A' at hX
  generalize mapTL cf' vf' op r (i+1) u w=B' at hR
  by_cases a0:A.2≠0
  ·right
   rw[if_pos a0]
   rcases hX with ⟨g,_⟩|⟨g,_⟩
   ·exact absurd g a0
   ·rw[g,Bool.false_and]
    exact ⟨rfl,fun h=>absurd h a0⟩
  ·rw[if_neg a0]
   have a0':A.2=0:=by simpa using a0
   by_cases c0:B.2≠0
   ·right
    rw[if_pos c0]
    rcases hR with ⟨g,_⟩|⟨g,_⟩
    ·exact absurd g c0
    ·rw[g,Bool.and_false]
     exact ⟨rfl,fun h=>absurd h c0⟩
   ·rw[if_neg c0]
    have c0':B.2=0:=by simpa using c0
    rcases hX with ⟨_,g⟩|⟨g,g'⟩
    ·rcases hR with ⟨_,q⟩|⟨q,q'⟩
     ·left
      rw[g,q]
      exact ⟨rfl,rfl⟩
     ·right
      refine ⟨by rw[q,Bool.and_false],fun _=>?_⟩
      rw[wfL,q' c0',Bool.and_false]
    ·right
     refine ⟨by rw[g,Bool.false_and],fun _=>?_⟩
     rw[wfL,g' a0',Bool.false_and]
end
theorem not_wf {t:TermT}(h:wfT t=false):validT t=false:=by
 cases hv:validT t with
 |false=>rfl
 |true=>rw[(valid_wf hv).1] at h;exact h
theorem fin_map {t:TermT}(hc:∀c u w,validF c=true→0≤u→u≤400→((cf c u w).2=0∧(cf c u w).1=cf' c u)∨(validF (cf' c u)=false∧((cf c u w).2=0→validF (cf c u w).1=false)))
  (hv:∀n u w,0≤n→n≤20000→0≤u→u≤400→0≤w→w≤400→((vf n u w).2=0∧(vf n u w).1=vf' n u w)∨(wfT (vf' n u w)=false∧((vf n u w).2=0→wfT (vf n u w).1=false))) (h:validT t=true) :
  finT (chT cf vf t 0 0)=keptT (mapT cf' vf' t 0 0):=by
 obtain ⟨hwf,hd⟩:=valid_wf h
 rw[finT,keptT]
 rcases chT_map hc hv t 0 0 hwf (by decide) (by omega) (by decide) (by omega) with ⟨e1,e2⟩|⟨e1,e2⟩
 ·rw[e2]
  cases hv2:validT (mapT cf' vf' t 0 0) with
  |true=>rw[if_neg (by rw[e1];simp),if_pos rfl]
  |false=>rw[if_pos (.inr rfl),if_neg (by decide)]
 ·have hk:(if validT (mapT cf' vf' t 0 0)=true then (mapT cf' vf' t 0 0,(0:Int)) else (zeroT,6))=(zeroT,6):=if_neg (by rw[not_wf e1];decide)
  rw[hk]
  by_cases e3:(chT cf vf t 0 0).2=0
  ·rw[if_pos (Or.inr (not_wf (e2 e3)))]
  ·rw[if_pos (Or.inl e3)]
end kept
def cshM (n:Int) (c:ConT) (u:Int):ConT:=mapF (shiftLeaf n 0) c u
def vshM (m n _u w:Int):TermT:=varT (if n≥w then n+m else n)
def shM (n m:Int) (t:TermT):TermT:=mapT (cshM n) (vshM m) t 0 0
def cidM (c:ConT) (_u:Int):ConT:=c
def vsubM (by':TermT) (n u w:Int):TermT:=if n=w then shM u w by' else varT (if n>w then n - 1 else n)
def subM (by' t:TermT):TermT:=mapT cidM (vsubM by') t 0 0
def csubM (us:List ConT) (c:ConT) (u:Int):ConT:=mapF (substM us) c u
def vidM (n _u _w:Int):TermT:=varT n
def subCM (us:List ConT) (t:TermT):TermT:=mapT (csubM us) vidM t 0 0
theorem csh_valid {c:ConT}(h:validF c=true) (n u:Int):cshR c n u=cshM n c u:=by
 rw[cshR,if_neg (by rw[valid_notzero h];decide),cshM]
 exact (shift_eq n 0 c u u (validF_formed h) (by rw[Int.zero_add])).symm
mutual
theorem rsh_map (n m:Int):∀(t:TermT) (u w:Int),wfT t=true→rshT n m t u w=mapT (cshM n) (vshM m) t u w
 | .mk op i s con to k names l,u,w,hwf=>by
  rw[wfT,Bool.and_eq_true] at hwf
  obtain ⟨n1,n2,n3,n4⟩:=node_con hwf.1
  rw[rshT,mapT]
  by_cases ho:op=1
  ·obtain ⟨rfl,rfl,rfl,rfl,rfl,g,_⟩:=node_op1 hwf.1 ho
   have:=List.eq_nil_of_length_eq_zero g
   subst this ho
   rw[if_pos rfl,vshM,varT,zero_csh,rshL]
   by_cases h:i≥w
   ·rw[if_pos h,if_pos ⟨rfl,h⟩]
   ·rw[if_neg h,if_neg (fun e=>h e.2)]
  ·rw[if_neg ho,if_neg (fun e:op=1∧i≥w=>ho e.1),rshL_map n m op l 0 u w hwf.2 (fun e=>by have:=ins_le hwf.1 e;omega)]
   have hC:cshR con n u=(if hasConF op=true then cshM n con u else zeroC):=by
    by_cases e:hasConF op=true
    ·rw[if_pos e,csh_valid (n1 e)]
    ·rw[if_neg e,n2 (by simpa using e),zero_csh]
   have hT:cshR to n u=(if op=8 then cshM n to u else zeroC):=by
    by_cases e:op=8
    ·rw[if_pos e,csh_valid (n3 e)]
    ·rw[if_neg e,n4 e,zero_csh]
   rw[hC,hT]
theorem rshL_map (n m op:Int):∀(l:List TermT) (i:Nat) (u w:Int),wfL l=true→(op=9→i+l.length≤2)→rshL n m op l i u w=mapTL (cshM n) (vshM m) op l i u w
 | [],i,u,w,_,_=>by rw[rshL,mapTL]
 |x::r,i,u,w,hwf,h9=>by
  rw[wfL,Bool.and_eq_true] at hwf
  have h9':op=9→i≤1:=fun e=>by have:=h9 e;rw[List.length_cons] at this;omega
  rw[rshL,mapTL,ins_cons h9',ins_terms h9',rsh_map n m x _ _ hwf.1,rshL_map n m op r (i+1) u w hwf.2 (fun e=>by have:=h9 e;rw[List.length_cons] at this;omega)]
end
theorem shT_M {t:TermT}(h:wfT t=true) (n m:Int) (h1:0≤n) (h2:n≤20000) :
  ((shT n m t).2=0∧(shT n m t).1=shM n m t)∨(wfT (shM n m t)=false∧((shT n m t).2=0→wfT (shT n m t).1=false)):=by
 obtain ⟨e1,e2⟩:=sh_eq n m (by omega) h2 t 0 0 h (by decide) (fun i hi=>by have:=consF_n t 0 (by decide) i hi;omega)
 rw[rsh_map n m t 0 0 h] at e1 e2
 rw[shT,shM]
 by_cases h0:(chT (shCf n) (shVf m) t 0 0).2=0
 ·exact .inl ⟨h0,e1 h0⟩
 ·exact .inr ⟨e2 h0,fun h=>absurd h h0⟩
theorem SubstT_M {t by':TermT}(h:validT t=true) (h':validT by'=true):SubstT t by'=keptT (subM by' t):=by
 rw[SubstT,if_neg (by rw[h,h'];rintro (e|e)<;>cases e),subM]
 refine fin_map (fun c u w hc _ _=>?_) (fun n u w _ _ hu hu' hw hw'=>?_) h
 ·rw[sameCf,shc0 hc,cidM]
  exact .inl ⟨rfl,rfl⟩
 ·rw[subVf,vsubM]
  by_cases e:n=w
  ·rw[if_pos e,if_pos e]
   exact shT_M (valid_wf h').1 u w hu (by omega)
  ·rw[if_neg e,if_neg e]
   exact .inl ⟨rfl,rfl⟩
theorem SubstConsT_M {t:TermT}{us:List ConT}(h:validT t=true) (h':us.all validF=true) (hl:us.length≤1000):SubstConsT t us=keptT (subCM us t):=by
 rw[SubstConsT,if_neg (by rw[h,h'];rintro (e|e)<;>cases e),if_neg (by omega),subCM]
 refine fin_map (fun c u w hc hu hu'=>?_) (fun n u w _ _ _ _ _ _=>?_) h
 ·rw[repCf,csubM]
  obtain ⟨_,hd,hf⟩:=valid_parts hc
  rcases repl_eq us h' c u hf hu (by omega) with e|⟨e1,e2⟩
  ·exact .inl ⟨rfl,e⟩
  ·exact .inr ⟨e2,fun _=>e1⟩
 ·rw[idVf,vidM]
  exact .inl ⟨rfl,rfl⟩
/-! There and back -/
/-! Substitutions commute -/
mutual
def rsubT (by':TermT):TermT→Int→Int→TermT
 | .mk op n s con to k names l,u,w=>
  if op=1 then (if n=w then rshT u w by' 0 0 else if n>w then varT (n - 1) else .mk op n s con to k names l)
  else .mk op n s con to k names (rsubTL by' op l 0 u w)
def rsubTL (by':TermT) (op:Int):List TermT→Nat→Int→Int→List TermT
 | [],_,_,_=>[]
 |x::r,i,u,w=>rsubT by' x (u+consR op i) (w+termsR op i)::rsubTL by' op r (i+1) u w
end
def crsub (us:List ConT) (c:ConT) (u:Int):ConT:=if eqC c zeroC=true then c else rSubstF us c u
mutual
def rsubC (us:List ConT):TermT→Int→TermT
 | .mk op n s con to k names l,u=>.mk op n s (crsub us con u) (crsub us to u) k names (rsubCL us op l 0 u)
def rsubCL (us:List ConT) (op:Int):List TermT→Nat→Int→List TermT
 | [],_,_=>[]
 |x::r,i,u=>rsubC us x (u+consR op i)::rsubCL us op r (i+1) u
end
theorem rsubTL_len (by':TermT) (op:Int):∀(l:List TermT) (i:Nat) (u w:Int),(rsubTL by' op l i u w).length=l.length
 | [],i,u,w=>by rw[rsubTL]
 |x::r,i,u,w=>by rw[rsubTL,List.length_cons,List.length_cons,rsubTL_len by' op r]
theorem rsubCL_len (us:List ConT) (op:Int):∀(l:List TermT) (i:Nat) (u:Int),(rsubCL us op l i u).length=l.length
 | [],i,u=>by rw[rsubCL]
 |x::r,i,u=>by rw[rsubCL,List.length_cons,List.length_cons,rsubCL_len us op r]
mutual
def vokT:TermT→Prop
 | .mk op n s con to k names l=>(op=1→nodeT op n s con to k names l.length=true)∧vokL l
def vokL:List TermT→Prop
 | []=>True
 |x::r=>vokT x∧vokL r
end
theorem vokL_mem:∀{l:List TermT},vokL l↔∀x∈l,vokT x
 | []=>by simp[vokL]
 |x::r=>by simp[vokL,vokL_mem (l:=r)]
mutual
theorem wf_vok:∀t:TermT,wfT t=true→vokT t
 | .mk op n s con to k names l,h=>by
  rw[wfT,Bool.and_eq_true] at h
  rw[vokT]
  exact ⟨fun _=>h.1,wfL_vok l h.2⟩
theorem wfL_vok:∀l:List TermT,wfL l=true→vokL l
 | [],_=>trivial
 |x::r,h=>by
  rw[wfL,Bool.and_eq_true] at h
  exact ⟨wf_vok x h.1,wfL_vok r h.2⟩
end
mutual
theorem rsub_map (by':TermT) (hb:wfT by'=true):∀(t:TermT) (u w:Int),wfT t=true→rsubT by' t u w=mapT cidM (vsubM by') t u w
 | .mk op i s con to k names l,u,w,hwf=>by
  rw[wfT,Bool.and_eq_true] at hwf
  obtain ⟨n1,n2,n3,n4⟩:=node_con hwf.1
  rw[rsubT,mapT]
  by_cases ho:op=1
  ·obtain ⟨rfl,rfl,rfl,rfl,rfl,g,_⟩:=node_op1 hwf.1 ho
   have:=List.eq_nil_of_length_eq_zero g
   subst this ho
   rw[if_pos rfl,if_pos rfl,vsubM,rsh_map u w by' 0 0 hb,shM]
   by_cases h:i=w
   ·rw[if_pos h,if_pos h]
   ·rw[if_neg h,if_neg h]
    by_cases h':i>w
    ·rw[if_pos h',if_pos h']
    ·rw[if_neg h',if_neg h',varT]
  ·rw[if_neg ho,if_neg ho,rsubL_map by' hb op l 0 u w hwf.2 (fun e=>by have:=ins_le hwf.1 e;omega)]
   have hC:(if hasConF op=true then cidM con u else zeroC)=con:=by
    by_cases e:hasConF op=true
    ·rw[if_pos e,cidM]
    ·rw[if_neg e,n2 (by simpa using e)]
   have hT:(if op=8 then cidM to u else zeroC)=to:=by
    by_cases e:op=8
    ·rw[if_pos e,cidM]
    ·rw[if_neg e,n4 e]
   rw[hC,hT]
theorem rsubL_map (by':TermT) (hb:wfT by'=true) (op:Int):∀(l:List TermT) (i:Nat) (u w:Int),wfL l=true→(op=9→i+l.length≤2)→rsubTL by' op l i u w=mapTL cidM (vsubM by') op l i u w
 | [],i,u,w,_,_=>by rw[rsubTL,mapTL]
 |x::r,i,u,w,hwf,h9=>by
  rw[wfL,Bool.and_eq_true] at hwf
  have h9':op=9→i≤1:=fun e=>by have:=h9 e;rw[List.length_cons] at this;omega
  rw[rsubTL,mapTL,ins_cons h9',ins_terms h9',rsub_map by' hb x _ _ hwf.1,rsubL_map by' hb op r (i+1) u w hwf.2 (fun e=>by have:=h9 e;rw[List.length_cons] at this;omega)]
end
theorem crsub_valid {us:List ConT}(hus:us.all validF=true) {c:ConT}(h:validF c=true) (u:Int):crsub us c u=csubM us c u:=by
 rw[crsub,if_neg (by rw[valid_notzero h];decide),csubM,←substM_eq us hus,subst_eq us hus c u (validF_formed h)]
theorem crsub_zero (us:List ConT) (u:Int):crsub us zeroC u=zeroC:=by rw[crsub,if_pos (eqC_refl _)]
mutual
theorem rsubC_map (us:List ConT) (hus:us.all validF=true):∀(t:TermT) (u w:Int),wfT t=true→rsubC us t u=mapT (csubM us) vidM t u w
 | .mk op i s con to k names l,u,w,hwf=>by
  rw[wfT,Bool.and_eq_true] at hwf
  obtain ⟨n1,n2,n3,n4⟩:=node_con hwf.1
  rw[rsubC,mapT]
  by_cases ho:op=1
  ·obtain ⟨rfl,rfl,rfl,rfl,rfl,g,_⟩:=node_op1 hwf.1 ho
   have:=List.eq_nil_of_length_eq_zero g
   subst this ho
   rw[if_pos rfl,vidM,crsub_zero,rsubCL,varT]
  ·rw[if_neg ho,rsubCL_map us hus op l 0 u w hwf.2 (fun e=>by have:=ins_le hwf.1 e;omega)]
   have hC:crsub us con u=(if hasConF op=true then csubM us con u else zeroC):=by
    by_cases e:hasConF op=true
    ·rw[if_pos e,crsub_valid hus (n1 e)]
    ·rw[if_neg e,n2 (by simpa using e),crsub_zero]
   have hT:crsub us to u=(if op=8 then csubM us to u else zeroC):=by
    by_cases e:op=8
    ·rw[if_pos e,crsub_valid hus (n3 e)]
    ·rw[if_neg e,n4 e,crsub_zero]
   rw[hC,hT]
theorem rsubCL_map (us:List ConT) (hus:us.all validF=true) (op:Int):∀(l:List TermT) (i:Nat) (u w:Int),wfL l=true→(op=9→i+l.length≤2)→rsubCL us op l i u=mapTL (csubM us) vidM op l i u w
 | [],i,u,w,_,_=>by rw[rsubCL,mapTL]
 |x::r,i,u,w,hwf,h9=>by
  rw[wfL,Bool.and_eq_true] at hwf
  have h9':op=9→i≤1:=fun e=>by have:=h9 e;rw[List.length_cons] at this;omega
  rw[rsubCL,mapTL,ins_cons h9',rsubC_map us hus x _ (w+insT op i) hwf.1,rsubCL_map us hus op r (i+1) u w hwf.2 (fun e=>by have:=h9 e;rw[List.length_cons] at this;omega)]
end
mutual
theorem vok_rsubC (us:List ConT):∀(t:TermT) (u:Int),vokT t→vokT (rsubC us t u)
 | .mk op n s con to k names l,u,h=>by
  rw[vokT] at h
  rw[rsubC,vokT,rsubCL_len]
  refine ⟨fun e=>?_,vok_rsubCL us op l 0 u h.2⟩
  have h1:=h.1 e
  obtain ⟨_,rfl,rfl,_⟩:=node_op1 h1 e
  rw[crsub_zero];exact h1
theorem vok_rsubCL (us:List ConT) (op:Int):∀(l:List TermT) (i:Nat) (u:Int),vokL l→vokL (rsubCL us op l i u)
 | [],_,_,_=>by rw[rsubCL];trivial
 |x::r,i,u,h=>by
  rw[rsubCL]
  exact ⟨vok_rsubC us x _ h.1,vok_rsubCL us op r _ u h.2⟩
end
mutual
theorem depth_rsubC (us:List ConT):∀(t:TermT) (u:Int),depthT (rsubC us t u)=depthT t
 | .mk op n s con to k names l,u=>by rw[rsubC,depthT,depthT,depth_rsubCL us op l 0 u]
theorem depth_rsubCL (us:List ConT) (op:Int):∀(l:List TermT) (i:Nat) (u:Int),depthTL (rsubCL us op l i u)=depthTL l
 | [],_,_=>by rw[rsubCL]
 |x::r,i,u=>by rw[rsubCL,depthTL,depthTL,depth_rsubC us x,depth_rsubCL us op r]
end
/-! How great it is -/
mutual
theorem sub_size (us:List ConT) (hus:us.all validF=true):∀(c:ConT) (b:Int),sizeF (mapF (substM us) c b)≤sizeF c*20000
 | .mk op n s k names l,b=>by
  rw[mapF]
  split
  ·rw[sizeF,substM]
   split
   ·rw[size_leafC];omega
   ·split
    ·have:sizeF (varC ((ConT.mk op n s k names l).n - us.length))=1:=rfl
     rw[this];omega
    ·have hv:=getD_valid hus (i:=((ConT.mk op n s k names l).n - b).toNat) (by omega)
     rw[shift_size _ _ _ _ (validF_formed hv)]
     have:=(valid_parts hv).1
     omega
  ·have:=subL_size us hus l (if isBinder op=true then b+1 else b)
   rw[sizeF,sizeF];omega
theorem subL_size (us:List ConT) (hus:us.all validF=true):∀(l:List ConT) (b:Int),sizeL (mapL (substM us) l b)≤sizeL l*20000
 | [],b=>by rw[mapL,sizeL];omega
 |x::r,b=>by
  have h1:=sub_size us hus x b
  have h2:=subL_size us hus r b
  rw[mapL,sizeL,sizeL];omega
end
theorem sub_okS (us:List ConT) (hl:∀x∈us,okS x) (c:ConT) (b:Int) (h:okS c):okS (mapF (substM us) c b):=by
 refine mapF_okS _ c b h fun x b' hx=>?_
 have hx':=(leaves_mem c b x b' hx).2.1 h
 rw[substM]
 split
 ·exact okS_leafC hx'
 ·split
  ·exact okS_varC _
  ·exact okS_shift _ _ (okS_getD hl _)
theorem csub_ok (us:List ConT) (hus:us.all validF=true) (hl:∀x∈us,okS x) (c:ConT) (u:Int) (h:validF c=true) (h':okS c):okCon (csubM us c u):=by
 have h1:=sub_size us hus c u
 have h2:=(valid_parts h).1
 exact ⟨by rw[csubM];omega,sub_okS us hl c u h'⟩
mutual
theorem mapT_okW {cf:ConT→Int→ConT}{vf:Int→Int→Int→TermT}(hc:∀c u,validF c=true→okS c→okCon (cf c u)) (hv:∀n u w,okT (vf n u w)) :
  ∀(t:TermT) (u w:Int),okT t→wfT t=true→okT (mapT cf vf t u w)
 | .mk op n s con to k names l,u,w,hok,hwf=>by
  rw[wfT,Bool.and_eq_true] at hwf
  obtain ⟨n1,_,n3,_⟩:=node_con hwf.1
  simp only[okT] at hok
  rw[mapT]
  by_cases ho:op=1
  ·rw[if_pos ho];exact hv n u w
  ·rw[if_neg ho]
   have hL:=mapTL_okW hc hv op l 0 u w hok.2.2.2.2.2.2.2 hwf.2
   simp only[okT]
   refine ⟨hok.1,?_,?_,hok.2.2.2.1,hok.2.2.2.2.1,hok.2.2.2.2.2.1,?_,hL⟩
   ·split
    ·rename_i e;exact hc con u (n1 e) hok.2.1.2
    ·exact okCon_zero
   ·split
    ·rename_i e;exact hc to u (n3 e) hok.2.2.1.2
    ·exact okCon_zero
   ·rw[mapTL_len];exact hok.2.2.2.2.2.2.1
theorem mapTL_okW {cf:ConT→Int→ConT}{vf:Int→Int→Int→TermT}(hc:∀c u,validF c=true→okS c→okCon (cf c u)) (hv:∀n u w,okT (vf n u w)) (op:Int) :
  ∀(l:List TermT) (i:Nat) (u w:Int),okTs l→wfL l=true→okTs (mapTL cf vf op l i u w)
 | [],i,u,w,_,_=>by rw[mapTL];trivial
 |x::r,i,u,w,hok,hwf=>by
  rw[wfL,Bool.and_eq_true] at hwf
  simp only[okTs] at hok
  rw[mapTL]
  simp only[okTs]
  exact ⟨mapT_okW hc hv x _ _ hok.1 hwf.1,mapTL_okW hc hv op r (i+1) u w hok.2 hwf.2⟩
end
theorem subCM_okT (us:List ConT) (hus:us.all validF=true) (hl:∀x∈us,okS x) {t:TermT}(h:okT t) (h':wfT t=true):okT (subCM us t):=
 mapT_okW (csub_ok us hus hl) (fun n _ _=>okT_var n) t 0 0 h h'
/-! Under binders -/
def wrapN:Nat→ConT→ConT
 | 0,c=>c
 |m+1,c=>boundC 11 [] (wrapN m c)
theorem lam_node':nodeF 11 0 ByteArray.empty [] [] 1=true:=by decide +kernel
theorem wrapN_formed {c:ConT}(h:formedF c=true):∀m,formedF (wrapN m c)=true
 | 0=>h
 |m+1=>by rw[wrapN,boundC,formedF,formedL,formedL,List.length_singleton,lam_node',wrapN_formed h m];rfl
theorem wrapN_wt (c:ConT):∀m,wtF (wrapN m c)=m+wtF c
 | 0=>by rw[wrapN];omega
 |m+1=>by
  rw[wrapN,boundC,wtF,wtL,wtL,wrapN_wt c m]
  simp[knL];omega
theorem wrapN_sub (us:List ConT) (c:ConT):∀(m:Nat) (d:Int),rSubstF us (wrapN m c) d=wrapN m (rSubstF us c (d+m))
 | 0,d=>by rw[wrapN,wrapN,Int.natCast_zero,Int.add_zero]
 |m+1,d=>by
  have e:deepF 11 d=d+1:=rfl
  have e2:d+((m+1:Nat):Int)=d+1+(m:Int):=by omega
  rw[wrapN,wrapN,boundC,boundC,rSubstF,if_neg (by decide),rSubstL,rSubstL,e,wrapN_sub us c m (d+1),e2]
theorem rtCons_spec (op n:Int) (s:ByteArray) (con to:ConT) (k:List KindT) (names:List ByteArray) (l:List TermT) (i:Nat):Spec Tryz.prog 190 [pp (encT (.mk op n s con to k names l)),ii i] [] (.int .i64 (consR op i)) []:=by
 generalize hres:consR op i=res
 rw[consR] at hres
 have e1:(i=1)↔((i:Int)==1)=true:=by simp;omega
 refine wk (rv:=[.tmp 4]) ann190 17 Tryz.func190 ?_
 simp only[go_sem,encT_mk]
 repeat' ((first|refine condK_intro (fun _=>?_) (fun _=>?_)|refine guardK_intro (fun _=>?_) (fun _=>?_))<;>simp only[go_sem,List.length_map])
 all_goals (subst hres;simp_all)
theorem rtTerms_spec (op n:Int) (s:ByteArray) (con to:ConT) (k:List KindT) (names:List ByteArray) (l:List TermT) (i:Nat):Spec Tryz.prog 192 [pp (encT (.mk op n s con to k names l)),ii i] [] (.int .i64 (termsR op i)) []:=by
 generalize hres:termsR op i=res
 rw[termsR] at hres
 refine wk (rv:=[.tmp 4]) ann192 16 Tryz.func192 ?_
 simp only[go_sem,encT_mk]
 repeat' ((first|refine condK_intro (fun _=>?_) (fun _=>?_)|refine guardK_intro (fun _=>?_) (fun _=>?_))<;>simp only[go_sem,List.length_map])
 all_goals (subst hres;simp_all)
theorem conShift_spec (c:ConT) (by' from':Int) (h1:-100000000≤by') (h2:by'≤100000000) (h3:0≤from') (h4:eqC c zeroC=true∨formedF c=true) (h5:wtF c≤900000000) :
  Spec Tryz.prog 247 [pp (encC c),ii by',ii from'] [] (encC (cshR c by' from')) []:=by
 have hN:=NoCon_spec c
 rw[cshR]
 cases hz:eqC c zeroC with
 |true=>
  rw[hz] at hN
  rw[if_pos rfl]
  refine wk (rv:=[.cell 6 28]) ann247 14 Tryz.func247 ?_
  simp only[go_sem,encC_sz]
  refine aCall_intro hN ?_
  simp only[go_sem,encC_sz]
 |false=>
  rw[hz] at hN h4
  have hS:=rShift_spec c by' from' (by omega) (by omega) h3 (h4.resolve_left (by decide)) h5
  rw[if_neg (by decide)]
  refine wk (rv:=[.cell 6 28]) ann247 14 Tryz.func247 ?_
  simp only[go_sem,encC_sz]
  refine aCall_intro hN ?_
  simp only[go_sem,encC_sz]
  refine aCall_intro hS ?_
  simp only[go_sem,encC_sz]
theorem rtshift_spec (cons terms:Int) (hc1:-20000≤cons) (hc2:cons≤20000) (ht1:-20000≤terms) (ht2:terms≤20000) (t:TermT):∀uc ut:Int,wfT t=true→okT t→wcT t→0≤uc→uc+depthT t≤1000000000→0≤ut→ut+depthT t≤1000000000 →
  Spec Tryz.prog 226 [pp (encT t),ii cons,ii terms,ii uc,ii ut] [] (encT (rshT cons terms t uc ut)) []:=by
 revert t
 refine TermT.ind1 fun op n s con to k names l ih=>?_
 intro uc ut hwf hok hwc h1 h2 h3 h4
 rw[wfT,Bool.and_eq_true] at hwf
 obtain ⟨hnode,hwl⟩:=hwf
 obtain ⟨o1,o2,o3,o4⟩:=okT_con hok
 simp only[wcT] at hwc
 obtain ⟨c1,c2,c3⟩:=hwc
 rw[depthT] at h2 h4
 obtain ⟨_,_,_,_,_,_,_,f1,f2⟩:=node_op hnode
 have fo:∀{c:ConT}{b:Bool},fitsC c b=true→eqC c zeroC=true∨formedF c=true:=fun {c b} h=>by
  rw[fitsC] at h
  split at h
  ·exact .inr (validF_formed h)
  ·exact .inl h
 have hS1:=conShift_spec con cons uc (by omega) (by omega) h1 (fo f1) (by omega)
 have hS2:=conShift_spec to cons uc (by omega) (by omega) h1 (fo f2) (by omega)
 have hC:=fun i=>rtCons_spec op n s con to k names l i
 have hT:=fun i=>rtTerms_spec op n s con to k names l i
 have hn1:op=1→0≤n∧n≤20000:=fun e=>(node_op1 hnode e).2.2.2.2.2.2
 simp only[encC_cells,ConT.cells] at hS1 hS2
 simp only[encT_mk] at hC hT
 generalize hres:rshT cons terms (.mk op n s con to k names l) uc ut=res
 rw[rshT] at hres
 generalize cshR con cons uc=con' at hS1 hres
 generalize cshR to cons uc=to' at hS2 hres
 obtain ⟨n',hn'⟩:∃n':Int,n'=(if op=1∧n≥ut then n+terms else n):=⟨_,rfl⟩
 rw[←hn'] at hres
 have loop:∀out,out=rshL cons terms op l 0 uc ut→encT (.mk op n' s con' to' k names out)=encT res:=fun out e=>by rw[e,hres]
 clear hres
 by_cases hop:op=1∧n≥ut
 ·rw[if_pos hop] at hn'
  obtain ⟨g1,g2⟩:=hn1 hop.1
  have w1:IntKind.i64.wrap (n+terms)=n':=by rw[hn'];exact wrap_id (by omega) (by omega)
  have e1:(op==1)=true:=by simp[hop.1]
  refine wk (rv:=[.cell 10 31]) ann226 72 Tryz.func226 ?_
  simp only[go_sem,encT_mk,e1,decide_eq_true hop.2,w1]
  refine aCall_intro hS1 ?_
  simp only[go_sem]
  refine aCall_intro hS2 ?_
  simp only[go_sem,List.length_map]
  clear hS1 hS2
  refine aLoop_list (α:=TermT) (β:=Nat×List TermT) (fun rest b=>⟨[(12,ii b.1),(11,.one (.ptr (.loc 11) 0)),(5,pp (.ep (encT (.mk op n s con to k names l)) 0)),(4,ii ut),(3,ii uc),(2,ii terms),(1,ii cons),(10,.one (.ptr (.loc 10) 0))],
    [(.loc 10,zboxT),(.loc 11,⟨.agg 18,.agg [.pv (.int .i64 op),.pv (.int .i64 n'),.pv (.str s),.pv (.int .i64 con'.op),.pv (.int .i64 con'.n),.pv (.str con'.s),.pv (.slice (con'.k.map encK)),.pv (.slice (con'.names.map .str)),.pv (.slice (con'.l.map encC)),.pv (.int .i64 to'.op),.pv (.int .i64 to'.n),.pv (.str to'.s),.pv (.slice (to'.k.map encK)),.pv (.slice (to'.names.map .str)),.pv (.slice (to'.l.map encC)),.pv (.slice (k.map encK)),.pv (.slice (names.map .str)),acc 138 (.agg 18) (b.2.map encT)]⟩)],[]⟩)
   (fun rest b=>∃pre,l=pre++rest∧b.1=pre.length∧b.2.length=pre.length∧b.2++rshL cons terms op rest b.1 uc ut=rshL cons terms op l 0 uc ut) ?_ ?_ l (0,[]) _ ?_ ⟨[],rfl,rfl,rfl,rfl⟩
  ·rintro ⟨m,out⟩ ⟨pre,g1,g2,g3,g4⟩ K
   simp only[List.append_nil] at g1 g2 g3
   simp only[rshL,List.append_nil] at g4
   have hr:=loop out g4
   rw[←hr]
   cases out<;>simp only[go_sem,g2,g1,lt_false (Int.le_refl _),List.length_map,acc,zboxT,encT_mk,List.map_nil,List.map_cons]
  ·rintro x rest ⟨m,out⟩ ⟨pre,g1,g2,g3,g4⟩ K hK
   simp only at g2 g3 g4
   have hx:(l.map encT)[m]? = some (encT x):=by simp[g1,g2]
   have hlt:(m:Int)<l.length:=by rw[g1,g2];simp;omega
   have hll:m<l.length:=by rw[g1,g2];simp
   have hm:x∈l:=by simp[g1]
   have hdx:=depthTL_mem hm
   have w4:IntKind.i64.wrap ((m:Int)+1)=((m+1:Nat):Int):=by rw[wrap_id (by omega) (by omega)];simp
   have hC:=hC m
   have hT:=hT m
   have b1:0≤consR op m∧consR op m≤1:=by rw[consR];split<;>omega
   have b2:0≤termsR op m∧termsR op m≤1:=by rw[termsR];(repeat' split)<;>omega
   have hI:=ih x hm (uc+consR op m) (ut+termsR op m) (wfL_mem.1 hwl x hm) (okTs_mem.1 o4 x hm) (wcTs_mem.1 c3 x hm) (by omega) (by omega) (by omega) (by omega)
   have w5:IntKind.i64.wrap (uc+consR op m)=uc+consR op m:=wrap_id (by omega) (by omega)
   have w6:IntKind.i64.wrap (ut+termsR op m)=ut+termsR op m:=wrap_id (by omega) (by omega)
   have hK':=fun s' hs=>hK (m+1,out++[rshT cons terms x (uc+consR op m) (ut+termsR op m)]) s' hs ⟨pre++[x],by simp[g1],by simp[g2],by simp[g3],by rw[←g4,rshL];simp⟩
   clear hK g4 loop
   generalize rshT cons terms x (uc+consR op m) (ut+termsR op m)=y at hI hK'
   have hb1:(out.length+1)*312≤140737488355328:=by omega
   have hb2:out.length+1≤maxLen:=by rw[maxLen_eq];omega
   generalize consR op m=q1 at hC hI w5
   generalize termsR op m=q2 at hT hI w6
   clear b1 b2 ih hdx
   cases out
   ·simp only[go_sem,decide_eq_true hlt,Int.toNat_natCast,Int.natCast_nonneg,hx,encT_sz,encT_mk,acc,zboxT,List.map_nil,List.length_map]
    refine aCall_intro hC ?_
    simp only[go_sem,w5]
    refine aCall_intro hT ?_
    simp only[go_sem,w6]
    refine aCall_intro hI ?_
    simp only[go_sem,encT_sz,w4,one_le_maxLen]
    try (refine ⟨by kernel_rfl,?_⟩;try simp only[go_sem,encT_sz,w4,one_le_maxLen])
    refine hK' _ ?_
    simp only[go_sem,acc,zboxT,encT_mk,List.map_cons,List.map_nil,List.nil_append]
   ·simp only[List.length_cons] at hb1 hb2
    simp only[go_sem,decide_eq_true hlt,Int.toNat_natCast,Int.natCast_nonneg,hx,encT_sz,encT_mk,acc,zboxT,List.map_cons,List.length_map]
    refine aCall_intro hC ?_
    simp only[go_sem,w5]
    refine aCall_intro hT ?_
    simp only[go_sem,w6]
    refine aCall_intro hI ?_
    simp only[go_sem,encT_sz,w4,List.length_map,hb1,hb2]
    try (refine ⟨by kernel_rfl,?_⟩;try simp only[go_sem,encT_sz,w4,List.length_map,hb1,hb2])
    refine hK' _ ?_
    simp only[go_sem,acc,zboxT,encT_mk,List.map_cons,List.map_append,List.map_nil,List.cons_append]
  ·simp only[go_sem,acc,zboxT,encT_mk,Int.natCast_zero,List.map_nil]
 ·rw[if_neg hop] at hn'
  rw[hn'] at loop
  clear hn'
  by_cases e:op=1
  ·have e1:(op==1)=true:=by simp[e]
   have e2:decide (n≥ut)=false:=decide_eq_false fun h=>hop ⟨e,h⟩
   refine wk (rv:=[.cell 10 31]) ann226 72 Tryz.func226 ?_
   simp only[go_sem,encT_mk,e1,e2]
   refine aCall_intro hS1 ?_
   simp only[go_sem]
   refine aCall_intro hS2 ?_
   simp only[go_sem,List.length_map]
   clear hS1 hS2
   refine aLoop_list (α:=TermT) (β:=Nat×List TermT) (fun rest b=>⟨[(12,ii b.1),(11,.one (.ptr (.loc 11) 0)),(5,pp (.ep (encT (.mk op n s con to k names l)) 0)),(4,ii ut),(3,ii uc),(2,ii terms),(1,ii cons),(10,.one (.ptr (.loc 10) 0))],
     [(.loc 10,zboxT),(.loc 11,⟨.agg 18,.agg [.pv (.int .i64 op),.pv (.int .i64 n),.pv (.str s),.pv (.int .i64 con'.op),.pv (.int .i64 con'.n),.pv (.str con'.s),.pv (.slice (con'.k.map encK)),.pv (.slice (con'.names.map .str)),.pv (.slice (con'.l.map encC)),.pv (.int .i64 to'.op),.pv (.int .i64 to'.n),.pv (.str to'.s),.pv (.slice (to'.k.map encK)),.pv (.slice (to'.names.map .str)),.pv (.slice (to'.l.map encC)),.pv (.slice (k.map encK)),.pv (.slice (names.map .str)),acc 138 (.agg 18) (b.2.map encT)]⟩)],[]⟩)
    (fun rest b=>∃pre,l=pre++rest∧b.1=pre.length∧b.2.length=pre.length∧b.2++rshL cons terms op rest b.1 uc ut=rshL cons terms op l 0 uc ut) ?_ ?_ l (0,[]) _ ?_ ⟨[],rfl,rfl,rfl,rfl⟩
   ·rintro ⟨m,out⟩ ⟨pre,g1,g2,g3,g4⟩ K
    simp only[List.append_nil] at g1 g2 g3
    simp only[rshL,List.append_nil] at g4
    have hr:=loop out g4
    rw[←hr]
    cases out<;>simp only[go_sem,g2,g1,lt_false (Int.le_refl _),List.length_map,acc,zboxT,encT_mk,List.map_nil,List.map_cons]
   ·rintro x rest ⟨m,out⟩ ⟨pre,g1,g2,g3,g4⟩ K hK
    simp only at g2 g3 g4
    have hx:(l.map encT)[m]? = some (encT x):=by simp[g1,g2]
    have hlt:(m:Int)<l.length:=by rw[g1,g2];simp;omega
    have hll:m<l.length:=by rw[g1,g2];simp
    have hm:x∈l:=by simp[g1]
    have hdx:=depthTL_mem hm
    have w4:IntKind.i64.wrap ((m:Int)+1)=((m+1:Nat):Int):=by rw[wrap_id (by omega) (by omega)];simp
    have hC:=hC m
    have hT:=hT m
    have b1:0≤consR op m∧consR op m≤1:=by rw[consR];split<;>omega
    have b2:0≤termsR op m∧termsR op m≤1:=by rw[termsR];(repeat' split)<;>omega
    have hI:=ih x hm (uc+consR op m) (ut+termsR op m) (wfL_mem.1 hwl x hm) (okTs_mem.1 o4 x hm) (wcTs_mem.1 c3 x hm) (by omega) (by omega) (by omega) (by omega)
    have w5:IntKind.i64.wrap (uc+consR op m)=uc+consR op m:=wrap_id (by omega) (by omega)
    have w6:IntKind.i64.wrap (ut+termsR op m)=ut+termsR op m:=wrap_id (by omega) (by omega)
    have hK':=fun s' hs=>hK (m+1,out++[rshT cons terms x (uc+consR op m) (ut+termsR op m)]) s' hs ⟨pre++[x],by simp[g1],by simp[g2],by simp[g3],by rw[←g4,rshL];simp⟩
    clear hK g4 loop
    generalize rshT cons terms x (uc+consR op m) (ut+termsR op m)=y at hI hK'
    have hb1:(out.length+1)*312≤140737488355328:=by omega
    have hb2:out.length+1≤maxLen:=by rw[maxLen_eq];omega
    generalize consR op m=q1 at hC hI w5
    generalize termsR op m=q2 at hT hI w6
    clear b1 b2 ih hdx
    cases out
    ·simp only[go_sem,decide_eq_true hlt,Int.toNat_natCast,Int.natCast_nonneg,hx,encT_sz,encT_mk,acc,zboxT,List.map_nil,List.length_map]
     refine aCall_intro hC ?_
     simp only[go_sem,w5]
     refine aCall_intro hT ?_
     simp only[go_sem,w6]
     refine aCall_intro hI ?_
     simp only[go_sem,encT_sz,w4,one_le_maxLen]
     try (refine ⟨by kernel_rfl,?_⟩;try simp only[go_sem,encT_sz,w4,one_le_maxLen])
     refine hK' _ ?_
     simp only[go_sem,acc,zboxT,encT_mk,List.map_cons,List.map_nil,List.nil_append]
    ·simp only[List.length_cons] at hb1 hb2
     simp only[go_sem,decide_eq_true hlt,Int.toNat_natCast,Int.natCast_nonneg,hx,encT_sz,encT_mk,acc,zboxT,List.map_cons,List.length_map]
     refine aCall_intro hC ?_
     simp only[go_sem,w5]
     refine aCall_intro hT ?_
     simp only[go_sem,w6]
     refine aCall_intro hI ?_
     simp only[go_sem,encT_sz,w4,List.length_map,hb1,hb2]
     try (refine ⟨by kernel_rfl,?_⟩;try simp only[go_sem,encT_sz,w4,List.length_map,hb1,hb2])
     refine hK' _ ?_
     simp only[go_sem,acc,zboxT,encT_mk,List.map_cons,List.map_append,List.map_nil,List.cons_append]
   ·simp only[go_sem,acc,zboxT,encT_mk,Int.natCast_zero,List.map_nil]
  ·have e1:(op==1)=false:=by simp[e]
   refine wk (rv:=[.cell 10 31]) ann226 72 Tryz.func226 ?_
   simp only[go_sem,encT_mk,e1]
   refine aCall_intro hS1 ?_
   simp only[go_sem]
   refine aCall_intro hS2 ?_
   simp only[go_sem,List.length_map]
   clear hS1 hS2
   refine aLoop_list (α:=TermT) (β:=Nat×List TermT) (fun rest b=>⟨[(12,ii b.1),(11,.one (.ptr (.loc 11) 0)),(5,pp (.ep (encT (.mk op n s con to k names l)) 0)),(4,ii ut),(3,ii uc),(2,ii terms),(1,ii cons),(10,.one (.ptr (.loc 10) 0))],
     [(.loc 10,zboxT),(.loc 11,⟨.agg 18,.agg [.pv (.int .i64 op),.pv (.int .i64 n),.pv (.str s),.pv (.int .i64 con'.op),.pv (.int .i64 con'.n),.pv (.str con'.s),.pv (.slice (con'.k.map encK)),.pv (.slice (con'.names.map .str)),.pv (.slice (con'.l.map encC)),.pv (.int .i64 to'.op),.pv (.int .i64 to'.n),.pv (.str to'.s),.pv (.slice (to'.k.map encK)),.pv (.slice (to'.names.map .str)),.pv (.slice (to'.l.map encC)),.pv (.slice (k.map encK)),.pv (.slice (names.map .str)),acc 138 (.agg 18) (b.2.map encT)]⟩)],[]⟩)
    (fun rest b=>∃pre,l=pre++rest∧b.1=pre.length∧b.2.length=pre.length∧b.2++rshL cons terms op rest b.1 uc ut=rshL cons terms op l 0 uc ut) ?_ ?_ l (0,[]) _ ?_ ⟨[],rfl,rfl,rfl,rfl⟩
   ·rintro ⟨m,out⟩ ⟨pre,g1,g2,g3,g4⟩ K
    simp only[List.append_nil] at g1 g2 g3
    simp only[rshL,List.append_nil] at g4
    have hr:=loop out g4
    rw[←hr]
    cases out<;>simp only[go_sem,g2,g1,lt_false (Int.le_refl _),List.length_map,acc,zboxT,encT_mk,List.map_nil,List.map_cons]
   ·rintro x rest ⟨m,out⟩ ⟨pre,g1,g2,g3,g4⟩ K hK
    simp only at g2 g3 g4
    have hx:(l.map encT)[m]? = some (encT x):=by simp[g1,g2]
    have hlt:(m:Int)<l.length:=by rw[g1,g2];simp;omega
    have hll:m<l.length:=by rw[g1,g2];simp
    have hm:x∈l:=by simp[g1]
    have hdx:=depthTL_mem hm
    have w4:IntKind.i64.wrap ((m:Int)+1)=((m+1:Nat):Int):=by rw[wrap_id (by omega) (by omega)];simp
    have hC:=hC m
    have hT:=hT m
    have b1:0≤consR op m∧consR op m≤1:=by rw[consR];split<;>omega
    have b2:0≤termsR op m∧termsR op m≤1:=by rw[termsR];(repeat' split)<;>omega
    have hI:=ih x hm (uc+consR op m) (ut+termsR op m) (wfL_mem.1 hwl x hm) (okTs_mem.1 o4 x hm) (wcTs_mem.1 c3 x hm) (by omega) (by omega) (by omega) (by omega)
    have w5:IntKind.i64.wrap (uc+consR op m)=uc+consR op m:=wrap_id (by omega) (by omega)
    have w6:IntKind.i64.wrap (ut+termsR op m)=ut+termsR op m:=wrap_id (by omega) (by omega)
    have hK':=fun s' hs=>hK (m+1,out++[rshT cons terms x (uc+consR op m) (ut+termsR op m)]) s' hs ⟨pre++[x],by simp[g1],by simp[g2],by simp[g3],by rw[←g4,rshL];simp⟩
    clear hK g4 loop
    generalize rshT cons terms x (uc+consR op m) (ut+termsR op m)=y at hI hK'
    have hb1:(out.length+1)*312≤140737488355328:=by omega
    have hb2:out.length+1≤maxLen:=by rw[maxLen_eq];omega
    generalize consR op m=q1 at hC hI w5
    generalize termsR op m=q2 at hT hI w6
    clear b1 b2 ih hdx
    cases out
    ·simp only[go_sem,decide_eq_true hlt,Int.toNat_natCast,Int.natCast_nonneg,hx,encT_sz,encT_mk,acc,zboxT,List.map_nil,List.length_map]
     refine aCall_intro hC ?_
     simp only[go_sem,w5]
     refine aCall_intro hT ?_
     simp only[go_sem,w6]
     refine aCall_intro hI ?_
     simp only[go_sem,encT_sz,w4,one_le_maxLen]
     try (refine ⟨by kernel_rfl,?_⟩;try simp only[go_sem,encT_sz,w4,one_le_maxLen])
     refine hK' _ ?_
     simp only[go_sem,acc,zboxT,encT_mk,List.map_cons,List.map_nil,List.nil_append]
    ·simp only[List.length_cons] at hb1 hb2
     simp only[go_sem,decide_eq_true hlt,Int.toNat_natCast,Int.natCast_nonneg,hx,encT_sz,encT_mk,acc,zboxT,List.map_cons,List.length_map]
     refine aCall_intro hC ?_
     simp only[go_sem,w5]
     refine aCall_intro hT ?_
     simp only[go_sem,w6]
     refine aCall_intro hI ?_
     simp only[go_sem,encT_sz,w4,List.length_map,hb1,hb2]
     try (refine ⟨by kernel_rfl,?_⟩;try simp only[go_sem,encT_sz,w4,List.length_map,hb1,hb2])
     refine hK' _ ?_
     simp only[go_sem,acc,zboxT,encT_mk,List.map_cons,List.map_append,List.map_nil,List.cons_append]
   ·simp only[go_sem,acc,zboxT,encT_mk,Int.natCast_zero,List.map_nil]
theorem rtShift_spec (cons terms:Int) (hc1:-20000≤cons) (hc2:cons≤20000) (ht1:-20000≤terms) (ht2:terms≤20000) (t:TermT) (hwf:wfT t=true) (hok:okT t) (hwc:wcT t) (hd:depthT t≤1000) :
  Spec Tryz.prog 197 [pp (encT t),ii cons,ii terms] [] (encT (rshT cons terms t 0 0)) []:=by
 have hS:=rtshift_spec cons terms hc1 hc2 ht1 ht2 t 0 0 hwf hok hwc (by decide) (by omega) (by decide) (by omega)
 refine wk (rv:=[.cell 6 31]) ann197 11 Tryz.func197 ?_
 simp only[go_sem,encT_sz]
 refine aCall_intro hS ?_
 simp only[go_sem,encT_sz]
theorem rtsubst_spec (by':TermT) (hwf':wfT by'=true) (hok':okT by') (hwc':wcT by') (hd':depthT by'≤1000) (t:TermT):∀uc ut:Int,vokT t→okT t→0≤uc→uc+depthT t≤20000→0≤ut→ut+depthT t≤20000 →
  Spec Tryz.prog 165 [pp (encT t),pp (encT by'),ii uc,ii ut] [] (encT (rsubT by' t uc ut)) []:=by
 revert t
 refine TermT.ind1 fun op n s con to k names l ih=>?_
 intro uc ut hwf hok h1 h2 h3 h4
 rw[vokT] at hwf
 obtain ⟨hnode,hwl⟩:=hwf
 obtain ⟨o1,o2,o3,o4⟩:=okT_con hok
 rw[depthT] at h2 h4
 have hn1:op=1→0≤n∧n≤20000:=fun e=>(node_op1 (hnode e) e).2.2.2.2.2.2
 by_cases hop:op=1
 ·obtain ⟨g1,g2⟩:=hn1 hop
  have e1:(op==1)=true:=by simp[hop]
  have hS:=rtShift_spec uc ut (by omega) (by omega) (by omega) (by omega) by' hwf' hok' hwc' hd'
  rw[rsubT,if_pos hop]
  by_cases a1:n=ut
  ·have e2:(n==ut)=true:=by simp[a1]
   rw[if_pos a1]
   generalize rshT uc ut by' 0 0=r at hS
   refine wk (rv:=[.cell 8 31]) ann165 63 Tryz.func165 ?_
   simp only[go_sem,encT_mk,encT_sz,e1,e2]
   refine aCall_intro hS ?_
   simp only[go_sem,encT_sz]
  ·have e2:(n==ut)=false:=by simp[a1]
   rw[if_neg a1]
   by_cases a2:n>ut
   ·have w1:IntKind.i64.wrap (n - 1)=n - 1:=wrap_id (by omega) (by omega)
    rw[if_pos a2,encT_var]
    refine wk (rv:=[.cell 8 31]) ann165 63 Tryz.func165 ?_
    simp only[go_sem,encT_mk,encT_sz,e1,e2,decide_eq_true a2,w1]
   ·rw[if_neg a2]
    refine wk (rv:=[.cell 8 31]) ann165 63 Tryz.func165 ?_
    simp only[go_sem,encT_mk,encT_sz,e1,e2,decide_eq_false a2]
 ·have e1:(op==1)=false:=by simp[hop]
  have hC:=fun i=>rtCons_spec op n s con to k names l i
  have hT:=fun i=>rtTerms_spec op n s con to k names l i
  simp only[encT_mk] at hC hT
  generalize hres:rsubT by' (.mk op n s con to k names l) uc ut=res
  rw[rsubT,if_neg hop] at hres
  have loop:∀out,out=rsubTL by' op l 0 uc ut→encT (.mk op n s con to k names out)=encT res:=fun out e=>by rw[e,hres]
  clear hres
  refine wk (rv:=[.cell 8 31]) ann165 63 Tryz.func165 ?_
  simp only[go_sem,encT_mk,encT_sz,e1,List.length_map]
  refine aLoop_list (α:=TermT) (β:=Nat×List TermT) (fun rest b=>⟨[(10,ii b.1),(9,.one (.ptr (.loc 9) 0)),(4,pp (.ep (encT (.mk op n s con to k names l)) 0)),(3,ii ut),(2,ii uc),(5,pp (.ep (encT by') 0)),(8,.one (.ptr (.loc 8) 0))],
    [(.loc 8,zboxT),(.loc 9,⟨.agg 18,.agg [.pv (.int .i64 op),.pv (.int .i64 n),.pv (.str s),.pv (.int .i64 con.op),.pv (.int .i64 con.n),.pv (.str con.s),.pv (.slice (con.k.map encK)),.pv (.slice (con.names.map .str)),.pv (.slice (con.l.map encC)),.pv (.int .i64 to.op),.pv (.int .i64 to.n),.pv (.str to.s),.pv (.slice (to.k.map encK)),.pv (.slice (to.names.map .str)),.pv (.slice (to.l.map encC)),.pv (.slice (k.map encK)),.pv (.slice (names.map .str)),acc 120 (.agg 18) (b.2.map encT)]⟩)],[]⟩)
   (fun rest b=>∃pre,l=pre++rest∧b.1=pre.length∧b.2.length=pre.length∧b.2++rsubTL by' op rest b.1 uc ut=rsubTL by' op l 0 uc ut) ?_ ?_ l (0,[]) _ ?_ ⟨[],rfl,rfl,rfl,rfl⟩
  ·rintro ⟨m,out⟩ ⟨pre,g1,g2,g3,g4⟩ K
   simp only[List.append_nil] at g1 g2 g3
   simp only[rsubTL,List.append_nil] at g4
   have hr:=loop out g4
   rw[←hr]
   cases out<;>simp only[go_sem,g2,g1,lt_false (Int.le_refl _),List.length_map,acc,zboxT,encT_mk,List.map_nil,List.map_cons]
  ·rintro x rest ⟨m,out⟩ ⟨pre,g1,g2,g3,g4⟩ K hK
   simp only at g2 g3 g4
   have hx:(l.map encT)[m]? = some (encT x):=by simp[g1,g2]
   have hlt:(m:Int)<l.length:=by rw[g1,g2];simp;omega
   have hll:m<l.length:=by rw[g1,g2];simp
   have hm:x∈l:=by simp[g1]
   have hdx:=depthTL_mem hm
   have w4:IntKind.i64.wrap ((m:Int)+1)=((m+1:Nat):Int):=by rw[wrap_id (by omega) (by omega)];simp
   have hC:=hC m
   have hT:=hT m
   have b1:0≤consR op m∧consR op m≤1:=by rw[consR];split<;>omega
   have b2:0≤termsR op m∧termsR op m≤1:=by rw[termsR];(repeat' split)<;>omega
   have hI:=ih x hm (uc+consR op m) (ut+termsR op m) (vokL_mem.1 hwl x hm) (okTs_mem.1 o4 x hm) (by omega) (by omega) (by omega) (by omega)
   have w5:IntKind.i64.wrap (uc+consR op m)=uc+consR op m:=wrap_id (by omega) (by omega)
   have w6:IntKind.i64.wrap (ut+termsR op m)=ut+termsR op m:=wrap_id (by omega) (by omega)
   have hK':=fun s' hs=>hK (m+1,out++[rsubT by' x (uc+consR op m) (ut+termsR op m)]) s' hs ⟨pre++[x],by simp[g1],by simp[g2],by simp[g3],by rw[←g4,rsubTL];simp⟩
   clear hK g4 loop
   generalize rsubT by' x (uc+consR op m) (ut+termsR op m)=y at hI hK'
   have hb1:(out.length+1)*312≤140737488355328:=by omega
   have hb2:out.length+1≤maxLen:=by rw[maxLen_eq];omega
   generalize consR op m=q1 at hC hI w5
   generalize termsR op m=q2 at hT hI w6
   clear b1 b2 ih hdx
   cases out
   ·simp only[go_sem,decide_eq_true hlt,Int.toNat_natCast,Int.natCast_nonneg,hx,encT_sz,encT_mk,acc,zboxT,List.map_nil,List.length_map]
    refine aCall_intro hC ?_
    simp only[go_sem,w5]
    refine aCall_intro hT ?_
    simp only[go_sem,w6]
    refine aCall_intro hI ?_
    simp only[go_sem,encT_sz,w4,one_le_maxLen]
    try (refine ⟨by kernel_rfl,?_⟩;try simp only[go_sem,encT_sz,w4,one_le_maxLen])
    refine hK' _ ?_
    simp only[go_sem,acc,zboxT,encT_mk,List.map_cons,List.map_nil,List.nil_append]
   ·simp only[List.length_cons] at hb1 hb2
    simp only[go_sem,decide_eq_true hlt,Int.toNat_natCast,Int.natCast_nonneg,hx,encT_sz,encT_mk,acc,zboxT,List.map_cons,List.length_map]
    refine aCall_intro hC ?_
    simp only[go_sem,w5]
    refine aCall_intro hT ?_
    simp only[go_sem,w6]
    refine aCall_intro hI ?_
    simp only[go_sem,encT_sz,w4,List.length_map,hb1,hb2]
    try (refine ⟨by kernel_rfl,?_⟩;try simp only[go_sem,encT_sz,w4,List.length_map,hb1,hb2])
    refine hK' _ ?_
    simp only[go_sem,acc,zboxT,encT_mk,List.map_cons,List.map_append,List.map_nil,List.cons_append]
  ·simp only[go_sem,acc,zboxT,encT_mk,Int.natCast_zero,List.map_nil]
theorem rtSubst_specV (t by':TermT) (hwf:vokT t) (hok:okT t) (hd:depthT t≤1000) (hwf':wfT by'=true) (hok':okT by') (hwc':wcT by') (hd':depthT by'≤1000) :
  Spec Tryz.prog 126 [pp (encT t),pp (encT by')] [] (encT (rsubT by' t 0 0)) []:=by
 have hS:=rtsubst_spec by' hwf' hok' hwc' hd' t 0 0 hwf hok (by decide) (by omega) (by decide) (by omega)
 refine wk (rv:=[.cell 4 31]) ann126 8 Tryz.func126 ?_
 simp only[go_sem,encT_sz]
 refine aCall_intro hS ?_
 simp only[go_sem,encT_sz]
/-! Constructors -/
theorem encC_wrap (m:Nat) (c:ConT):encC (wrapN (m+1) c)=.agg [.int .i64 11,.int .i64 0,.str ByteArray.empty,.slice [],.slice [],.slice [encC (wrapN m c)]]:=by
 rw[wrapN,boundC,encC_mk];rfl
def zboxC:Box:=⟨.agg 6,.agg [.pv (.int .i64 0),.pv (.int .i64 0),.pv (.str ByteArray.empty),.nilS,.nilS,.nilS]⟩
theorem conSubst_spec (us:List ConT) (hus:∀x∈us,wtF x≤900000000∧formedF x=true) (hul:us.length≤100000000) (c:ConT) (u:Nat) (hu:u≤20000) (h4:eqC c zeroC=true∨formedF c=true) (h5:wtF c≤900000000) :
  Spec Tryz.prog 198 [pp (encC c),pp (.slice (us.map encC)),ii u] [] (encC (crsub us c u)) []:=by
 have hN:=NoCon_spec c
 rw[crsub]
 cases hz:eqC c zeroC with
 |true=>
  rw[hz] at hN
  rw[if_pos rfl]
  refine wk (rv:=[.cell 6 28]) ann198 33 Tryz.func198 ?_
  simp only[go_sem,encC_sz]
  refine aCall_intro hN ?_
  simp only[go_sem,encC_sz]
 |false=>
  rw[hz] at hN h4
  have hf:=h4.resolve_left (by decide)
  have hB:=fun b=>rBound_spec 11 [] (wrapN b c)
  have hS:=rSubstTop_spec us hus hul (wrapN u c) (wrapN_formed hf u) (by rw[wrapN_wt];omega)
  rw[wrapN_sub,Int.zero_add] at hS
  rw[if_neg (by decide)]
  generalize rSubstF us c u=D at hS
  refine wk (rv:=[.cell 6 28]) ann198 33 Tryz.func198 ?_
  simp only[go_sem,encC_sz]
  refine aCall_intro hN ?_
  simp only[go_sem,encC_sz]
  refine aLoop_list (α:=Unit) (β:=Nat) (fun rest b=>⟨[(7,ii b),(3,.one (.ptr (.loc 3) 0)),(6,.one (.ptr (.loc 6) 0)),(2,ii u),(1,pp (.slice (us.map encC)))],[(.loc 3,⟨.agg 6,pp (encC (wrapN b c))⟩),(.loc 6,zboxC)],[]⟩)
   (fun rest b=>rest.length+b=u) ?_ ?_ (List.replicate u ()) 0 _ ?_ (by simp)
  ·rintro b hb K
   simp only[List.length_nil,Nat.zero_add] at hb
   subst hb
   simp only[go_sem,lt_false (Int.le_refl _),encC_sz]
   refine aCall_intro hS ?_
   simp only[go_sem,encC_sz]
   refine aLoop_list (α:=Unit) (β:=Nat) (fun rest j=>⟨[(8,ii j),(3,.one (.ptr (.loc 3) 0)),(6,.one (.ptr (.loc 6) 0)),(2,ii b)],[(.loc 3,⟨.agg 6,pp (encC (wrapN rest.length D))⟩),(.loc 6,zboxC)],[]⟩)
    (fun rest j=>rest.length+j=b) ?_ ?_ (List.replicate b ()) 0 _ ?_ (by simp)
   ·rintro j hj K
    simp only[List.length_nil,Nat.zero_add] at hj
    subst hj
    simp only[go_sem,lt_false (Int.le_refl _),encC_sz,List.length_nil,wrapN,zboxC]
   ·rintro x rest j hj K hK
    simp only[List.length_cons] at hj
    have hlt:(j:Int)<b:=by omega
    have w4:IntKind.i64.wrap ((j:Int)+1)=((j+1:Nat):Int):=by rw[wrap_id (by omega) (by omega)];simp
    simp only[go_sem,decide_eq_true hlt,encC_sz,List.length_cons,encC_wrap,w4,zboxC]
    refine hK (j+1) _ ?_ (by omega)
    simp only[go_sem,zboxC]
   ·simp only[go_sem,zboxC,List.length_replicate,Int.natCast_zero]
  ·rintro x rest b hb K hK
   simp only[List.length_cons] at hb
   have hlt:(b:Int)<u:=by omega
   have w4:IntKind.i64.wrap ((b:Int)+1)=((b+1:Nat):Int):=by rw[wrap_id (by omega) (by omega)];simp
   have hB:=hB b
   have hw:boundC 11 [] (wrapN b c)=wrapN (b+1) c:=rfl
   rw[hw] at hB
   simp only[go_sem,decide_eq_true hlt,encC_sz,zboxC]
   refine aCall_intro hB ?_
   simp only[go_sem,encC_sz,w4,zboxC]
   refine hK (b+1) _ ?_ (by omega)
   simp only[go_sem,zboxC]
  ·simp only[go_sem,zboxC,Int.natCast_zero,wrapN]
theorem fit_or' {c:ConT}{b:Bool}(h:fitsC c b=true):eqC c zeroC=true∨formedF c=true:=by
 rw[fitsC] at h
 split at h
 ·exact .inr (validF_formed h)
 ·exact .inl h
theorem rtsubC_spec (us:List ConT) (hus:∀x∈us,wtF x≤900000000∧formedF x=true) (hul:us.length≤100000000) (t:TermT):∀uc:Int,wfT t=true→okT t→wcT t→0≤uc→uc+depthT t≤20000 →
  Spec Tryz.prog 166 [pp (encT t),pp (.slice (us.map encC)),ii uc] [] (encT (rsubC us t uc)) []:=by
 revert t
 refine TermT.ind1 fun op n s con to k names l ih=>?_
 intro uc hwf hok hwc h1 h2
 rw[wfT,Bool.and_eq_true] at hwf
 obtain ⟨hnode,hwl⟩:=hwf
 obtain ⟨o1,o2,o3,o4⟩:=okT_con hok
 simp only[wcT] at hwc
 obtain ⟨c1,c2,c3⟩:=hwc
 rw[depthT] at h2
 obtain ⟨_,_,_,_,_,_,_,f1,f2⟩:=node_op hnode
 obtain ⟨u,rfl⟩:=Int.eq_ofNat_of_zero_le h1
 have hS1:=conSubst_spec us hus hul con u (by omega) (fit_or' f1) (by omega)
 have hS2:=conSubst_spec us hus hul to u (by omega) (fit_or' f2) (by omega)
 have hC:=fun i=>rtCons_spec op n s con to k names l i
 simp only[encC_cells,ConT.cells] at hS1 hS2
 simp only[encT_mk] at hC
 generalize hres:rsubC us (.mk op n s con to k names l) u=res
 rw[rsubC] at hres
 generalize crsub us con u=con' at hS1 hres
 generalize crsub us to u=to' at hS2 hres
 have loop:∀out,out=rsubCL us op l 0 u→encT (.mk op n s con' to' k names out)=encT res:=fun out e=>by rw[e,hres]
 clear hres
 refine wk (rv:=[.cell 6 31]) ann166 48 Tryz.func166 ?_
 simp only[go_sem,encT_mk]
 refine aCall_intro hS1 ?_
 simp only[go_sem]
 refine aCall_intro hS2 ?_
 simp only[go_sem,List.length_map]
 clear hS1 hS2
 refine aLoop_list (α:=TermT) (β:=Nat×List TermT) (fun rest b=>⟨[(8,ii b.1),(7,.one (.ptr (.loc 7) 0)),(3,pp (.ep (encT (.mk op n s con to k names l)) 0)),(2,ii u),(1,pp (.slice (us.map encC))),(6,.one (.ptr (.loc 6) 0))],
   [(.loc 6,zboxT),(.loc 7,⟨.agg 18,.agg [.pv (.int .i64 op),.pv (.int .i64 n),.pv (.str s),.pv (.int .i64 con'.op),.pv (.int .i64 con'.n),.pv (.str con'.s),.pv (.slice (con'.k.map encK)),.pv (.slice (con'.names.map .str)),.pv (.slice (con'.l.map encC)),.pv (.int .i64 to'.op),.pv (.int .i64 to'.n),.pv (.str to'.s),.pv (.slice (to'.k.map encK)),.pv (.slice (to'.names.map .str)),.pv (.slice (to'.l.map encC)),.pv (.slice (k.map encK)),.pv (.slice (names.map .str)),acc 90 (.agg 18) (b.2.map encT)]⟩)],[]⟩)
  (fun rest b=>∃pre,l=pre++rest∧b.1=pre.length∧b.2.length=pre.length∧b.2++rsubCL us op rest b.1 u=rsubCL us op l 0 u) ?_ ?_ l (0,[]) _ ?_ ⟨[],rfl,rfl,rfl,rfl⟩
 ·rintro ⟨m,out⟩ ⟨pre,g1,g2,g3,g4⟩ K
  simp only[List.append_nil] at g1 g2 g3
  simp only[rsubCL,List.append_nil] at g4
  have hr:=loop out g4
  rw[←hr]
  cases out<;>simp only[go_sem,g2,g1,lt_false (Int.le_refl _),List.length_map,acc,zboxT,encT_mk,List.map_nil,List.map_cons]
 ·rintro x rest ⟨m,out⟩ ⟨pre,g1,g2,g3,g4⟩ K hK
  simp only at g2 g3 g4
  have hx:(l.map encT)[m]? = some (encT x):=by simp[g1,g2]
  have hlt:(m:Int)<l.length:=by rw[g1,g2];simp;omega
  have hll:m<l.length:=by rw[g1,g2];simp
  have hm:x∈l:=by simp[g1]
  have hdx:=depthTL_mem hm
  have w4:IntKind.i64.wrap ((m:Int)+1)=((m+1:Nat):Int):=by rw[wrap_id (by omega) (by omega)];simp
  have hC:=hC m
  have b1:0≤consR op m∧consR op m≤1:=by rw[consR];split<;>omega
  have hI:=ih x hm (u+consR op m) (wfL_mem.1 hwl x hm) (okTs_mem.1 o4 x hm) (wcTs_mem.1 c3 x hm) (by omega) (by omega)
  have w5:IntKind.i64.wrap (u+consR op m)=u+consR op m:=wrap_id (by omega) (by omega)
  have hK':=fun s' hs=>hK (m+1,out++[rsubC us x (u+consR op m)]) s' hs ⟨pre++[x],by simp[g1],by simp[g2],by simp[g3],by rw[←g4,rsubCL];simp⟩
  clear hK g4 loop
  generalize rsubC us x (u+consR op m)=y at hI hK'
  have hb1:(out.length+1)*312≤140737488355328:=by omega
  have hb2:out.length+1≤maxLen:=by rw[maxLen_eq];omega
  generalize consR op m=q1 at hC hI w5
  clear b1 ih hdx
  cases out
  ·simp only[go_sem,decide_eq_true hlt,Int.toNat_natCast,Int.natCast_nonneg,hx,encT_sz,encT_mk,acc,zboxT,List.map_nil,List.length_map]
   refine aCall_intro hC ?_
   simp only[go_sem,w5]
   refine aCall_intro hI ?_
   simp only[go_sem,encT_sz,w4,one_le_maxLen]
   try (refine ⟨by kernel_rfl,?_⟩;try simp only[go_sem,encT_sz,w4,one_le_maxLen])
   refine hK' _ ?_
   simp only[go_sem,acc,zboxT,encT_mk,List.map_cons,List.map_nil,List.nil_append]
  ·simp only[List.length_cons] at hb1 hb2
   simp only[go_sem,decide_eq_true hlt,Int.toNat_natCast,Int.natCast_nonneg,hx,encT_sz,encT_mk,acc,zboxT,List.map_cons,List.length_map]
   refine aCall_intro hC ?_
   simp only[go_sem,w5]
   refine aCall_intro hI ?_
   simp only[go_sem,encT_sz,w4,List.length_map,hb1,hb2]
   try (refine ⟨by kernel_rfl,?_⟩;try simp only[go_sem,encT_sz,w4,List.length_map,hb1,hb2])
   refine hK' _ ?_
   simp only[go_sem,acc,zboxT,encT_mk,List.map_cons,List.map_append,List.map_nil,List.cons_append]
 ·simp only[go_sem,acc,zboxT,encT_mk,Int.natCast_zero,List.map_nil]
theorem rtSubstCons_spec (us:List ConT) (hus:∀x∈us,wtF x≤900000000∧formedF x=true) (hul:us.length≤100000000) (t:TermT) (hwf:wfT t=true) (hok:okT t) (hwc:wcT t) (hd:depthT t≤1000) :
  Spec Tryz.prog 127 [pp (encT t),pp (.slice (us.map encC))] [] (encT (rsubC us t 0)) []:=by
 have hS:=rtsubC_spec us hus hul t 0 hwf hok hwc (by decide) (by omega)
 refine wk (rv:=[.cell 4 31]) ann127 8 Tryz.func127 ?_
 simp only[go_sem,encT_sz]
 refine aCall_intro hS ?_
 simp only[go_sem,encT_sz]
theorem shiftF_err {c:ConT}{n f:Int}(h:(shiftF c n f).2≠0):(shiftF c n f).1=zeroC:=by
 rw[shiftF] at h ⊢
 split
 ·rfl
 ·rename_i h1
  rw[if_neg h1] at h
  split
  ·rfl
  ·rename_i h2
   rw[if_neg h2,replF_eq] at h
   rw[replF_eq]
   split
   ·rename_i h3
    rw[if_pos h3] at h;exact absurd rfl h
   ·rfl
theorem replace_spec (us:List ConT) (hus:∀x∈us,wtF x≤900000000∧okS x) (hul:us.length≤100000000) (c:ConT):∀d:Int,0≤d→d+depthF c≤100000000→(formedF c=true∨c=zeroC)→wtF c≤900000000 →
   Spec Tryz.prog 68 [pp (encC c),pp (.slice (us.map encC)),ii d] [] (encC (replP us c d)) []:=by
 revert c
 refine ConT.ind1 fun op n s k names l ih=>?_
 intro d h1 h2 h4 h5
 have hn:op=1→0≤n∧n≤20000:=fun e=>by
   rcases h4 with h4|h4
   · exact formed_n h4
   · rw[zeroC] at h4;cases h4;cases e
 have hfm:∀x∈l,formedF x=true:=by
   rcases h4 with h4|h4
   · rw[formedF,Bool.and_eq_true,formedL_all] at h4
     exact List.all_eq_true.1 h4.2
   · rw[zeroC] at h4;cases h4;intro x hx;cases hx
 rw[wtF] at h5
 rw[depthF] at h2
 have hwl:=wtL_len l
 clear h4
 by_cases hop:op=1
 · obtain ⟨n1,n2⟩:=hn hop
   have e1:(op==1)=true:=by simp[hop]
   have w1:IntKind.i64.wrap (n - d)=n - d:=wrap_id (by omega) (by omega)
   have w2:IntKind.i64.wrap (n - us.length)=n - us.length:=wrap_id (by omega) (by omega)
   rw[replP,if_pos hop]
   clear ih hfm
   by_cases a1:n - d<0
   · rw[if_pos a1]
     refine wk (rv:=[.cell 6 28]) ann68 87 Tryz.func68 ?_
     simp only[go_sem,encC_mk,e1,w1,decide_eq_true a1]
   · rw[if_neg a1]
     by_cases a2:n - d<us.length
     · rw[if_pos a2]
       obtain ⟨i,hi⟩:=Int.eq_ofNat_of_zero_le (show 0≤n - d by omega)
       have hlt:i<us.length:=by omega
       have hx:(us.map encC)[i]? = some (encC us[i]):=by simp[hlt]
       rw[hi,Int.toNat_natCast,List.getD_eq_getElem?_getD,List.getElem?_eq_getElem hlt,Option.getD_some]
       obtain ⟨g1,g2⟩:=hus us[i] (List.getElem_mem _)
       have hS:=Shift_specV us[i] d 0 (by have:=sizeF_wt us[i];omega) g2
       have hz:=@shiftF_err us[i] d 0
       have w1':IntKind.i64.wrap (n - d)=(i:Int):=by rw[w1,hi]
       have d1:decide ((i:Int)<0)=false:=decide_eq_false (by omega)
       have d2:decide ((i:Int)<us.length)=true:=decide_eq_true (by omega)
       generalize shiftF us[i] d 0=r at hS hz
       refine wk (rv:=[.cell 6 28]) ann68 87 Tryz.func68 ?_
       simp only[go_sem,encC_mk,e1,w1',d1,d2,List.length_map,Int.toNat_natCast,Int.natCast_nonneg,hx,encC_sz]
       refine aCall_intro hS ?_
       cases hb:(r.2 != 0)
       · simp only[go_sem,encC_sz,hb]
       · have:=hz (by simpa using hb)
         rw[this,zeroC,encC_mk]
         simp only[go_sem,encC_sz,hb]
     · rw[if_neg a2]
       refine wk (rv:=[.cell 6 28]) ann68 87 Tryz.func68 ?_
       simp only[go_sem,encC_mk,e1,w1,w2,decide_eq_false a1,decide_eq_false a2,List.length_map]
 · have hr:replP us (.mk op n s k names l) d=.mk op n s k names (replPL us l (deepF op d)):=by rw[replP,if_neg hop]
   rw[hr]
   have e1:(op==1)=false:=by simp[hop]
   have hN:=Clone_spec names (by omega)
   have w2:IntKind.i64.wrap (d+1)=d+1:=wrap_id (by omega) (by omega)
   have hdd0:0≤deepF op d:=by rw[deepF];split<;>omega
   have hdd1:deepF op d+depthL l≤100000000:=by rw[deepF];split<;>omega
   obtain ⟨dd,hdd⟩:∃dd,deepF op d=dd:=⟨_,rfl⟩
   have hcase:((op==9)=true∧(op==10)=false∧(op==11)=false∧(op==13)=false∧IntKind.i64.wrap (d+1)=dd)∨((op==9)=false∧(op==10)=true∧(op==11)=false∧(op==13)=false∧IntKind.i64.wrap (d+1)=dd) ∨
       ((op==9)=false∧(op==10)=false∧(op==11)=true∧(op==13)=false∧IntKind.i64.wrap (d+1)=dd)∨((op==9)=false∧(op==10)=false∧(op==11)=false∧(op==13)=true∧IntKind.i64.wrap (d+1)=dd) ∨
       ((op==9)=false∧(op==10)=false∧(op==11)=false∧(op==13)=false∧d=dd):=by
     rw[w2,←hdd,deepF,isBinder]
     rcases (show op=9∨op=10∨op=11∨op=13∨(op≠9∧op≠10∧op≠11∧op≠13) by omega) with e|e|e|e|⟨f1,f2,f3,f4⟩
     · exact .inl ⟨by simp[e],by simp[e],by simp[e],by simp[e],by simp[e]⟩
     · exact .inr (.inl ⟨by simp[e],by simp[e],by simp[e],by simp[e],by simp[e]⟩)
     · exact .inr (.inr (.inl ⟨by simp[e],by simp[e],by simp[e],by simp[e],by simp[e]⟩))
     · exact .inr (.inr (.inr (.inl ⟨by simp[e],by simp[e],by simp[e],by simp[e],by simp[e]⟩)))
     · exact .inr (.inr (.inr (.inr ⟨by simp[f1],by simp[f2],by simp[f3],by simp[f4],by simp[f1,f2,f3,f4]⟩)))
   rw[hdd] at hdd0 hdd1 ⊢
   clear hdd w2 hn hr
   refine wk (rv:=[.cell 6 28]) ann68 87 Tryz.func68 ?_
   simp only[go_sem,encC_mk,e1]
   refine aCall_intro hN ?_
   simp only[go_sem]
   try (refine ⟨by kernel_rfl,?_⟩;try simp only[go_sem])
   clear hN
   rcases hcase with ⟨q9,q10,q11,q13,e⟩|⟨q9,q10,q11,q13,e⟩|⟨q9,q10,q11,q13,e⟩|⟨q9,q10,q11,q13,e⟩|⟨q9,q10,q11,q13,e⟩
   all_goals
     simp only[go_sem,q9,q10,q11,q13,e,List.length_map]
     clear q9 q10 q11 q13 e
     refine aLoop_list (α:=ConT) (β:=List ConT×Nat) (fun rest b=>⟨[(72,ii b.2),(10,.one (.ptr (.loc 10) 0)),(2,ii dd),(1,pp (.slice (us.map encC))),(70,pp (.slice (l.map encC))),(6,.one (.ptr (.loc 6) 0)),(71,ii l.length)],
         [(.loc 6,⟨.agg 6,.agg [.pv (.int .i64 0),.pv (.int .i64 0),.pv (.str ByteArray.empty),.nilS,.nilS,.nilS]⟩),
          (.loc 10,⟨.agg 6,.agg [.pv (.int .i64 op),.pv (.int .i64 n),.pv (.str s),.pv (.slice (k.map encK)),.pv (.slice (names.map .str)),acc 166 (.agg 6) (b.1.map encC)]⟩)],[]⟩)
       (fun rest b=>∃pre,l=pre++rest∧b.2=pre.length∧b.1.length=pre.length∧replPL us l dd=b.1++replPL us rest dd) ?_ ?_ l ([],0) _ ?_ ⟨[],rfl,rfl,rfl,rfl⟩
     · rintro ⟨out,m⟩ ⟨pre,g1,g2,g3,g4⟩ K
       simp only[List.append_nil] at g1 g2 g3 g4
       subst g1
       simp only[replPL,List.append_nil] at g4
       rw[g4]
       simp only[go_sem,g2,lt_false (Int.le_refl _)]
       cases out with
       |nil=>simp only[go_sem,acc,encC_mk]
       |cons x r=>simp only[go_sem,acc,encC_mk]
     · rintro x rest ⟨out,m⟩ ⟨pre,g1,g2,g3,g4⟩ K hK
       simp only at g2 g3 g4
       have hx:(l.map encC)[m]? = some (encC x):=by simp[g1,g2]
       have hlt:(m:Int)<l.length:=by rw[g1,g2];simp;omega
       have hll:l.length=m+(rest.length+1):=by rw[g1,g2];simp
       have hm:x∈l:=by simp[g1]
       have hw:=wtF_mem hm
       have hd:=depthF_mem hm
       have hI:=ih x hm dd hdd0 (by omega) (.inl (hfm x hm)) (by omega)
       have w4:IntKind.i64.wrap ((m:Int)+1)=((m+1:Nat):Int):=by rw[wrap_id (by omega) (by omega)];simp
       simp only[replPL] at g4
       generalize replP us x dd=y at hI g4
       have hK':=fun s' hs=>hK (out++[y],m+1) s' hs ⟨pre++[x],by simp[g1],by simp[g2],by simp[g3],by rw[g4];simp⟩
       clear hK
       cases out with
       |nil=>
         simp only[go_sem,acc,decide_eq_true hlt,Int.toNat_natCast,Int.natCast_nonneg,hx,encC_sz]
         refine aCall_intro hI ?_
         simp only[go_sem,encC_sz,one_le_maxLen,w4]
         refine ⟨by kernel_rfl,hK' _ ?_⟩
         simp only[go_sem,acc]
       |cons z zs=>
         have hb1:(zs.length+1+1)*104≤140737488355328:=by simp at g3;omega
         have hb2:zs.length+1+1≤maxLen:=by rw[maxLen_eq];simp at g3;omega
         simp only[go_sem,acc,decide_eq_true hlt,Int.toNat_natCast,Int.natCast_nonneg,hx,encC_sz]
         refine aCall_intro hI ?_
         simp only[go_sem,encC_sz,List.length_map,hb1,hb2,w4]
         refine ⟨by kernel_rfl,hK' _ ?_⟩
         simp only[go_sem,acc,List.map_append]
     · simp only[go_sem,acc,List.length_nil,Int.natCast_zero]
theorem subcons1_spec (c:ConT) (h1:sizeF c≤1000000000) (h2:okS c):Spec Tryz.prog 65 [pp (encC c)] [] (.bool (!validF c)) []:=by
 have hV:=Valid_spec c h1 h2
 refine wk (rv:=[.tmp 2]) ann65 6 Tryz.func65 ?_
 simp only[go_sem,encC_sz]
 refine aCall_intro hV ?_
 simp only[go_sem]
theorem subconsAny_spec (l:List ConT) (h:∀c∈l,okCon c):Spec Tryz.prog 59 [pp (.slice (l.map encC)),pp (.fn 65 [])] [] (.bool (!l.all validF)) []:=by
 have ha:(!l.all validF)=(l.any fun x=>!validF x):=by simp[List.all_eq_not_any_not]
 rw[ha]
 exact ContainsFuncC encC l 65 [] _ (fun e _=>encC_sz e) fun x hx=>subcons1_spec x (h x hx).1 (h x hx).2
theorem subcons2_spec (us:List ConT) (hus:∀x∈us,wtF x≤900000000∧okS x) (hul:us.length≤100000000) (c:ConT) (uc ut:Int) (h3:0≤uc) (h4:uc≤1000000) (h5:validF c=true∨c=zeroC) :
  Spec Tryz.prog 67 (pp (encC c)::pp (uEnc uc ut)::[capL us].map pp) [] (.tuple [encC (repCf us c uc ut).1,.int .i64 (repCf us c uc ut).2]) []:=by
 have hdw:depthF c≤400∧wtF c≤900000000:=by
  rcases h5 with h|rfl
  ·exact valid_dw h
  ·decide
 have hR:=replace_spec us hus hul c uc h3 (by omega) (h5.imp validF_formed id) hdw.2
 rw[repCf]
 generalize replP us c uc=r at hR
 refine wk (rv:=[.cell 5 28,.tmp 6]) ann67 12 Tryz.func67 ?_
 simp only[go_sem,capL,uEnc,encC_sz,List.map_cons,List.map_nil]
 refine aCall_intro hR ?_
 simp only[go_sem,encC_sz]
theorem subcons3_spec (n uc ut:Int):Spec Tryz.prog 69 (ii n::pp (uEnc uc ut)::([]:List PV).map pp) [] (.tuple [encT (idVf n uc ut).1,.int .i64 (idVf n uc ut).2]) []:=by
 rw[idVf,encT_var]
 refine wk (rv:=[.cell 4 31,.tmp 5]) ann69 8 Tryz.func69 ?_
 simp only[go_sem,uEnc,List.map_nil]
theorem tSubstCons_specV (t:TermT) (us:List ConT) (hok:okT t) (hus:∀x∈us,wtF x≤900000000∧okS x) (hul:us.length≤100000000):Spec Tryz.prog 21 [pp (encT t),pp (.slice (us.map encC))] [] (.tuple [encT (SubstConsT t us).1,.int .i64 (SubstConsT t us).2]) []:=by
 have hV:=tValid_spec t hok
 have hA:=subconsAny_spec us fun x hx=>⟨by have:=sizeF_wt x;have:=(hus x hx).1;omega,(hus x hx).2⟩
 rw[SubstConsT]
 cases hv:validT t with
 |false=>
  rw[hv] at hV
  rw[if_pos (.inl rfl),encT_zero]
  refine wk (rv:=[.cell 4 31,.tmp 5]) ann21 30 Tryz.func21 ?_
  simp only[go_sem,encT_sz]
  refine aCall_intro hV ?_
  simp only[go_sem]
 |true=>
  rw[hv] at hV
  cases hv':us.all validF with
  |false=>
   rw[hv'] at hA
   rw[if_pos (.inr rfl),encT_zero]
   refine wk (rv:=[.cell 4 31,.tmp 5]) ann21 30 Tryz.func21 ?_
   simp only[go_sem,encT_sz]
   refine aCall_intro hV ?_
   simp only[go_sem,encT_sz]
   refine aCall_intro hA ?_
   simp only[go_sem]
  |true=>
   rw[hv'] at hA
   rw[if_neg (by rintro (e|e)<;>cases e)]
   by_cases hl:us.length>1000
   ·rw[if_pos hl,encT_zero]
    have d1:decide ((us.length:Int)>1000)=true:=decide_eq_true (by omega)
    refine wk (rv:=[.cell 4 31,.tmp 5]) ann21 30 Tryz.func21 ?_
    simp only[go_sem,encT_sz]
    refine aCall_intro hV ?_
    simp only[go_sem,encT_sz]
    refine aCall_intro hA ?_
    simp only[go_sem,List.length_map,d1]
   ·rw[if_neg hl]
    have d1:decide ((us.length:Int)>1000)=false:=decide_eq_false (by omega)
    obtain ⟨hwf,hd⟩:=valid_wf hv
    have hC:=change_spec 67 69 [capL us] [] (repCf us) idVf (fun c uc ut _ g3 g4 g5=>subcons2_spec us hus hul c uc ut g3 g4 g5) (fun n uc ut _ _ _ _ _ _=>subcons3_spec n uc ut) t 0 0 hwf hok (by decide) (by omega) (by decide) (by omega)
    have hFi:=finish_spec (chT (repCf us) idVf t 0 0) (subCT_ok us (fun x hx=>(hus x hx).2) t hok hwf)
    generalize chT (repCf us) idVf t 0 0=r at hC hFi
    simp only[capL] at hC
    refine wk (rv:=[.cell 4 31,.tmp 5]) ann21 30 Tryz.func21 ?_
    simp only[go_sem,encT_sz]
    refine aCall_intro hV ?_
    simp only[go_sem,encT_sz]
    refine aCall_intro hA ?_
    simp only[go_sem,encT_sz,List.length_map,d1]
    try (refine ⟨by kernel_rfl,?_⟩;try simp only[go_sem,encT_sz])
    refine aCall_intro hC ?_
    simp only[go_sem,encT_sz]
    try (refine ⟨by kernel_rfl,?_⟩;try simp only[go_sem,encT_sz])
    refine aCall_intro hFi ?_
    simp only[go_sem,encT_sz]
    try (first|kernel_rfl | (refine ⟨by kernel_rfl,?_⟩;try simp only[go_sem,encT_sz]))
/-! How great what is made is -/
def okwc (t:TermT):Prop:=okT t∧wcT t
mutual
theorem mapT_okwc {cf:ConT→Int→ConT}{vf:Int→Int→Int→TermT}(hc:∀c u,wtF c≤900000000→okS c→wtF (cf c u)≤900000000∧okS (cf c u)) (hv:∀n u w,okwc (vf n u w)) :
  ∀(t:TermT) (u w:Int),okT t→wcT t→okwc (mapT cf vf t u w)
 | .mk op n s con to k names l,u,w,hok,hwc=>by
  have hz:wtF zeroC≤900000000∧okS zeroC:=⟨by decide,okS_zero⟩
  simp only[okT] at hok
  simp only[wcT] at hwc
  rw[mapT]
  by_cases ho:op=1
  ·rw[if_pos ho];exact hv n u w
  ·rw[if_neg ho]
   have hL:=mapTL_okwc hc hv op l 0 u w hok.2.2.2.2.2.2.2 hwc.2.2
   have hC:wtF (if hasConF op=true then cf con u else zeroC)≤900000000∧okS (if hasConF op=true then cf con u else zeroC):=by
    split
    ·exact hc con u hwc.1 hok.2.1.2
    ·exact hz
   have hT:wtF (if op=8 then cf to u else zeroC)≤900000000∧okS (if op=8 then cf to u else zeroC):=by
    split
    ·exact hc to u hwc.2.1 hok.2.2.1.2
    ·exact hz
   generalize (if hasConF op=true then cf con u else zeroC)=c' at hC
   generalize (if op=8 then cf to u else zeroC)=t' at hT
   have s1:=sizeF_wt c'
   have s2:=sizeF_wt t'
   constructor
   ·simp only[okT]
    refine ⟨hok.1,⟨by omega,hC.2⟩,⟨by omega,hT.2⟩,hok.2.2.2.1,hok.2.2.2.2.1,hok.2.2.2.2.2.1,?_,hL.1⟩
    rw[mapTL_len];exact hok.2.2.2.2.2.2.1
   ·simp only[wcT]
    exact ⟨hC.1,hT.1,hL.2⟩
theorem mapTL_okwc {cf:ConT→Int→ConT}{vf:Int→Int→Int→TermT}(hc:∀c u,wtF c≤900000000→okS c→wtF (cf c u)≤900000000∧okS (cf c u)) (hv:∀n u w,okwc (vf n u w)) (op:Int) :
  ∀(l:List TermT) (i:Nat) (u w:Int),okTs l→wcTs l→okTs (mapTL cf vf op l i u w)∧wcTs (mapTL cf vf op l i u w)
 | [],i,u,w,_,_=>by rw[mapTL];exact ⟨trivial,trivial⟩
 |x::r,i,u,w,hok,hwc=>by
  simp only[okTs] at hok
  simp only[wcTs] at hwc
  have h1:=mapT_okwc hc hv x (u+insC op i) (w+insT op i) hok.1 hwc.1
  have h2:=mapTL_okwc hc hv op r (i+1) u w hok.2 hwc.2
  rw[mapTL]
  simp only[okTs,wcTs]
  exact ⟨⟨h1.1,h2.1⟩,h1.2,h2.2⟩
end
theorem wcT_varT (n:Int):wcT (varT n):=by
 simp only[varT,wcT,wcTs]
 exact ⟨by decide,by decide,trivial⟩
theorem okwc_var (n:Int):okwc (varT n):=⟨okT_var n,wcT_varT n⟩
theorem csh_okwc (n:Int) (c:ConT) (u:Int) (h1:wtF c≤900000000) (h2:okS c):wtF (cshM n c u)≤900000000∧okS (cshM n c u):=by
 rw[cshM]
 exact ⟨Nat.le_trans (wt_shift n 0 c u) h1,mapF_okS _ c u h2 fun x b hx=>okS_shiftLeaf n 0 x b ((leaves_mem c u x b hx).2.1 h2)⟩
theorem shM_okwc (n m:Int) {t:TermT}(h1:okT t) (h2:wcT t):okwc (shM n m t):=
 mapT_okwc (csh_okwc n) (fun _ _ _=>okwc_var _) t 0 0 h1 h2
/-! Free variables -/
theorem mem_aboveF {c:ConT}(h:validF c=true) {u:Int}(hu:0≤u) {i:Int}:i∈above (freeF c) u↔∃x b,(x,b)∈leaves c 0∧x.op=1∧x.n - b≥u∧i=x.n - b - u:=by
 rw[mem_above]
 constructor
 ·rintro ⟨k,h1,h2,rfl⟩
  obtain ⟨x,b,e1,e2,e3,rfl⟩:=mem_freeL.1 ((mem_freeF h).1 h1)
  exact ⟨x,b,e1,e2,h2,rfl⟩
 ·rintro ⟨x,b,e1,e2,e3,rfl⟩
  exact ⟨x.n - b,(mem_freeF h).2 (mem_freeL.2 ⟨x,b,e1,e2,by omega,rfl⟩),e3,rfl⟩
theorem mem_above1 {a w i:Int}:i∈above [a] w↔a≥w∧i=a - w:=by
 rw[mem_above]
 constructor
 ·rintro ⟨n,h,h1,h2⟩
  rw[List.mem_singleton] at h
  subst h
  exact ⟨h1,h2⟩
 ·rintro ⟨h1,h2⟩
  exact ⟨a,by simp,h1,h2⟩
theorem head_nonneg {l:List Int}{n:Int}(h:∀i∈l,0≤i+n):headLt l n=false:=by
 cases l with
 |nil=>rfl
 |cons x r=>
  rw[headLt]
  have:=h x (by simp)
  exact decide_eq_false (by omega)
/-! A closed term that is substituted -/
theorem meas_leaf {op n:Int}(h:nodeT op n ByteArray.empty zeroC zeroC [] [] 0=true) (hh:hasConF op=false) (left depth:Int):measT (.mk op n ByteArray.empty zeroC zeroC [] [] []) left depth=if left≤0∨depth>400 then (0,false) else (1,decide (1≤left)):=by
 rw[measT,List.length_nil,h]
 have e8:op≠8:=fun e=>by subst e;revert hh;decide
 by_cases h1:left≤0∨depth>400
 ·rw[if_pos h1,if_pos (by omega)]
 ·rw[if_neg h1,if_neg (by rintro (e|e|e);exact h1 (.inl e);exact h1 (.inr e);cases e),hh,if_neg (by decide),if_neg e8,measTL]
  rfl
def accQ:Bool→List PV→SC
 |true,l=>acc 54 .one l
 |false,l=>acc 80 .one l
theorem accQ_t (l:List PV):accQ true l=acc 54 .one l:=rfl
theorem accQ_f (l:List PV):accQ false l=acc 80 .one l:=rfl
theorem rAdd_spec (l:List Int) (n:Int) (hl:l.length≤1000000000):Spec Tryz.prog 243 [pp (.slice (ints l)),ii n] [] (.slice (ints (addL n l false))) []:=by
 generalize hres:addL n l false=res
 refine wk (rv:=[.tmp 4]) ann243 48 Tryz.func243 ?_
 simp only[go_sem]
 refine aLoop_list (α:=Int) (β:=Nat×(Bool×List Int)×Bool) (fun rest b=>⟨[(7,ii b.1),(0,pp (.slice (ints l))),(1,ii n),(5,.one (accQ b.2.1.1 (ints b.2.1.2))),(6,bb b.2.2)],[],[]⟩)
  (fun rest b=>∃pre,l=pre++rest∧b.1=pre.length∧b.2.1.2.length≤2*pre.length∧b.2.1.2++addL n rest b.2.2=res) ?_ ?_ l (0,(true,[]),false) _ ?_ ⟨[],rfl,rfl,Nat.le_refl _,by rw[List.nil_append];exact hres⟩
 ·rintro ⟨m,⟨t,cur⟩,d⟩ ⟨pre,g1,g2,g3,g4⟩ K
  cases t
  all_goals
   simp only[List.append_nil] at g1 g2 g3
   subst g1
   rw[addL] at g4
   try simp only at g3
   have hb1:(cur.length+1)*8≤140737488355328:=by omega
   have hb2:cur.length+1≤maxLen:=by rw[maxLen_eq];omega
   cases d with
   |true=>
    simp only[if_true,List.append_nil] at g4
    subst g4
    cases cur<;>simp only[go_sem,g2,lt_false (Int.le_refl _),List.length_map,accQ_t,accQ_f,acc,List.map_nil,List.map_cons]
   |false=>
    simp only[Bool.false_eq_true,if_false] at g4
    subst g4
    cases cur with
    |nil=>simp only[go_sem,g2,lt_false (Int.le_refl _),List.length_map,accQ_t,accQ_f,acc,List.map_nil,List.map_cons,List.nil_append,one_le_maxLen]
    |cons c0 cr=>
     simp only[List.length_cons] at hb1 hb2
     simp only[go_sem,g2,lt_false (Int.le_refl _),List.length_map,accQ_t,accQ_f,acc,List.map_cons,List.map_append,List.map_nil,List.cons_append,hb1,hb2]
 ·rintro x rest ⟨m,⟨t,cur⟩,d⟩ ⟨pre,g1,g2,g3,g4⟩ K hK
  simp only at g2 g3 g4
  have hx:(ints l)[m]? = some (.int .i64 x):=by simp[g1,g2]
  have hlt:(m:Int)<l.length:=by rw[g1,g2];simp;omega
  have hll:m<l.length:=by rw[g1,g2];simp
  have w4:IntKind.i64.wrap ((m:Int)+1)=((m+1:Nat):Int):=by rw[wrap_id (by omega) (by omega)];simp
  have hb1:(cur.length+1)*8≤140737488355328:=by omega
  have hb2:cur.length+1≤maxLen:=by rw[maxLen_eq];omega
  have hb3:(cur.length+1+1)*8≤140737488355328:=by omega
  have hb4:cur.length+1+1≤maxLen:=by rw[maxLen_eq];omega
  have h2le:2≤maxLen:=by rw[maxLen_eq];decide
  rw[addL] at g4
  have hK':=fun (t':Bool) (c':List Int) (d':Bool) (hl:c'.length≤cur.length+2) (e:c'++addL n rest d'=res) s' hs=>hK (m+1,(t',c'),d') s' hs ⟨pre++[x],by simp[g1],by simp[g2],by simp only[List.length_append,List.length_singleton];omega,e⟩
  clear hK
  cases t
  all_goals
   by_cases hn:x=n
   ·have hne:(x != n)=false:=by simp[hn]
    have hge:decide (x≥n)=true:=decide_eq_true (by omega)
    rw[show (if x≠n then [x] else [])=[] from if_neg (fun h=>h hn),List.nil_append,hge,Bool.or_true] at g4
    cases d with
    |true=>
     rw[if_neg (by rintro ⟨e,_⟩;cases e),List.nil_append] at g4
     cases cur<;>(
      simp only[go_sem,decide_eq_true hlt,Int.toNat_natCast,Int.natCast_nonneg,hx,hne,hge,accQ_t,accQ_f,acc,List.map_nil,List.map_cons,List.length_map,w4]
      first
       | (refine hK' true _ true (by omega) g4 _ ?_;simp only[go_sem,accQ_t,accQ_f,acc,List.map_nil,List.map_cons];done)
       | (refine hK' false _ true (by omega) g4 _ ?_;simp only[go_sem,accQ_t,accQ_f,acc,List.map_nil,List.map_cons]))
    |false=>
     rw[if_pos ⟨rfl,by omega⟩] at g4
     cases cur with
     |nil=>
      simp only[go_sem,decide_eq_true hlt,Int.toNat_natCast,Int.natCast_nonneg,hx,hne,hge,accQ_t,accQ_f,acc,List.map_nil,List.map_cons,List.length_map,w4,one_le_maxLen]
      refine hK' true ([]++[n]) true (by simp) (by simpa using g4) _ ?_
      simp only[go_sem,accQ_t,accQ_f,acc,List.map_nil,List.map_cons,List.nil_append]
     |cons c0 cr=>
      simp only[List.length_cons] at hb1 hb2
      simp only[go_sem,decide_eq_true hlt,Int.toNat_natCast,Int.natCast_nonneg,hx,hne,hge,accQ_t,accQ_f,acc,List.map_nil,List.map_cons,List.length_map,w4,hb1,hb2]
      refine hK' true (c0::cr++[n]) true (by simp) (by simpa using g4) _ ?_
      simp only[go_sem,accQ_t,accQ_f,acc,List.map_nil,List.map_cons,List.map_append,List.cons_append]
   ·have hne:(x != n)=true:=by simp[hn]
    rw[if_pos hn] at g4
    by_cases hge:x≥n
    ·have hge':decide (x≥n)=true:=decide_eq_true hge
     rw[hge',Bool.or_true] at g4
     cases d with
     |true=>
      rw[if_neg (by rintro ⟨e,_⟩;cases e),List.nil_append] at g4
      cases cur with
      |nil=>
       simp only[go_sem,decide_eq_true hlt,Int.toNat_natCast,Int.natCast_nonneg,hx,hne,hge',accQ_t,accQ_f,acc,List.map_nil,List.map_cons,List.length_map,w4,one_le_maxLen]
       refine hK' false ([]++[x]) true (by simp) (by simpa using g4) _ ?_
       simp only[go_sem,accQ_t,accQ_f,acc,List.map_nil,List.map_cons,List.nil_append]
      |cons c0 cr=>
       simp only[List.length_cons] at hb1 hb2
       simp only[go_sem,decide_eq_true hlt,Int.toNat_natCast,Int.natCast_nonneg,hx,hne,hge',accQ_t,accQ_f,acc,List.map_nil,List.map_cons,List.length_map,w4,hb1,hb2]
       refine hK' false (c0::cr++[x]) true (by simp) (by simpa using g4) _ ?_
       simp only[go_sem,accQ_t,accQ_f,acc,List.map_nil,List.map_cons,List.map_append,List.cons_append]
     |false=>
      rw[if_pos ⟨rfl,by omega⟩] at g4
      cases cur with
      |nil=>
       simp only[go_sem,decide_eq_true hlt,Int.toNat_natCast,Int.natCast_nonneg,hx,hne,hge',accQ_t,accQ_f,acc,List.map_nil,List.map_cons,List.length_map,w4,one_le_maxLen,h2le]
       refine hK' false ([]++[n]++[x]) true (by simp) (by simpa using g4) _ ?_
       simp only[go_sem,accQ_t,accQ_f,acc,List.map_nil,List.map_cons,List.nil_append,List.cons_append]
      |cons c0 cr=>
       simp only[List.length_cons] at hb1 hb2 hb3 hb4
       simp only[go_sem,decide_eq_true hlt,Int.toNat_natCast,Int.natCast_nonneg,hx,hne,hge',accQ_t,accQ_f,acc,List.map_nil,List.map_cons,List.length_map,List.length_append,w4,hb1,hb2,hb3,hb4]
       refine hK' false (c0::cr++[n]++[x]) true (by simp) (by simpa using g4) _ ?_
       simp only[go_sem,accQ_t,accQ_f,acc,List.map_nil,List.map_cons,List.map_append,List.cons_append]
    ·have hge':decide (x≥n)=false:=decide_eq_false hge
     rw[hge',Bool.or_false,if_neg (fun e=>hge e.2),List.nil_append] at g4
     cases d<;>(cases cur with
      |nil=>
       simp only[go_sem,decide_eq_true hlt,Int.toNat_natCast,Int.natCast_nonneg,hx,hne,hge',accQ_t,accQ_f,acc,List.map_nil,List.map_cons,List.length_map,w4,one_le_maxLen]
       refine hK' false ([]++[x]) _ (by simp) (by simpa using g4) _ ?_
       simp only[go_sem,accQ_t,accQ_f,acc,List.map_nil,List.map_cons,List.nil_append]
      |cons c0 cr=>
       simp only[List.length_cons] at hb1 hb2
       simp only[go_sem,decide_eq_true hlt,Int.toNat_natCast,Int.natCast_nonneg,hx,hne,hge',accQ_t,accQ_f,acc,List.map_nil,List.map_cons,List.length_map,w4,hb1,hb2]
       refine hK' false (c0::cr++[x]) _ (by simp) (by simpa using g4) _ ?_
       simp only[go_sem,accQ_t,accQ_f,acc,List.map_nil,List.map_cons,List.map_append,List.cons_append])
 ·simp only[go_sem,Int.natCast_zero,accQ_t,accQ_f,acc,List.map_nil]
theorem ints_all (l:List Int):((ints l).all fun x=>PV.hasSz .one x)=true:=by
 rw[List.all_eq_true]
 intro x hx
 obtain ⟨n,_,rfl⟩:=List.mem_map.1 hx
 rfl
theorem tAdd_spec (l:List Int) (n:Int) (hl:l.length≤1000000000):Spec Tryz.prog 191 [pp (.slice (ints l)),ii n] [] (.slice (ints (insU n l))) []:=by
 generalize hres:insU n l=res
 refine wk (rv:=[.tmp 4]) ann191 48 Tryz.func191 ?_
 simp only[go_sem]
 refine aLoop_list (α:=Int) (β:=Nat) (fun rest b=>⟨[(5,ii b),(0,pp (.slice (ints l))),(1,ii n)],[],[]⟩)
  (fun rest b=>∃pre,l=pre++rest∧b=pre.length∧pre++insU n rest=res) ?_ ?_ l 0 _ ?_ ⟨[],rfl,rfl,by rw[List.nil_append];exact hres⟩
 ·rintro m ⟨pre,g1,g2,g4⟩ K
  simp only[List.append_nil] at g1
  subst g1
  rw[insU] at g4
  subst g4
  rcases l with _|⟨y,q⟩
  ·obtain rfl:m=0:=g2
   have c0:(((0:Nat):Int))=0:=rfl
   simp only[go_sem,c0,lt_false (Int.le_refl _),List.length_nil,List.map_nil,Int.le_refl,Int.reduceToNat,List.take_nil,List.drop_nil,List.nil_append,List.map_cons,one_le_maxLen,Nat.zero_le,Nat.zero_mul,Nat.zero_add]
   try (refine ⟨by kernel_rfl,?_⟩;try simp only[go_sem,c0,List.nil_append,one_le_maxLen,List.length_nil,List.map_nil,Int.le_refl,Int.reduceToNat,List.take_nil,List.drop_nil,Nat.zero_le,Nat.zero_mul,Nat.zero_add])
  ·have hta:List.take q.length (ints q)=ints q:=List.take_of_length_le (by simp)
   have hdr:List.drop q.length (ints q)=[]:=by simp
   rw[List.length_cons] at g2 hl
   have t1:((0:Int)≤((q.length+1:Nat):Int))=True:=eq_true (by omega)
   have t2:(((q.length+1:Nat):Int)≤((q.length+1:Nat):Int))=True:=eq_true (Int.le_refl _)
   have hb1:(q.length+1)*8≤140737488355328:=by omega
   have hb2:q.length+1≤maxLen:=by rw[maxLen_eq];omega
   have hb3:(q.length+1+1)*8≤140737488355328:=by omega
   have hb4:q.length+1+1≤maxLen:=by rw[maxLen_eq];omega
   simp only[go_sem,g2,lt_false (Int.le_refl _),List.length_map,List.length_cons,ints_all,t1,t2,Int.toNat_natCast,hta,hdr,hb1,hb2,hb3,hb4,List.map_append,List.map_nil,List.map_cons,List.length_append,List.drop_zero,List.cons_append]
 ·rintro x rest m ⟨pre,g1,g2,g4⟩ K hK
  have hx:(ints l)[m]? = some (.int .i64 x):=by simp[g1,g2]
  have hlt:(m:Int)<l.length:=by rw[g1,g2];simp;omega
  have hll:m<l.length:=by rw[g1,g2];simp
  have w4:IntKind.i64.wrap ((m:Int)+1)=((m+1:Nat):Int):=by rw[wrap_id (by omega) (by omega)];simp
  rw[insU] at g4
  by_cases h1:x<n
  ·rw[if_neg (by omega),if_neg (by omega)] at g4
   simp only[go_sem,decide_eq_true hlt,decide_eq_true h1,Int.toNat_natCast,Int.natCast_nonneg,hx,List.length_map,w4]
   refine hK (m+1) _ ?_ ⟨pre++[x],by simp[g1],by simp[g2],by rw[←g4];simp⟩
   simp only[go_sem]
  ·by_cases h2:x=n
   ·subst h2
    rw[if_neg (by omega),if_pos rfl,←g1] at g4
    subst g4
    simp only[go_sem,decide_eq_true hlt,decide_eq_false h1,Int.toNat_natCast,Int.natCast_nonneg,hx,List.length_map]
   ·rw[if_pos (by omega)] at g4
    have hne:(x==n)=false:=by simp[h2]
    subst g4
    have hta:List.take m (ints l)=ints pre:=by simp[g1,g2]
    have hdr:List.drop m (ints l)=ints (x::rest):=by simp[g1,g2]
    have htl:List.take l.length (ints l)=ints l:=List.take_of_length_le (by simp)
    have t1:((0:Int)≤(m:Int))=True:=eq_true (by omega)
    have t2:((m:Int)≤(l.length:Int))=True:=eq_true (by omega)
    have t3:((l.length:Int)≤(l.length:Int))=True:=eq_true (Int.le_refl _)
    have hl2:l.length=pre.length+(rest.length+1):=by rw[g1];simp
    have hb1:pre.length*8≤140737488355328:=by omega
    have hb2:pre.length≤maxLen:=by rw[maxLen_eq];omega
    have hb3:(pre.length+1)*8≤140737488355328:=by omega
    have hb4:pre.length+1≤maxLen:=by rw[maxLen_eq];omega
    have hb5:(pre.length+1+(rest.length+1))*8≤140737488355328:=by omega
    have hb6:pre.length+1+(rest.length+1)≤maxLen:=by rw[maxLen_eq];omega
    simp only[go_sem,decide_eq_true hlt,decide_eq_false h1,hne,Int.toNat_natCast,Int.natCast_nonneg,hx,List.length_map,ints_all,t1,t2,t3,hta,hdr,htl,hb1,hb2,hb3,hb4,hb5,hb6,List.map_append,List.map_nil,List.map_cons,List.length_append,List.length_cons,List.drop_zero,List.append_assoc]
    rcases pre with _|⟨y,q⟩
    ·rw[List.length_nil,Nat.zero_add] at hb3 hb4 hb5 hb6
     simp only[go_sem,hx,ints_all,t1,t2,t3,hta,hdr,htl,Int.toNat_natCast,Int.natCast_nonneg,List.length_map,List.map_nil,List.nil_append,List.map_cons,one_le_maxLen,List.length_nil,Nat.zero_add,List.length_cons,List.cons_append,hb3,hb4,hb5,hb6]
     try (refine ⟨by kernel_rfl,?_⟩;try simp only[go_sem,hx,ints_all,t1,t2,t3,hta,hdr,htl,Int.toNat_natCast,Int.natCast_nonneg,List.length_map,List.nil_append,one_le_maxLen,List.length_cons,List.cons_append,hb5,hb6])
    ·rw[List.length_cons] at hb3 hb4 hb5 hb6
     simp only[go_sem,hx,ints_all,t1,t2,t3,hta,hdr,htl,Int.toNat_natCast,Int.natCast_nonneg,List.length_map,List.map_nil,List.map_cons,List.length_cons,hb3,hb4,hb5,hb6,List.cons_append,List.map_append,List.length_append,List.nil_append,List.append_assoc]
 ·simp only[go_sem,Int.natCast_zero]
theorem insU_len (n:Int):∀l:List Int,(insU n l).length≤l.length+1
 | []=>by rw[insU];simp
 |x::r=>by
  rw[insU]
  split
  ·simp
  ·split
   ·simp
   ·have:=insU_len n r
    rw[List.length_cons,List.length_cons];omega
theorem insAll_len (l:List Int):∀acc:List Int,(insAll acc l).length≤acc.length+l.length:=by
 induction l with
 |nil=>intro acc;simp[insAll]
 |cons x r ih=>
  intro acc
  have h1:=ih (insU x acc)
  have h2:=insU_len x acc
  simp only[insAll,List.foldl_cons,List.length_cons] at h1 ⊢
  omega
theorem insAll_asc (l acc:List Int) (h:acc.Pairwise (· < ·)):(insAll acc l).Pairwise (· < ·):=foldU_asc l acc h
theorem insAll_append (a b c:List Int):insAll a (b++c)=insAll (insAll a b) c:=List.foldl_append
theorem merge_spec (l m:List Int) (u:Int) (hl:l.length+m.length≤1000000000) (hm:∀x∈m,0≤x∧x≤1000000) (h1:0≤u) (h2:u≤1000000000) :
  Spec Tryz.prog 188 [pp (.slice (ints l)),pp (.slice (ints m)),ii u] [] (.slice (ints (insAll l (above m u)))) []:=by
 generalize hres:insAll l (above m u)=res
 refine wk (rv:=[.tmp 6]) ann188 29 Tryz.func188 ?_
 simp only[go_sem]
 refine aLoop_list (α:=Int) (β:=Nat×List Int) (fun rest b=>⟨[(7,ii b.1),(2,ii u),(1,pp (.slice (ints m))),(0,pp (.slice (ints b.2)))],[],[]⟩)
  (fun rest b=>∃pre,m=pre++rest∧b.1=pre.length∧b.2.length+rest.length≤1000000000∧insAll b.2 (above rest u)=res) ?_ ?_ m (0,l) _ ?_ ⟨[],rfl,rfl,hl,hres⟩
 ·rintro ⟨i,cur⟩ ⟨pre,g1,g2,g3,g4⟩ K
  simp only[List.append_nil] at g1 g2
  subst g1
  simp only[above,List.filterMap_nil,List.foldl_nil] at g4
  subst g4
  simp only[go_sem,g2,lt_false (Int.le_refl _),List.length_map]
 ·rintro x rest ⟨i,cur⟩ ⟨pre,g1,g2,g3,g4⟩ K hK
  simp only at g2 g3 g4
  have hx:(ints m)[i]? = some (.int .i64 x):=by simp[g1,g2]
  have hlt:(i:Int)<m.length:=by rw[g1,g2];simp;omega
  have hll:i<m.length:=by rw[g1,g2];simp
  have hml:m.length≤1000000000:=by omega
  have w4:IntKind.i64.wrap ((i:Int)+1)=((i+1:Nat):Int):=by rw[wrap_id (by omega) (by omega)];simp
  obtain ⟨x1,x2⟩:=hm x (by simp[g1])
  have w5:IntKind.i64.wrap (x - u)=x - u:=wrap_id (by omega) (by omega)
  rw[above_cons] at g4
  by_cases h:x≥u
  ·rw[if_pos h,insAll_append] at g4
   have hA:=tAdd_spec cur (x - u) (by omega)
   have hln:=insU_len (x - u) cur
   simp only[go_sem,decide_eq_true hlt,decide_eq_true h,Int.toNat_natCast,Int.natCast_nonneg,hx,List.length_map,w5]
   refine aCall_intro hA ?_
   simp only[go_sem,w4]
   refine hK (i+1,insU (x - u) cur) _ ?_ ⟨pre++[x],by simp[g1],by simp[g2],by simp only[List.length_cons] at g3;simp only;omega,g4⟩
   simp only[go_sem]
  ·rw[if_neg h,List.nil_append] at g4
   simp only[go_sem,decide_eq_true hlt,decide_eq_false h,Int.toNat_natCast,Int.natCast_nonneg,hx,List.length_map,w4]
   refine hK (i+1,cur) _ ?_ ⟨pre++[x],by simp[g1],by simp[g2],by simp only[List.length_cons] at g3;simp only;omega,g4⟩
   simp only[go_sem]
 ·simp only[go_sem,Int.natCast_zero]
theorem rfree_spec (c:ConT):∀(acc:List Int) (d:Int),formedF c=true→acc.Pairwise (· < ·)→0≤d→d+depthF c≤100000000→acc.length+wtF c≤900000000 →
  Spec Tryz.prog 219 [pp (.slice (ints acc)),pp (encC c),ii d] [] (.slice (ints (insAll acc (rfreeA c d)))) []:=by
 revert c
 refine ConT.ind1 fun op n s k names l ih=>?_
 intro acc d hf hasc h1 h2 h3
 rw[depthF] at h2
 rw[wtF] at h3
 have hn:=formed_n hf
 replace hn:0≤n∧n≤20000:=hn
 have hd:=deep_spec op n s k names l d h1 (by omega)
 by_cases hop:op=1
 ·subst hop
  have hl:=leaf_nil hf (.inl rfl)
  subst hl
  rw[rfreeA_var]
  by_cases hge:n≥d
  ·rw[if_pos hge]
   have hA:=rAdd_spec acc (n - d) (by omega)
   rw[addL_insU _ _ hasc] at hA
   have w1:IntKind.i64.wrap (n - d)=n - d:=wrap_id (by omega) (by omega)
   rw[show insAll acc [n - d]=insU (n - d) acc from rfl]
   refine wf (rv:=[.tmp 6]) ann219 41 Tryz.func219 fun hfit=>?_
   clear hfit ih hd
   simp only[go_sem,encC_mk,decide_eq_true hge,w1]
   refine aCall_intro hA ?_
   simp only[go_sem]
  ·rw[if_neg hge]
   rw[show insAll acc []=acc from rfl]
   refine wf (rv:=[.tmp 6]) ann219 41 Tryz.func219 fun hfit=>?_
   clear hfit ih hd
   simp only[go_sem,encC_mk,decide_eq_false hge,List.map_nil]
   refine ⟨1,?_⟩
   rw[aLoop_succ]
   simp only[go_sem,List.map_nil,List.length_nil,Int.natCast_zero,lt_false (Int.le_refl _)]
 ·have e1:(op==1)=false:=by simp[hop]
  have hfm:formedL l=true:=by rw[formedF,Bool.and_eq_true] at hf;exact hf.2
  rw[formedL_all] at hfm
  rw[rfreeA_node hf hop]
  have hdd:0≤deepF op d∧deepF op d≤d+1:=by rw[deepF];split<;>omega
  generalize deepF op d=dd at hd hdd
  generalize hres:insAll acc (rfreeAL l dd)=res
  have hwl:=wtL_len l
  refine wk (rv:=[.tmp 6]) ann219 41 Tryz.func219 ?_
  simp only[go_sem,encC_mk,e1]
  refine aLoop_list (α:=ConT) (β:=Nat×List Int) (fun rest b=>⟨[(7,ii b.1),(2,ii d),(4,pp (.ep (rawC op n s k names l) 0)),(0,pp (.slice (ints b.2)))],[],[]⟩)
   (fun rest b=>∃pre,l=pre++rest∧b.1=pre.length∧b.2.Pairwise (· < ·)∧b.2.length+wtL rest≤900000000∧insAll b.2 (rfreeAL rest dd)=res) ?_ ?_ l (0,acc) _ ?_ ⟨[],rfl,rfl,hasc,by simp only;omega,hres⟩
  ·rintro ⟨i,cur⟩ ⟨pre,g1,g2,g3,g5,g4⟩ K
   simp only[List.append_nil] at g1 g2
   subst g1
   rw[show rfreeAL [] dd=[] from by rw[rfreeAL,leavesL];rfl] at g4
   simp only[insAll,List.foldl_nil] at g4
   subst g4
   simp only[go_sem,g2,lt_false (Int.le_refl _),List.length_map]
  ·rintro x rest ⟨i,cur⟩ ⟨pre,g1,g2,g3,g5,g4⟩ K hK
   simp only at g2 g3 g4 g5
   have hx:(l.map encC)[i]? = some (encC x):=by simp[g1,g2]
   have hlt:(i:Int)<l.length:=by rw[g1,g2];simp;omega
   have hll:i<l.length:=by rw[g1,g2];simp
   have hm:x∈l:=by simp[g1]
   have hml:l.length≤900000000:=by omega
   have w4:IntKind.i64.wrap ((i:Int)+1)=((i+1:Nat):Int):=by rw[wrap_id (by omega) (by omega)];simp
   have hdx:=depthF_mem hm
   have hfx:=List.all_eq_true.1 hfm x hm
   rw[wtL] at g5
   have hI:=ih x hm cur dd hfx g3 (by omega) (by omega) (by omega)
   have hln:=rfreeA_len x dd hfx
   have hln2:=insAll_len (rfreeA x dd) cur
   rw[rfreeAL_cons,insAll_append] at g4
   have hasc2:=insAll_asc (rfreeA x dd) cur g3
   have hK':=fun s' hs=>hK (i+1,insAll cur (rfreeA x dd)) s' hs ⟨pre++[x],by simp[g1],by simp[g2],hasc2,by simp only;omega,g4⟩
   clear hK
   generalize insAll cur (rfreeA x dd)=cur2 at hI hK'
   simp only[go_sem,decide_eq_true hlt,Int.toNat_natCast,Int.natCast_nonneg,hx,List.length_map,encC_sz]
   refine aCall_intro hd ?_
   simp only[go_sem]
   refine aCall_intro hI ?_
   simp only[go_sem,w4]
   refine hK' _ ?_
   simp only[go_sem]
  ·simp only[go_sem,Int.natCast_zero]
theorem rFree_spec (c:ConT) (hf:formedF c=true) (h1:depthF c≤100000000) (h2:wtF c≤900000000):Spec Tryz.prog 189 [pp (encC c)] [] (.slice (ints (sortU (freeL c)))) []:=by
 have hF:=rfree_spec c [] 0 hf List.Pairwise.nil (by decide) (by omega) (by simpa using h2)
 rw[show insAll [] (rfreeA c 0)=sortU (freeL c) from by rw[rfreeA_0];rfl] at hF
 generalize sortU (freeL c)=res at hF
 simp only[ints,List.map_nil] at hF
 refine wk (rv:=[.tmp 2]) ann189 5 Tryz.func189 ?_
 simp only[go_sem,encC_sz]
 refine aCall_intro hF ?_
 simp only[go_sem]
end Go.Abs.Kon