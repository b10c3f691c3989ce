/- The reference's shifting and substituting; maps of leaves. -/
import Derived.Test.YtafhcphggdipaaaGreatDoorKonG
set_option linter.unusedSimpArgs false
set_option linter.unusedVariables false
namespace Go.Abs.Kon
open Go Go.Proofs Go.Abs
set_option maxRecDepth 100000
set_option maxHeartbeats 4000000
def deepF (op depth:Int):Int:=if isBinder op then depth+1 else depth
def capF (from':Int):Int:=if 20001<from' then 20001 else from'
mutual
def rShiftF:ConT→Int→Int→ConT
 | .mk op n s k names l,by',from'=>
   if op=1 then (if n≥capF from' then varC (n+by') else .mk op n s k names l) else .mk op n s k names (rShiftL l by' (deepF op (capF from')))
def rShiftL:List ConT→Int→Int→List ConT
 | [],_,_=>[]
 |x::r,by',from'=>rShiftF x by' from'::rShiftL r by' from'
end
/-! Parts of the laws -/
mutual
def mapF (leaf:ConT→Int→ConT):ConT→Int→ConT
 | .mk op n s k names l,b=>if op=1∨op=2 then leaf (.mk op n s k names l) b else .mk op n s k names (mapL leaf l (if isBinder op then b+1 else b))
def mapL (leaf:ConT→Int→ConT):List ConT→Int→List ConT
 | [],_=>[]
 |x::r,b=>mapF leaf x b::mapL leaf r b
end
theorem rebF_neg (leaf:ConT→Int→ConT) (c:ConT) (b left:Int) (h:left≤0):(rebF leaf c b left).2=-1:=by
 cases c;rw[rebF,if_pos h]
theorem rebL_neg (leaf:ConT→Int→ConT):∀(l:List ConT) (b left:Int),left<0→(rebL leaf l b left).2<0
 | [],b,left,h=>by rw[rebL];exact h
 |x::r,b,left,h=>by
   rw[rebL]
   exact rebL_neg leaf r b _ (by rw[rebF_neg leaf x b left (by omega)];decide)
mutual
theorem rebF_map (leaf:ConT→Int→ConT):∀(c:ConT) (b left:Int),0≤left →
   ((sizeF (mapF leaf c b):Int)≤left→rebF leaf c b left=(mapF leaf c b,left - sizeF (mapF leaf c b)))∧(¬(sizeF (mapF leaf c b):Int)≤left→(rebF leaf c b left).2<0)
 | .mk op n s k names l,b,left,h=>by
   have hp:=sizeF_pos (mapF leaf (.mk op n s k names l) b)
   by_cases h0:left≤0
   · exact ⟨fun h1=>by omega,fun _=>by rw[rebF_neg _ _ _ _ h0];decide⟩
   · rw[rebF,if_neg h0,mapF]
     by_cases ho:op=1∨op=2
     · rw[if_pos ho,if_pos ho]
       exact ⟨fun _=>rfl,fun h1=>by simp only;omega⟩
     · rw[if_neg ho,if_neg ho]
       obtain ⟨h1,h2⟩:=rebL_map leaf l (if isBinder op then b+1 else b) (left - 1) (by omega)
       rw[sizeF]
       refine ⟨fun h3=>?_,fun h3=>?_⟩
       · have:=h1 (by omega)
         rw[this]
         simp only[Prod.mk.injEq,true_and]
         omega
       · exact h2 (by omega)
theorem rebL_map (leaf:ConT→Int→ConT):∀(l:List ConT) (b left:Int),0≤left →
   ((sizeL (mapL leaf l b):Int)≤left→rebL leaf l b left=(mapL leaf l b,left - sizeL (mapL leaf l b)))∧(¬(sizeL (mapL leaf l b):Int)≤left→(rebL leaf l b left).2<0)
 | [],b,left,h=>by
   rw[mapL,rebL,sizeL]
   exact ⟨fun _=>by simp,fun h1=>by omega⟩
 |x::r,b,left,h=>by
   obtain ⟨h1,h2⟩:=rebF_map leaf x b left h
   rw[mapL,rebL,sizeL]
   by_cases hx:(sizeF (mapF leaf x b):Int)≤left
   · rw[h1 hx]
     obtain ⟨h3,h4⟩:=rebL_map leaf r b (left - sizeF (mapF leaf x b)) (by omega)
     refine ⟨fun h5=>?_,fun h5=>?_⟩
     · rw[h3 (by omega)]
       simp only[Prod.mk.injEq,true_and]
       omega
     · exact h4 (by omega)
   · exact ⟨fun h5=>by omega,fun _=>rebL_neg leaf r b _ (h2 hx)⟩
end
theorem replF_eq (leaf:ConT→Int→ConT) (c:ConT):replF leaf c=if validF (mapF leaf c 0)=true then (mapF leaf c 0,0) else (zeroC,6):=by
 obtain ⟨h1,h2⟩:=rebF_map leaf c 0 20000 (by decide)
 rw[replF]
 by_cases hs:(sizeF (mapF leaf c 0):Int)≤20000
 · rw[h1 hs]
   simp only
   by_cases hv:validF (mapF leaf c 0)=true
   · rw[if_pos hv,if_neg]
     rintro (h|h)
     · omega
     · rw[hv] at h;cases h
   · rw[if_neg hv,if_pos (.inr (by simpa using hv))]
 · rw[if_pos (.inl (h2 hs)),if_neg]
   rw[validF]
   simp only[Bool.and_eq_true,decide_eq_true_iff]
   omega
theorem leaf_names {op n:Int}{s:ByteArray}{k:List KindT}{names:List ByteArray}{l:List ConT}(h:formedF (.mk op n s k names l)=true) (ho:op=1∨op=2):names=[]:=by
 rw[formedF,nodeF] at h
 simp only[Bool.and_eq_true] at h
 have h1:=h.1.2.2.2.2.1.1
 have e1:isLabelled op=false:=by simp[isLabelled];omega
 rw[e1] at h1
 simp at h1
 exact h1
theorem leafC_self {op n:Int}{s:ByteArray}{k:List KindT}{names:List ByteArray}{l:List ConT}(h:formedF (.mk op n s k names l)=true) (ho:op=1∨op=2):leafC (.mk op n s k names l)=.mk op n s k names l:=by
 have h1:=leaf_names h ho
 have h2:=leaf_nil h ho
 subst h1 h2
 rfl
theorem capF_cap (f:Int):capF (capF f)=capF f:=by
 simp only[capF];(repeat' split)<;>omega
theorem capF_succ {f g:Int}(h:capF f=capF g):capF (capF f+1)=capF (g+1):=by
 simp only[capF] at h ⊢
 (repeat' split at h)<;>(repeat' split)<;>omega
mutual
theorem shift_eq (by' from':Int):∀(c:ConT) (b f:Int),formedF c=true→capF f=capF (from'+b)→mapF (shiftLeaf by' from') c b=rShiftF c by' f
 | .mk op n s k names l,b,f,h,hf=>by
   have hn:=formed_n h
   replace hn:0≤n∧n≤20000:=hn
   rw[mapF,rShiftF]
   by_cases ho:op=1∨op=2
   · rw[if_pos ho]
     have hl:=leafC_self h ho
     by_cases h1:op=1
     · rw[if_pos h1,hf]
       have hi:(n≥capF (from'+b))↔n - b≥from':=by rw[capF];split<;>omega
       have hs:shiftLeaf by' from' (.mk op n s k names l) b=if op=1∧n - b≥from' then varC (n+by') else leafC (.mk op n s k names l):=rfl
       rw[hs,hl]
       by_cases h2:n - b≥from'
       · rw[if_pos ⟨h1,h2⟩,if_pos (hi.2 h2)]
       · rw[if_neg (fun e=>h2 e.2),if_neg (fun e=>h2 (hi.1 e))]
     · rw[if_neg h1]
       have hs:shiftLeaf by' from' (.mk op n s k names l) b=if op=1∧n - b≥from' then varC (n+by') else leafC (.mk op n s k names l):=rfl
       rw[hs,if_neg (fun e=>h1 e.1),hl]
       have:=leaf_nil h ho
       subst this
       rw[rShiftL]
   · rw[if_neg ho,if_neg (fun e=>ho (.inl e))]
     have hfm:formedL l=true:=by rw[formedF,Bool.and_eq_true] at h;exact h.2
     congr 1
     apply shiftL_eq by' from' l _ _ hfm
     rw[deepF]
     split
     · rw[capF_succ hf];congr 1;omega
     · rw[capF_cap,hf]
theorem shiftL_eq (by' from':Int):∀(l:List ConT) (b f:Int),formedL l=true→capF f=capF (from'+b)→mapL (shiftLeaf by' from') l b=rShiftL l by' f
 | [],b,f,h,hf=>by rw[mapL,rShiftL]
 |x::r,b,f,h,hf=>by
   rw[formedL,Bool.and_eq_true] at h
   rw[mapL,rShiftL,shift_eq by' from' x b f h.1 hf,shiftL_eq by' from' r b f h.2 hf]
end
mutual
theorem shift_size (by' from':Int):∀(c:ConT) (b:Int),formedF c=true→sizeF (mapF (shiftLeaf by' from') c b)=sizeF c
 | .mk op n s k names l,b,h=>by
   rw[mapF]
   by_cases ho:op=1∨op=2
   · rw[if_pos ho,size_shiftLeaf,leaf_nil h ho,sizeF,sizeL]
   · rw[if_neg ho,sizeF,sizeF,shiftL_size by' from' l _ (by rw[formedF,Bool.and_eq_true] at h;exact h.2)]
theorem shiftL_size (by' from':Int):∀(l:List ConT) (b:Int),formedL l=true→sizeL (mapL (shiftLeaf by' from') l b)=sizeL l
 | [],b,h=>by rw[mapL]
 |x::r,b,h=>by
   rw[formedL,Bool.and_eq_true] at h
   rw[mapL,sizeL,sizeL,shift_size by' from' x b h.1,shiftL_size by' from' r b h.2]
end
mutual
theorem mapF_okS (leaf:ConT→Int→ConT):∀(c:ConT) (b:Int),okS c→(∀x b',(x,b')∈leaves c b→okS (leaf x b'))→okS (mapF leaf c b)
 | .mk op n s k names l,b,h0,h=>by
   rw[mapF]
   split
   · rename_i ho
     exact h (.mk op n s k names l) b (by rw[leaves,if_pos ho];simp)
   · rename_i ho
     simp only[okS] at h0 ⊢
     exact ⟨h0.1,h0.2.1,mapL_okS leaf l _ h0.2.2 fun x b' hx=>h x b' (by rw[leaves,if_neg ho];exact hx)⟩
theorem mapL_okS (leaf:ConT→Int→ConT):∀(l:List ConT) (b:Int),okSs l→(∀x b',(x,b')∈leavesL l b→okS (leaf x b'))→okSs (mapL leaf l b)
 | [],b,h0,h=>by rw[mapL];exact h0
 |x::r,b,h0,h=>by
   simp only[okSs] at h0
   rw[mapL]
   simp only[okSs]
   exact ⟨mapF_okS leaf x b h0.1 fun y b' hy=>h y b' (by rw[leavesL];exact List.mem_append_left _ hy),mapL_okS leaf r b h0.2 fun y b' hy=>h y b' (by rw[leavesL];exact List.mem_append_right _ hy)⟩
end
def isLeaf (x:ConT):Prop:=x.op=1∨x.op=2
mutual
theorem fuse {l1 l2 l3 l4:ConT→Int→ConT}{b1 b2 b3 b4:Int}(h:∀x t,0≤t→isLeaf x→mapF l2 (l1 x (b1+t)) (b2+t)=mapF l4 (l3 x (b3+t)) (b4+t)) :
   ∀(c:ConT) (t:Int),0≤t→mapF l2 (mapF l1 c (b1+t)) (b2+t)=mapF l4 (mapF l3 c (b3+t)) (b4+t)
 | .mk op n s k names l,t,ht=>by
   rw[mapF,mapF.eq_def l3]
   simp only
   by_cases ho:op=1∨op=2
   · rw[if_pos ho,if_pos ho]
     exact h _ t ht ho
   · rw[if_neg ho,if_neg ho,mapF,mapF,if_neg ho,if_neg ho]
     congr 1
     by_cases hb:isBinder op=true
     · simp only[hb,if_true]
       have:=fuseL h l (t+1) (by omega)
       have e1:b1+t+1=b1+(t+1):=by omega
       have e2:b2+t+1=b2+(t+1):=by omega
       have e3:b3+t+1=b3+(t+1):=by omega
       have e4:b4+t+1=b4+(t+1):=by omega
       rw[e1,e2,e3,e4];exact this
     · simp only[hb,if_false]
       exact fuseL h l t ht
theorem fuseL {l1 l2 l3 l4:ConT→Int→ConT}{b1 b2 b3 b4:Int}(h:∀x t,0≤t→isLeaf x→mapF l2 (l1 x (b1+t)) (b2+t)=mapF l4 (l3 x (b3+t)) (b4+t)) :
   ∀(l:List ConT) (t:Int),0≤t→mapL l2 (mapL l1 l (b1+t)) (b2+t)=mapL l4 (mapL l3 l (b3+t)) (b4+t)
 | [],t,ht=>by simp only[mapL]
 |x::r,t,ht=>by
   simp only[mapL]
   rw[fuse h x t ht,fuseL h r t ht]
end
mutual
theorem fuse1 {l1 l2 l3:ConT→Int→ConT}{b1 b2 b3:Int}(h:∀x t,0≤t→isLeaf x→mapF l2 (l1 x (b1+t)) (b2+t)=l3 x (b3+t)) :
   ∀(c:ConT) (t:Int),0≤t→mapF l2 (mapF l1 c (b1+t)) (b2+t)=mapF l3 c (b3+t)
 | .mk op n s k names l,t,ht=>by
   rw[mapF,mapF.eq_def l3]
   simp only
   by_cases ho:op=1∨op=2
   · rw[if_pos ho,if_pos ho]
     exact h _ t ht ho
   · rw[if_neg ho,if_neg ho,mapF,if_neg ho]
     congr 1
     by_cases hb:isBinder op=true
     · simp only[hb,if_true]
       have:=fuse1L h l (t+1) (by omega)
       have e1:b1+t+1=b1+(t+1):=by omega
       have e2:b2+t+1=b2+(t+1):=by omega
       have e3:b3+t+1=b3+(t+1):=by omega
       rw[e1,e2,e3];exact this
     · simp only[hb,if_false]
       exact fuse1L h l t ht
theorem fuse1L {l1 l2 l3:ConT→Int→ConT}{b1 b2 b3:Int}(h:∀x t,0≤t→isLeaf x→mapF l2 (l1 x (b1+t)) (b2+t)=l3 x (b3+t)) :
   ∀(l:List ConT) (t:Int),0≤t→mapL l2 (mapL l1 l (b1+t)) (b2+t)=mapL l3 l (b3+t)
 | [],t,ht=>by simp only[mapL]
 |x::r,t,ht=>by
   simp only[mapL]
   rw[fuse1 h x t ht,fuse1L h r t ht]
end
mutual
theorem map_congr {l1 l2:ConT→Int→ConT}:∀(c:ConT) (b1 b2:Int),(∀x t,0≤t→isLeaf x→l1 x (b1+t)=l2 x (b2+t))→mapF l1 c b1=mapF l2 c b2
 | .mk op n s k names l,b1,b2,h=>by
   rw[mapF,mapF]
   by_cases ho:op=1∨op=2
   · rw[if_pos ho,if_pos ho]
     have:=h (.mk op n s k names l) 0 (by decide) ho
     rw[Int.add_zero,Int.add_zero] at this
     exact this
   · rw[if_neg ho,if_neg ho]
     congr 1
     split
     · exact map_congrL l _ _ fun x t ht hx=>by
         have:=h x (t+1) (by omega) hx
         have e1:b1+(t+1)=b1+1+t:=by omega
         have e2:b2+(t+1)=b2+1+t:=by omega
         rw[e1,e2] at this;exact this
     · exact map_congrL l _ _ h
theorem map_congrL {l1 l2:ConT→Int→ConT}:∀(l:List ConT) (b1 b2:Int),(∀x t,0≤t→isLeaf x→l1 x (b1+t)=l2 x (b2+t))→mapL l1 l b1=mapL l2 l b2
 | [],b1,b2,h=>by rw[mapL,mapL]
 |x::r,b1,b2,h=>by rw[mapL,mapL,map_congr x b1 b2 h,map_congrL r b1 b2 h]
end
mutual
theorem map_id {l1:ConT→Int→ConT}(h:∀x b,isLeaf x→formedF x=true→l1 x b=x):∀(c:ConT) (b:Int),formedF c=true→mapF l1 c b=c
 | .mk op n s k names l,b,hf=>by
   rw[mapF]
   by_cases ho:op=1∨op=2
   · rw[if_pos ho]
     exact h (.mk op n s k names l) _ ho hf
   · rw[if_neg ho,map_idL h l _ (by rw[formedF,Bool.and_eq_true] at hf;exact hf.2)]
theorem map_idL {l1:ConT→Int→ConT}(h:∀x b,isLeaf x→formedF x=true→l1 x b=x):∀(l:List ConT) (b:Int),formedL l=true→mapL l1 l b=l
 | [],b,hf=>by rw[mapL]
 |x::r,b,hf=>by
   rw[formedL,Bool.and_eq_true] at hf
   rw[mapL,map_id h x b hf.1,map_idL h r b hf.2]
end
theorem leafC_formed {x:ConT}(hx:isLeaf x) (hf:formedF x=true):leafC x=x:=by
 obtain ⟨op,n,s,k,names,l⟩:=x
 exact leafC_self hf hx
theorem bytes_empty {s:ByteArray}(h:(bytesOf s).isEmpty=true):s=ByteArray.empty:=by
 rw[bytesOf,List.isEmpty_iff] at h
 cases s with
 |mk d=>
   cases d with
   |mk l=>simp at h;subst h;rfl
theorem var_formed {x:ConT}(hx:x.op=1) (hf:formedF x=true):varC x.n=x:=by
 obtain ⟨op,n,s,k,names,l⟩:=x
 have ho:op=1:=hx
 have h1:=leaf_names hf (.inl ho)
 have h2:=leaf_nil hf (.inl ho)
 subst h1 h2 ho
 rw[formedF,nodeF] at hf
 simp only[Bool.and_eq_true] at hf
 obtain ⟨⟨_,_,hs,hk,_⟩,_⟩:=hf
 have e1:isBinder 1=false:=rfl
 rw[e1] at hk
 simp at hs hk
 have:s=ByteArray.empty:=bytes_empty (by rw[List.isEmpty_iff];exact hs)
 subst this hk
 rfl
/-! Leaves that are mapped again -/
theorem mapF_varC (l1:ConT→Int→ConT) (n b:Int):mapF l1 (varC n) b=l1 (varC n) b:=by rw[varC,mapF,if_pos (.inl rfl)]
theorem mapF_leafC (l1:ConT→Int→ConT) {x:ConT}(hx:isLeaf x) (b:Int):mapF l1 (leafC x) b=l1 (leafC x) b:=by
 show mapF l1 (.mk x.op x.n x.s x.k [] []) b=_
 rw[mapF]
 exact if_pos hx
theorem leafC_op (x:ConT):(leafC x).op=x.op:=rfl
theorem leafC_n (x:ConT):(leafC x).n=x.n:=rfl
theorem leafC_leafC (x:ConT):leafC (leafC x)=leafC x:=rfl
theorem varC_op (n:Int):(varC n).op=1:=rfl
theorem varC_n (n:Int):(varC n).n=n:=rfl
theorem shift_hi {n f b:Int}{x:ConT}(h1:x.op=1) (h2:x.n - b≥f):shiftLeaf n f x b=varC (x.n+n):=by rw[shiftLeaf,if_pos ⟨h1,h2⟩]
theorem shift_lo {n f b:Int}{x:ConT}(h:¬(x.op=1∧x.n - b≥f)):shiftLeaf n f x b=leafC x:=by rw[shiftLeaf,if_neg h]
theorem shift_shift (n m f:Int) (h:0≤n) (c:ConT) (b:Int) (hb:0≤b):mapF (shiftLeaf m f) (mapF (shiftLeaf n f) c b) b=mapF (shiftLeaf (n+m) f) c b:=by
 have:=fuse1 (l1:=shiftLeaf n f) (l2:=shiftLeaf m f) (l3:=shiftLeaf (n+m) f) (b1:=0) (b2:=0) (b3:=0) (fun x t ht hx=>by
   rw[Int.zero_add]
   by_cases h1:x.op=1∧x.n - t≥f
   · rw[shift_hi h1.1 h1.2,mapF_varC,shift_hi (varC_op _) (by rw[varC_n];omega),shift_hi h1.1 h1.2,varC_n,Int.add_assoc]
   · rw[shift_lo h1,mapF_leafC _ hx,shift_lo h1,shift_lo (by rw[leafC_op,leafC_n];exact h1),leafC_leafC]) c b hb
 simpa only[Int.zero_add] using this
def substM (us:List ConT) (c:ConT) (b:Int):ConT:=
 if c.op≠1∨c.n - b<0 then leafC c else
 if c.n - b≥us.length then varC (c.n - us.length) else
 mapF (shiftLeaf b 0) (us.getD (c.n - b).toNat zeroC) 0
theorem sub_lo {us:List ConT}{x:ConT}{b:Int}(h:x.op≠1∨x.n - b<0):substM us x b=leafC x:=by rw[substM,if_pos h]
theorem sub_hi {us:List ConT}{x:ConT}{b m:Int}(ho:x.op=1) (h0:0≤x.n - b) (h:x.n - b≥us.length) (hm:x.n - us.length=m):substM us x b=varC m:=by
 rw[substM,if_neg (by omega),if_pos h,hm]
theorem sub_in {us:List ConT}{x:ConT}{b m:Int}(ho:x.op=1) (hm:x.n - b=m) (h0:0≤m) (h:m<us.length):substM us x b=mapF (shiftLeaf b 0) (us.getD m.toNat zeroC) 0:=by
 rw[substM,if_neg (by omega),if_neg (by omega),hm]
/-! Substitutions commute -/
theorem shift_base (n f:Int) (c:ConT) (t:Int):mapF (shiftLeaf n f) c t=mapF (shiftLeaf n (f+t)) c 0:=by
 refine map_congr c t 0 fun x u hu hx=>?_
 by_cases h1:x.op=1∧x.n - (t+u)≥f
 · rw[shift_hi h1.1 h1.2,shift_hi h1.1 (by omega)]
 · rw[shift_lo h1,shift_lo (fun e=>h1 ⟨e.1,by omega⟩)]
theorem shift_over (d e:Int) (he:0≤e) (c:ConT):mapF (shiftLeaf d e) (mapF (shiftLeaf e 0) c 0) 0=mapF (shiftLeaf (d+e) 0) c 0:=by
 have:=fuse1 (l1:=shiftLeaf e 0) (l2:=shiftLeaf d e) (l3:=shiftLeaf (d+e) 0) (b1:=0) (b2:=0) (b3:=0) (fun x t ht hx=>by
   rw[Int.zero_add]
   by_cases h1:x.op=1∧x.n - t≥0
   · rw[shift_hi h1.1 h1.2,mapF_varC,shift_hi (varC_op _) (by rw[varC_n];omega),shift_hi h1.1 h1.2,varC_n]
     congr 1;omega
   · rw[shift_lo h1,mapF_leafC _ hx,shift_lo h1,shift_lo (by rw[leafC_op,leafC_n];omega),leafC_leafC]) c 0 (Int.le_refl _)
 simpa only[Int.zero_add] using this
mutual
theorem wt_le (leaf:ConT→Int→ConT):∀(c:ConT) (b:Int),(∀x b',(x,b')∈leaves c b→wtF (leaf x b')≤wtF x)→wtF (mapF leaf c b)≤wtF c
 | .mk op n s k names l,b,h=>by
   rw[mapF]
   split
   · rename_i ho
     exact h _ _ (by rw[leaves,if_pos ho];simp)
   · rename_i ho
     have:=wt_leL leaf l (if isBinder op then b+1 else b) fun x b' hx=>h x b' (by rw[leaves,if_neg ho];exact hx)
     rw[wtF,wtF];omega
theorem wt_leL (leaf:ConT→Int→ConT):∀(l:List ConT) (b:Int),(∀x b',(x,b')∈leavesL l b→wtF (leaf x b')≤wtF x)→wtL (mapL leaf l b)≤wtL l
 | [],b,h=>by rw[mapL];exact Nat.le_refl _
 |x::r,b,h=>by
   have h1:=wt_le leaf x b fun y b' hy=>h y b' (by rw[leavesL];exact List.mem_append_left _ hy)
   have h2:=wt_leL leaf r b fun y b' hy=>h y b' (by rw[leavesL];exact List.mem_append_right _ hy)
   rw[mapL,wtL,wtL];omega
end
theorem wt_leafC (x:ConT):wtF (leafC x)≤wtF x:=by
 obtain ⟨op,n,s,k,names,l⟩:=x
 rw[leafC,wtF,wtF]
 simp only[ConT.k,List.length_nil,wtL];omega
theorem wt_varC (n:Int):wtF (varC n)=1:=rfl
theorem wt_pos (c:ConT):1≤wtF c:=by cases c;rw[wtF];omega
theorem wt_shiftLeaf (n f:Int) (x:ConT) (b:Int):wtF (shiftLeaf n f x b)≤wtF x:=by
 rw[shiftLeaf]
 split
 · rw[wt_varC];exact wt_pos x
 · exact wt_leafC x
theorem wt_shift (n f:Int) (c:ConT) (b:Int):wtF (mapF (shiftLeaf n f) c b)≤wtF c:=wt_le _ c b fun x b' _=>wt_shiftLeaf n f x b'
mutual
theorem leaves_map (leaf:ConT→Int→ConT) (hl:∀x b,isLeaf x→isLeaf (leaf x b)):∀(c:ConT) (b:Int) (y:ConT) (b':Int),(y,b')∈leaves (mapF leaf c b) b→∃x,(x,b')∈leaves c b∧y=leaf x b'
 | .mk op n s k names l,b,y,b',h=>by
   rw[mapF] at h
   by_cases ho:op=1∨op=2
   · rw[if_pos ho] at h
     have h1:=hl (.mk op n s k names l) b ho
     generalize hz:leaf (.mk op n s k names l) b=z at h h1
     obtain ⟨op',n',s',k',names',l'⟩:=z
     have h1':op'=1∨op'=2:=h1
     rw[leaves,if_pos h1'] at h
     simp only[List.mem_singleton,Prod.mk.injEq] at h
     obtain ⟨rfl,rfl⟩:=h
     exact ⟨.mk op n s k names l,by rw[leaves,if_pos ho];simp,hz.symm⟩
   · rw[if_neg ho,leaves,if_neg ho] at h
     obtain ⟨x,h1,h2⟩:=leaves_mapL leaf hl l _ y b' h
     exact ⟨x,by rw[leaves,if_neg ho];exact h1,h2⟩
theorem leaves_mapL (leaf:ConT→Int→ConT) (hl:∀x b,isLeaf x→isLeaf (leaf x b)):∀(l:List ConT) (b:Int) (y:ConT) (b':Int),(y,b')∈leavesL (mapL leaf l b) b→∃x,(x,b')∈leavesL l b∧y=leaf x b'
 | [],b,y,b',h=>by rw[mapL] at h;simp[leavesL] at h
 |x::r,b,y,b',h=>by
   rw[mapL,leavesL] at h
   rcases List.mem_append.1 h with h|h
   · obtain ⟨z,h1,h2⟩:=leaves_map leaf hl x b y b' h
     exact ⟨z,by rw[leavesL];exact List.mem_append_left _ h1,h2⟩
   · obtain ⟨z,h1,h2⟩:=leaves_mapL leaf hl r b y b' h
     exact ⟨z,by rw[leavesL];exact List.mem_append_right _ h1,h2⟩
end
theorem isLeaf_shift (n f:Int) (x:ConT) (b:Int) (h:isLeaf x):isLeaf (shiftLeaf n f x b):=by
 rw[shiftLeaf]
 split
 · exact .inl rfl
 · exact h
theorem lost_false (c:ConT) (by' from':Int) (h:∀x b,(x,b)∈leaves c 0→¬(x.op=1∧x.n - b≥from'∧x.n - b+by'<from')):lostF c by' from'=false:=by
 rw[lostF]
 generalize hl:leaves c 0=l at h
 clear hl
 have:∀l:List (ConT×Int),(∀x b,(x,b)∈l→¬(x.op=1∧x.n - b≥from'∧x.n - b+by'<from'))→l.foldl (lostStep by' from') false=false:=by
   intro l
   induction l with
   |nil=>intro _;rfl
   |cons p r ih=>
     intro h
     obtain ⟨x,b⟩:=p
     rw[List.foldl_cons]
     have h1:=h x b (by simp)
     have:lostStep by' from' false (x,b)=false:=by
       rw[lostStep]
       by_cases e1:x.op=1
       · by_cases e2:x.n - b≥from'
         · have e3:¬x.n - b+by'<from':=fun e3=>h1 ⟨e1,e2,e3⟩
           simp only[decide_eq_false e3];simp
         · simp only[decide_eq_false e2];simp
       · have:(x.op==1)=false:=by simpa using e1
         simp only[this];simp
     rw[this]
     exact ih fun y b' hy=>h y b' (by simp[hy])
 exact this l h
theorem shiftF_up (c:ConT) (n f:Int) (h1:validF c=true) (h2:0≤n) (h3:n≤20000) (h4:0≤f):shiftF c n f=replF (shiftLeaf n f) c:=by
 rw[shiftF,if_neg (by rw[h1];simp),if_neg]
 rintro (h|h|h|h)
 · omega
 · omega
 · omega
 · rw[lost_false c n f fun x b _=>by omega] at h;cases h
/-! Small constructors -/
theorem okS_shift (n f:Int) {c:ConT}(h:okS c):okS (mapF (shiftLeaf n f) c 0):=mapF_okS _ c 0 h fun x b hx=>okS_shiftLeaf n f x b ((leaves_mem c 0 x b hx).2.1 h)
end Go.Abs.Kon
