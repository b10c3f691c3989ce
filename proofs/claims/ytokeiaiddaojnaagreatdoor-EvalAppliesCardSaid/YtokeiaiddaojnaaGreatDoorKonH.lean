/- The reference's shifting and substituting; maps of leaves. -/
import Derived.Test.YtokeiaiddaojnaaGreatDoorKonG
import Derived.Test.YtokeiaiddaojnaaGreatDoorShelfA
set_option linter.unusedSimpArgs false
set_option linter.unusedVariables false
namespace Go.Abs.Kon
open Go Go.Proofs Go.Abs
set_option maxRecDepth 100000
set_option maxHeartbeats 4000000
def deepF (op depth:Int):Int:=if isBinder op then depth+1 else depth
theorem deep_spec (op n:Int) (s:ByteArray) (k:List KindT) (names:List ByteArray) (l:List ConT) (depth:Int) (h1:0≤depth) (h2:depth≤2000000000) :
  Spec Tryz.prog 207 [pp (rawC op n s k names l),ii depth] [] (.int .i64 (deepF op depth)) []:=by
 have hB:=rBinder_spec op
 have w1:IntKind.i64.wrap (depth+1)=depth+1:=wrap_id (by omega) (by omega)
 rw[deepF]
 refine wk (rv:=[.tmp 4]) ann207 11 Tryz.func207 ?_
 simp only[go_sem]
 refine aCall_intro hB ?_
 simp only[go_sem]
 refine condK_intro (fun hb=>?_) (fun hb=>?_)
 ·simp only[go_sem,hb,w1]
 ·simp only[go_sem,hb]
def capF (from':Int):Int:=if 20001<from' then 20001 else from'
mutual
def rShiftF:ConT→Int→Int→ConT
 | .mk op n s k names l,by',from'=>
  if op=1 then (if n≥capF from' then varC (n+by') else .mk op n s k names l) else .mk op n s k names (rShiftL l by' (deepF op (capF from')))
def rShiftL:List ConT→Int→Int→List ConT
 | [],_,_=>[]
 |x::r,by',from'=>rShiftF x by' from'::rShiftL r by' from'
end
/-! Parts of the laws -/
mutual
def mapF (leaf:ConT→Int→ConT):ConT→Int→ConT
 | .mk op n s k names l,b=>if op=1∨op=2 then leaf (.mk op n s k names l) b else .mk op n s k names (mapL leaf l (if isBinder op then b+1 else b))
def mapL (leaf:ConT→Int→ConT):List ConT→Int→List ConT
 | [],_=>[]
 |x::r,b=>mapF leaf x b::mapL leaf r b
end
theorem rebF_neg (leaf:ConT→Int→ConT) (c:ConT) (b left:Int) (h:left≤0):(rebF leaf c b left).2=-1:=by
 cases c;rw[rebF,if_pos h]
theorem rebL_neg (leaf:ConT→Int→ConT):∀(l:List ConT) (b left:Int),left<0→(rebL leaf l b left).2<0
 | [],b,left,h=>by rw[rebL];exact h
 |x::r,b,left,h=>by
  rw[rebL]
  exact rebL_neg leaf r b _ (by rw[rebF_neg leaf x b left (by omega)];decide)
mutual
theorem rebF_map (leaf:ConT→Int→ConT):∀(c:ConT) (b left:Int),0≤left →
  ((sizeF (mapF leaf c b):Int)≤left→rebF leaf c b left=(mapF leaf c b,left - sizeF (mapF leaf c b)))∧(¬(sizeF (mapF leaf c b):Int)≤left→(rebF leaf c b left).2<0)
 | .mk op n s k names l,b,left,h=>by
  have hp:=sizeF_pos (mapF leaf (.mk op n s k names l) b)
  by_cases h0:left≤0
  ·exact ⟨fun h1=>by omega,fun _=>by rw[rebF_neg _ _ _ _ h0];decide⟩
  ·rw[rebF,if_neg h0,mapF]
   by_cases ho:op=1∨op=2
   ·rw[if_pos ho,if_pos ho]
    exact ⟨fun _=>rfl,fun h1=>by simp only;omega⟩
   ·rw[if_neg ho,if_neg ho]
    obtain ⟨h1,h2⟩:=rebL_map leaf l (if isBinder op then b+1 else b) (left - 1) (by omega)
    rw[sizeF]
    refine ⟨fun h3=>?_,fun h3=>?_⟩
    ·have:=h1 (by omega)
     rw[this]
     simp only[Prod.mk.injEq,true_and]
     omega
    ·exact h2 (by omega)
theorem rebL_map (leaf:ConT→Int→ConT):∀(l:List ConT) (b left:Int),0≤left →
  ((sizeL (mapL leaf l b):Int)≤left→rebL leaf l b left=(mapL leaf l b,left - sizeL (mapL leaf l b)))∧(¬(sizeL (mapL leaf l b):Int)≤left→(rebL leaf l b left).2<0)
 | [],b,left,h=>by
  rw[mapL,rebL,sizeL]
  exact ⟨fun _=>by simp,fun h1=>by omega⟩
 |x::r,b,left,h=>by
  obtain ⟨h1,h2⟩:=rebF_map leaf x b left h
  rw[mapL,rebL,sizeL]
  by_cases hx:(sizeF (mapF leaf x b):Int)≤left
  ·rw[h1 hx]
   obtain ⟨h3,h4⟩:=rebL_map leaf r b (left - sizeF (mapF leaf x b)) (by omega)
   refine ⟨fun h5=>?_,fun h5=>?_⟩
   ·rw[h3 (by omega)]
    simp only[Prod.mk.injEq,true_and]
    omega
   ·exact h4 (by omega)
  ·exact ⟨fun h5=>by omega,fun _=>rebL_neg leaf r b _ (h2 hx)⟩
end
theorem replF_eq (leaf:ConT→Int→ConT) (c:ConT):replF leaf c=if validF (mapF leaf c 0)=true then (mapF leaf c 0,0) else (zeroC,6):=by
 obtain ⟨h1,h2⟩:=rebF_map leaf c 0 20000 (by decide)
 rw[replF]
 by_cases hs:(sizeF (mapF leaf c 0):Int)≤20000
 ·rw[h1 hs]
  simp only
  by_cases hv:validF (mapF leaf c 0)=true
  ·rw[if_pos hv,if_neg]
   rintro (h|h)
   ·omega
   ·rw[hv] at h;cases h
  ·rw[if_neg hv,if_pos (.inr (by simpa using hv))]
 ·rw[if_pos (.inl (h2 hs)),if_neg]
  rw[validF]
  simp only[Bool.and_eq_true,decide_eq_true_iff]
  omega
theorem leaf_names {op n:Int}{s:ByteArray}{k:List KindT}{names:List ByteArray}{l:List ConT}(h:formedF (.mk op n s k names l)=true) (ho:op=1∨op=2):names=[]:=by
 rw[formedF,nodeF] at h
 simp only[Bool.and_eq_true] at h
 have h1:=h.1.2.2.2.2.1.1
 have e1:isLabelled op=false:=by simp[isLabelled];omega
 rw[e1] at h1
 simp at h1
 exact h1
theorem leafC_self {op n:Int}{s:ByteArray}{k:List KindT}{names:List ByteArray}{l:List ConT}(h:formedF (.mk op n s k names l)=true) (ho:op=1∨op=2):leafC (.mk op n s k names l)=.mk op n s k names l:=by
 have h1:=leaf_names h ho
 have h2:=leaf_nil h ho
 subst h1 h2
 rfl
theorem capF_cap (f:Int):capF (capF f)=capF f:=by
 simp only[capF];(repeat' split)<;>omega
theorem capF_succ {f g:Int}(h:capF f=capF g):capF (capF f+1)=capF (g+1):=by
 simp only[capF] at h ⊢
 (repeat' split at h)<;>(repeat' split)<;>omega
mutual
theorem shift_eq (by' from':Int):∀(c:ConT) (b f:Int),formedF c=true→capF f=capF (from'+b)→mapF (shiftLeaf by' from') c b=rShiftF c by' f
 | .mk op n s k names l,b,f,h,hf=>by
  have hn:=formed_n h
  replace hn:0≤n∧n≤20000:=hn
  rw[mapF,rShiftF]
  by_cases ho:op=1∨op=2
  ·rw[if_pos ho]
   have hl:=leafC_self h ho
   by_cases h1:op=1
   ·rw[if_pos h1,hf]
    have hi:(n≥capF (from'+b))↔n - b≥from':=by rw[capF];split<;>omega
    have hs:shiftLeaf by' from' (.mk op n s k names l) b=if op=1∧n - b≥from' then varC (n+by') else leafC (.mk op n s k names l):=rfl
    rw[hs,hl]
    by_cases h2:n - b≥from'
    ·rw[if_pos ⟨h1,h2⟩,if_pos (hi.2 h2)]
    ·rw[if_neg (fun e=>h2 e.2),if_neg (fun e=>h2 (hi.1 e))]
   ·rw[if_neg h1]
    have hs:shiftLeaf by' from' (.mk op n s k names l) b=if op=1∧n - b≥from' then varC (n+by') else leafC (.mk op n s k names l):=rfl
    rw[hs,if_neg (fun e=>h1 e.1),hl]
    have:=leaf_nil h ho
    subst this
    rw[rShiftL]
  ·rw[if_neg ho,if_neg (fun e=>ho (.inl e))]
   have hfm:formedL l=true:=by rw[formedF,Bool.and_eq_true] at h;exact h.2
   congr 1
   apply shiftL_eq by' from' l _ _ hfm
   rw[deepF]
   split
   ·rw[capF_succ hf];congr 1;omega
   ·rw[capF_cap,hf]
theorem shiftL_eq (by' from':Int):∀(l:List ConT) (b f:Int),formedL l=true→capF f=capF (from'+b)→mapL (shiftLeaf by' from') l b=rShiftL l by' f
 | [],b,f,h,hf=>by rw[mapL,rShiftL]
 |x::r,b,f,h,hf=>by
  rw[formedL,Bool.and_eq_true] at h
  rw[mapL,rShiftL,shift_eq by' from' x b f h.1 hf,shiftL_eq by' from' r b f h.2 hf]
end
def isLeaf (x:ConT):Prop:=x.op=1∨x.op=2
mutual
theorem fuse {l1 l2 l3 l4:ConT→Int→ConT}{b1 b2 b3 b4:Int}(h:∀x t,0≤t→isLeaf x→mapF l2 (l1 x (b1+t)) (b2+t)=mapF l4 (l3 x (b3+t)) (b4+t)) :
  ∀(c:ConT) (t:Int),0≤t→mapF l2 (mapF l1 c (b1+t)) (b2+t)=mapF l4 (mapF l3 c (b3+t)) (b4+t)
 | .mk op n s k names l,t,ht=>by
  rw[mapF,mapF.eq_def l3]
  simp only
  by_cases ho:op=1∨op=2
  ·rw[if_pos ho,if_pos ho]
   exact h _ t ht ho
  ·rw[if_neg ho,if_neg ho,mapF,mapF,if_neg ho,if_neg ho]
   congr 1
   by_cases hb:isBinder op=true
   ·simp only[hb,if_true]
    have:=fuseL h l (t+1) (by omega)
    have e1:b1+t+1=b1+(t+1):=by omega
    have e2:b2+t+1=b2+(t+1):=by omega
    have e3:b3+t+1=b3+(t+1):=by omega
    have e4:b4+t+1=b4+(t+1):=by omega
    rw[e1,e2,e3,e4];exact this
   ·simp only[hb,if_false]
    exact fuseL h l t ht
theorem fuseL {l1 l2 l3 l4:ConT→Int→ConT}{b1 b2 b3 b4:Int}(h:∀x t,0≤t→isLeaf x→mapF l2 (l1 x (b1+t)) (b2+t)=mapF l4 (l3 x (b3+t)) (b4+t)) :
  ∀(l:List ConT) (t:Int),0≤t→mapL l2 (mapL l1 l (b1+t)) (b2+t)=mapL l4 (mapL l3 l (b3+t)) (b4+t)
 | [],t,ht=>by simp only[mapL]
 |x::r,t,ht=>by
  simp only[mapL]
  rw[fuse h x t ht,fuseL h r t ht]
end
mutual
theorem map_id {l1:ConT→Int→ConT}(h:∀x b,isLeaf x→formedF x=true→l1 x b=x):∀(c:ConT) (b:Int),formedF c=true→mapF l1 c b=c
 | .mk op n s k names l,b,hf=>by
  rw[mapF]
  by_cases ho:op=1∨op=2
  ·rw[if_pos ho]
   exact h (.mk op n s k names l) _ ho hf
  ·rw[if_neg ho,map_idL h l _ (by rw[formedF,Bool.and_eq_true] at hf;exact hf.2)]
theorem map_idL {l1:ConT→Int→ConT}(h:∀x b,isLeaf x→formedF x=true→l1 x b=x):∀(l:List ConT) (b:Int),formedL l=true→mapL l1 l b=l
 | [],b,hf=>by rw[mapL]
 |x::r,b,hf=>by
  rw[formedL,Bool.and_eq_true] at hf
  rw[mapL,map_id h x b hf.1,map_idL h r b hf.2]
end
theorem leafC_formed {x:ConT}(hx:isLeaf x) (hf:formedF x=true):leafC x=x:=by
 obtain ⟨op,n,s,k,names,l⟩:=x
 exact leafC_self hf hx
theorem bytes_empty {s:ByteArray}(h:(bytesOf s).isEmpty=true):s=ByteArray.empty:=by
 rw[bytesOf,List.isEmpty_iff] at h
 cases s with
 |mk d=>
  cases d with
  |mk l=>simp at h;subst h;rfl
theorem var_formed {x:ConT}(hx:x.op=1) (hf:formedF x=true):varC x.n=x:=by
 obtain ⟨op,n,s,k,names,l⟩:=x
 have ho:op=1:=hx
 have h1:=leaf_names hf (.inl ho)
 have h2:=leaf_nil hf (.inl ho)
 subst h1 h2 ho
 rw[formedF,nodeF] at hf
 simp only[Bool.and_eq_true] at hf
 obtain ⟨⟨_,_,hs,hk,_⟩,_⟩:=hf
 have e1:isBinder 1=false:=rfl
 rw[e1] at hk
 simp at hs hk
 have:s=ByteArray.empty:=bytes_empty (by rw[List.isEmpty_iff];exact hs)
 subst this hk
 rfl
/-! Leaves that are mapped again -/
/-! Substitutions commute -/
/-! Small constructors -/
def decF (n:Nat):ByteArray:=ByteArray.empty.push (UInt8.ofNat (48+n))
theorem Decimal_spec (n:Nat) (h:n≤9):Spec Tryz.prog 130 [ii n] [] (.str (decF n)) []:=by
 have d1:decide ((n:Int)<0)=false:=decide_eq_false (by omega)
 have d2:decide ((n:Int)<10)=true:=decide_eq_true (by omega)
 have w1:IntKind.i64.wrap (48+(n:Int))=48+n:=wrap_id (by omega) (by omega)
 have w2:IntKind.u8.wrap (48+(n:Int))=48+n:=by
  rcases (show n=0∨n=1∨n=2∨n=3∨n=4∨n=5∨n=6∨n=7∨n=8∨n=9 by omega) with rfl|rfl|rfl|rfl|rfl|rfl|rfl|rfl|rfl|rfl<;>rfl
 have w3:(48+(n:Int)).toNat=48+n:=by omega
 refine wk (rv:=[.tmp 2]) ann130 26 Tryz.func130 ?_
 simp only[go_sem,d1,d2,w1,w2,w3,List.isEmpty_cons,List.foldl_cons,List.foldl_nil,decF]
end Go.Abs.Kon