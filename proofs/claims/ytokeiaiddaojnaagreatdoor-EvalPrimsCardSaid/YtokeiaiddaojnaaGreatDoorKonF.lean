/- Contracts of functions: shifting and substituting. -/
import Derived.Test.YtokeiaiddaojnaaGreatDoorKonE
set_option linter.unusedSimpArgs false
namespace Go.Abs.Kon
open Go Go.Proofs Go.Abs
set_option maxRecDepth 100000
set_option maxHeartbeats 4000000
mutual
theorem leaves_mem:∀(c:ConT) (b:Int) (x:ConT) (b':Int),(x,b')∈leaves c b→wtF x≤wtF c∧(okS c→okS x)∧(formedF c=true→formedF x=true)∧b≤b'∧b'≤b+depthF c∧(x.op=1∨x.op=2)
 | .mk op n s k names l,b,x,b',h=>by
   rw[leaves] at h
   split at h
   · rename_i ho
     simp only[List.mem_singleton,Prod.mk.injEq] at h
     obtain ⟨rfl,rfl⟩:=h
     exact ⟨Nat.le_refl _,fun h=>h,fun h=>h,Int.le_refl _,by omega,ho⟩
   · have:=leavesL_mem l _ x b' h
     obtain ⟨h1,h2,h3,h4,h5,h6⟩:=this
     refine ⟨by rw[wtF];omega,fun h=>h2 (by simp only[okS] at h;exact h.2.2),fun h=>h3 (by rw[formedF,Bool.and_eq_true] at h;exact h.2),?_,?_,h6⟩
     · split at h4<;>omega
     · rw[depthF];split at h5<;>omega
theorem leavesL_mem:∀(l:List ConT) (b:Int) (x:ConT) (b':Int),(x,b')∈leavesL l b→wtF x≤wtL l∧(okSs l→okS x)∧(formedL l=true→formedF x=true)∧b≤b'∧b'≤b+depthL l∧(x.op=1∨x.op=2)
 | [],b,x,b',h=>by simp[leavesL] at h
 |y::r,b,x,b',h=>by
   rw[leavesL] at h
   rcases List.mem_append.1 h with h|h
   · obtain ⟨h1,h2,h3,h4,h5,h6⟩:=leaves_mem y b x b' h
     exact ⟨by rw[wtL];omega,fun h=>h2 (by simp only[okSs] at h;exact h.1),fun h=>h3 (by rw[formedL,Bool.and_eq_true] at h;exact h.1),h4,by rw[depthL];omega,h6⟩
   · obtain ⟨h1,h2,h3,h4,h5,h6⟩:=leavesL_mem r b x b' h
     exact ⟨by rw[wtL];omega,fun h=>h2 (by simp only[okSs] at h;exact h.2),fun h=>h3 (by rw[formedL,Bool.and_eq_true] at h;exact h.2),h4,by rw[depthL];omega,h6⟩
end
theorem sizeF_wt:∀c:ConT,sizeF c≤wtF c:=by
 refine ConT.ind1 fun op n s k names l ih=>?_
 rw[sizeF,wtF]
 have:sizeL l≤wtL l:=by
   clear k names
   induction l with
   |nil=>simp[sizeL]
   |cons x r ihr=>
     rw[sizeL,wtL]
     have:=ih x (by simp)
     have:=ihr fun y hy=>ih y (by simp[hy])
     omega
 omega
theorem formed_n {c:ConT}(h:formedF c=true):0≤c.n∧c.n≤20000:=by
 obtain ⟨op,n,s,k,names,l⟩:=c
 rw[formedF,nodeF] at h
 simp only[Bool.and_eq_true] at h
 obtain ⟨⟨_,h,_⟩,_⟩:=h
 show 0≤n∧n≤20000
 split at h
 · exact of_decide_eq_true h
 · have:=of_decide_eq_true h;omega
theorem validF_formed {c:ConT}(h:validF c=true):formedF c=true:=by
 rw[validF] at h
 simp only[Bool.and_eq_true] at h
 exact h.2.2
@[go_sem] def boolBox (b:Bool):Box:=⟨.one,.one (.pv (.bool b))⟩
theorem leaf_nil {op n:Int}{s:ByteArray}{k:List KindT}{names:List ByteArray}{l:List ConT}(h:formedF (.mk op n s k names l)=true) (ho:op=1∨op=2):l=[]:=by
 rw[formedF,nodeF,partsF] at h
 simp only[Bool.and_eq_true] at h
 have h1:=of_decide_eq_true h.1.1
 rw[if_neg (by omega)] at h1
 have e1:isLabelled op=false:=by simp[isLabelled];omega
 have e2:isBinder op=false:=by simp[isBinder];omega
 rw[e1,e2] at h1
 simp only[Bool.false_eq_true,if_false] at h1
 rw[if_neg (by omega)] at h1
 exact List.eq_nil_of_length_eq_zero (by omega)
mutual
theorem sizeK_kn:∀(k:KindT) (left depth m:Int),sizeK k left depth=some m→(knF k:Int)=m
 | .mk l,left,depth,m,h=>by
   rw[sizeK] at h
   split at h
   · cases h
   · have:=sizeKs_kn l left depth 1 m h
     rw[knF];omega
theorem sizeKs_kn:∀(l:List KindT) (left depth n m:Int),sizeKs l left depth n=some m→n+knL l=m
 | [],left,depth,n,m,h=>by
   rw[sizeKs] at h
   cases h
   rw[knL];omega
 |x::r,left,depth,n,m,h=>by
   rw[sizeKs] at h
   cases hx:sizeK x (left - n) (depth+1) with
   |none=>rw[hx] at h;cases h
   |some a=>
     rw[hx] at h
     have h1:=sizeK_kn x _ _ a hx
     have h2:=sizeKs_kn r left depth (n+a) m h
     rw[knL];omega
end
mutual
theorem formed_wt:∀c:ConT,formedF c=true→wtF c≤22000*sizeF c
 | .mk op n s k names l,h=>by
   rw[formedF,Bool.and_eq_true] at h
   have hl:=formed_wtL l h.2
   have hn:=h.1
   rw[nodeF] at hn
   simp only[Bool.and_eq_true] at hn
   obtain ⟨_,_,_,hk,⟨_,hm⟩,_⟩:=hn
   have h1:knL k≤20000:=by
     split at hk
     · obtain ⟨m,hm⟩:=Option.isSome_iff_exists.1 hk
       have e1:=sizeK_kn _ _ _ _ hm
       have e2:=sizeK_le _ _ _ _ hm
       rw[knF] at e1;omega
     · have:=of_decide_eq_true hk
       rw[List.eq_nil_of_length_eq_zero this,knL];omega
   have h2:names.length≤1000:=of_decide_eq_true hm
   rw[wtF,sizeF];omega
theorem formed_wtL:∀l:List ConT,formedL l=true→wtL l≤22000*sizeL l
 | [],_=>by rw[wtL];omega
 |x::r,h=>by
   rw[formedL,Bool.and_eq_true] at h
   have h1:=formed_wt x h.1
   have h2:=formed_wtL r h.2
   rw[wtL,sizeL];omega
end
theorem valid_dw {c:ConT}(h:validF c=true):depthF c≤400∧wtF c≤900000000:=by
 have hf:=validF_formed h
 rw[validF] at h
 simp only[Bool.and_eq_true,decide_eq_true_iff] at h
 have:=formed_wt c hf
 exact ⟨h.2.1,by omega⟩
end Go.Abs.Kon
