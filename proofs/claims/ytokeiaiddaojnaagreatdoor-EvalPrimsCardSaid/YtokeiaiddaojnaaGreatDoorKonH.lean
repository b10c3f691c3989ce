/- The reference's shifting and substituting; maps of leaves. -/
import Derived.Test.YtokeiaiddaojnaaGreatDoorKonG
import Derived.Test.YtokeiaiddaojnaaGreatDoorShelfA
set_option linter.unusedSimpArgs false
set_option linter.unusedVariables false
namespace Go.Abs.Kon
open Go Go.Proofs Go.Abs
set_option maxRecDepth 100000
set_option maxHeartbeats 4000000
def deepF (op depth:Int):Int:=if isBinder op then depth+1 else depth
/-! Parts of the laws -/
mutual
def mapF (leaf:ConT→Int→ConT):ConT→Int→ConT
 | .mk op n s k names l,b=>if op=1∨op=2 then leaf (.mk op n s k names l) b else .mk op n s k names (mapL leaf l (if isBinder op then b+1 else b))
def mapL (leaf:ConT→Int→ConT):List ConT→Int→List ConT
 | [],_=>[]
 |x::r,b=>mapF leaf x b::mapL leaf r b
end
def isLeaf (x:ConT):Prop:=x.op=1∨x.op=2
mutual
theorem fuse {l1 l2 l3 l4:ConT→Int→ConT}{b1 b2 b3 b4:Int}(h:∀x t,0≤t→isLeaf x→mapF l2 (l1 x (b1+t)) (b2+t)=mapF l4 (l3 x (b3+t)) (b4+t)) :
   ∀(c:ConT) (t:Int),0≤t→mapF l2 (mapF l1 c (b1+t)) (b2+t)=mapF l4 (mapF l3 c (b3+t)) (b4+t)
 | .mk op n s k names l,t,ht=>by
   rw[mapF,mapF.eq_def l3]
   simp only
   by_cases ho:op=1∨op=2
   · rw[if_pos ho,if_pos ho]
     exact h _ t ht ho
   · rw[if_neg ho,if_neg ho,mapF,mapF,if_neg ho,if_neg ho]
     congr 1
     by_cases hb:isBinder op=true
     · simp only[hb,if_true]
       have:=fuseL h l (t+1) (by omega)
       have e1:b1+t+1=b1+(t+1):=by omega
       have e2:b2+t+1=b2+(t+1):=by omega
       have e3:b3+t+1=b3+(t+1):=by omega
       have e4:b4+t+1=b4+(t+1):=by omega
       rw[e1,e2,e3,e4];exact this
     · simp only[hb,if_false]
       exact fuseL h l t ht
theorem fuseL {l1 l2 l3 l4:ConT→Int→ConT}{b1 b2 b3 b4:Int}(h:∀x t,0≤t→isLeaf x→mapF l2 (l1 x (b1+t)) (b2+t)=mapF l4 (l3 x (b3+t)) (b4+t)) :
   ∀(l:List ConT) (t:Int),0≤t→mapL l2 (mapL l1 l (b1+t)) (b2+t)=mapL l4 (mapL l3 l (b3+t)) (b4+t)
 | [],t,ht=>by simp only[mapL]
 |x::r,t,ht=>by
   simp only[mapL]
   rw[fuse h x t ht,fuseL h r t ht]
end
/-! Leaves that are mapped again -/
/-! Substitutions commute -/
/-! Small constructors -/
def decF (n:Nat):ByteArray:=ByteArray.empty.push (UInt8.ofNat (48+n))
theorem Decimal_spec (n:Nat) (h:n≤9):Spec Tryz.prog 130 [ii n] [] (.str (decF n)) []:=by
 have d1:decide ((n:Int)<0)=false:=decide_eq_false (by omega)
 have d2:decide ((n:Int)<10)=true:=decide_eq_true (by omega)
 have w1:IntKind.i64.wrap (48+(n:Int))=48+n:=wrap_id (by omega) (by omega)
 have w2:IntKind.u8.wrap (48+(n:Int))=48+n:=by
   rcases (show n=0∨n=1∨n=2∨n=3∨n=4∨n=5∨n=6∨n=7∨n=8∨n=9 by omega) with rfl|rfl|rfl|rfl|rfl|rfl|rfl|rfl|rfl|rfl<;>rfl
 have w3:(48+(n:Int)).toNat=48+n:=by omega
 refine wk (rv:=[.tmp 2]) ann130 26 Tryz.func130 ?_
 simp only[go_sem,d1,d2,w1,w2,w3,List.isEmpty_cons,List.foldl_cons,List.foldl_nil,decF]
end Go.Abs.Kon
