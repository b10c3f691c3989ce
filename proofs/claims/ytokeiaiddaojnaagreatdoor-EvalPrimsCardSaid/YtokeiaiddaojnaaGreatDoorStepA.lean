/- Terms that are closed; numbers as texts. -/
import Derived.Test.YtokeiaiddaojnaaGreatDoorTermE
import Derived.Test.YtokeiaiddaojnaaGreatDoorTermF
import Derived.Test.YtokeiaiddaojnaaGreatDoorKonH
import Derived.Test.YtokeiaiddaojnaaGreatDoorShelfA
import Derived.Test.YtokeiaiddaojnaaGreatDoorKonG
import Derived.Lib.AppendIntMem
import Derived.Lib.ItoaMem
import Derived.Lib.ItoaLen
import Derived.Test.YtokeiaiddaojnaaGreatDoorFacts
import Derived.Test.YtokeiaiddaojnaaGreatDoorTermD
set_option linter.unusedSimpArgs false
set_option linter.unusedVariables false
namespace Go.Abs.Kon
open Go Go.Proofs Go.Abs
set_option maxRecDepth 100000
set_option maxHeartbeats 4000000
def funT (t:TermT):Bool:=t.op==4||t.op==6
def headFun:List TermT→Bool
 |x::_=>funT x
 | []=>false
mutual
def resT:TermT→Bool
 | .mk op _ _ _ _ _ _ l=>if op=2∨op=3∨op=4∨op=6 then true else if op=16 then headFun l else if op=10∨op=12∨op=14∨op=8 then resL l else false
def resL:List TermT→Bool
 | []=>true
 |x::r=>resT x&&resL r
end
/-! Contractions -/
def findS:List ByteArray→ByteArray→Int→Int
 | [],_,_=>-1
 |x::r,s,i=>if (x.toList==s.toList)=true then i else findS r s (i+1)
/-! A step -/
def closedT (t:TermT):Bool:=validT t&&(decide ((sortU (consF t 0)).length=0)&&decide ((sortU (termsF t 0)).length=0))
/-! The reference -/
/-! The parts -/
/-! Parts of a term that is right -/
/-! Both contractions -/
/-! The next node -/
def showB (n:Int):ByteArray:=⟨(Lib.itoa n).toArray⟩
theorem ItoaAll_spec (n:Int) (h1:-9223372036854775808≤n) (h2:n≤9223372036854775807):Spec Tryz.prog 94 [ii n] [] (.str (showB n)) []:=by
 refine Spec.of_below (by kernel_rfl) fun G w vs hW hr=>?_
 have hv:vs=#[.int .i64 n]:=by
   simp only[RepSVs,ii,RepSV,RepSC,Rep] at hr
   obtain ⟨v,rest,h1,rfl,h3⟩:=hr
   subst h3
   exact Array.toList_inj.1 h1
 subst hv
 obtain ⟨⟨cs,T,fr,g1,g0⟩,_⟩:=hW.glob 0 (by simp[gvars])
 rw[gcells,if_neg (by decide)] at g0
 have htab:Lib.TabIs Tryz.prog w "internal/strconv.uint64pow10" .u64 Lib.pow10Tab:=by
   unfold Lib.TabIs World.var?
   rw[gTab]
   simp only[Option.bind_some]
   rw[g1,g0]
 refine (Any.strconv_Itoa Tryz.laysM171 n h1 h2 w htab).mono ?_
 rintro e w' ⟨rfl,k,os,rfl⟩
 exact ⟨_,rfl,by rw[Rep];rfl,Lib.below_grow _ w (Nat.le_refl _) k os⟩
theorem bytes_push (l:List UInt8) (b:UInt8):(ByteArray.mk l.toArray)++(ByteArray.empty.push b)=⟨(l++[b]).toArray⟩:=by
 apply ByteArray.ext
 rw[ByteArray.data_append]
 show l.toArray ++ #[b]=(l++[b]).toArray
 simp
theorem bytes_cons (l:List UInt8) (b:UInt8):(ByteArray.mk #[b])++(ByteArray.mk l.toArray)=⟨(b::l).toArray⟩:=by
 apply ByteArray.ext
 rw[ByteArray.data_append]
 show #[b]++l.toArray=(b::l).toArray
 simp
theorem show_nat (n:Nat):showB n=⟨(Lib.decDigits n).toArray⟩:=by rw[showB,Lib.itoa_nonneg]
theorem DecimalK_spec:∀(k n:Nat),n<k→(n:Int)≤9000000000000000000→Spec Tryz.prog 130 [ii n] [] (.str (showB n)) []:=by
 intro k
 induction k with
 |zero=>intro n h;omega
 |succ k ih0=>
   intro n hk hn
   have ih:∀m,m<n→(m:Int)≤9000000000000000000→Spec Tryz.prog 130 [ii m] [] (.str (showB m)) []:=fun m hm=>ih0 m (by omega)
   clear ih0 hk
   by_cases h:n≤9
   · have:=Decimal_spec n h
     rw[show showB n=decF n by rw[show_nat,Lib.decDigits_one (by omega),decF];rfl]
     exact this
   · have hI:=ih (n / 10) (by omega) (by omega)
     have e:showB n=showB (n / 10:Nat)++ByteArray.empty.push (UInt8.ofNat (48+n % 10)):=by
       rw[show_nat,show_nat,bytes_push,Lib.decDigits,dif_neg (by omega)]
     have d1:decide ((n:Int)<0)=false:=decide_eq_false (by omega)
     have d2:decide ((n:Int)<10)=false:=decide_eq_false (by omega)
     have d3:(n:Int).tdiv 10=((n / 10:Nat):Int):=by rw[Int.tdiv_eq_ediv_of_nonneg (by omega)];simp
     have d4:(n:Int).tmod 10=((n % 10:Nat):Int):=by rw[Int.tmod_eq_emod_of_nonneg (by omega)];simp
     have w0:IntKind.i64.wrap ((n / 10:Nat):Int)=((n / 10:Nat):Int):=wrap_id (by omega) (by omega)
     have w1:IntKind.i64.wrap (48+((n % 10:Nat):Int))=48+((n % 10:Nat):Int):=wrap_id (by omega) (by omega)
     have hm:n % 10<10:=Nat.mod_lt _ (by decide)
     rw[e]
     generalize n % 10=m at d4 w1 hm ⊢
     have w2:IntKind.u8.wrap (48+(m:Int))=48+m:=by
       rcases (show m=0∨m=1∨m=2∨m=3∨m=4∨m=5∨m=6∨m=7∨m=8∨m=9 by omega) with rfl|rfl|rfl|rfl|rfl|rfl|rfl|rfl|rfl|rfl<;>rfl
     have w3:(48+(m:Int)).toNat=48+m:=by omega
     have hsz:(showB (n / 10:Nat)).size+(ByteArray.empty.push (UInt8.ofNat (48+m))).size≤9223372036854775807:=by
       have:=Lib.itoa_length_le ((n / 10:Nat):Int) (by omega) (by omega)
       have e1:(showB (n / 10:Nat)).size=(Lib.itoa ((n / 10:Nat):Int)).length:=by rw[showB];simp[ByteArray.size]
       have e2:(ByteArray.empty.push (UInt8.ofNat (48+m))).size=1:=rfl
       rw[e1,e2];omega
     generalize showB (n / 10:Nat)=r at hI hsz ⊢
     refine wk (rv:=[.tmp 2]) ann130 26 Tryz.func130 ?_
     simp only[go_sem,d1,d2,d3,w0,Int.reduceEq,if_false]
     refine aCall_intro hI ?_
     simp only[go_sem,d4,w1,w2,w3,Int.reduceEq,if_false,List.isEmpty_cons,List.foldl_cons,List.foldl_nil,hsz,if_true]
theorem DecimalAll_spec (n:Nat) (h:(n:Int)≤9000000000000000000):Spec Tryz.prog 130 [ii n] [] (.str (showB n)) []:=DecimalK_spec (n+1) n (Nat.lt_succ_self n) h
/-! Searching -/
theorem beq_sym (a b:List UInt8):(a==b)=(b==a):=by
 rw[Bool.eq_iff_iff,beq_iff_eq,beq_iff_eq];exact eq_comm
theorem Index_spec (l:List ByteArray) (s:ByteArray):Spec Tryz.prog 76 [pp (.slice (l.map .str)),pp (.str s)] [] (.int .i64 (findS l s 0)) []:=by
 generalize hres:findS l s 0=res
 refine wf (rv:=[.tmp 4]) ann76 19 Tryz.func76 fun hfit=>?_
 have hlen:l.length≤9223372036854775807:=by
   simp only[argsFit,SV.pv?,SC.pv?,PV.fit,maxLen_eq,List.length_map] at hfit
   exact hfit.1.1
 clear hfit
 simp only[go_sem,List.length_map]
 refine aLoop_list (α:=ByteArray) (β:=Nat) (fun rest m=>⟨[(8,ii m),(0,pp (.slice (l.map .str))),(1,pp (.str s)),(7,ii l.length)],[],[]⟩) (fun rest m=>∃pre,l=pre++rest∧m=pre.length∧findS rest s m=res) ?_ ?_ l 0 _ ?_ ⟨[],rfl,rfl,hres⟩
 · rintro m ⟨pre,g1,g2,g3⟩ K
   simp only[List.append_nil] at g1
   subst g1
   rw[findS] at g3
   subst g3
   simp only[go_sem,g2,lt_false (Int.le_refl _)]
 · rintro x rest m ⟨pre,g1,g2,g3⟩ K hK
   have hx:(l.map PV.str)[m]? = some (.str x):=by simp[g1,g2]
   have hlt:(m:Int)<l.length:=by rw[g1,g2];simp;omega
   have hll:m<l.length:=by rw[g1,g2];simp
   have w4:IntKind.i64.wrap ((m:Int)+1)=((m+1:Nat):Int):=by rw[wrap_id (by omega) (by omega)];simp
   rw[findS] at g3
   have hs:=beq_sym s.toList x.toList
   cases hb:(x.toList==s.toList) with
   |true=>
     rw[if_pos hb] at g3
     subst g3
     rw[hb] at hs
     simp only[go_sem,decide_eq_true hlt,Int.toNat_natCast,Int.natCast_nonneg,hx,hs]
   |false=>
     rw[if_neg (by rw[hb];decide)] at g3
     rw[hb] at hs
     simp only[go_sem,decide_eq_true hlt,Int.toNat_natCast,Int.natCast_nonneg,hx,hs,w4]
     refine hK (m+1) _ ?_ ⟨pre++[x],by simp[g1],by simp[g2],by simpa using g3⟩
     simp only[go_sem]
 · simp only[go_sem,Int.natCast_zero]
/-! The part that is gone into -/
/-! Closed terms; results -/
end Go.Abs.Kon
