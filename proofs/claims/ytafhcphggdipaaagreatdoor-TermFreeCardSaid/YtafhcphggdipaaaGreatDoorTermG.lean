/- Terms. -/
import Derived.Test.YtafhcphggdipaaaGreatDoorTermD
import Derived.Test.YtafhcphggdipaaaGreatDoorKonA
import Derived.Test.YtafhcphggdipaaaGreatDoorKonG
set_option linter.unusedSimpArgs false
set_option linter.unusedVariables false
namespace Go.Abs.Kon
open Go Go.Proofs Go.Abs
set_option maxRecDepth 100000
set_option maxHeartbeats 4000000
def longH (s:ByteArray):Bool:=decide ((s.size:Int)>100)
def bump (n:Int):Int:=IntKind.i64.wrap (n+1)
mutual
def nK:KindT→Int→Int→Int
 | .mk l,n,d=>nKs l (if d>30∨(l.length:Int)>10 then 1000 else bump n) d
def nKs:List KindT→Int→Int→Int
 | [],n,_=>n
 |x::r,n,d=>if n≤200 then nKs r (nK x n (d+1)) d else n
end
mutual
def nC:ConT→Int→Int→Int
 | .mk _ _ s k names l,n,d=>if d>60∨(l.length:Int)>30∨(names.length:Int)>30∨(s.size:Int)>100∨names.any longH=true then 1000 else nCs l (nK (.mk k) (bump n) 1) d
def nCs:List ConT→Int→Int→Int
 | [],n,_=>n
 |x::r,n,d=>if n≤200 then nCs r (nC x n (d+1)) d else n
end
mutual
def nT:TermT→Int→Int→Int
 | .mk _ _ s con to k names l,n,d=>if d>60∨(l.length:Int)>30∨(names.length:Int)>30∨((s.size:Int)>1000∧(s.size:Int)≤16384)∨(s.size:Int)>20000∨names.any longH=true then 1000 else
   nTs l (nC to (nC con (nK (.mk k) (bump n) 1) 1) 1) d
def nTs:List TermT→Int→Int→Int
 | [],n,_=>n
 |x::r,n,d=>if n≤600 then nTs r (nT x n (d+1)) d else n
end
def bigT (t:TermT):Bool:=decide (nT t 0 1>600)
def nB (n:Int):Box:=⟨.one,.one (.pv (.int .i64 n))⟩
def kB:Box:=⟨.one,.one (.fn 43 [.ptr (.ref 0) 0,.ptr (.ref 1) 0])⟩
def cB:Box:=⟨.one,.one (.fn 44 [.ptr (.ref 0) 0,.ptr (.ref 1) 0,.ptr (.ref 2) 0])⟩
def wB:Box:=⟨.one,.one (.fn 47 [.ptr (.ref 0) 0,.ptr (.ref 1) 0,.ptr (.ref 2) 0,.ptr (.ref 3) 0])⟩
theorem bigLong_spec (s:ByteArray):Spec Tryz.prog 46 [pp (.str s)] [] (.bool (longH s)) []:=by
 rw[longH]
 refine wk (rv:=[.tmp 2]) ann46 6 Tryz.func46 ?_
 simp only[go_sem]
theorem bigLongT_spec (s:ByteArray):Spec Tryz.prog 48 [pp (.str s)] [] (.bool (longH s)) []:=by
 rw[longH]
 refine wk (rv:=[.tmp 2]) ann48 6 Tryz.func48 ?_
 simp only[go_sem]
theorem bigK_spec (k:KindT):∀n d:Int,0≤d→d≤1000→Spec Tryz.prog 43 [pp (encK k),ii d,.one (.ptr (.ref 0) 0),.one (.ptr (.ref 1) 0)] [nB n,kB] (.tuple []) [nB (nK k n d),kB]:=by
 revert k
 refine KindT.ind1 fun l ih=>?_
 intro n d h1 h2
 generalize hres:nK (.mk l) n d=res
 rw[nK] at hres
 have w1:IntKind.i64.wrap (d+1)=d+1:=wrap_id (by omega) (by omega)
 have w0:IntKind.i64.wrap (n+1)=bump n:=rfl
 refine wf (rv:=[]) ann43 37 Tryz.func43 fun hfit=>?_
 have hlen:l.length≤9223372036854775807:=by
   simp only[argsFit,SV.pv?,SC.pv?,encK_mk,PV.fit,fitL,List.length_map,maxLen_eq] at hfit
   exact hfit.1.1.1
 clear hfit
 generalize hm:bump n=m0 at hres w0
 simp only[go_sem,encK_mk,List.length_map,w0,nB,kB]
 by_cases hd:d>30
 · rw[if_pos (.inl hd)] at hres
   simp only[go_sem,List.length_map,decide_eq_true hd]
   refine aLoop_list (α:=KindT) (β:=Nat×Int) (fun rest b=>⟨[(6,ii b.1),(1,ii d),(4,pp (.ep (encK (.mk l)) 0)),(3,.one (.ptr (.ref 1) 0)),(2,.one (.ptr (.ref 0) 0))],[(.ref 0,nB b.2),(.ref 1,kB)],[]⟩)
     (fun rest b=>∃pre,l=pre++rest∧b.1=pre.length∧(d≤30∨b.2>200)∧nKs rest b.2 d=res) ?_ ?_ l (0,_) _ ?_ ⟨[],rfl,rfl,by simp only;omega,hres⟩
   · rintro ⟨m,v⟩ ⟨pre,g1,g2,g5,g3⟩ K
     simp only[List.append_nil] at g1 g2
     subst g1
     rw[nKs] at g3
     subst g3
     simp only[go_sem,g2,lt_false (Int.le_refl _),List.length_map,encK_mk,nB,kB]
   · rintro x rest ⟨m,v⟩ ⟨pre,g1,g2,g5,g3⟩ K hK
     simp only at g2 g3 g5
     have hx:(l.map encK)[m]? = some (encK x):=by simp[g1,g2]
     have hlt:(m:Int)<l.length:=by rw[g1,g2];simp;omega
     have hll2:m<l.length:=by rw[g1,g2];simp
     have hm:x∈l:=by simp[g1]
     have w4:IntKind.i64.wrap ((m:Int)+1)=((m+1:Nat):Int):=by rw[wrap_id (by omega) (by omega)];simp
     by_cases hv:v≤200
     · rw[nKs,if_pos hv] at g3
       have hI:=ih x hm v (d+1) (by omega) (by omega)
       generalize nK x v (d+1)=y at hI g3
       simp only[nB,kB] at hI
       simp only[go_sem,List.length_map,decide_eq_true hlt,decide_eq_true hv,Int.toNat_natCast,Int.natCast_nonneg,hx,encK_sz,w1,encK_mk,nB,kB]
       refine aCall_intro hI ?_
       simp only[go_sem,w4]
       try (refine ⟨by kernel_rfl,?_⟩;try simp only[go_sem,w4])
       refine hK (m+1,y) _ ?_ ⟨pre++[x],by simp[g1],by simp[g2],by simp only;omega,g3⟩
       simp only[go_sem,encK_mk,nB,kB]
     · rw[nKs,if_neg hv] at g3
       subst g3
       simp only[go_sem,List.length_map,decide_eq_true hlt,decide_eq_false hv,encK_mk,nB,kB]
   · simp only[go_sem,Int.natCast_zero,encK_mk,nB,kB]
 · by_cases hl:(l.length:Int)>10
   · rw[if_pos (.inr hl)] at hres
     simp only[go_sem,List.length_map,decide_eq_false hd,decide_eq_true hl]
     refine aLoop_list (α:=KindT) (β:=Nat×Int) (fun rest b=>⟨[(6,ii b.1),(1,ii d),(4,pp (.ep (encK (.mk l)) 0)),(3,.one (.ptr (.ref 1) 0)),(2,.one (.ptr (.ref 0) 0))],[(.ref 0,nB b.2),(.ref 1,kB)],[]⟩)
       (fun rest b=>∃pre,l=pre++rest∧b.1=pre.length∧(d≤30∨b.2>200)∧nKs rest b.2 d=res) ?_ ?_ l (0,_) _ ?_ ⟨[],rfl,rfl,by simp only;omega,hres⟩
     · rintro ⟨m,v⟩ ⟨pre,g1,g2,g5,g3⟩ K
       simp only[List.append_nil] at g1 g2
       subst g1
       rw[nKs] at g3
       subst g3
       simp only[go_sem,g2,lt_false (Int.le_refl _),List.length_map,encK_mk,nB,kB]
     · rintro x rest ⟨m,v⟩ ⟨pre,g1,g2,g5,g3⟩ K hK
       simp only at g2 g3 g5
       have hx:(l.map encK)[m]? = some (encK x):=by simp[g1,g2]
       have hlt:(m:Int)<l.length:=by rw[g1,g2];simp;omega
       have hll2:m<l.length:=by rw[g1,g2];simp
       have hm:x∈l:=by simp[g1]
       have w4:IntKind.i64.wrap ((m:Int)+1)=((m+1:Nat):Int):=by rw[wrap_id (by omega) (by omega)];simp
       by_cases hv:v≤200
       · rw[nKs,if_pos hv] at g3
         have hI:=ih x hm v (d+1) (by omega) (by omega)
         generalize nK x v (d+1)=y at hI g3
         simp only[nB,kB] at hI
         simp only[go_sem,List.length_map,decide_eq_true hlt,decide_eq_true hv,Int.toNat_natCast,Int.natCast_nonneg,hx,encK_sz,w1,encK_mk,nB,kB]
         refine aCall_intro hI ?_
         simp only[go_sem,w4]
         try (refine ⟨by kernel_rfl,?_⟩;try simp only[go_sem,w4])
         refine hK (m+1,y) _ ?_ ⟨pre++[x],by simp[g1],by simp[g2],by simp only;omega,g3⟩
         simp only[go_sem,encK_mk,nB,kB]
       · rw[nKs,if_neg hv] at g3
         subst g3
         simp only[go_sem,List.length_map,decide_eq_true hlt,decide_eq_false hv,encK_mk,nB,kB]
     · simp only[go_sem,Int.natCast_zero,encK_mk,nB,kB]
   · rw[if_neg (by rintro (e|e);exact hd e;exact hl e)] at hres
     simp only[go_sem,List.length_map,decide_eq_false hd,decide_eq_false hl]
     refine aLoop_list (α:=KindT) (β:=Nat×Int) (fun rest b=>⟨[(6,ii b.1),(1,ii d),(4,pp (.ep (encK (.mk l)) 0)),(3,.one (.ptr (.ref 1) 0)),(2,.one (.ptr (.ref 0) 0))],[(.ref 0,nB b.2),(.ref 1,kB)],[]⟩)
       (fun rest b=>∃pre,l=pre++rest∧b.1=pre.length∧(d≤30∨b.2>200)∧nKs rest b.2 d=res) ?_ ?_ l (0,_) _ ?_ ⟨[],rfl,rfl,by simp only;omega,hres⟩
     · rintro ⟨m,v⟩ ⟨pre,g1,g2,g5,g3⟩ K
       simp only[List.append_nil] at g1 g2
       subst g1
       rw[nKs] at g3
       subst g3
       simp only[go_sem,g2,lt_false (Int.le_refl _),List.length_map,encK_mk,nB,kB]
     · rintro x rest ⟨m,v⟩ ⟨pre,g1,g2,g5,g3⟩ K hK
       simp only at g2 g3 g5
       have hx:(l.map encK)[m]? = some (encK x):=by simp[g1,g2]
       have hlt:(m:Int)<l.length:=by rw[g1,g2];simp;omega
       have hll2:m<l.length:=by rw[g1,g2];simp
       have hm:x∈l:=by simp[g1]
       have w4:IntKind.i64.wrap ((m:Int)+1)=((m+1:Nat):Int):=by rw[wrap_id (by omega) (by omega)];simp
       by_cases hv:v≤200
       · rw[nKs,if_pos hv] at g3
         have hI:=ih x hm v (d+1) (by omega) (by omega)
         generalize nK x v (d+1)=y at hI g3
         simp only[nB,kB] at hI
         simp only[go_sem,List.length_map,decide_eq_true hlt,decide_eq_true hv,Int.toNat_natCast,Int.natCast_nonneg,hx,encK_sz,w1,encK_mk,nB,kB]
         refine aCall_intro hI ?_
         simp only[go_sem,w4]
         try (refine ⟨by kernel_rfl,?_⟩;try simp only[go_sem,w4])
         refine hK (m+1,y) _ ?_ ⟨pre++[x],by simp[g1],by simp[g2],by simp only;omega,g3⟩
         simp only[go_sem,encK_mk,nB,kB]
       · rw[nKs,if_neg hv] at g3
         subst g3
         simp only[go_sem,List.length_map,decide_eq_true hlt,decide_eq_false hv,encK_mk,nB,kB]
     · simp only[go_sem,Int.natCast_zero,encK_mk,nB,kB]
theorem bigC_spec (t:ConT):∀n d:Int,0≤d→d≤1000→Spec Tryz.prog 44 [pp (encC t),ii d,.one (.ptr (.ref 0) 0),.one (.ptr (.ref 1) 0),.one (.ptr (.ref 2) 0)] [nB n,kB,cB] (.tuple []) [nB (nC t n d),kB,cB]:=by
 revert t
 refine ConT.ind1 fun op n0 s k names l ih=>?_
 intro n d h1 h2
 generalize hres:nC (.mk op n0 s k names l) n d=res
 rw[nC] at hres
 have w1:IntKind.i64.wrap (d+1)=d+1:=wrap_id (by omega) (by omega)
 have w0:IntKind.i64.wrap (n+1)=bump n:=rfl
 have hA:Spec Tryz.prog 45 [pp (.slice (names.map .str)),pp (.fn 46 [])] [] (.bool (names.any longH)) []:=
   ContainsFuncS PV.str names 46 [] _ (fun e _=>rfl) fun x _=>bigLong_spec x
 generalize names.any longH=an at hA hres
 refine wf (rv:=[]) ann44 59 Tryz.func44 fun hfit=>?_
 have hlen:l.length≤9223372036854775807:=by
   simp only[argsFit,SV.pv?,SC.pv?,encC_mk,PV.fit,fitL,List.length_map,maxLen_eq] at hfit
   exact hfit.1.2.2.2.2.2.1.1
 clear hfit
 generalize hm:bump n=m0 at hres w0
 simp only[go_sem,encC_mk,List.length_map,w0,nB,kB,cB]
 by_cases c0:d>60
 · rw[if_pos (.inl c0)] at hres
   subst hres
   simp only[go_sem,List.length_map,decide_eq_true c0,nB,kB,cB]
 by_cases c1:(l.length:Int)>30
 · rw[if_pos (.inr (.inl c1))] at hres
   subst hres
   simp only[go_sem,List.length_map,decide_eq_false c0,decide_eq_true c1,nB,kB,cB]
 by_cases c2:(names.length:Int)>30
 · rw[if_pos (.inr (.inr (.inl c2)))] at hres
   subst hres
   simp only[go_sem,List.length_map,decide_eq_false c0,decide_eq_false c1,decide_eq_true c2,nB,kB,cB]
 by_cases c3:(s.size:Int)>100
 · rw[if_pos (.inr (.inr (.inr (.inl c3))))] at hres
   subst hres
   simp only[go_sem,List.length_map,decide_eq_false c0,decide_eq_false c1,decide_eq_false c2,decide_eq_true c3,nB,kB,cB]
 cases an with
 |true=>
   rw[if_pos (.inr (.inr (.inr (.inr rfl))))] at hres
   subst hres
   simp only[go_sem,List.length_map,decide_eq_false c0,decide_eq_false c1,decide_eq_false c2,decide_eq_false c3,nB,kB,cB]
   refine aCall_intro hA ?_
   simp only[go_sem,nB,kB,cB]
 |false=>
   rw[if_neg (by rintro (e|e|e|e|e);exact c0 e;exact c1 e;exact c2 e;exact c3 e;cases e)] at hres
   simp only[go_sem,List.length_map,decide_eq_false c0,decide_eq_false c1,decide_eq_false c2,decide_eq_false c3,nB,kB,cB]
   refine aCall_intro hA ?_
   simp only[go_sem,nB,kB,cB]
   have hK1:=bigK_spec (.mk k) m0 1 (by decide) (by decide)
   simp only[encK_mk,nB,kB] at hK1
   generalize nK (.mk k) m0 1=y1 at hK1 hres
   refine aCall_intro hK1 ?_
   simp only[go_sem,List.length_map]
   try (refine ⟨by kernel_rfl,?_⟩;try simp only[go_sem,List.length_map])
   refine aLoop_list (α:=ConT) (β:=Nat×Int) (fun rest b=>⟨[(7,ii b.1),(1,ii d),(5,pp (.ep (encC (.mk op n0 s k names l)) 0)),(4,.one (.ptr (.ref 2) 0)),(2,.one (.ptr (.ref 0) 0))],[(.ref 0,nB b.2),(.ref 1,kB),(.ref 2,cB)],[]⟩)
     (fun rest b=>∃pre,l=pre++rest∧b.1=pre.length∧nCs rest b.2 d=res) ?_ ?_ l (0,_) _ ?_ ⟨[],rfl,rfl,hres⟩
   · rintro ⟨m,v⟩ ⟨pre,g1,g2,g3⟩ K
     simp only[List.append_nil] at g1 g2
     subst g1
     rw[nCs] at g3
     subst g3
     simp only[go_sem,g2,lt_false (Int.le_refl _),List.length_map,encC_mk,nB,kB,cB]
   · rintro x rest ⟨m,v⟩ ⟨pre,g1,g2,g3⟩ K hK
     simp only at g2 g3
     have hx:(l.map encC)[m]? = some (encC x):=by simp[g1,g2]
     have hlt:(m:Int)<l.length:=by rw[g1,g2];simp;omega
     have hll2:m<l.length:=by rw[g1,g2];simp
     have hm:x∈l:=by simp[g1]
     have w4:IntKind.i64.wrap ((m:Int)+1)=((m+1:Nat):Int):=by rw[wrap_id (by omega) (by omega)];simp
     by_cases hv:v≤200
     · rw[nCs,if_pos hv] at g3
       have hI:=ih x hm v (d+1) (by omega) (by omega)
       generalize nC x v (d+1)=y at hI g3
       simp only[nB,kB,cB] at hI
       simp only[go_sem,List.length_map,decide_eq_true hlt,decide_eq_true hv,Int.toNat_natCast,Int.natCast_nonneg,hx,encC_sz,w1,encC_mk,nB,kB,cB]
       refine aCall_intro hI ?_
       simp only[go_sem,w4]
       try (refine ⟨by kernel_rfl,?_⟩;try simp only[go_sem,w4])
       refine hK (m+1,y) _ ?_ ⟨pre++[x],by simp[g1],by simp[g2],g3⟩
       simp only[go_sem,encC_mk,nB,kB,cB]
     · rw[nCs,if_neg hv] at g3
       subst g3
       simp only[go_sem,List.length_map,decide_eq_true hlt,decide_eq_false hv,encC_mk,nB,kB,cB]
   · simp only[go_sem,Int.natCast_zero,encC_mk,nB,kB,cB]
theorem bigT_spec (t:TermT):∀n d:Int,0≤d→d≤1000→Spec Tryz.prog 47 [pp (encT t),ii d,.one (.ptr (.ref 0) 0),.one (.ptr (.ref 1) 0),.one (.ptr (.ref 2) 0),.one (.ptr (.ref 3) 0)] [nB n,kB,cB,wB] (.tuple []) [nB (nT t n d),kB,cB,wB]:=by
 revert t
 refine TermT.ind1 fun op n0 s con to k names l ih=>?_
 intro n d h1 h2
 generalize hres:nT (.mk op n0 s con to k names l) n d=res
 rw[nT] at hres
 have w1:IntKind.i64.wrap (d+1)=d+1:=wrap_id (by omega) (by omega)
 have w0:IntKind.i64.wrap (n+1)=bump n:=rfl
 have hA:Spec Tryz.prog 45 [pp (.slice (names.map .str)),pp (.fn 48 [])] [] (.bool (names.any longH)) []:=
   ContainsFuncS PV.str names 48 [] _ (fun e _=>rfl) fun x _=>bigLongT_spec x
 generalize names.any longH=an at hA hres
 refine wf (rv:=[]) ann47 80 Tryz.func47 fun hfit=>?_
 have hlen:l.length≤9223372036854775807:=by
   simp only[argsFit,SV.pv?,SC.pv?,encT_mk,PV.fit,fitL,List.length_map,maxLen_eq] at hfit
   exact hfit.1.2.2.2.2.2.2.2.2.2.2.2.2.2.2.2.2.2.1.1
 clear hfit
 generalize hm:bump n=m0 at hres w0
 simp only[go_sem,encT_mk,List.length_map,w0,nB,kB,cB,wB]
 by_cases c0:d>60
 · rw[if_pos (.inl c0)] at hres
   subst hres
   simp only[go_sem,List.length_map,decide_eq_true c0,nB,kB,cB,wB]
 by_cases c1:(l.length:Int)>30
 · rw[if_pos (.inr (.inl c1))] at hres
   subst hres
   simp only[go_sem,List.length_map,decide_eq_false c0,decide_eq_true c1,nB,kB,cB,wB]
 by_cases c2:(names.length:Int)>30
 · rw[if_pos (.inr (.inr (.inl c2)))] at hres
   subst hres
   simp only[go_sem,List.length_map,decide_eq_false c0,decide_eq_false c1,decide_eq_true c2,nB,kB,cB,wB]
 by_cases c3:(s.size:Int)>1000∧(s.size:Int)≤16384
 · rw[if_pos (.inr (.inr (.inr (.inl c3))))] at hres
   subst hres
   simp only[go_sem,List.length_map,decide_eq_false c0,decide_eq_false c1,decide_eq_false c2,decide_eq_true c3.1,decide_eq_true c3.2,nB,kB,cB,wB]
 rcases (show ¬(s.size:Int)>1000∨((s.size:Int)>1000∧¬(s.size:Int)≤16384) from Decidable.byCases (p:=(s.size:Int)>1000) (fun e=>.inr ⟨e,fun e2=>c3 ⟨e,e2⟩⟩) (fun e=>.inl e)) with hs|⟨hs,hs2⟩
 · have c4:¬(s.size:Int)>20000:=by omega
   cases an with
   |true=>
     rw[if_pos (.inr (.inr (.inr (.inr (.inr rfl)))))] at hres
     subst hres
     simp only[go_sem,List.length_map,decide_eq_false c0,decide_eq_false c1,decide_eq_false c2,decide_eq_false hs,decide_eq_false c4,nB,kB,cB,wB]
     refine aCall_intro hA ?_
     simp only[go_sem,nB,kB,cB,wB]
   |false=>
     rw[if_neg (by rintro (e|e|e|e|e|e);exact c0 e;exact c1 e;exact c2 e;exact c3 e;exact c4 e;cases e)] at hres
     simp only[go_sem,List.length_map,decide_eq_false c0,decide_eq_false c1,decide_eq_false c2,decide_eq_false hs,decide_eq_false c4,nB,kB,cB,wB]
     refine aCall_intro hA ?_
     simp only[go_sem,nB,kB,cB,wB]
     have hK1:=bigK_spec (.mk k) m0 1 (by decide) (by decide)
     simp only[encK_mk,nB,kB] at hK1
     generalize nK (.mk k) m0 1=y1 at hK1 hres
     refine aCall_intro hK1 ?_
     simp only[go_sem]
     try (refine ⟨by kernel_rfl,?_⟩;try simp only[go_sem])
     have hC1:=bigC_spec con y1 1 (by decide) (by decide)
     simp only[encC_cells,ConT.cells,nB,kB,cB] at hC1
     generalize nC con y1 1=y2 at hC1 hres
     refine aCall_intro hC1 ?_
     simp only[go_sem]
     try (refine ⟨by kernel_rfl,?_⟩;try simp only[go_sem])
     have hC2:=bigC_spec to y2 1 (by decide) (by decide)
     simp only[encC_cells,ConT.cells,nB,kB,cB] at hC2
     generalize nC to y2 1=y3 at hC2 hres
     refine aCall_intro hC2 ?_
     simp only[go_sem,List.length_map]
     try (refine ⟨by kernel_rfl,?_⟩;try simp only[go_sem,List.length_map])
     refine aLoop_list (α:=TermT) (β:=Nat×Int) (fun rest b=>⟨[(8,ii b.1),(1,ii d),(6,pp (.ep (encT (.mk op n0 s con to k names l)) 0)),(5,.one (.ptr (.ref 3) 0)),(2,.one (.ptr (.ref 0) 0))],[(.ref 0,nB b.2),(.ref 1,kB),(.ref 2,cB),(.ref 3,wB)],[]⟩)
       (fun rest b=>∃pre,l=pre++rest∧b.1=pre.length∧nTs rest b.2 d=res) ?_ ?_ l (0,_) _ ?_ ⟨[],rfl,rfl,hres⟩
     · rintro ⟨m,v⟩ ⟨pre,g1,g2,g3⟩ K
       simp only[List.append_nil] at g1 g2
       subst g1
       rw[nTs] at g3
       subst g3
       simp only[go_sem,g2,lt_false (Int.le_refl _),List.length_map,encT_mk,nB,kB,cB,wB]
     · rintro x rest ⟨m,v⟩ ⟨pre,g1,g2,g3⟩ K hK
       simp only at g2 g3
       have hx:(l.map encT)[m]? = some (encT x):=by simp[g1,g2]
       have hlt:(m:Int)<l.length:=by rw[g1,g2];simp;omega
       have hll2:m<l.length:=by rw[g1,g2];simp
       have hm:x∈l:=by simp[g1]
       have w4:IntKind.i64.wrap ((m:Int)+1)=((m+1:Nat):Int):=by rw[wrap_id (by omega) (by omega)];simp
       by_cases hv:v≤600
       · rw[nTs,if_pos hv] at g3
         have hI:=ih x hm v (d+1) (by omega) (by omega)
         generalize nT x v (d+1)=y at hI g3
         simp only[nB,kB,cB,wB] at hI
         simp only[go_sem,List.length_map,decide_eq_true hlt,decide_eq_true hv,Int.toNat_natCast,Int.natCast_nonneg,hx,encT_sz,w1,encT_mk,nB,kB,cB,wB]
         refine aCall_intro hI ?_
         simp only[go_sem,w4]
         try (refine ⟨by kernel_rfl,?_⟩;try simp only[go_sem,w4])
         refine hK (m+1,y) _ ?_ ⟨pre++[x],by simp[g1],by simp[g2],g3⟩
         simp only[go_sem,encT_mk,nB,kB,cB,wB]
       · rw[nTs,if_neg hv] at g3
         subst g3
         simp only[go_sem,List.length_map,decide_eq_true hlt,decide_eq_false hv,encT_mk,nB,kB,cB,wB]
     · simp only[go_sem,Int.natCast_zero,encT_mk,nB,kB,cB,wB]
 · by_cases c4:(s.size:Int)>20000
   · rw[if_pos (.inr (.inr (.inr (.inr (.inl c4)))))] at hres
     subst hres
     simp only[go_sem,List.length_map,decide_eq_false c0,decide_eq_false c1,decide_eq_false c2,decide_eq_true hs,decide_eq_false hs2,decide_eq_true c4,nB,kB,cB,wB]
   cases an with
   |true=>
     rw[if_pos (.inr (.inr (.inr (.inr (.inr rfl)))))] at hres
     subst hres
     simp only[go_sem,List.length_map,decide_eq_false c0,decide_eq_false c1,decide_eq_false c2,decide_eq_true hs,decide_eq_false hs2,decide_eq_false c4,nB,kB,cB,wB]
     refine aCall_intro hA ?_
     simp only[go_sem,nB,kB,cB,wB]
   |false=>
     rw[if_neg (by rintro (e|e|e|e|e|e);exact c0 e;exact c1 e;exact c2 e;exact c3 e;exact c4 e;cases e)] at hres
     simp only[go_sem,List.length_map,decide_eq_false c0,decide_eq_false c1,decide_eq_false c2,decide_eq_true hs,decide_eq_false hs2,decide_eq_false c4,nB,kB,cB,wB]
     refine aCall_intro hA ?_
     simp only[go_sem,nB,kB,cB,wB]
     have hK1:=bigK_spec (.mk k) m0 1 (by decide) (by decide)
     simp only[encK_mk,nB,kB] at hK1
     generalize nK (.mk k) m0 1=y1 at hK1 hres
     refine aCall_intro hK1 ?_
     simp only[go_sem]
     try (refine ⟨by kernel_rfl,?_⟩;try simp only[go_sem])
     have hC1:=bigC_spec con y1 1 (by decide) (by decide)
     simp only[encC_cells,ConT.cells,nB,kB,cB] at hC1
     generalize nC con y1 1=y2 at hC1 hres
     refine aCall_intro hC1 ?_
     simp only[go_sem]
     try (refine ⟨by kernel_rfl,?_⟩;try simp only[go_sem])
     have hC2:=bigC_spec to y2 1 (by decide) (by decide)
     simp only[encC_cells,ConT.cells,nB,kB,cB] at hC2
     generalize nC to y2 1=y3 at hC2 hres
     refine aCall_intro hC2 ?_
     simp only[go_sem,List.length_map]
     try (refine ⟨by kernel_rfl,?_⟩;try simp only[go_sem,List.length_map])
     refine aLoop_list (α:=TermT) (β:=Nat×Int) (fun rest b=>⟨[(8,ii b.1),(1,ii d),(6,pp (.ep (encT (.mk op n0 s con to k names l)) 0)),(5,.one (.ptr (.ref 3) 0)),(2,.one (.ptr (.ref 0) 0))],[(.ref 0,nB b.2),(.ref 1,kB),(.ref 2,cB),(.ref 3,wB)],[]⟩)
       (fun rest b=>∃pre,l=pre++rest∧b.1=pre.length∧nTs rest b.2 d=res) ?_ ?_ l (0,_) _ ?_ ⟨[],rfl,rfl,hres⟩
     · rintro ⟨m,v⟩ ⟨pre,g1,g2,g3⟩ K
       simp only[List.append_nil] at g1 g2
       subst g1
       rw[nTs] at g3
       subst g3
       simp only[go_sem,g2,lt_false (Int.le_refl _),List.length_map,encT_mk,nB,kB,cB,wB]
     · rintro x rest ⟨m,v⟩ ⟨pre,g1,g2,g3⟩ K hK
       simp only at g2 g3
       have hx:(l.map encT)[m]? = some (encT x):=by simp[g1,g2]
       have hlt:(m:Int)<l.length:=by rw[g1,g2];simp;omega
       have hll2:m<l.length:=by rw[g1,g2];simp
       have hm:x∈l:=by simp[g1]
       have w4:IntKind.i64.wrap ((m:Int)+1)=((m+1:Nat):Int):=by rw[wrap_id (by omega) (by omega)];simp
       by_cases hv:v≤600
       · rw[nTs,if_pos hv] at g3
         have hI:=ih x hm v (d+1) (by omega) (by omega)
         generalize nT x v (d+1)=y at hI g3
         simp only[nB,kB,cB,wB] at hI
         simp only[go_sem,List.length_map,decide_eq_true hlt,decide_eq_true hv,Int.toNat_natCast,Int.natCast_nonneg,hx,encT_sz,w1,encT_mk,nB,kB,cB,wB]
         refine aCall_intro hI ?_
         simp only[go_sem,w4]
         try (refine ⟨by kernel_rfl,?_⟩;try simp only[go_sem,w4])
         refine hK (m+1,y) _ ?_ ⟨pre++[x],by simp[g1],by simp[g2],g3⟩
         simp only[go_sem,encT_mk,nB,kB,cB,wB]
       · rw[nTs,if_neg hv] at g3
         subst g3
         simp only[go_sem,List.length_map,decide_eq_true hlt,decide_eq_false hv,encT_mk,nB,kB,cB,wB]
     · simp only[go_sem,Int.natCast_zero,encT_mk,nB,kB,cB,wB]
theorem big_spec (t:TermT):Spec Tryz.prog 11 [pp (encT t)] [] (.bool (bigT t)) []:=by
 have hT:=bigT_spec t 0 1 (by decide) (by decide)
 simp only[nB,kB,cB,wB] at hT
 rw[bigT]
 generalize nT t 0 1=y at hT
 refine wk (rv:=[.tmp 2]) ann11 15 Tryz.func11 ?_
 simp only[go_sem,encT_sz]
 refine aCall_intro hT ?_
 simp only[go_sem]
def intC4:ConT:=.mk 4 0 ByteArray.empty [] [] []
def lamA (x:TermT):TermT:=.mk 4 0 ByteArray.empty intC4 zeroC [] [] [.mk 5 0 ByteArray.empty zeroC zeroC [] [] [varT 0,x]]
def intA (n:Int):TermT:=.mk 2 n ByteArray.empty zeroC zeroC [] [] []
theorem encT_intA (n:Int):encT (intA n)=.agg [.int .i64 2,.int .i64 n,.str ByteArray.empty,.int .i64 0,.int .i64 0,.str ByteArray.empty,.slice [],.slice [],.slice [],.int .i64 0,.int .i64 0,.str ByteArray.empty,.slice [],.slice [],.slice [],.slice [],.slice [],.slice []]:=rfl
theorem encT_lamA (x:TermT):encT (lamA x)=.agg [.int .i64 4,.int .i64 0,.str ByteArray.empty,.int .i64 4,.int .i64 0,.str ByteArray.empty,.slice [],.slice [],.slice [],.int .i64 0,.int .i64 0,.str ByteArray.empty,.slice [],.slice [],.slice [],.slice [],.slice [],
   .slice [.agg [.int .i64 5,.int .i64 0,.str ByteArray.empty,.int .i64 0,.int .i64 0,.str ByteArray.empty,.slice [],.slice [],.slice [],.int .i64 0,.int .i64 0,.str ByteArray.empty,.slice [],.slice [],.slice [],.slice [],.slice [],.slice [encT (varT 0),encT x]]]]:=by
 rw[lamA,encT_mk,List.map_cons,List.map_nil,encT_mk,List.map_cons,List.map_cons,List.map_nil];rfl
def vB:Box:=⟨.one,pp (.fn 41 [])⟩
theorem awake1_spec (n:Int):Spec Tryz.prog 41 [ii n] [] (encT (varT n)) []:=by
 rw[encT_var]
 refine wk (rv:=[.cell 2 31]) ann41 5 Tryz.func41 ?_
 simp only[go_sem]
theorem awake2_spec (x:TermT):Spec Tryz.prog 42 [pp (encT x),.one (.ptr (.ref 0) 0)] [vB] (encT (lamA x)) [vB]:=by
 have h0:=awake1_spec 0
 rw[encT_lamA]
 refine wk (rv:=[.cell 3 31]) ann42 12 Tryz.func42 ?_
 simp only[go_sem,encT_sz,vB]
 refine aCall_intro h0 ?_
 simp only[go_sem,encT_sz]
 try (refine ⟨by kernel_rfl,?_⟩;try simp only[go_sem,encT_sz])
theorem free_awake:FreeT (lamA (varT 1))=([],[0],0):=by kernel_rfl
theorem shift_awake:ShiftT (lamA (varT 1)) 0 2=(lamA (varT 3),0):=by kernel_rfl
theorem subst_awake:SubstT (lamA (varT 1)) (intA 7)=(lamA (intA 7),0):=by kernel_rfl
theorem okT_intA (n:Int):okT (intA n):=by
 simp only[intA,okT,okTs,knL]
 exact ⟨by decide,okCon_zero,okCon_zero,by decide,fun x hx=>by simp at hx,by decide,by simp,trivial⟩
theorem wcT_intA (n:Int):wcT (intA n):=by
 simp only[intA,wcT,wcTs,and_true]
 exact ⟨by decide,by decide⟩
theorem wcT_var (n:Int):wcT (varT n):=by
 simp only[varT,wcT,wcTs,and_true]
 exact ⟨by decide,by decide⟩
theorem okT_lamA {x:TermT}(h:okT x):okT (lamA x):=by
 simp only[lamA,okT,okTs,knL]
 have hi:sizeF intC4≤1000000000∧okS intC4:=⟨by decide,by simp only[intC4,okS,okSs,and_true];exact ⟨by decide,fun x hx=>by simp at hx⟩⟩
 exact ⟨by decide,hi,okCon_zero,by decide,fun x hx=>by simp at hx,by decide,by simp,⟨by decide,okCon_zero,okCon_zero,by decide,fun x hx=>by simp at hx,by decide,by simp,okT_var 0,h,trivial⟩,trivial⟩
theorem wcT_lamA {x:TermT}(h:wcT x):wcT (lamA x):=by
 simp only[lamA,wcT,wcTs,and_true]
 exact ⟨by decide,by decide,by decide,by decide,wcT_var 0,h⟩
theorem tawake_spec:Spec Tryz.prog 10 [] [] (.bool true) []:=by
 have o1:=okT_lamA (okT_var 1)
 have c1:=wcT_lamA (wcT_var 1)
 have hF:=tFreeX_spec (lamA (varT 1)) o1 c1
 have hSh:=tShift_spec (lamA (varT 1)) 0 2 o1 c1
 have hSu:=tSubst_spec (lamA (varT 1)) (intA 7) o1 c1 (okT_intA 7) (wcT_intA 7)
 rw[free_awake] at hF
 rw[shift_awake] at hSh
 rw[subst_awake] at hSu
 have hE3:=rtSame_spec (lamA (varT 3)) (lamA (varT 3))
 have hE7:=rtSame_spec (lamA (intA 7)) (lamA (intA 7))
 rw[sameT_refl] at hE3 hE7
 have hEq:=EqualI [0] [0]
 have hEq0:eqL intEq [0] [0]=true:=by decide
 rw[hEq0] at hEq
 have v1:=awake1_spec 1
 have v3:=awake1_spec 3
 have l1:=awake2_spec (varT 1)
 have l3:=awake2_spec (varT 3)
 have l7:=awake2_spec (intA 7)
 rw[encT_intA] at l7 hSu
 simp only[ints,List.map_cons,List.map_nil,vB] at hF hEq l1 l3 l7
 generalize lamA (varT 1)=y1 at hF hSh hSu l1
 generalize lamA (varT 3)=y3 at hSh hE3 l3
 generalize lamA (intA 7)=y7 at hSu hE7 l7
 generalize varT 1=x1 at v1 l1
 generalize varT 3=x3 at v3 l3
 have e0:((0:Int)==0)=true:=rfl
 refine wk (rv:=[.tmp 0]) ann10 67 Tryz.func10 ?_
 simp only[go_sem]
 refine aCall_intro v1 ?_
 simp only[go_sem,encT_sz]
 refine aCall_intro l1 ?_
 simp only[go_sem,encT_sz]
 try (refine ⟨by kernel_rfl,?_⟩;try simp only[go_sem,encT_sz])
 refine aCall_intro hF ?_
 simp only[go_sem,encT_sz]
 refine aCall_intro v1 ?_
 simp only[go_sem,encT_sz]
 refine aCall_intro l1 ?_
 simp only[go_sem,encT_sz]
 try (refine ⟨by kernel_rfl,?_⟩;try simp only[go_sem,encT_sz])
 refine aCall_intro hSh ?_
 simp only[go_sem,encT_sz]
 refine aCall_intro v1 ?_
 simp only[go_sem,encT_sz]
 refine aCall_intro l1 ?_
 simp only[go_sem,encT_sz]
 try (refine ⟨by kernel_rfl,?_⟩;try simp only[go_sem,encT_sz])
 refine aCall_intro hSu ?_
 simp only[go_sem,encT_sz,e0]
 refine aCall_intro hEq ?_
 simp only[go_sem,encT_sz,e0]
 refine aCall_intro v3 ?_
 simp only[go_sem,encT_sz,e0]
 refine aCall_intro l3 ?_
 simp only[go_sem,encT_sz,e0]
 try (refine ⟨by kernel_rfl,?_⟩;try simp only[go_sem,encT_sz,e0])
 refine aCall_intro hE3 ?_
 simp only[go_sem,encT_sz,e0]
 refine aCall_intro l7 ?_
 simp only[go_sem,encT_sz,e0]
 try (refine ⟨by kernel_rfl,?_⟩;try simp only[go_sem,encT_sz,e0])
 refine aCall_intro hE7 ?_
 simp only[go_sem,encT_sz,e0]
def bigCW (c:ConT):Bool:=bigT (.mk 0 0 ByteArray.empty c zeroC [] [] [])
theorem wide1_spec (c:ConT):Spec Tryz.prog 60 [pp (encC c)] [] (.bool (bigCW c)) []:=by
 have hB:=big_spec (.mk 0 0 ByteArray.empty c zeroC [] [] [])
 rw[bigCW]
 generalize bigT (.mk 0 0 ByteArray.empty c zeroC [] [] [])=b at hB
 simp only[encT_mk,zeroC,ConT.op,ConT.n,ConT.s,ConT.k,ConT.names,ConT.l,List.map_nil] at hB
 rw[encC_cells,ConT.cells]
 refine wk (rv:=[.tmp 2]) ann60 6 Tryz.func60 ?_
 simp only[go_sem]
 refine aCall_intro hB ?_
 simp only[go_sem]
def wideF (l:List ConT):Bool:=if (10<l.length∧l.length≤1000)∨1100<l.length then true else l.any bigCW
theorem wide_spec (l:List ConT):Spec Tryz.prog 18 [pp (.slice (l.map encC))] [] (.bool (wideF l)) []:=by
 have hC:Spec Tryz.prog 59 [pp (.slice (l.map encC)),pp (.fn 60 [])] [] (.bool (l.any bigCW)) []:=
   ContainsFuncC encC l 60 [] _ (fun e _=>encC_sz e) fun x _=>wide1_spec x
 rw[wideF]
 generalize l.any bigCW=b at hC
 rcases (show l.length≤10∨(10<l.length∧l.length≤1000)∨(1000<l.length∧l.length≤1100)∨1100<l.length by omega) with h|h|h|h
 · have d1:decide ((l.length:Int)>10)=false:=decide_eq_false (by omega)
   have d2:decide ((l.length:Int)>1100)=false:=decide_eq_false (by omega)
   rw[if_neg (by omega)]
   refine wk (rv:=[.tmp 2]) ann18 20 Tryz.func18 ?_
   simp only[go_sem,List.length_map,d1,d2]
   refine aCall_intro hC ?_
   simp only[go_sem]
 · have d1:decide ((l.length:Int)>10)=true:=decide_eq_true (by omega)
   have d2:decide ((l.length:Int)≤1000)=true:=decide_eq_true (by omega)
   rw[if_pos (by omega)]
   refine wk (rv:=[.tmp 2]) ann18 20 Tryz.func18 ?_
   simp only[go_sem,List.length_map,d1,d2]
 · have d1:decide ((l.length:Int)>10)=true:=decide_eq_true (by omega)
   have d2:decide ((l.length:Int)>1100)=false:=decide_eq_false (by omega)
   have d3:decide ((l.length:Int)≤1000)=false:=decide_eq_false (by omega)
   rw[if_neg (by omega)]
   refine wk (rv:=[.tmp 2]) ann18 20 Tryz.func18 ?_
   simp only[go_sem,List.length_map,d1,d2,d3]
   refine aCall_intro hC ?_
   simp only[go_sem]
 · have d1:decide ((l.length:Int)>10)=true:=decide_eq_true (by omega)
   have d2:decide ((l.length:Int)>1100)=true:=decide_eq_true (by omega)
   have d3:decide ((l.length:Int)≤1000)=false:=decide_eq_false (by omega)
   rw[if_pos (by omega)]
   refine wk (rv:=[.tmp 2]) ann18 20 Tryz.func18 ?_
   simp only[go_sem,List.length_map,d1,d2,d3]
end Go.Abs.Kon
