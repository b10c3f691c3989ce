/- Small steps. -/
import Derived.Test.YtafhcphggdipaaaGreatDoorTermD
import Derived.Test.YtafhcphggdipaaaGreatDoorStepY
import Derived.Test.YtafhcphggdipaaaGreatDoorStepL
import Derived.Test.YtafhcphggdipaaaGreatDoorTermX
set_option linter.unusedSimpArgs false
set_option linter.unusedVariables false
namespace Go.Abs.Kon
open Go Go.Proofs Go.Abs
set_option maxRecDepth 100000
set_option maxHeartbeats 4000000
def longH (s:ByteArray):Bool:=decide ((s.size:Int)>100)
def bump (n:Int):Int:=IntKind.i64.wrap (n+1)
mutual
def nC:ConT→Int→Int→Int
 | .mk _ _ s k names l,n,d=>if d>50∨(l.length:Int)>30∨(names.length:Int)>30∨(s.size:Int)>100∨(k.length:Int)>2∨names.any longH=true then 10000 else nCs l (bump n) d
def nCs:List ConT→Int→Int→Int
 | [],n,_=>n
 |x::r,n,d=>if n≤700 then nCs r (nC x n (d+1)) d else n
end
mutual
def nT:TermT→Int→Int→Int
 | .mk _ _ s con to k names l,n,d=>if d>60∨(l.length:Int)>30∨(names.length:Int)>30∨(s.size:Int)>1000∨(k.length:Int)>2∨names.any longH=true then 10000 else
  nTs l (nC to (nC con (bump n) 1) 1) d
def nTs:List TermT→Int→Int→Int
 | [],n,_=>n
 |x::r,n,d=>if n≤700 then nTs r (nT x n (d+1)) d else n
end
def bigT (t:TermT):Bool:=decide (nT t 0 1>700)
def nB (n:Int):Box:=⟨.one,.one (.pv (.int .i64 n))⟩
def cB:Box:=⟨.one,.one (.fn 73 [.ptr (.ref 0) 0,.ptr (.ref 1) 0])⟩
def wB:Box:=⟨.one,.one (.fn 75 [.ptr (.ref 0) 0,.ptr (.ref 1) 0,.ptr (.ref 2) 0])⟩
theorem bigLong_spec (s:ByteArray):Spec Tryz.prog 74 [pp (.str s)] [] (.bool (longH s)) []:=by
 rw[longH]
 refine wk (rv:=[.tmp 2]) ann74 6 Tryz.func74 ?_
 simp only[go_sem]
theorem bigLongT_spec (s:ByteArray):Spec Tryz.prog 76 [pp (.str s)] [] (.bool (longH s)) []:=by
 rw[longH]
 refine wk (rv:=[.tmp 2]) ann76 6 Tryz.func76 ?_
 simp only[go_sem]
theorem bigC_spec (t:ConT):∀n d:Int,0≤d→d≤1000→Spec Tryz.prog 73 [pp (encC t),ii d,.one (.ptr (.ref 0) 0),.one (.ptr (.ref 1) 0)] [nB n,cB] (.tuple []) [nB (nC t n d),cB]:=by
 revert t
 refine ConT.ind1 fun op n0 s k names l ih=>?_
 intro n d h1 h2
 generalize hres:nC (.mk op n0 s k names l) n d=res
 rw[nC] at hres
 have w1:IntKind.i64.wrap (d+1)=d+1:=wrap_id (by omega) (by omega)
 have w0:IntKind.i64.wrap (n+1)=bump n:=rfl
 have hA:Spec Tryz.prog 45 [pp (.slice (names.map .str)),pp (.fn 74 [])] [] (.bool (names.any longH)) []:=
  ContainsFuncS PV.str names 74 [] _ (fun e _=>rfl) fun x _=>bigLong_spec x
 generalize names.any longH=an at hA hres
 refine wf (rv:=[]) ann73 61 Tryz.func73 fun hfit=>?_
 have hlen:l.length≤9223372036854775807:=by
  simp only[argsFit,SV.pv?,SC.pv?,encC_mk,PV.fit,fitL,List.length_map,maxLen_eq] at hfit
  exact hfit.1.2.2.2.2.2.1.1
 clear hfit
 generalize hm:bump n=m0 at hres w0
 simp only[go_sem,encC_mk,List.length_map,w0,nB,cB]
 by_cases c0:d>50
 ·rw[if_pos (.inl c0)] at hres
  subst hres
  simp only[go_sem,List.length_map,decide_eq_true c0,nB,cB]
 by_cases c1:(l.length:Int)>30
 ·rw[if_pos (.inr (.inl c1))] at hres
  subst hres
  simp only[go_sem,List.length_map,decide_eq_false c0,decide_eq_true c1,nB,cB]
 by_cases c2:(names.length:Int)>30
 ·rw[if_pos (.inr (.inr (.inl c2)))] at hres
  subst hres
  simp only[go_sem,List.length_map,decide_eq_false c0,decide_eq_false c1,decide_eq_true c2,nB,cB]
 by_cases c3:(s.size:Int)>100
 ·rw[if_pos (.inr (.inr (.inr (.inl c3))))] at hres
  subst hres
  simp only[go_sem,List.length_map,decide_eq_false c0,decide_eq_false c1,decide_eq_false c2,decide_eq_true c3,nB,cB]
 by_cases c4:(k.length:Int)>2
 ·rw[if_pos (.inr (.inr (.inr (.inr (.inl c4)))))] at hres
  subst hres
  simp only[go_sem,List.length_map,decide_eq_false c0,decide_eq_false c1,decide_eq_false c2,decide_eq_false c3,decide_eq_true c4,nB,cB]
 cases an with
 |true=>
  rw[if_pos (.inr (.inr (.inr (.inr (.inr rfl)))))] at hres
  subst hres
  simp only[go_sem,List.length_map,decide_eq_false c0,decide_eq_false c1,decide_eq_false c2,decide_eq_false c3,decide_eq_false c4,nB,cB]
  refine aCall_intro hA ?_
  simp only[go_sem,nB,cB]
 |false=>
  rw[if_neg (by rintro (e|e|e|e|e|e);exact c0 e;exact c1 e;exact c2 e;exact c3 e;exact c4 e;cases e)] at hres
  simp only[go_sem,List.length_map,decide_eq_false c0,decide_eq_false c1,decide_eq_false c2,decide_eq_false c3,decide_eq_false c4,nB,cB]
  refine aCall_intro hA ?_
  simp only[go_sem,List.length_map,nB,cB]
  try (refine ⟨by kernel_rfl,?_⟩;try simp only[go_sem,List.length_map])
  refine aLoop_list (α:=ConT) (β:=Nat×Int) (fun rest b=>⟨[(6,ii b.1),(1,ii d),(4,pp (.ep (encC (.mk op n0 s k names l)) 0)),(3,.one (.ptr (.ref 1) 0)),(2,.one (.ptr (.ref 0) 0))],[(.ref 0,nB b.2),(.ref 1,cB)],[]⟩)
   (fun rest b=>∃pre,l=pre++rest∧b.1=pre.length∧nCs rest b.2 d=res) ?_ ?_ l (0,_) _ ?_ ⟨[],rfl,rfl,hres⟩
  ·rintro ⟨m,v⟩ ⟨pre,g1,g2,g3⟩ K
   simp only[List.append_nil] at g1 g2
   subst g1
   rw[nCs] at g3
   subst g3
   simp only[go_sem,g2,lt_false (Int.le_refl _),List.length_map,encC_mk,nB,cB]
  ·rintro x rest ⟨m,v⟩ ⟨pre,g1,g2,g3⟩ K hK
   simp only at g2 g3
   have hx:(l.map encC)[m]? = some (encC x):=by simp[g1,g2]
   have hlt:(m:Int)<l.length:=by rw[g1,g2];simp;omega
   have hll2:m<l.length:=by rw[g1,g2];simp
   have hm:x∈l:=by simp[g1]
   have w4:IntKind.i64.wrap ((m:Int)+1)=((m+1:Nat):Int):=by rw[wrap_id (by omega) (by omega)];simp
   by_cases hv:v≤700
   ·rw[nCs,if_pos hv] at g3
    have hI:=ih x hm v (d+1) (by omega) (by omega)
    generalize nC x v (d+1)=y at hI g3
    simp only[nB,cB] at hI
    simp only[go_sem,List.length_map,decide_eq_true hlt,decide_eq_true hv,Int.toNat_natCast,Int.natCast_nonneg,hx,encC_sz,w1,encC_mk,nB,cB]
    refine aCall_intro hI ?_
    simp only[go_sem,w4]
    try (refine ⟨by kernel_rfl,?_⟩;try simp only[go_sem,w4])
    refine hK (m+1,y) _ ?_ ⟨pre++[x],by simp[g1],by simp[g2],g3⟩
    simp only[go_sem,encC_mk,nB,cB]
   ·rw[nCs,if_neg hv] at g3
    subst g3
    simp only[go_sem,List.length_map,decide_eq_true hlt,decide_eq_false hv,encC_mk,nB,cB]
  ·simp only[go_sem,Int.natCast_zero,encC_mk,nB,cB]
theorem bigT_spec (t:TermT):∀n d:Int,0≤d→d≤1000→Spec Tryz.prog 75 [pp (encT t),ii d,.one (.ptr (.ref 0) 0),.one (.ptr (.ref 1) 0),.one (.ptr (.ref 2) 0)] [nB n,cB,wB] (.tuple []) [nB (nT t n d),cB,wB]:=by
 revert t
 refine TermT.ind1 fun op n0 s con to k names l ih=>?_
 intro n d h1 h2
 generalize hres:nT (.mk op n0 s con to k names l) n d=res
 rw[nT] at hres
 have w1:IntKind.i64.wrap (d+1)=d+1:=wrap_id (by omega) (by omega)
 have w0:IntKind.i64.wrap (n+1)=bump n:=rfl
 have hA:Spec Tryz.prog 45 [pp (.slice (names.map .str)),pp (.fn 76 [])] [] (.bool (names.any longH)) []:=
  ContainsFuncS PV.str names 76 [] _ (fun e _=>rfl) fun x _=>bigLongT_spec x
 generalize names.any longH=an at hA hres
 refine wf (rv:=[]) ann75 70 Tryz.func75 fun hfit=>?_
 have hlen:l.length≤9223372036854775807:=by
  simp only[argsFit,SV.pv?,SC.pv?,encT_mk,PV.fit,fitL,List.length_map,maxLen_eq] at hfit
  exact hfit.1.2.2.2.2.2.2.2.2.2.2.2.2.2.2.2.2.2.1.1
 clear hfit
 generalize hm:bump n=m0 at hres w0
 simp only[go_sem,encT_mk,List.length_map,w0,nB,cB,wB]
 by_cases c0:d>60
 ·rw[if_pos (.inl c0)] at hres
  subst hres
  simp only[go_sem,List.length_map,decide_eq_true c0,nB,cB,wB]
 by_cases c1:(l.length:Int)>30
 ·rw[if_pos (.inr (.inl c1))] at hres
  subst hres
  simp only[go_sem,List.length_map,decide_eq_false c0,decide_eq_true c1,nB,cB,wB]
 by_cases c2:(names.length:Int)>30
 ·rw[if_pos (.inr (.inr (.inl c2)))] at hres
  subst hres
  simp only[go_sem,List.length_map,decide_eq_false c0,decide_eq_false c1,decide_eq_true c2,nB,cB,wB]
 by_cases c3:(s.size:Int)>1000
 ·rw[if_pos (.inr (.inr (.inr (.inl c3))))] at hres
  subst hres
  simp only[go_sem,List.length_map,decide_eq_false c0,decide_eq_false c1,decide_eq_false c2,decide_eq_true c3,nB,cB,wB]
 by_cases c4:(k.length:Int)>2
 ·rw[if_pos (.inr (.inr (.inr (.inr (.inl c4)))))] at hres
  subst hres
  simp only[go_sem,List.length_map,decide_eq_false c0,decide_eq_false c1,decide_eq_false c2,decide_eq_false c3,decide_eq_true c4,nB,cB,wB]
 cases an with
 |true=>
  rw[if_pos (.inr (.inr (.inr (.inr (.inr rfl)))))] at hres
  subst hres
  simp only[go_sem,List.length_map,decide_eq_false c0,decide_eq_false c1,decide_eq_false c2,decide_eq_false c3,decide_eq_false c4,nB,cB,wB]
  refine aCall_intro hA ?_
  simp only[go_sem,nB,cB,wB]
 |false=>
  rw[if_neg (by rintro (e|e|e|e|e|e);exact c0 e;exact c1 e;exact c2 e;exact c3 e;exact c4 e;cases e)] at hres
  simp only[go_sem,List.length_map,decide_eq_false c0,decide_eq_false c1,decide_eq_false c2,decide_eq_false c3,decide_eq_false c4,nB,cB,wB]
  refine aCall_intro hA ?_
  simp only[go_sem,nB,cB,wB]
  have hC1:=bigC_spec con m0 1 (by decide) (by decide)
  simp only[encC_cells,ConT.cells,nB,cB] at hC1
  generalize nC con m0 1=y2 at hC1 hres
  refine aCall_intro hC1 ?_
  simp only[go_sem]
  try (refine ⟨by kernel_rfl,?_⟩;try simp only[go_sem])
  have hC2:=bigC_spec to y2 1 (by decide) (by decide)
  simp only[encC_cells,ConT.cells,nB,cB] at hC2
  generalize nC to y2 1=y3 at hC2 hres
  refine aCall_intro hC2 ?_
  simp only[go_sem,List.length_map]
  try (refine ⟨by kernel_rfl,?_⟩;try simp only[go_sem,List.length_map])
  refine aLoop_list (α:=TermT) (β:=Nat×Int) (fun rest b=>⟨[(7,ii b.1),(1,ii d),(5,pp (.ep (encT (.mk op n0 s con to k names l)) 0)),(4,.one (.ptr (.ref 2) 0)),(2,.one (.ptr (.ref 0) 0))],[(.ref 0,nB b.2),(.ref 1,cB),(.ref 2,wB)],[]⟩)
   (fun rest b=>∃pre,l=pre++rest∧b.1=pre.length∧nTs rest b.2 d=res) ?_ ?_ l (0,_) _ ?_ ⟨[],rfl,rfl,hres⟩
  ·rintro ⟨m,v⟩ ⟨pre,g1,g2,g3⟩ K
   simp only[List.append_nil] at g1 g2
   subst g1
   rw[nTs] at g3
   subst g3
   simp only[go_sem,g2,lt_false (Int.le_refl _),List.length_map,encT_mk,nB,cB,wB]
  ·rintro x rest ⟨m,v⟩ ⟨pre,g1,g2,g3⟩ K hK
   simp only at g2 g3
   have hx:(l.map encT)[m]? = some (encT x):=by simp[g1,g2]
   have hlt:(m:Int)<l.length:=by rw[g1,g2];simp;omega
   have hll2:m<l.length:=by rw[g1,g2];simp
   have hm:x∈l:=by simp[g1]
   have w4:IntKind.i64.wrap ((m:Int)+1)=((m+1:Nat):Int):=by rw[wrap_id (by omega) (by omega)];simp
   by_cases hv:v≤700
   ·rw[nTs,if_pos hv] at g3
    have hI:=ih x hm v (d+1) (by omega) (by omega)
    generalize nT x v (d+1)=y at hI g3
    simp only[nB,cB,wB] at hI
    simp only[go_sem,List.length_map,decide_eq_true hlt,decide_eq_true hv,Int.toNat_natCast,Int.natCast_nonneg,hx,encT_sz,w1,encT_mk,nB,cB,wB]
    refine aCall_intro hI ?_
    simp only[go_sem,w4]
    try (refine ⟨by kernel_rfl,?_⟩;try simp only[go_sem,w4])
    refine hK (m+1,y) _ ?_ ⟨pre++[x],by simp[g1],by simp[g2],g3⟩
    simp only[go_sem,encT_mk,nB,cB,wB]
   ·rw[nTs,if_neg hv] at g3
    subst g3
    simp only[go_sem,List.length_map,decide_eq_true hlt,decide_eq_false hv,encT_mk,nB,cB,wB]
  ·simp only[go_sem,Int.natCast_zero,encT_mk,nB,cB,wB]
theorem big_spec (t:TermT):Spec Tryz.prog 26 [pp (encT t)] [] (.bool (bigT t)) []:=by
 have hT:=bigT_spec t 0 1 (by decide) (by decide)
 simp only[nB,cB,wB] at hT
 rw[bigT]
 generalize nT t 0 1=y at hT
 refine wk (rv:=[.tmp 2]) ann26 13 Tryz.func26 ?_
 simp only[go_sem,encT_sz]
 refine aCall_intro hT ?_
 simp only[go_sem]
def runT:Nat→TermT→List ByteArray→Int→TermT×List ByteArray×Int×Int
 | 0,t,out,st=>(t,out,st,0)
 |n+1,t,out,st=>if (stepT t).2.2=6 then (zeroT,[],0,6) else if (stepT t).2.2≠0 then (t,out,st,0) else
  if out.length+(stepT t).2.1.length>1000 then (zeroT,[],0,5) else runT n (stepT t).1 (out++(stepT t).2.1) (st+1)
def runTop (t:TermT) (fuel:Int):TermT×List ByteArray×Int×Int:=
 if closedT t=false then (zeroT,[],0,1) else if fuel<0∨fuel>1048576 then (zeroT,[],0,2) else runT fuel.toNat t [] 0
theorem rstep_ok {t:TermT}(hok:okT t) (e:(rstepT t).2.2=0):okT (rstepT t).1:=by
 rw[rstepT] at e ⊢
 split at e
 ·cases e
 ·rename_i h1
  have hv:validT t=true:=by
   cases g:validT t with
   |true=>rfl
   |false=>rw[closedT,g] at h1;exact absurd rfl h1
  rw[if_neg h1]
  split at e
  ·cases e
  ·rename_i h2
   rw[if_neg h2]
   split at e
   ·cases e
   ·rename_i h3
    rw[if_neg h3]
    split at e
    ·cases e
    ·rename_i h4
     rw[if_neg h4]
     exact okT_rstep hv hok
theorem step_ok {t:TermT}(hok:okT t) (e:(stepT t).2.2=0):okT (stepT t).1:=by
 rw[step_eq hok] at e ⊢
 exact rstep_ok hok e
theorem step_valid {t:TermT}(e:(stepT t).2.2=0):validT (stepT t).1=true:=by
 rw[stepT] at e ⊢
 split at e
 ·cases e
 ·rename_i h1
  rw[if_neg h1]
  split at e
  ·cases e
  ·rename_i h2
   rw[if_neg h2]
   rw[stepR] at e ⊢
   split at e
   ·rename_i h3;exact absurd e h3
   ·rename_i h3
    rw[if_neg h3]
    split at e
    ·cases e
    ·rename_i h4
     rw[if_neg h4]
     simpa using h4
def encRun (r:TermT×List ByteArray×Int×Int):PV:=.tuple [encT r.1,.slice (r.2.1.map .str),.int .i64 r.2.2.1,.int .i64 r.2.2.2]
theorem encRun_mk (a:TermT) (b:List ByteArray) (c d:Int):encRun (a,b,c,d)=.tuple [encT a,.slice (b.map .str),.int .i64 c,.int .i64 d]:=rfl
def accO (b:Bool) (es:List PV):SC:=if b then .own 94 .one es else .nilS
theorem accO_t (es:List PV):accO true es=.own 94 .one es:=rfl
theorem accO_f (es:List PV):accO false es=.nilS:=rfl
theorem strs_all (l:List ByteArray):((l.map PV.str).all fun x=>PV.hasSz .one x)=true:=by
 rw[List.all_eq_true]
 intro x hx
 obtain ⟨n,_,rfl⟩:=List.mem_map.1 hx
 rfl
theorem reached_spec (t:TermT):Spec Tryz.prog 80 [pp (encT t)] [] (.tuple []) []:=by
 refine wk (rv:=[]) ann80 2 Tryz.func80 ?_
 simp only[go_sem,encT_sz]
theorem step_out {t:TermT}(hok:okT t):(stepT t).2.1.length≤1:=by
 rw[step_eq hok,rstepT]
 repeat' split
 all_goals simp
theorem run_spec (t:TermT) (hv:validT t=true) (hok:okT t) (fuel:Int) (h1:0≤fuel) (h2:fuel≤1048576) :
  Spec Tryz.prog 78 [pp (encT t),ii fuel,pp (.fn 80 [])] [] (encRun (runT fuel.toNat t [] 0)) []:=by
 have hR:=reached_spec
 generalize hres:runT fuel.toNat t [] 0=res
 obtain ⟨k,hk⟩:∃k:Nat,fuel=k:=⟨fuel.toNat,by omega⟩
 subst hk
 rw[Int.toNat_natCast] at hres
 have hRt:=hR t
 refine wk (rv:=[.cell 6 31,.tmp 7,.tmp 8,.tmp 9]) ann78 56 Tryz.func78 ?_
 simp only[go_sem,encT_sz]
 refine aCall_intro hRt ?_
 simp only[go_sem]
 refine aLoop_list (α:=Unit) (β:=TermT×List ByteArray×Int×Bool) (fun rest b=>⟨[(6,.one (.ptr (.loc 6) 0)),(8,ii b.2.2.1),(7,.one (accO b.2.2.2 (b.2.1.map .str))),(3,.one (.ptr (.loc 3) 0)),(2,pp (.fn 80 [])),(1,ii k)],[(.loc 3,⟨.agg 18,pp (encT b.1)⟩),(.loc 6,zboxT)],[]⟩)
  (fun rest b=>b.2.2.1+(rest.length:Int)=k∧0≤b.2.2.1∧runT rest.length b.1 b.2.1 b.2.2.1=res∧validT b.1=true∧okT b.1∧b.2.1.length≤1000∧(b.2.2.2=false→b.2.1=[])) ?_ ?_ (List.replicate k ()) (t,[],0,false) _ ?_ ⟨by simp,by simp,by simpa using hres,hv,hok,by simp,fun _=>rfl⟩
 ·rintro ⟨x,out,st,fl⟩ ⟨g1,g2,g3,g4,g5,g6,g7⟩ K
  simp only[List.length_nil] at g1 g3
  rw[runT] at g3
  subst g3
  rw[encRun_mk]
  have e:st=k:=by omega
  simp only at g7
  cases fl with
  |false=>
   obtain rfl:=g7 rfl
   simp only[go_sem,e,lt_false (Int.le_refl _),accO_f,zboxT,encT_sz,List.map_nil]
  |true=>
   simp only[go_sem,e,lt_false (Int.le_refl _),accO_t,zboxT,encT_sz]
 ·rintro _ rest ⟨x,out,st,fl⟩ ⟨g1,g2,g3,g4,g5,g6,g7⟩ K hK
  simp only[List.length_cons] at g1 g2 g3 g4 g5 g6 g7
  have hS:=Step_spec x g5 trivial
  have hlt:decide (st<(k:Int))=true:=decide_eq_true (by omega)
  have hko:=step_ok g5
  have hpr:=step_out g5
  have hvo:=@step_valid x
  rw[runT] at g3
  have hRx:=hR (stepT x).1
  generalize stepT x=r at hS g3 hko hvo hRx hpr
  obtain ⟨y,pr,e⟩:=r
  simp only[encR] at hS g3 hko hvo hRx hpr
  have w1:IntKind.i64.wrap (st+1)=st+1:=wrap_id (by omega) (by omega)
  by_cases e6:e=6
  ·subst e6
   rw[if_pos rfl] at g3
   subst g3
   rw[encRun_mk,encT_zero]
   cases fl<;>simp only[go_sem,accO_f,accO_t,hlt,zboxT,encT_sz]<;>(refine aCall_intro hS ?_;simp only[go_sem,encT_sz,Int.reduceBEq,List.map_nil])
  have f6:(e==6)=false:=by simpa using e6
  rw[if_neg e6] at g3
  by_cases e0:e=0
  ·subst e0
   rw[if_neg (fun h=>h rfl)] at g3
   have w2:IntKind.i64.wrap ((out.length:Int)+(pr.length:Int))=(out.length:Int)+pr.length:=wrap_id (by omega) (by omega)
   by_cases hL:out.length+pr.length>1000
   ·rw[if_pos hL] at g3
    subst g3
    rw[encRun_mk,encT_zero]
    have hL':decide ((out.length:Int)+(pr.length:Int)>1000)=true:=decide_eq_true (by omega)
    cases fl with
    |false=>
     obtain rfl:=g7 rfl
     simp only[List.length_nil] at hL
     omega
    |true=>
     simp only[go_sem,accO_t,hlt,zboxT,encT_sz]
     refine aCall_intro hS ?_
     simp only[go_sem,encT_sz,Int.reduceBEq,Int.reduceBNe,List.length_map,w2,hL',List.map_nil]
   ·rw[if_neg hL] at g3
    have hL':decide ((out.length:Int)+(pr.length:Int)>1000)=false:=decide_eq_false (by omega)
    have hall:=strs_all pr
    have hb1:(out.length+pr.length)*16≤140737488355328:=by omega
    have hb2:out.length+pr.length≤maxLen:=by rw[maxLen_eq];omega
    have hK':=fun s' hs=>hK (y,out++pr,st+1,true) s' hs ⟨by simp only;omega,by simp only;omega,g3,hvo rfl,hko rfl,by simp only[List.length_append];omega,fun h=>by cases h⟩
    clear hK hko hvo g3
    cases fl with
    |false=>
     obtain rfl:=g7 rfl
     simp only[List.length_nil,Nat.zero_add] at hb1 hb2 w2 hL'
     simp only[go_sem,accO_f,hlt,zboxT,encT_sz,List.map_nil]
     refine aCall_intro hS ?_
     simp only[go_sem,encT_sz,Int.reduceBEq,Int.reduceBNe,List.length_map,List.length_nil,w2,hL',hall,hb1,hb2,w1]
     try (refine ⟨by kernel_rfl,?_⟩;try simp only[go_sem,encT_sz,w1])
     refine aCall_intro hRx ?_
     simp only[go_sem]
     refine hK' _ ?_
     simp only[go_sem,accO_t,List.map_append,zboxT,List.nil_append,List.map_nil]
    |true=>
     rcases out with _|⟨o1,os⟩
     ·simp only[List.length_nil,Nat.zero_add] at hb1 hb2 w2 hL'
      simp only[go_sem,accO_t,hlt,zboxT,encT_sz,List.map_nil]
      refine aCall_intro hS ?_
      simp only[go_sem,encT_sz,Int.reduceBEq,Int.reduceBNe,List.length_map,List.length_nil,w2,hL',hall,hb1,hb2,w1]
      try (refine ⟨by kernel_rfl,?_⟩;try simp only[go_sem,encT_sz,w1])
      refine aCall_intro hRx ?_
      simp only[go_sem]
      refine hK' _ ?_
      simp only[go_sem,accO_t,List.map_append,zboxT,List.nil_append,List.map_nil]
     ·simp only[List.length_cons] at hb1 hb2 w2 hL'
      simp only[go_sem,accO_t,hlt,zboxT,encT_sz,List.map_cons]
      refine aCall_intro hS ?_
      simp only[go_sem,encT_sz,Int.reduceBEq,Int.reduceBNe,List.length_map,List.length_cons,w2,hL',hall,hb1,hb2,w1]
      try (refine ⟨by kernel_rfl,?_⟩;try simp only[go_sem,encT_sz,w1])
      refine aCall_intro hRx ?_
      simp only[go_sem]
      refine hK' _ ?_
      simp only[go_sem,accO_t,List.map_append,zboxT,List.cons_append,List.map_cons]
  ·rw[if_pos e0] at g3
   subst g3
   rw[encRun_mk]
   have n0:(e != 0)=true:=by simpa using e0
   cases fl with
   |false=>
    obtain rfl:=g7 rfl
    simp only[go_sem,accO_f,hlt,zboxT,encT_sz,List.map_nil]
    refine aCall_intro hS ?_
    simp only[go_sem,encT_sz,f6,n0,List.map_nil]
   |true=>
    simp only[go_sem,accO_t,hlt,zboxT,encT_sz]
    refine aCall_intro hS ?_
    simp only[go_sem,encT_sz,f6,n0]
 ·simp only[go_sem,zboxT,accO_f,List.length_replicate,List.map_nil]
theorem Run_spec (t:TermT) (hok:okT t) (hwc:True) (fuel:Int):Spec Tryz.prog 27 [pp (encT t),ii fuel] [] (encRun (runTop t fuel)) []:=by
 have hC:=closed_spec t hok hwc
 rw[runTop]
 cases hc:closedT t with
 |false=>
  rw[hc] at hC
  rw[if_pos rfl,encRun_mk,encT_zero]
  refine wk (rv:=[.cell 4 31,.tmp 5,.tmp 6,.tmp 7]) ann27 29 Tryz.func27 ?_
  simp only[go_sem,encT_sz]
  refine aCall_intro hC ?_
  simp only[go_sem,List.map_nil]
 |true=>
  have hv:=closed_valid hc
  have hCo:=copied_spec16 t hv hok
  rw[hc] at hC
  rw[if_neg (by decide)]
  by_cases h1:fuel<0
  ·rw[if_pos (.inl h1),encRun_mk,encT_zero]
   refine wk (rv:=[.cell 4 31,.tmp 5,.tmp 6,.tmp 7]) ann27 29 Tryz.func27 ?_
   simp only[go_sem,encT_sz]
   refine aCall_intro hC ?_
   simp only[go_sem,decide_eq_true h1,List.map_nil]
  ·by_cases h2:fuel>1048576
   ·rw[if_pos (.inr h2),encRun_mk,encT_zero]
    refine wk (rv:=[.cell 4 31,.tmp 5,.tmp 6,.tmp 7]) ann27 29 Tryz.func27 ?_
    simp only[go_sem,encT_sz]
    refine aCall_intro hC ?_
    simp only[go_sem,decide_eq_false h1,decide_eq_true h2,List.map_nil]
   ·have hR:=run_spec t hv hok fuel (by omega) (by omega)
    rw[if_neg (by rintro (e|e);exact h1 e;exact h2 e)]
    generalize runT fuel.toNat t [] 0=r at hR ⊢
    obtain ⟨r1,r2,r3,r4⟩:=r
    simp only[encRun] at hR ⊢
    refine wk (rv:=[.cell 4 31,.tmp 5,.tmp 6,.tmp 7]) ann27 29 Tryz.func27 ?_
    simp only[go_sem,encT_sz]
    refine aCall_intro hC ?_
    simp only[go_sem,decide_eq_false h1,decide_eq_false h2,encT_sz]
    refine aCall_intro hCo ?_
    simp only[go_sem,encT_sz]
    refine aCall_intro hR ?_
    simp only[go_sem,encT_sz]
def eT (op n:Int) (l:List TermT):TermT:=.mk op n ByteArray.empty zeroC zeroC [] [] l
theorem encT_eT (op n:Int) (l:List TermT):encT (eT op n l)=.agg [.int .i64 op,.int .i64 n,.str ByteArray.empty,.int .i64 0,.int .i64 0,.str ByteArray.empty,.slice [],.slice [],.slice [],.int .i64 0,.int .i64 0,.str ByteArray.empty,.slice [],.slice [],.slice [],.slice [],.slice [],.slice (l.map encT)]:=by rw[eT,encT_mk];rfl
theorem e_spec (op n:Int) (l:List TermT):Spec Tryz.prog 72 [ii op,ii n,pp (.slice (l.map encT))] [] (encT (eT op n l)) []:=by
 rw[encT_eT]
 refine wk (rv:=[.cell 6 31]) ann72 11 Tryz.func72 ?_
 simp only[go_sem]
def lfT (op n:Int):TermT:=eT op n []
def mulA (a b:TermT):TermT:=eT 18 3 [a,b]
def letA:TermT:=eT 17 0 [lfT 2 2,mulA (lfT 1 0) (lfT 1 0)]
def appA:TermT:=eT 5 0 [lfT 2 1,lfT 2 2]
theorem okT_e {op n:Int}{l:List TermT}(hl:l.length≤1000000000) (h:∀x∈l,okT x):okT (eT op n l):=okT_mk (by decide) okCon_zero hl h
theorem okT_lf (op n:Int):okT (lfT op n):=okT_e (by simp) fun x hx=>by simp at hx
theorem okT_two {op n:Int}{a b:TermT}(ha:okT a) (hb:okT b):okT (eT op n [a,b]):=okT_e (by simp) fun x hx=>by
 simp only[List.mem_cons,List.not_mem_nil,or_false] at hx
 rcases hx with rfl|rfl
 ·exact ha
 ·exact hb
theorem okT_letA:okT letA:=okT_two (okT_lf _ _) (okT_two (okT_lf _ _) (okT_lf _ _))
theorem okT_appA:okT appA:=okT_two (okT_lf _ _) (okT_lf _ _)
theorem step_let:stepT letA=(mulA (lfT 2 2) (lfT 2 2),[],0):=by kernel_rfl
theorem step_app:stepT appA=(zeroT,[],23):=by kernel_rfl
theorem run_let:runTop letA 10=(lfT 2 4,[],2,0):=by kernel_rfl
theorem e0_spec (op n:Int):Spec Tryz.prog 72 [ii op,ii n,pp (.slice [])] [] (encT (lfT op n)) []:=e_spec op n []
theorem e2_spec (op n:Int) (a b:TermT):Spec Tryz.prog 72 [ii op,ii n,pp (.slice [encT a,encT b])] [] (encT (eT op n [a,b])) []:=e_spec op n [a,b]
theorem sawake_spec:Spec Tryz.prog 25 [] [] (.bool true) []:=by
 have l22:=e0_spec 2 2
 have l10:=e0_spec 1 0
 have l21:=e0_spec 2 1
 have l24:=e0_spec 2 4
 have m1:=e2_spec 18 3 (lfT 1 0) (lfT 1 0)
 have m2:=e2_spec 18 3 (lfT 2 2) (lfT 2 2)
 have lt:=e2_spec 17 0 (lfT 2 2) (mulA (lfT 1 0) (lfT 1 0))
 have ap:=e2_spec 5 0 (lfT 2 1) (lfT 2 2)
 rw[show eT 18 3 [lfT 1 0,lfT 1 0]=mulA (lfT 1 0) (lfT 1 0) from rfl] at m1
 rw[show eT 18 3 [lfT 2 2,lfT 2 2]=mulA (lfT 2 2) (lfT 2 2) from rfl] at m2
 rw[show eT 17 0 [lfT 2 2,mulA (lfT 1 0) (lfT 1 0)]=letA from rfl] at lt
 rw[show eT 5 0 [lfT 2 1,lfT 2 2]=appA from rfl] at ap
 have hS:=Step_spec letA okT_letA trivial
 have hA:=Step_spec appA okT_appA trivial
 have hR:=Run_spec letA okT_letA trivial 10
 rw[step_let,encR_mk,List.map_nil] at hS
 rw[step_app,encR_mk,List.map_nil] at hA
 rw[run_let,encRun_mk,List.map_nil] at hR
 have s1:=rtSame_spec (mulA (lfT 2 2) (lfT 2 2)) (mulA (lfT 2 2) (lfT 2 2))
 have s2:=rtSame_spec (lfT 2 4) (lfT 2 4)
 rw[sameT_refl] at s1 s2
 generalize mulA (lfT 1 0) (lfT 1 0)=x1 at m1 lt
 generalize mulA (lfT 2 2) (lfT 2 2)=x2 at m2 hS s1
 generalize letA=x3 at lt hS hR
 generalize appA=x4 at ap hA
 generalize lfT 2 2=y1 at *
 generalize lfT 1 0=y2 at *
 generalize lfT 2 1=y3 at *
 generalize lfT 2 4=y4 at *
 generalize zeroT=y5 at *
 refine wk (rv:=[.tmp 0]) ann25 68 Tryz.func25 ?_
 simp only[go_sem]
 refine aCall_intro l22 ?_
 simp only[go_sem,encT_sz]
 refine aCall_intro l10 ?_
 simp only[go_sem,encT_sz]
 refine aCall_intro l10 ?_
 simp only[go_sem,encT_sz]
 refine aCall_intro m1 ?_
 simp only[go_sem,encT_sz]
 refine aCall_intro lt ?_
 simp only[go_sem,encT_sz]
 refine aCall_intro hS ?_
 simp only[go_sem,encT_sz]
 refine aCall_intro hR ?_
 simp only[go_sem,encT_sz]
 refine aCall_intro l21 ?_
 simp only[go_sem,encT_sz]
 refine aCall_intro l22 ?_
 simp only[go_sem,encT_sz]
 refine aCall_intro ap ?_
 simp only[go_sem,encT_sz]
 refine aCall_intro hA ?_
 simp only[go_sem,encT_sz,Int.reduceBEq]
 refine aCall_intro l22 ?_
 simp only[go_sem,encT_sz]
 repeat (refine ⟨by kernel_rfl,?_⟩;try simp only[go_sem,encT_sz])
 try kernel_rfl
 refine aCall_intro l22 ?_
 simp only[go_sem,encT_sz]
 repeat (refine ⟨by kernel_rfl,?_⟩;try simp only[go_sem,encT_sz])
 try kernel_rfl
 refine aCall_intro m2 ?_
 simp only[go_sem,encT_sz]
 repeat (refine ⟨by kernel_rfl,?_⟩;try simp only[go_sem,encT_sz])
 try kernel_rfl
 refine aCall_intro s1 ?_
 simp only[go_sem,encT_sz,Int.reduceBEq]
 repeat (refine ⟨by kernel_rfl,?_⟩;try simp only[go_sem,encT_sz,Int.reduceBEq])
 try kernel_rfl
 refine aCall_intro l24 ?_
 simp only[go_sem,encT_sz,Int.reduceBEq]
 repeat (refine ⟨by kernel_rfl,?_⟩;try simp only[go_sem,encT_sz,Int.reduceBEq])
 try kernel_rfl
 refine aCall_intro s2 ?_
 simp only[go_sem,encT_sz,Int.reduceBEq]
 repeat (refine ⟨by kernel_rfl,?_⟩;try simp only[go_sem,encT_sz,Int.reduceBEq])
 try kernel_rfl
theorem bump_eq {n:Int}(h1:0≤n) (h2:n≤100000):bump n=n+1:=wrap_id (by omega) (by omega)
theorem long_size {names:List ByteArray}(h:¬names.any longH=true):∀x∈names,x.size≤100000000:=by
 intro x hx
 have h1:names.any longH=false:=by simpa using h
 have:=List.any_eq_false.1 h1 x hx
 rw[longH,decide_eq_true_eq] at this
 omega
mutual
theorem nC_ok:∀(c:ConT) (n d:Int),0≤n→n≤20000→0≤nC c n d∧nC c n d≤max (n+1) 10000∧(nC c n d≤700→n+sizeF c≤nC c n d∧okS c)
 | .mk op m s k names l,n,d,h0,h1=>by
  rw[nC]
  split
  ·exact ⟨by decide,by omega,fun h=>absurd h (by decide)⟩
  ·rename_i g
   rw[bump_eq h0 (by omega)]
   obtain ⟨a0,a1,a2⟩:=nCs_ok l (n+1) d (by omega) (by omega)
   refine ⟨a0,by omega,fun h=>?_⟩
   obtain ⟨b1,b2⟩:=a2 h
   rw[sizeF]
   refine ⟨by omega,?_⟩
   simp only[okS]
   exact ⟨by omega,long_size fun e=>g (by simp[e]),b2⟩
theorem nCs_ok:∀(l:List ConT) (n d:Int),0≤n→n≤20001→0≤nCs l n d∧nCs l n d≤max n 10000∧(nCs l n d≤700→n+sizeL l≤nCs l n d∧okSs l)
 | [],n,d,h0,h1=>by
  rw[nCs,sizeL]
  exact ⟨h0,by omega,fun _=>⟨by omega,trivial⟩⟩
 |x::r,n,d,h0,h1=>by
  rw[nCs]
  split
  ·rename_i g
   obtain ⟨a0,a1,a2⟩:=nC_ok x n (d+1) h0 (by omega)
   obtain ⟨b0,b1,b2⟩:=nCs_ok r (nC x n (d+1)) d a0 (by omega)
   refine ⟨b0,by omega,fun h=>?_⟩
   obtain ⟨c1,c2⟩:=b2 h
   obtain ⟨e1,e2⟩:=a2 (by omega)
   rw[sizeL]
   refine ⟨by omega,?_⟩
   simp only[okSs]
   exact ⟨e2,c2⟩
  ·rename_i g
   exact ⟨h0,by omega,fun h=>absurd h g⟩
end
mutual
theorem nT_ok:∀(t:TermT) (n d:Int),0≤n→n≤10000→0≤nT t n d∧nT t n d≤max (n+3) 10003∧(nT t n d≤700→n≤nT t n d∧okT t)
 | .mk op m s con to k names l,n,d,h0,h1=>by
  rw[nT]
  split
  ·exact ⟨by decide,by omega,fun h=>absurd h (by decide)⟩
  ·rename_i g
   rw[bump_eq h0 (by omega)]
   obtain ⟨a0,a1,a2⟩:=nC_ok con (n+1) 1 (by omega) (by omega)
   obtain ⟨b0,b1,b2⟩:=nC_ok to (nC con (n+1) 1) 1 a0 (by omega)
   obtain ⟨c0,c1,c2⟩:=nTs_ok l (nC to (nC con (n+1) 1) 1) d b0 (by omega)
   refine ⟨c0,by omega,fun h=>?_⟩
   obtain ⟨e1,e2⟩:=c2 h
   obtain ⟨f1,f2⟩:=b2 (by omega)
   obtain ⟨g1,g2⟩:=a2 (by omega)
   refine ⟨by omega,?_⟩
   simp only[okT]
   exact ⟨by omega,⟨by omega,g2⟩,⟨by omega,f2⟩,by omega,long_size fun e=>g (by simp[e]),by omega,by omega,e2⟩
theorem nTs_ok:∀(l:List TermT) (n d:Int),0≤n→n≤10010→0≤nTs l n d∧nTs l n d≤max n 10003∧(nTs l n d≤700→n≤nTs l n d∧okTs l)
 | [],n,d,h0,h1=>by
  rw[nTs]
  exact ⟨h0,by omega,fun _=>⟨by omega,trivial⟩⟩
 |x::r,n,d,h0,h1=>by
  rw[nTs]
  split
  ·rename_i g
   obtain ⟨a0,a1,a2⟩:=nT_ok x n (d+1) h0 (by omega)
   obtain ⟨b0,b1,b2⟩:=nTs_ok r (nT x n (d+1)) d a0 (by omega)
   refine ⟨b0,by omega,fun h=>?_⟩
   obtain ⟨c1,c2⟩:=b2 h
   obtain ⟨e1,e2⟩:=a2 (by omega)
   refine ⟨by omega,?_⟩
   simp only[okTs]
   exact ⟨e2,c2⟩
  ·rename_i g
   exact ⟨h0,by omega,fun h=>absurd h g⟩
end
theorem small_okT {t:TermT}(h:bigT t=false):okT t:=by
 have h':¬nT t 0 1>700:=of_decide_eq_false h
 exact ((nT_ok t 0 1 (by decide) (by decide)).2.2 (by omega)).2
end Go.Abs.Kon