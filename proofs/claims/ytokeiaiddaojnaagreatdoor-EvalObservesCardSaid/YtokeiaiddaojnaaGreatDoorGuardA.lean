/- The law's guard: kinds, constructors. -/
import Derived.Test.YtokeiaiddaojnaaGreatDoorKonE
import Derived.Test.YtokeiaiddaojnaaGreatDoorFacts
set_option linter.unusedSimpArgs false
set_option linter.unusedVariables false
namespace Go.Abs.Kon
open Go Go.Proofs Go.Abs
set_option maxRecDepth 100000
set_option maxHeartbeats 1000000
def findN {α:Type}(q:α→Int→Bool×Int):List α→Int→Nat→Int×Int
 | [],n,_=>(-1,n)
 |x::r,n,i=>if (q x n).1=true then ((i:Int),(q x n).2) else findN q r (q x n).2 (i+1)
def anyN {α:Type}(q:α→Int→Bool×Int):List α→Int→Bool×Int
 | [],n=>(false,n)
 |x::r,n=>if (q x n).1=true then (true,(q x n).2) else anyN q r (q x n).2
theorem findN_any {α:Type}(q:α→Int→Bool×Int):∀(l:List α) (n:Int) (i:Nat),(findN q l n i).2=(anyN q l n).2∧(decide ((findN q l n i).1≥0)=(anyN q l n).1)
 | [],n,i=>by simp[findN,anyN]
 |x::r,n,i=>by
  simp only[findN,anyN]
  split
  ·simp
  ·exact findN_any q r _ (i+1)
def Down {α:Type}(q:α→Int→Bool×Int) (l:List α):Prop:=∀x∈l,∀n,0≤n→n≤1000000→(q x n).2≤n∧((q x n).1=false→0≤(q x n).2)
theorem anyN_down {α:Type}(q:α→Int→Bool×Int):∀(l:List α),Down q l→∀n,0≤n→n≤1000000→(anyN q l n).2≤n∧((anyN q l n).1=false→0≤(anyN q l n).2)
 | [],_,n,h0,_=>by simp[anyN,h0]
 |x::r,hd,n,h0,h1=>by
  obtain ⟨g1,g2⟩:=hd x (by simp) n h0 h1
  simp only[anyN]
  split
  ·rename_i e;exact ⟨g1,fun h=>by cases h⟩
  ·rename_i e
   have e':(q x n).1=false:=by simpa using e
   have:=anyN_down q r (fun y hy=>hd y (List.mem_cons_of_mem _ hy)) (q x n).2 (g2 e') (by omega)
   exact ⟨by omega,this.2⟩
def rB (n:Nat):Box:=⟨.one,.one (.ptr (.ref n) 0)⟩
def iB (n:Int):Box:=⟨.one,ii n⟩
def cl1 (f:FuncId):SV:=.one (.fn f [.ptr (.ref 0) 0])
/-! Kinds -/
mutual
def fewK:KindT→Int→Bool×Int
 | .mk l,n=>if n - 1<0 then (false,n - 1) else (!(anyK l (n - 1)).1,(anyK l (n - 1)).2)
def anyK:List KindT→Int→Bool×Int
 | [],n=>(false,n)
 |x::r,n=>if (!(fewK x n).1)=true then (true,(fewK x n).2) else anyK r (fewK x n).2
end
def notK (k:KindT) (n:Int):Bool×Int:=(!(fewK k n).1,(fewK k n).2)
theorem anyK_eq:∀(l:List KindT) (n:Int),anyK l n=anyN notK l n
 | [],n=>by rw[anyK,anyN]
 |x::r,n=>by rw[anyK,anyN,anyK_eq r];rfl
theorem notK_down:∀(l:List KindT),Down notK l:=by
 have:∀k:KindT,∀n,0≤n→n≤1000000→(notK k n).2≤n∧((notK k n).1=false→0≤(notK k n).2):=by
  refine KindT.ind1 fun l ih=>?_
  intro n h0 h1
  simp only[notK]
  rw[fewK]
  split
  ·simp;omega
  ·rw[anyK_eq]
   have:=anyN_down notK l (fun x hx=>ih x hx) (n - 1) (by omega) (by omega)
   simp only[Bool.not_not]
   exact ⟨by omega,this.2⟩
 exact fun l x _=>this x
theorem IdxK (l:List KindT) (h:∀x∈l,∀n,0≤n→n≤1000000→Spec Tryz.prog 115 [pp (encK x),.one (.ptr (.ref 0) 0)] [rB 1,iB n] (.bool (notK x n).1) [rB 1,iB (notK x n).2]) (n:Int) (h0:0≤n) (h1:n≤1000000) :
  Spec Tryz.prog 138 [pp (.slice (l.map encK)),cl1 115] [rB 1,iB n] (.int .i64 (findN notK l n 0).1) [rB 1,iB (findN notK l n 0).2]:=by
 refine wf (rv:=[.tmp 4]) ann138 19 Tryz.func138 fun hfit=>?_
 have hlen:l.length≤9223372036854775807:=by
  simp only[argsFit,SV.pv?,SC.pv?,PV.fit,maxLen_eq,List.length_map] at hfit
  exact hfit.1.1
 clear hfit
 generalize hr:findN notK l n 0=res
 obtain ⟨r1,r2⟩:=res
 simp only[cl1,rB,iB]
 simp only[go_sem,List.length_map]
 refine aLoop_list (α:=KindT) (β:=List KindT×Int) (fun rest b=>⟨[(8,ii b.1.length),(0,pp (.slice (l.map encK))),(1,.one (.fn 115 [.ptr (.ref 0) 0])),(7,ii l.length)],[(.ref 0,rB 1),(.ref 1,iB b.2)],[]⟩) (fun rest b=>l=b.1++rest∧findN notK rest b.2 b.1.length=(r1,r2)∧0≤b.2∧b.2≤1000000) ?_ ?_ l ([],n) _ ?_ ⟨rfl,hr,h0,h1⟩
 ·rintro ⟨pre,m⟩ ⟨h4,h5,_,_⟩ K
  rw[List.append_nil] at h4
  simp only[findN,Prod.mk.injEq] at h5
  obtain ⟨rfl,rfl⟩:=h5
  simp only[go_sem,h4,lt_false (Int.le_refl _),rB,iB]
 ·rintro x rest ⟨pre,m⟩ ⟨h4,h5,h6,h7⟩ K hK
  simp only at h4 h5 h6 h7
  have hx:(l.map encK)[pre.length]? = some (encK x):=by simp[h4]
  have hlt:(pre.length:Int)<l.length:=by rw[h4];simp;omega
  have hm:x∈l:=by simp[h4]
  have hS:=h x hm m h6 h7
  have hD:=notK_down l x hm m h6 h7
  simp only[rB,iB] at hS
  simp only[go_sem,decide_eq_true hlt,Int.toNat_natCast,Int.natCast_nonneg,hx,rB,iB]
  refine aCall_intro hS ?_
  simp only[go_sem]
  simp only[findN] at h5
  generalize notK x m=s at hD h5 hS ⊢
  obtain ⟨s1,s2⟩:=s
  cases s1 with
  |true=>
   simp only[↓reduceIte,Prod.mk.injEq] at h5
   obtain ⟨rfl,rfl⟩:=h5
   simp only[go_sem]
  |false=>
   have w4:IntKind.i64.wrap ((pre.length:Int)+1)=((pre++[x]).length:Int):=by rw[wrap_id (by omega) (by omega)];simp
   simp only[go_sem,w4]
   refine hK (pre++[x],s2) _ ?_ ⟨by simp[h4],by simpa using h5,hD.2 rfl,by have:=hD.1;simp only at this;omega⟩
   simp only[go_sem,rB,iB]
 ·simp only[go_sem,List.length_nil,Int.natCast_zero,rB,iB]
def annFK:Ann:=⟨[2],[],ann65.live,ann65.head⟩
@[go_sem] theorem annFK_imm:annFK.imm=[2]:=rfl
@[go_sem] theorem annFK_frz:annFK.frz=[]:=rfl
@[go_sem] theorem annFK_live:annFK.live=ann65.live:=rfl
@[go_sem] theorem annFK_head:annFK.head=ann65.head:=rfl
theorem fewK_spec:∀(k:KindT) (n:Int),0≤n→n≤1000000→Spec Tryz.prog 65 [pp (encK k),.one (.ptr (.ref 0) 0)] [iB n] (.bool (fewK k n).1) [iB (fewK k n).2]:=by
 refine KindT.ind1 fun l ih=>?_
 intro n h0 h1
 have hI:=fun m g0 g1=>IdxK l (fun x hx n h0 h1=>by
  have hF:=ih x hx n h0 h1
  simp only[iB] at hF
  generalize hN:notK x n=s
  obtain ⟨s1,s2⟩:=s
  simp only[notK,Prod.mk.injEq] at hN
  obtain ⟨rfl,rfl⟩:=hN
  refine wk (rv:=[.tmp 3]) ann115 8 Tryz.func115 ?_
  simp only[rB,iB]
  simp only[go_sem]
  refine aCall_intro hF ?_
  simp only[go_sem]) m g0 g1
 rw[encK_mk]
 have w1:IntKind.i64.wrap (n - 1)=n - 1:=wrap_id (by omega) (by omega)
 by_cases hn:n - 1<0
 ·rw[fewK,if_pos hn]
  have d1:decide (n - 1≥0)=false:=decide_eq_false (by omega)
  refine wk (rv:=[.tmp 4]) annFK 21 Tryz.func65 ?_
  simp only[iB]
  simp only[go_sem,w1,d1]
 ·rw[fewK,if_neg hn,anyK_eq]
  have d1:decide (n - 1≥0)=true:=decide_eq_true (by omega)
  have hI:=hI (n - 1) (by omega) (by omega)
  obtain ⟨e1,e2⟩:=findN_any notK l (n - 1) 0
  rw[e1] at hI
  have hC:Spec Tryz.prog 114 [pp (.slice (l.map encK)),cl1 115] [rB 1,iB (n - 1)] (.bool (anyN notK l (n - 1)).1) [rB 1,iB (anyN notK l (n - 1)).2]:=by
   rw[←e2]
   refine wk (rv:=[.tmp 4]) ann114 9 Tryz.func114 ?_
   simp only[cl1,rB,iB] at hI ⊢
   simp only[go_sem]
   refine aCall_intro hI ?_
   simp only[go_sem]
  simp only[cl1,rB,iB] at hC
  refine wk (rv:=[.tmp 4]) annFK 21 Tryz.func65 ?_
  simp only[iB]
  simp only[go_sem,w1,d1]
  refine aCall_intro hC ?_
  simp only[go_sem]
end Go.Abs.Kon
namespace Go.Abs.Kon
open Go Go.Proofs Go.Abs
set_option maxRecDepth 100000
set_option maxHeartbeats 1000000
def long60 (s:ByteArray):Bool:=decide ((s.size:Int)>60)
theorem few1_spec (s:ByteArray):Spec Tryz.prog 111 [pp (.str s)] [] (.bool (long60 s)) []:=by
 refine wk (rv:=[.tmp 2]) ann111 6 Tryz.func111 ?_
 simp only[go_sem,long60]
theorem few1_any (names:List ByteArray):Spec Tryz.prog 62 [pp (.slice (names.map .str)),pp (.fn 111 [])] [] (.bool (names.any long60)) []:=
 ContainsFuncS PV.str names 111 [] long60 (fun _ _=>rfl) fun e _=>few1_spec e
mutual
def fewC:ConT→Int→Int→Bool×Int
 | .mk _ _ s k names l,n,d=>if n - 1<0 then (false,n - 1) else if d>60 then (false,n - 1) else if (s.size:Int)>60 then (false,n - 1) else if (names.length:Int)>20 then (false,n - 1) else if names.any long60=true then (false,n - 1) else
  if (fewK (.mk k) (n - 1)).1=false then (false,(fewK (.mk k) (n - 1)).2) else (!(anyC l (fewK (.mk k) (n - 1)).2 (d+1)).1,(anyC l (fewK (.mk k) (n - 1)).2 (d+1)).2)
def anyC:List ConT→Int→Int→Bool×Int
 | [],n,_=>(false,n)
 |x::r,n,d=>if (!(fewC x n d).1)=true then (true,(fewC x n d).2) else anyC r (fewC x n d).2 d
end
def notC (d:Int) (c:ConT) (n:Int):Bool×Int:=(!(fewC c n d).1,(fewC c n d).2)
theorem anyC_eq:∀(l:List ConT) (n d:Int),anyC l n d=anyN (notC d) l n
 | [],n,d=>by rw[anyC,anyN]
 |x::r,n,d=>by rw[anyC,anyN,anyC_eq r];rfl
theorem notC_down (d:Int):∀(l:List ConT),Down (notC d) l:=by
 have:∀c:ConT,∀d n,0≤n→n≤1000000→(notC d c n).2≤n∧((notC d c n).1=false→0≤(notC d c n).2):=by
  refine ConT.ind1 fun op m s k names l ih=>?_
  intro d n h0 h1
  simp only[notC]
  rw[fewC]
  split
  ·simp;omega
  rename_i g0
  split
  ·simp;omega
  split
  ·simp;omega
  split
  ·simp;omega
  split
  ·simp;omega
  have hk:=notK_down [.mk k] (.mk k) (by simp) (n - 1) (by omega) (by omega)
  simp only[notK] at hk
  split
  ·rename_i g
   simp
   omega
  ·rename_i g
   have g':(fewK (.mk k) (n - 1)).1=true:=by simpa using g
   rw[g'] at hk
   have hk2:=hk.2 rfl
   rw[anyC_eq]
   have:=anyN_down (notC (d+1)) l (fun x hx n g0 g1=>ih x hx (d+1) n g0 g1) (fewK (.mk k) (n - 1)).2 hk2 (by omega)
   simp only[Bool.not_not]
   exact ⟨by omega,this.2⟩
 exact fun l x _=>this x d
theorem IdxC2 (l:List ConT) (d:Int) (h:∀x∈l,∀n,0≤n→n≤1000000→Spec Tryz.prog 113 ([pp (encC x),.one (.ptr (.ref 0) 0),pp (.ep (.int .i64 (d - 1)) 0)]) [rB 1,iB n] (.bool (notC d x n).1) [rB 1,iB (notC d x n).2]) (n:Int) (h0:0≤n) (h1:n≤1000000) :
  Spec Tryz.prog 137 [pp (.slice (l.map encC)),.one (.fn 113 [.ptr (.ref 0) 0,.pv (.ep (.int .i64 (d - 1)) 0)])] [rB 1,iB n] (.int .i64 (findN (notC d) l n 0).1) [rB 1,iB (findN (notC d) l n 0).2]:=by
 refine wf (rv:=[.tmp 4]) ann137 19 Tryz.func137 fun hfit=>?_
 have hlen:l.length≤9223372036854775807:=by
  simp only[argsFit,SV.pv?,SC.pv?,PV.fit,maxLen_eq,List.length_map] at hfit
  exact hfit.1.1
 clear hfit
 generalize hr:findN (notC d) l n 0=res
 obtain ⟨r1,r2⟩:=res
 simp only[rB,iB]
 simp only[go_sem,List.length_map]
 refine aLoop_list (α:=ConT) (β:=List ConT×Int) (fun rest b=>⟨[(8,ii b.1.length),(0,pp (.slice (l.map encC))),(1,.one (.fn 113 [.ptr (.ref 0) 0,.pv (.ep (.int .i64 (d - 1)) 0)])),(7,ii l.length)],[(.ref 0,rB 1),(.ref 1,iB b.2)],[]⟩) (fun rest b=>l=b.1++rest∧findN (notC d) rest b.2 b.1.length=(r1,r2)∧0≤b.2∧b.2≤1000000) ?_ ?_ l ([],n) _ ?_ ⟨rfl,hr,h0,h1⟩
 ·rintro ⟨pre,m⟩ ⟨h4,h5,_,_⟩ K
  rw[List.append_nil] at h4
  simp only[findN,Prod.mk.injEq] at h5
  obtain ⟨rfl,rfl⟩:=h5
  simp only[go_sem,h4,lt_false (Int.le_refl _),rB,iB]
 ·rintro x rest ⟨pre,m⟩ ⟨h4,h5,h6,h7⟩ K hK
  simp only at h4 h5 h6 h7
  have hx:(l.map encC)[pre.length]? = some (encC x):=by simp[h4]
  have hlt:(pre.length:Int)<l.length:=by rw[h4];simp;omega
  have hm:x∈l:=by simp[h4]
  have hS:=h x hm m h6 h7
  have hD:=notC_down d l x hm m h6 h7
  simp only[rB,iB] at hS
  simp only[go_sem,decide_eq_true hlt,Int.toNat_natCast,Int.natCast_nonneg,hx,rB,iB]
  refine aCall_intro hS ?_
  simp only[go_sem]
  simp only[findN] at h5
  generalize notC d x m=s at hD h5 hS ⊢
  obtain ⟨s1,s2⟩:=s
  cases s1 with
  |true=>
   simp only[↓reduceIte,Prod.mk.injEq] at h5
   obtain ⟨rfl,rfl⟩:=h5
   simp only[go_sem]
  |false=>
   have w4:IntKind.i64.wrap ((pre.length:Int)+1)=((pre++[x]).length:Int):=by rw[wrap_id (by omega) (by omega)];simp
   simp only[go_sem,w4]
   refine hK (pre++[x],s2) _ ?_ ⟨by simp[h4],by simpa using h5,hD.2 rfl,by have:=hD.1;simp only at this;omega⟩
   simp only[go_sem,rB,iB]
 ·simp only[go_sem,List.length_nil,Int.natCast_zero,rB,iB]
def annFC:Ann:=⟨[3,5],[],ann64.live,ann64.head⟩
@[go_sem] theorem annFC_imm:annFC.imm=[3,5]:=rfl
@[go_sem] theorem annFC_frz:annFC.frz=[]:=rfl
@[go_sem] theorem annFC_live:annFC.live=ann64.live:=rfl
@[go_sem] theorem annFC_head:annFC.head=ann64.head:=rfl
theorem fewC_spec:∀(c:ConT) (n d:Int),0≤n→n≤1000000→0≤d→d≤1000→Spec Tryz.prog 64 [pp (encC c),.one (.ptr (.ref 0) 0),ii d] [iB n] (.bool (fewC c n d).1) [iB (fewC c n d).2]:=by
 refine ConT.ind1 fun op m s k names l ih=>?_
 intro n d h0 h1 q0 q1
 have hn1:=few1_any names
 have w1:IntKind.i64.wrap (n - 1)=n - 1:=wrap_id (by omega) (by omega)
 rw[encC_mk,fewC]
 by_cases c1:n - 1<0
 ·rw[if_pos c1]
  refine wk (rv:=[.tmp 6]) annFC 49 Tryz.func64 ?_
  simp only[iB]
  simp only[go_sem,w1,decide_eq_true c1]
 rw[if_neg c1]
 have f1:=decide_eq_false c1
 by_cases c2:d>60
 ·rw[if_pos c2]
  refine wk (rv:=[.tmp 6]) annFC 49 Tryz.func64 ?_
  simp only[iB]
  simp only[go_sem,w1,f1,decide_eq_true c2]
 rw[if_neg c2]
 have f2:=decide_eq_false c2
 by_cases c3:(s.size:Int)>60
 ·rw[if_pos c3]
  refine wk (rv:=[.tmp 6]) annFC 49 Tryz.func64 ?_
  simp only[iB]
  simp only[go_sem,w1,f1,f2,decide_eq_true c3]
 rw[if_neg c3]
 have f3:=decide_eq_false c3
 by_cases c4:(names.length:Int)>20
 ·rw[if_pos c4]
  refine wk (rv:=[.tmp 6]) annFC 49 Tryz.func64 ?_
  simp only[iB]
  simp only[go_sem,w1,f1,f2,f3,List.length_map,decide_eq_true c4]
 rw[if_neg c4]
 have f4:=decide_eq_false c4
 cases c5:names.any long60 with
 |true=>
  rw[c5] at hn1
  rw[if_pos rfl]
  refine wk (rv:=[.tmp 6]) annFC 49 Tryz.func64 ?_
  simp only[iB]
  simp only[go_sem,w1,f1,f2,f3,List.length_map,f4]
  refine aCall_intro hn1 ?_
  simp only[go_sem]
 |false=>
 rw[c5] at hn1
 rw[if_neg (by decide)]
 have hK:=fewK_spec (.mk k) (n - 1) (by omega) (by omega)
 have hk:=notK_down [.mk k] (.mk k) (by simp) (n - 1) (by omega) (by omega)
 simp only[notK] at hk
 rw[encK_mk] at hK
 generalize hz:fewK (.mk k) (n - 1)=z at hK hk
 obtain ⟨z1,z2⟩:=z
 simp only[iB] at hK
 simp only at hk
 cases z1 with
 |false=>
  rw[if_pos rfl]
  refine wk (rv:=[.tmp 6]) annFC 49 Tryz.func64 ?_
  simp only[iB]
  simp only[go_sem,w1,f1,f2,f3,List.length_map,f4]
  refine aCall_intro hn1 ?_
  simp only[go_sem]
  refine aCall_intro hK ?_
  simp only[go_sem]
 |true=>
  rw[if_neg (fun h=>by cases h),anyC_eq]
  have hz2:0≤z2:=hk.2 rfl
  have hz3:z2≤1000000:=by have:=hk.1;omega
  have w2:IntKind.i64.wrap (d+1)=d+1:=wrap_id (by omega) (by omega)
  have hI:=IdxC2 l (d+1) (fun x hx n g0 g1=>by
   have hF:=ih x hx n (d+1) g0 g1 (by omega) (by omega)
   simp only[iB] at hF
   generalize hN:notC (d+1) x n=s
   obtain ⟨s1,s2⟩:=s
   simp only[notC,Prod.mk.injEq] at hN
   obtain ⟨rfl,rfl⟩:=hN
   have e:d+1 - 1=d:=by omega
   rw[e]
   refine wk (rv:=[.tmp 4]) ann113 11 Tryz.func113 ?_
   simp only[rB,iB]
   simp only[go_sem,w2]
   refine aCall_intro hF ?_
   simp only[go_sem]) z2 hz2 hz3
  have e:d+1 - 1=d:=by omega
  rw[e] at hI
  obtain ⟨e1,e2⟩:=findN_any (notC (d+1)) l z2 0
  rw[e1] at hI
  have hC:Spec Tryz.prog 112 [pp (.slice (l.map encC)),.one (.fn 113 [.ptr (.ref 0) 0,.pv (.ep (.int .i64 d) 0)])] [rB 1,iB z2] (.bool (anyN (notC (d+1)) l z2).1) [rB 1,iB (anyN (notC (d+1)) l z2).2]:=by
   rw[←e2]
   refine wk (rv:=[.tmp 4]) ann112 9 Tryz.func112 ?_
   simp only[rB,iB] at hI ⊢
   simp only[go_sem]
   refine aCall_intro hI ?_
   simp only[go_sem]
  simp only[rB,iB] at hC
  refine wk (rv:=[.tmp 6]) annFC 49 Tryz.func64 ?_
  simp only[iB]
  simp only[go_sem,w1,f1,f2,f3,List.length_map,f4]
  refine aCall_intro hn1 ?_
  simp only[go_sem]
  refine aCall_intro hK ?_
  simp only[go_sem]
  refine aCall_intro hC ?_
  simp only[go_sem]
end Go.Abs.Kon