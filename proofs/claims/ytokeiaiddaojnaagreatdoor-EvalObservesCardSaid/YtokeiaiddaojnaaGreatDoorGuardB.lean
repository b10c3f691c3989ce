/- The law's guard: terms. -/
import Derived.Test.YtokeiaiddaojnaaGreatDoorGuardA
import Derived.Test.YtokeiaiddaojnaaGreatDoorEvalI
set_option linter.unusedSimpArgs false
set_option linter.unusedVariables false
namespace Go.Abs.Kon
open Go Go.Proofs Go.Abs
set_option maxRecDepth 100000
set_option maxHeartbeats 1000000
theorem few3_spec (s:ByteArray):Spec Tryz.prog 63 [pp (.str s)] [] (.bool (long60 s)) []:=by
 refine wk (rv:=[.tmp 2]) ann63 6 Tryz.func63 ?_
 simp only[go_sem,long60]
theorem few3_any (names:List ByteArray):Spec Tryz.prog 62 [pp (.slice (names.map .str)),pp (.fn 63 [])] [] (.bool (names.any long60)) []:=
 ContainsFuncS PV.str names 63 [] long60 (fun _ _=>rfl) fun e _=>few3_spec e
def fewQ (con to:ConT) (k:List KindT) (n:Int):Bool×Int:=
 if (fewC con n 0).1=false then (false,(fewC con n 0).2) else
 if (fewC to (fewC con n 0).2 0).1=false then (false,(fewC to (fewC con n 0).2 0).2) else
 fewK (.mk k) (fewC to (fewC con n 0).2 0).2
mutual
def fewT:TermT→Int→Int→Bool×Int
 | .mk _ _ s con to k names l,n,d=>if n - 1<0 then (false,n - 1) else if d>60 then (false,n - 1) else if (s.size:Int)>200 then (false,n - 1) else if (names.length:Int)>20 then (false,n - 1) else if names.any long60=true then (false,n - 1) else
  if (fewQ con to k (n - 1)).1=false then (false,(fewQ con to k (n - 1)).2) else (!(anyT l (fewQ con to k (n - 1)).2 (d+1)).1,(anyT l (fewQ con to k (n - 1)).2 (d+1)).2)
def anyT:List TermT→Int→Int→Bool×Int
 | [],n,_=>(false,n)
 |x::r,n,d=>if (!(fewT x n d).1)=true then (true,(fewT x n d).2) else anyT r (fewT x n d).2 d
end
def notT (d:Int) (c:TermT) (n:Int):Bool×Int:=(!(fewT c n d).1,(fewT c n d).2)
theorem anyT_eq:∀(l:List TermT) (n d:Int),anyT l n d=anyN (notT d) l n
 | [],n,d=>by rw[anyT,anyN]
 |x::r,n,d=>by rw[anyT,anyN,anyT_eq r];rfl
theorem fewC_down (c:ConT) (n d:Int) (h0:0≤n) (h1:n≤1000000):(fewC c n d).2≤n∧((fewC c n d).1=true→0≤(fewC c n d).2):=by
 have:=notC_down d [c] c (by simp) n h0 h1
 simpa [notC] using this
theorem fewK_down (k:KindT) (n:Int) (h0:0≤n) (h1:n≤1000000):(fewK k n).2≤n∧((fewK k n).1=true→0≤(fewK k n).2):=by
 have:=notK_down [k] k (by simp) n h0 h1
 simpa [notK] using this
theorem fewQ_down (con to:ConT) (k:List KindT) (n:Int) (h0:0≤n) (h1:n≤1000000):(fewQ con to k n).2≤n∧((fewQ con to k n).1=true→0≤(fewQ con to k n).2):=by
 unfold fewQ
 obtain ⟨a1,a2⟩:=fewC_down con n 0 h0 h1
 split
 ·exact ⟨a1,fun e=>by cases e⟩
 ·rename_i g
  have a3:=a2 (by simpa using g)
  obtain ⟨b1,b2⟩:=fewC_down to (fewC con n 0).2 0 a3 (by omega)
  split
  ·exact ⟨by simp only;omega,fun e=>by cases e⟩
  ·rename_i g2
   have b3:=b2 (by simpa using g2)
   obtain ⟨c1,c2⟩:=fewK_down (.mk k) (fewC to (fewC con n 0).2 0).2 b3 (by omega)
   exact ⟨by omega,c2⟩
theorem notT_down (d:Int):∀(l:List TermT),Down (notT d) l:=by
 have:∀c:TermT,∀d n,0≤n→n≤1000000→(notT d c n).2≤n∧((notT d c n).1=false→0≤(notT d c n).2):=by
  refine TermT.ind1 fun op m s con to k names l ih=>?_
  intro d n h0 h1
  simp only[notT]
  rw[fewT]
  split
  ·simp;omega
  rename_i g0
  split
  ·simp;omega
  split
  ·simp;omega
  split
  ·simp;omega
  split
  ·simp;omega
  have hk:=fewQ_down con to k (n - 1) (by omega) (by omega)
  split
  ·simp
   omega
  ·rename_i g
   have hk2:=hk.2 (by simpa using g)
   rw[anyT_eq]
   have:=anyN_down (notT (d+1)) l (fun x hx n g0 g1=>ih x hx (d+1) n g0 g1) (fewQ con to k (n - 1)).2 hk2 (by omega)
   simp only[Bool.not_not]
   exact ⟨by omega,this.2⟩
 exact fun l x _=>this x d
theorem IdxT2 (l:List TermT) (d:Int) (h:∀x∈l,∀n,0≤n→n≤1000000→Spec Tryz.prog 66 ([pp (encT x),.one (.ptr (.ref 0) 0),pp (.ep (.int .i64 (d - 1)) 0)]) [rB 1,iB n] (.bool (notT d x n).1) [rB 1,iB (notT d x n).2]) (n:Int) (h0:0≤n) (h1:n≤1000000) :
  Spec Tryz.prog 61 [pp (.slice (l.map encT)),.one (.fn 66 [.ptr (.ref 0) 0,.pv (.ep (.int .i64 (d - 1)) 0)])] [rB 1,iB n] (.int .i64 (findN (notT d) l n 0).1) [rB 1,iB (findN (notT d) l n 0).2]:=by
 refine wf (rv:=[.tmp 4]) ann61 19 Tryz.func61 fun hfit=>?_
 have hlen:l.length≤9223372036854775807:=by
  simp only[argsFit,SV.pv?,SC.pv?,PV.fit,maxLen_eq,List.length_map] at hfit
  exact hfit.1.1
 clear hfit
 generalize hr:findN (notT d) l n 0=res
 obtain ⟨r1,r2⟩:=res
 simp only[rB,iB]
 simp only[go_sem,List.length_map]
 refine aLoop_list (α:=TermT) (β:=List TermT×Int) (fun rest b=>⟨[(8,ii b.1.length),(0,pp (.slice (l.map encT))),(1,.one (.fn 66 [.ptr (.ref 0) 0,.pv (.ep (.int .i64 (d - 1)) 0)])),(7,ii l.length)],[(.ref 0,rB 1),(.ref 1,iB b.2)],[]⟩) (fun rest b=>l=b.1++rest∧findN (notT d) rest b.2 b.1.length=(r1,r2)∧0≤b.2∧b.2≤1000000) ?_ ?_ l ([],n) _ ?_ ⟨rfl,hr,h0,h1⟩
 ·rintro ⟨pre,m⟩ ⟨h4,h5,_,_⟩ K
  rw[List.append_nil] at h4
  simp only[findN,Prod.mk.injEq] at h5
  obtain ⟨rfl,rfl⟩:=h5
  simp only[go_sem,h4,lt_false (Int.le_refl _),rB,iB]
 ·rintro x rest ⟨pre,m⟩ ⟨h4,h5,h6,h7⟩ K hK
  simp only at h4 h5 h6 h7
  have hx:(l.map encT)[pre.length]? = some (encT x):=by simp[h4]
  have hlt:(pre.length:Int)<l.length:=by rw[h4];simp;omega
  have hm:x∈l:=by simp[h4]
  have hS:=h x hm m h6 h7
  have hD:=notT_down d l x hm m h6 h7
  simp only[rB,iB] at hS
  simp only[go_sem,decide_eq_true hlt,hx,rB,iB]
  refine aCall_intro hS ?_
  simp only[go_sem]
  simp only[findN] at h5
  generalize notT d x m=s at hD h5 hS ⊢
  obtain ⟨s1,s2⟩:=s
  cases s1 with
  |true=>
   simp only[↓reduceIte,Prod.mk.injEq] at h5
   obtain ⟨rfl,rfl⟩:=h5
   simp only[go_sem]
  |false=>
   have w4:IntKind.i64.wrap ((pre.length:Int)+1)=((pre++[x]).length:Int):=by rw[wrap_id (by omega) (by omega)];simp
   simp only[go_sem,w4]
   refine hK (pre++[x],s2) _ ?_ ⟨by simp[h4],by simpa using h5,hD.2 rfl,by have:=hD.1;simp only at this;omega⟩
   simp only[go_sem,rB,iB]
 ·simp only[go_sem,List.length_nil,Int.natCast_zero,rB,iB]
theorem IdxT1 (l:List TermT) (d:Int) (h:∀x∈l,∀n,0≤n→n≤1000000→Spec Tryz.prog 29 ([pp (encT x),.one (.ptr (.ref 0) 0)]) [iB n] (.bool (notT d x n).1) [iB (notT d x n).2]) (n:Int) (h0:0≤n) (h1:n≤1000000) :
  Spec Tryz.prog 61 [pp (.slice (l.map encT)),.one (.fn 29 [.ptr (.ref 0) 0])] [iB n] (.int .i64 (findN (notT d) l n 0).1) [iB (findN (notT d) l n 0).2]:=by
 refine wf (rv:=[.tmp 4]) ann61 19 Tryz.func61 fun hfit=>?_
 have hlen:l.length≤9223372036854775807:=by
  simp only[argsFit,SV.pv?,SC.pv?,PV.fit,maxLen_eq,List.length_map] at hfit
  exact hfit.1.1
 clear hfit
 generalize hr:findN (notT d) l n 0=res
 obtain ⟨r1,r2⟩:=res
 simp only[rB,iB]
 simp only[go_sem,List.length_map]
 refine aLoop_list (α:=TermT) (β:=List TermT×Int) (fun rest b=>⟨[(8,ii b.1.length),(0,pp (.slice (l.map encT))),(1,.one (.fn 29 [.ptr (.ref 0) 0])),(7,ii l.length)],[(.ref 0,iB b.2)],[]⟩) (fun rest b=>l=b.1++rest∧findN (notT d) rest b.2 b.1.length=(r1,r2)∧0≤b.2∧b.2≤1000000) ?_ ?_ l ([],n) _ ?_ ⟨rfl,hr,h0,h1⟩
 ·rintro ⟨pre,m⟩ ⟨h4,h5,_,_⟩ K
  rw[List.append_nil] at h4
  simp only[findN,Prod.mk.injEq] at h5
  obtain ⟨rfl,rfl⟩:=h5
  simp only[go_sem,h4,lt_false (Int.le_refl _),rB,iB]
 ·rintro x rest ⟨pre,m⟩ ⟨h4,h5,h6,h7⟩ K hK
  simp only at h4 h5 h6 h7
  have hx:(l.map encT)[pre.length]? = some (encT x):=by simp[h4]
  have hlt:(pre.length:Int)<l.length:=by rw[h4];simp;omega
  have hm:x∈l:=by simp[h4]
  have hS:=h x hm m h6 h7
  have hD:=notT_down d l x hm m h6 h7
  simp only[rB,iB] at hS
  simp only[go_sem,decide_eq_true hlt,hx,rB,iB]
  refine aCall_intro hS ?_
  simp only[go_sem]
  simp only[findN] at h5
  generalize notT d x m=s at hD h5 hS ⊢
  obtain ⟨s1,s2⟩:=s
  cases s1 with
  |true=>
   simp only[↓reduceIte,Prod.mk.injEq] at h5
   obtain ⟨rfl,rfl⟩:=h5
   simp only[go_sem]
  |false=>
   have w4:IntKind.i64.wrap ((pre.length:Int)+1)=((pre++[x]).length:Int):=by rw[wrap_id (by omega) (by omega)];simp
   simp only[go_sem,w4]
   refine hK (pre++[x],s2) _ ?_ ⟨by simp[h4],by simpa using h5,hD.2 rfl,by have:=hD.1;simp only at this;omega⟩
   simp only[go_sem,rB,iB]
 ·simp only[go_sem,List.length_nil,Int.natCast_zero,rB,iB]
def annFT:Ann:=⟨[3,5],[],ann30.live,ann30.head⟩
@[go_sem] theorem annFT_imm:annFT.imm=[3,5]:=rfl
@[go_sem] theorem annFT_frz:annFT.frz=[]:=rfl
@[go_sem] theorem annFT_live:annFT.live=ann30.live:=rfl
@[go_sem] theorem annFT_head:annFT.head=ann30.head:=rfl
theorem fewT_spec:∀(c:TermT) (n d:Int),0≤n→n≤1000000→0≤d→d≤1000→Spec Tryz.prog 30 [pp (encT c),.one (.ptr (.ref 0) 0),ii d] [iB n] (.bool (fewT c n d).1) [iB (fewT c n d).2]:=by
 refine TermT.ind1 fun op m s con to k names l ih=>?_
 intro n d h0 h1 q0 q1
 have hn1:=few3_any names
 have w1:IntKind.i64.wrap (n - 1)=n - 1:=wrap_id (by omega) (by omega)
 rw[encT_mk,fewT]
 by_cases c1:n - 1<0
 ·rw[if_pos c1]
  refine wk (rv:=[.tmp 6]) annFT 63 Tryz.func30 ?_
  simp only[iB]
  simp only[go_sem,w1,List.length_map,decide_eq_true c1]
 rw[if_neg c1]
 have f1:=decide_eq_false c1
 by_cases c2:d>60
 ·rw[if_pos c2]
  refine wk (rv:=[.tmp 6]) annFT 63 Tryz.func30 ?_
  simp only[iB]
  simp only[go_sem,w1,f1,List.length_map,decide_eq_true c2]
 rw[if_neg c2]
 have f2:=decide_eq_false c2
 by_cases c3:(s.size:Int)>200
 ·rw[if_pos c3]
  refine wk (rv:=[.tmp 6]) annFT 63 Tryz.func30 ?_
  simp only[iB]
  simp only[go_sem,w1,f1,f2,List.length_map,decide_eq_true c3]
 rw[if_neg c3]
 have f3:=decide_eq_false c3
 by_cases c4:(names.length:Int)>20
 ·rw[if_pos c4]
  refine wk (rv:=[.tmp 6]) annFT 63 Tryz.func30 ?_
  simp only[iB]
  simp only[go_sem,w1,f1,f2,f3,List.length_map,decide_eq_true c4]
 rw[if_neg c4]
 have f4:=decide_eq_false c4
 cases c5:names.any long60 with
 |true=>
  rw[c5] at hn1
  rw[if_pos rfl]
  refine wk (rv:=[.tmp 6]) annFT 63 Tryz.func30 ?_
  simp only[iB]
  simp only[go_sem,w1,f1,f2,f3,f4,List.length_map]
  refine aCall_intro hn1 ?_
  simp only[go_sem]
 |false=>
 rw[c5] at hn1
 rw[if_neg (by decide)]
 rw[fewQ]
 have hA:=fewC_spec con (n - 1) 0 (by omega) (by omega) (by decide) (by decide)
 have ha:=fewC_down con (n - 1) 0 (by omega) (by omega)
 rw[←encC_eta con] at hA
 generalize fewC con (n - 1) 0=z at hA ha ⊢
 obtain ⟨z1,z2⟩:=z
 simp only[iB] at hA
 simp only at ha
 cases z1 with
 |false=>
  rw[if_pos rfl]
  simp only
  rw[if_pos trivial]
  refine wk (rv:=[.tmp 6]) annFT 63 Tryz.func30 ?_
  simp only[iB]
  simp only[go_sem,w1,f1,f2,f3,f4,List.length_map]
  refine aCall_intro hn1 ?_
  simp only[go_sem]
  refine aCall_intro hA ?_
  simp only[go_sem]
 |true=>
 have ha2:0≤z2:=ha.2 rfl
 have ha3:z2≤1000000:=by have:=ha.1;omega
 rw[if_neg (c:=(true,z2).1=false) (fun h=>by cases h)]
 have hB:=fewC_spec to z2 0 ha2 ha3 (by decide) (by decide)
 have hb:=fewC_down to z2 0 ha2 ha3
 rw[←encC_eta to] at hB
 simp only
 generalize fewC to z2 0=y at hB hb ⊢
 obtain ⟨y1,y2⟩:=y
 simp only[iB] at hB
 simp only at hb
 cases y1 with
 |false=>
  rw[if_pos rfl]
  simp only
  rw[if_pos trivial]
  refine wk (rv:=[.tmp 6]) annFT 63 Tryz.func30 ?_
  simp only[iB]
  simp only[go_sem,w1,f1,f2,f3,f4,List.length_map]
  refine aCall_intro hn1 ?_
  simp only[go_sem]
  refine aCall_intro hA ?_
  simp only[go_sem]
  refine aCall_intro hB ?_
  simp only[go_sem]
 |true=>
 have hb2:0≤y2:=hb.2 rfl
 have hb3:y2≤1000000:=by have:=hb.1;omega
 rw[if_neg (c:=(true,y2).1=false) (fun h=>by cases h)]
 have hK:=fewK_spec (.mk k) y2 hb2 hb3
 have hk:=fewK_down (.mk k) y2 hb2 hb3
 rw[encK_mk] at hK
 simp only
 generalize fewK (.mk k) y2=x at hK hk ⊢
 obtain ⟨x1,x2⟩:=x
 simp only[iB] at hK
 simp only at hk
 cases x1 with
 |false=>
  rw[if_pos rfl]
  refine wk (rv:=[.tmp 6]) annFT 63 Tryz.func30 ?_
  simp only[iB]
  simp only[go_sem,w1,f1,f2,f3,f4,List.length_map]
  refine aCall_intro hn1 ?_
  simp only[go_sem]
  refine aCall_intro hA ?_
  simp only[go_sem]
  refine aCall_intro hB ?_
  simp only[go_sem]
  refine aCall_intro hK ?_
  simp only[go_sem]
 |true=>
  rw[if_neg (c:=(true,x2).1=false) (fun h=>by cases h),anyT_eq]
  simp only
  have hz2:0≤x2:=hk.2 rfl
  have hz3:x2≤1000000:=by have:=hk.1;omega
  have w2:IntKind.i64.wrap (d+1)=d+1:=wrap_id (by omega) (by omega)
  have e:d+1 - 1=d:=by omega
  have hI:=IdxT2 l (d+1) (fun x hx n g0 g1=>by
   have hF:=ih x hx n (d+1) g0 g1 (by omega) (by omega)
   simp only[iB] at hF
   generalize hN:notT (d+1) x n=s
   obtain ⟨s1,s2⟩:=s
   simp only[notT,Prod.mk.injEq] at hN
   obtain ⟨rfl,rfl⟩:=hN
   rw[e]
   refine wk (rv:=[.tmp 4]) ann66 11 Tryz.func66 ?_
   simp only[rB,iB]
   simp only[go_sem,w2]
   refine aCall_intro hF ?_
   simp only[go_sem]) x2 hz2 hz3
  rw[e] at hI
  obtain ⟨e1,e2⟩:=findN_any (notT (d+1)) l x2 0
  rw[e1] at hI
  have hC:Spec Tryz.prog 28 [pp (.slice (l.map encT)),.one (.fn 66 [.ptr (.ref 0) 0,.pv (.ep (.int .i64 d) 0)])] [rB 1,iB x2] (.bool (anyN (notT (d+1)) l x2).1) [rB 1,iB (anyN (notT (d+1)) l x2).2]:=by
   rw[←e2]
   refine wk (rv:=[.tmp 4]) ann28 9 Tryz.func28 ?_
   simp only[rB,iB] at hI ⊢
   simp only[go_sem]
   refine aCall_intro hI ?_
   simp only[go_sem]
  simp only[rB,iB] at hC
  refine wk (rv:=[.tmp 6]) annFT 63 Tryz.func30 ?_
  simp only[iB]
  simp only[go_sem,w1,f1,f2,f3,f4,List.length_map]
  refine aCall_intro hn1 ?_
  simp only[go_sem]
  refine aCall_intro hA ?_
  simp only[go_sem]
  refine aCall_intro hB ?_
  simp only[go_sem]
  refine aCall_intro hK ?_
  simp only[go_sem]
  refine aCall_intro hC ?_
  simp only[go_sem]
def fitsS (l:List TermT):Bool:=!(anyN (notT 0) l 1500).1
theorem fitsS_spec (l:List TermT):Spec Tryz.prog 9 [pp (.slice (l.map encT))] [] (.bool (fitsS l)) []:=by
 have hI:=IdxT1 l 0 (fun x hx n g0 g1=>by
  have hF:=fewT_spec x n 0 g0 g1 (by omega) (by omega)
  simp only[iB] at hF
  generalize hN:notT 0 x n=s
  obtain ⟨s1,s2⟩:=s
  simp only[notT,Prod.mk.injEq] at hN
  obtain ⟨rfl,rfl⟩:=hN
  refine wk (rv:=[.tmp 3]) ann29 7 Tryz.func29 ?_
  simp only[iB]
  simp only[go_sem]
  refine aCall_intro hF ?_
  simp only[go_sem]) 1500 (by omega) (by omega)
 obtain ⟨e1,e2⟩:=findN_any (notT 0) l 1500 0
 rw[e1] at hI
 have hC:Spec Tryz.prog 28 [pp (.slice (l.map encT)),.one (.fn 29 [.ptr (.ref 0) 0])] [iB 1500] (.bool (anyN (notT 0) l 1500).1) [iB (anyN (notT 0) l 1500).2]:=by
  rw[←e2]
  refine wk (rv:=[.tmp 4]) ann28 9 Tryz.func28 ?_
  simp only[iB] at hI ⊢
  simp only[go_sem]
  refine aCall_intro hI ?_
  simp only[go_sem]
 simp only[iB] at hC
 rw[fitsS]
 refine wk (rv:=[.tmp 2]) ann9 8 Tryz.func9 ?_
 simp only[go_sem]
 refine aCall_intro hC ?_
 simp only[go_sem]
end Go.Abs.Kon
namespace Go.Abs.Kon
open Go Go.Proofs Go.Abs
set_option maxRecDepth 100000
set_option maxHeartbeats 1000000
mutual
theorem fewK_kn:∀(k:KindT) (n:Int),(fewK k n).1=true→(knF k:Int)+(fewK k n).2≤n
 | .mk l,n,h=>by
  rw[fewK] at h ⊢
  split at h
  ·cases h
  ·rename_i g
   rw[if_neg g]
   have:=anyK_kn l (n - 1) (by simpa using h)
   rw[knF]
   simp only
   omega
theorem anyK_kn:∀(l:List KindT) (n:Int),(anyK l n).1=false→(knL l:Int)+(anyK l n).2≤n
 | [],n,_=>by rw[anyK,knL];simp
 |x::r,n,h=>by
  rw[anyK] at h ⊢
  split at h
  ·cases h
  ·rename_i g
   rw[if_neg g]
   have g':(fewK x n).1=true:=by simpa using g
   have h1:=fewK_kn x n g'
   have h2:=anyK_kn r _ h
   rw[knL]
   omega
end
theorem long60_names {names:List ByteArray}(h:¬names.any long60=true):∀x∈names,x.size≤100000000:=by
 intro x hx
 have g5':names.any long60=false:=by simpa using h
 have:=List.any_eq_false.1 g5' x hx
 rw[long60,decide_eq_true_eq] at this
 omega
theorem okSs_of':∀{l:List ConT},(∀x∈l,okS x)→okSs l
 | [],_=>by simp[okSs]
 |x::r,h=>by simp only[okSs];exact ⟨h x (by simp),okSs_of' fun y hy=>h y (List.mem_cons_of_mem _ hy)⟩
mutual
theorem fewC_okS:∀(c:ConT) (n d:Int),0≤n→n≤1500→(fewC c n d).1=true→okS c∧(sizeF c:Int)+(fewC c n d).2≤n∧(wtF c:Int)+21*(fewC c n d).2≤21*n∧0≤(fewC c n d).2
 | .mk op m s k names l,n,d,h0,h1,h=>by
  rw[fewC] at h ⊢
  split at h
  ·cases h
  rename_i g1
  rw[if_neg g1]
  split at h
  ·cases h
  rename_i g2
  rw[if_neg g2]
  split at h
  ·cases h
  rename_i g3
  rw[if_neg g3]
  split at h
  ·cases h
  rename_i g4
  rw[if_neg g4]
  split at h
  ·cases h
  rename_i g5
  rw[if_neg g5]
  split at h
  ·cases h
  rename_i g6
  rw[if_neg g6]
  have g6':(fewK (.mk k) (n - 1)).1=true:=by simpa using g6
  have hk:=fewK_kn (.mk k) (n - 1) g6'
  have hk2:=fewK_down (.mk k) (n - 1) (by omega) (by omega)
  have hk3:=hk2.2 g6'
  obtain ⟨a1,a2,a4,a3⟩:=anyC_okS l (fewK (.mk k) (n - 1)).2 (d+1) hk3 (by omega) (by simpa using h)
  have hkn:(knF (.mk k):Int)=1+knL k:=by rw[knF];omega
  refine ⟨?_,?_,?_,a3⟩
  ·simp only[okS]
   exact ⟨by omega,long60_names g5,okSs_of' fun x hx=>a1 x hx⟩
  ·rw[sizeF]
   simp only
   omega
  ·rw[wtF]
   simp only
   omega
theorem anyC_okS:∀(l:List ConT) (n d:Int),0≤n→n≤1500→(anyC l n d).1=false→(∀x∈l,okS x)∧(sizeL l:Int)+(anyC l n d).2≤n∧(wtL l:Int)+21*(anyC l n d).2≤21*n∧0≤(anyC l n d).2
 | [],n,d,h0,_,_=>by rw[anyC,sizeL,wtL];simp[h0]
 |x::r,n,d,h0,h1,h=>by
  rw[anyC] at h ⊢
  split at h
  ·cases h
  ·rename_i g
   rw[if_neg g]
   have g':(fewC x n d).1=true:=by simpa using g
   obtain ⟨a1,a2,a4,a3⟩:=fewC_okS x n d h0 h1 g'
   obtain ⟨b1,b2,b4,b3⟩:=anyC_okS r _ d a3 (by omega) h
   refine ⟨fun y hy=>?_,by rw[sizeL];omega,by rw[wtL];omega,b3⟩
   rcases List.mem_cons.1 hy with rfl|hy
   ·exact a1
   ·exact b1 y hy
end
theorem fewQ_ok {con to:ConT}{k:List KindT}{n:Int}(h0:0≤n) (h1:n≤1500) (h:(fewQ con to k n).1=true):(okS con∧sizeF con≤1500∧wtF con≤31500)∧(okS to∧sizeF to≤1500∧wtF to≤31500)∧knL k≤1500∧0≤(fewQ con to k n).2∧(fewQ con to k n).2≤n:=by
 have hd:=fewQ_down con to k n h0 (by omega)
 have h2:=hd.2 h
 unfold fewQ at h
 split at h
 ·cases h
 rename_i g1
 split at h
 ·cases h
 rename_i g2
 obtain ⟨a1,a2,a4,a3⟩:=fewC_okS con n 0 h0 h1 (by simpa using g1)
 obtain ⟨b1,b2,b4,b3⟩:=fewC_okS to (fewC con n 0).2 0 a3 (by omega) (by simpa using g2)
 have hk:=fewK_kn _ _ h
 have hk2:=fewK_down (.mk k) (fewC to (fewC con n 0).2 0).2 b3 (by omega)
 have hk3:=hk2.2 h
 have hkn:(knF (.mk k):Int)=1+knL k:=by rw[knF];omega
 exact ⟨⟨a1,by omega,by omega⟩,⟨b1,by omega,by omega⟩,by omega,h2,hd.1⟩
mutual
theorem fewT_ok:∀(c:TermT) (n d:Int),0≤n→n≤1500→(fewT c n d).1=true→okT c∧wcT c∧0≤(fewT c n d).2∧(fewT c n d).2+1≤n
 | .mk op m s con to k names l,n,d,h0,h1,h=>by
  rw[fewT] at h ⊢
  split at h
  ·cases h
  rename_i g1
  rw[if_neg g1]
  split at h
  ·cases h
  rename_i g2
  rw[if_neg g2]
  split at h
  ·cases h
  rename_i g3
  rw[if_neg g3]
  split at h
  ·cases h
  rename_i g4
  rw[if_neg g4]
  split at h
  ·cases h
  rename_i g5
  rw[if_neg g5]
  split at h
  ·cases h
  rename_i g6
  rw[if_neg g6]
  obtain ⟨q1,q2,q3,q4,q5⟩:=fewQ_ok (by omega) (by omega) (show (fewQ con to k (n - 1)).1=true by simpa using g6)
  obtain ⟨a1,a2,a3,a4⟩:=anyT_ok l (fewQ con to k (n - 1)).2 (d+1) q4 (by omega) (by simpa using h)
  refine ⟨?_,?_,a3,by simp only;omega⟩
  ·simp only[okT]
   exact ⟨by omega,⟨by have:=q1.2.1;omega,q1.1⟩,⟨by have:=q2.2.1;omega,q2.1⟩,by omega,long60_names g5,by omega,by omega,okTs_mem.2 fun x hx=>(a1 x hx).1⟩
  ·simp only[wcT]
   exact ⟨by have:=q1.2.2;omega,by have:=q2.2.2;omega,wcTs_mem.2 fun x hx=>(a1 x hx).2⟩
theorem anyT_ok:∀(l:List TermT) (n d:Int),0≤n→n≤1500→(anyT l n d).1=false→(∀x∈l,okT x∧wcT x)∧(l.length:Int)+(anyT l n d).2≤n∧0≤(anyT l n d).2∧(anyT l n d).2≤n
 | [],n,d,h0,_,_=>by rw[anyT];simp[h0]
 |x::r,n,d,h0,h1,h=>by
  rw[anyT] at h ⊢
  split at h
  ·cases h
  ·rename_i g
   rw[if_neg g]
   have g':(fewT x n d).1=true:=by simpa using g
   obtain ⟨a1,a2,a3,a4⟩:=fewT_ok x n d h0 h1 g'
   obtain ⟨b1,b2,b3,b4⟩:=anyT_ok r _ d a3 (by omega) h
   refine ⟨fun y hy=>?_,by simp only[List.length_cons];omega,b3,by omega⟩
   rcases List.mem_cons.1 hy with rfl|hy
   ·exact ⟨a1,a2⟩
   ·exact b1 y hy
end
theorem fitsS_ok (l:List TermT) (h:fitsS l=true):∀x∈l,okT x∧wcT x:=by
 rw[fitsS,←anyT_eq] at h
 exact (anyT_ok l 1500 0 (by decide) (by decide) (by simpa using h)).1
end Go.Abs.Kon