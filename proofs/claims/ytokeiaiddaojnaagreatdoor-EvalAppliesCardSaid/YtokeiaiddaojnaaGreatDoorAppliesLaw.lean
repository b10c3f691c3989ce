/- The law EvalApplies. -/
import Derived.Test.YtokeiaiddaojnaaGreatDoorRunsLaw
set_option linter.unusedSimpArgs false
set_option linter.unusedVariables false
namespace Go.Abs.Kon
open Go Go.Proofs Go.Abs
set_option maxRecDepth 100000
set_option maxHeartbeats 4000000
theorem every1_spec (t:TermT) (h:okT t):Spec Tryz.prog 131 [pp (encT t)] [] (.bool (!validT t)) []:=by
 have hV:=tValid_spec t h
 refine wk (rv:=[.tmp 2]) ann131 6 Tryz.func131 ?_
 simp only[go_sem,encT_sz]
 refine aCall_intro hV ?_
 simp only[go_sem]
theorem every_spec (l:List TermT) (h:∀c∈l,okT c):Spec Tryz.prog 106 [pp (.slice (l.map encT))] [] (.bool (l.all validT)) []:=by
 have hA:Spec Tryz.prog 28 [pp (.slice (l.map encT)),pp (.fn 131 [])] [] (.bool (l.any fun x=>!validT x)) []:=
  ContainsFuncT encT l 131 [] _ (fun e _=>encT_sz e) fun x hx=>every1_spec x (h x hx)
 have ha:l.all validT=!(l.any fun x=>!validT x):=by simp[List.all_eq_not_any_not]
 rw[ha]
 refine wk (rv:=[.tmp 2]) ann106 6 Tryz.func106 ?_
 simp only[go_sem]
 refine aCall_intro hA ?_
 simp only[go_sem]
/-! The reference's Lams and Apps -/
def appBoxQ (t0:Nat) (t:TermT):Option (TermT×TermT)→SV
 |none=>pp (encT t)
 |some (g,x)=>.agg [.pv (.int .i64 5),.pv (.int .i64 0),.pv (.str ByteArray.empty),.pv (.int .i64 0),.pv (.int .i64 0),.pv (.str ByteArray.empty),.nilS,.nilS,.nilS,.pv (.int .i64 0),.pv (.int .i64 0),.pv (.str ByteArray.empty),.nilS,.nilS,.nilS,.nilS,.nilS,.own t0 (.agg 18) [encT g,encT x]]
def appCurQ (t:TermT):Option (TermT×TermT)→TermT
 |none=>t
 |some (g,x)=>appT g x
theorem rtApps_spec (f:TermT) (l:List TermT) (h:l.length≤100000000):Spec Tryz.prog 60 [pp (encT f),pp (.slice (l.map encT))] [] (encT (appsT f l)) []:=by
 generalize h0:appsT f l=res
 refine wk (rv:=[.cell 4 31]) ann60 20 Tryz.func60 ?_
 simp only[go_sem,encT_sz]
 refine aLoop_list (α:=TermT) (β:=Option (TermT×TermT)×List TermT) (fun rest b=>⟨[(5,ii b.2.length),(2,.one (.ptr (.loc 2) 0)),(1,pp (.slice (l.map encT))),(4,.one (.ptr (.loc 4) 0))],
  [(.loc 2,⟨.agg 18,appBoxQ 34 f b.1⟩),(.loc 4,zboxT)],[]⟩)
  (fun rest b=>l=b.2++rest∧appsT (appCurQ f b.1) rest=res) ?_ ?_ l (none,[]) _ ?_ ⟨rfl,h0⟩
 ·rintro ⟨g,pre⟩ ⟨h1,h2⟩ K
  simp only[List.append_nil] at h1
  simp only[appsT,List.foldl_nil] at h2
  subst h1 h2
  cases g with
  |none=>simp only[go_sem,List.length_map,lt_false (Int.le_refl _),encT_sz,appBoxQ,appCurQ,zboxT]
  |some g=>
   obtain ⟨g,x⟩:=g
   simp only[go_sem,List.length_map,lt_false (Int.le_refl _),encT_sz,appBoxQ,appCurQ,encT_app,zboxT]
 ·rintro x rest ⟨g,pre⟩ ⟨h1,h2⟩ K hK
  simp only at h1 h2 hK
  have hx:(l.map encT)[pre.length]? = some (encT x):=by simp[h1]
  have hlt:(pre.length:Int)<l.length:=by rw[h1];simp;omega
  have hll:pre.length+1≤l.length:=by omega
  have w4:IntKind.i64.wrap ((pre.length:Int)+1)=((pre++[x]).length:Int):=by rw[wrap_id (by omega) (by omega)];simp
  have hK':=fun s' hs=>hK (some (appCurQ f g,x),pre++[x]) s' hs ⟨by simp[h1],h2⟩
  clear hK
  cases g with
  |none=>
   simp only[go_sem,List.length_map,decide_eq_true hlt,hx,encT_sz,w4,appBoxQ,zboxT]
   refine ⟨by kernel_rfl,hK' _ ?_⟩
   simp only[go_sem,appBoxQ,appCurQ,zboxT]
  |some g=>
   obtain ⟨g,y⟩:=g
   simp only[go_sem,List.length_map,decide_eq_true hlt,hx,encT_sz,w4,appBoxQ,zboxT]
   refine ⟨by kernel_rfl,hK' _ ?_⟩
   simp only[go_sem,appBoxQ,appCurQ,encT_app,zboxT]
 ·simp only[go_sem,List.length_nil,Int.natCast_zero,appBoxQ,zboxT]
/-! The program's Lams and Apps -/
theorem tApps_spec (f:TermT) (l:List TermT) (hok:okT f) (hwc:wcT f) (hl:∀c∈l,okT c∧wcT c) (hn:l.length≤100000000) :
  Spec Tryz.prog 59 [pp (encT f),pp (.slice (l.map encT))] [] (.tuple [encT (AppsT f l).1,.int .i64 (AppsT f l).2]) []:=by
 have hV:=tValid_spec f hok
 have hA:=every_spec l fun x hx=>(hl x hx).1
 rw[AppsT]
 cases hv:validT f with
 |false=>
  rw[hv] at hV
  rw[if_pos (.inl rfl),encT_zero]
  refine wk (rv:=[.cell 4 31,.tmp 5]) ann59 57 Tryz.func59 ?_
  simp only[go_sem,encT_sz]
  refine aCall_intro hV ?_
  simp only[go_sem]
 |true=>
  rw[hv] at hV
  cases hal:l.all validT with
  |false=>
   rw[hal] at hA
   rw[if_pos (.inr rfl),encT_zero]
   refine wk (rv:=[.cell 4 31,.tmp 5]) ann59 57 Tryz.func59 ?_
   simp only[go_sem,encT_sz]
   refine aCall_intro hV ?_
   simp only[go_sem,encT_sz]
   refine aCall_intro hA ?_
   simp only[go_sem]
  |true=>
   rw[hal] at hA
   rw[if_neg (by rintro (e|e)<;>cases e)]
   by_cases h1000:(l.length:Int)>1000
   ·rw[if_pos (by omega:l.length>1000),encT_zero]
    refine wk (rv:=[.cell 4 31,.tmp 5]) ann59 57 Tryz.func59 ?_
    simp only[go_sem,encT_sz]
    refine aCall_intro hV ?_
    simp only[go_sem,encT_sz]
    refine aCall_intro hA ?_
    simp only[go_sem,List.length_map,decide_eq_true h1000]
   ·rw[if_neg (by omega:¬l.length>1000)]
    obtain ⟨hwf,hd⟩:=valid_wf hv
    have hSh:=shifting_spec 0 0
    have hCh:=change_shift 0 0 (by decide) (by decide) f hwf hok hwc (by omega)
    rw[show chT (shCf 0) (shVf 0) f 0 0=(f,0) from sh0 hwf] at hCh
    have hFi:=finish_spec (appsT f l,0) (okT_apps hok fun x hx=>(hl x hx).1)
    generalize finT (appsT f l,0)=res at hFi
    simp only at hFi
    generalize h0:appsT f l=r0 at hFi
    refine wk (rv:=[.cell 4 31,.tmp 5]) ann59 57 Tryz.func59 ?_
    simp only[go_sem,encT_sz]
    refine aCall_intro hV ?_
    simp only[go_sem,encT_sz]
    refine aCall_intro hA ?_
    simp only[go_sem,List.length_map,decide_eq_false h1000]
    refine aCall_intro hSh ?_
    simp only[go_sem,encT_sz]
    try (refine ⟨by kernel_rfl,?_⟩;try simp only[go_sem,encT_sz])
    refine aCall_intro hCh ?_
    simp only[go_sem,encT_sz,List.length_map]
    try (refine ⟨by kernel_rfl,?_⟩;try simp only[go_sem,encT_sz,List.length_map])
    refine aLoop_list (α:=TermT) (β:=Option (TermT×TermT)×List TermT) (fun rest b=>⟨[(36,ii b.2.length),(6,.one (.ptr (.loc 6) 0)),(34,pp (.slice (l.map encT))),(4,.one (.ptr (.loc 4) 0)),(7,ii 0),(35,ii l.length)],
     [(.loc 4,zboxT),(.loc 6,⟨.agg 18,appBoxQ 98 f b.1⟩)],[]⟩)
     (fun rest b=>l=b.2++rest∧appsT (appCurQ f b.1) rest=r0) ?_ ?_ l (none,[]) _ ?_ ⟨rfl,h0⟩
    ·rintro ⟨g,pre⟩ ⟨h1,h3⟩ K
     simp only[List.append_nil] at h1
     simp only[appsT,List.foldl_nil] at h3
     subst h1
     subst h3
     cases g with
     |none=>
      simp only[appCurQ] at hFi
      simp only[go_sem,lt_false (Int.le_refl _),encT_sz,appBoxQ,zboxT]
      refine aCall_intro hFi ?_
      simp only[go_sem,encT_sz]
     |some g=>
      obtain ⟨g,x⟩:=g
      simp only[appCurQ,encT_app] at hFi
      simp only[go_sem,lt_false (Int.le_refl _),encT_sz,appBoxQ,zboxT]
      refine aCall_intro hFi ?_
      simp only[go_sem,encT_sz]
    ·rintro x rest ⟨g,pre⟩ ⟨h1,h3⟩ K hK
     simp only at h1 h3 hK
     have hm:x∈l:=by simp[h1]
     obtain ⟨hwfx,hdx⟩:=valid_wf (List.all_eq_true.1 hal x hm)
     have hS:=change_shift 0 0 (by decide) (by decide) x hwfx (hl x hm).1 (hl x hm).2 (by omega)
     rw[show chT (shCf 0) (shVf 0) x 0 0=(x,0) from sh0 hwfx] at hS
     have hx:(l.map encT)[pre.length]? = some (encT x):=by simp[h1]
     have hlt:(pre.length:Int)<l.length:=by rw[h1];simp;omega
     have hll:pre.length+1≤l.length:=by omega
     have w4:IntKind.i64.wrap ((pre.length:Int)+1)=((pre++[x]).length:Int):=by rw[wrap_id (by omega) (by omega)];simp
     have hK':=fun s' hs=>hK (some (appCurQ f g,x),pre++[x]) s' hs ⟨by simp[h1],h3⟩
     clear hK h3 hFi hCh
     cases g with
     |none=>
      simp only[go_sem,List.length_map,decide_eq_true hlt,hx,encT_sz,appBoxQ,zboxT]
      refine aCall_intro hSh ?_
      simp only[go_sem,encT_sz,w4]
      try (refine ⟨by kernel_rfl,?_⟩;try simp only[go_sem,encT_sz,w4])
      refine aCall_intro hS ?_
      simp only[go_sem,encT_sz,w4]
      try (refine ⟨by kernel_rfl,?_⟩;try simp only[go_sem,encT_sz,w4])
      try (refine ⟨by kernel_rfl,?_⟩;try simp only[go_sem,encT_sz,w4])
      refine hK' _ ?_
      simp only[go_sem,appBoxQ,appCurQ,zboxT]
     |some g=>
      obtain ⟨g,y⟩:=g
      simp only[go_sem,List.length_map,decide_eq_true hlt,hx,encT_sz,appBoxQ,zboxT]
      refine aCall_intro hSh ?_
      simp only[go_sem,encT_sz,w4]
      try (refine ⟨by kernel_rfl,?_⟩;try simp only[go_sem,encT_sz,w4])
      refine aCall_intro hS ?_
      simp only[go_sem,encT_sz,w4]
      try (refine ⟨by kernel_rfl,?_⟩;try simp only[go_sem,encT_sz,w4])
      try (refine ⟨by kernel_rfl,?_⟩;try simp only[go_sem,encT_sz,w4])
      refine hK' _ ?_
      simp only[go_sem,appBoxQ,appCurQ,encT_app,zboxT]
    ·simp only[go_sem,Int.natCast_zero,List.length_nil,appBoxQ,zboxT]
end Go.Abs.Kon
namespace Go.Abs.Kon
open Go Go.Proofs Go.Abs
set_option maxRecDepth 100000
set_option maxHeartbeats 1000000
theorem appT_ok {f x:TermT}(h1:okT f∧wcT f) (h2:okT x∧wcT x):okT (appT f x)∧wcT (appT f x):=by
 have h0:=awake_okT
 unfold appT
 have z1:sizeF zeroC≤1000000000∧okS zeroC:=by
  have:=h0.1
  rw[awakeT] at this
  simp only[okT] at this
  exact this.2.1
 have z2:wtF zeroC≤900000000:=by
  have:=h0.2
  rw[awakeT] at this
  simp only[wcT] at this
  exact this.1
 refine ⟨?_,?_⟩
 ·simp only[okT]
  exact ⟨Nat.zero_le _,z1,z1,by rw[knL];decide,fun x hx=>by simp at hx,Nat.zero_le _,by simp,okTs_mem.2 fun y hy=>by
   rcases List.mem_cons.1 hy with rfl|hy
   ·exact h1.1
   ·rw[List.mem_singleton] at hy;rw[hy];exact h2.1⟩
 ·simp only[wcT]
  exact ⟨z2,z2,wcTs_mem.2 fun y hy=>by
   rcases List.mem_cons.1 hy with rfl|hy
   ·exact h1.2
   ·rw[List.mem_singleton] at hy;rw[hy];exact h2.2⟩
theorem appsT_ok:∀(l:List TermT) (f:TermT),okT f∧wcT f→(∀x∈l,okT x∧wcT x)→okT (appsT f l)∧wcT (appsT f l)
 | [],f,h,_=>h
 |x::r,f,h,hl=>appsT_ok r (appT f x) (appT_ok h (hl x (by simp))) fun y hy=>hl y (List.mem_cons_of_mem _ hy)
def applyP (t:TermT) (l:List TermT) (fuel:Int):OutT×Int:=
 if closedT t=false∨l.all closedT=false then (zeroO,1) else if l.length>1000 then (zeroO,5) else if validT (appsT t l)=false then (zeroO,6) else runP (appsT t l) fuel
theorem all_valid {l:List TermT}(h:l.all closedT=true):l.all validT=true:=by
 rw[List.all_eq_true] at h ⊢
 exact fun x hx=>closed_valid (h x hx)
theorem any_closed (l:List TermT):(l.any fun x=>!closedT x)=!l.all closedT:=by
 induction l with
 |nil=>rfl
 |cons x r ih=>rw[List.any_cons,List.all_cons,ih];cases closedT x<;>cases r.all closedT<;>rfl
theorem apply1_spec (t:TermT) (h:okT t∧wcT t):Spec Tryz.prog 58 [pp (encT t)] [] (.bool (!closedT t)) []:=by
 have hc:=closed_spec t h.1 h.2
 refine wk (rv:=[.tmp 2]) ann58 6 Tryz.func58 ?_
 simp only[go_sem]
 refine aCall_intro hc ?_
 simp only[go_sem]
theorem apply_spec (t:TermT) (l:List TermT) (fuel:Int) (ht:okT t∧wcT t) (hl:∀x∈l,okT x∧wcT x) (hn:l.length≤100000000):Spec Tryz.prog 24 [pp (encT t),pp (.slice (l.map encT)),ii fuel] [] (.tuple [encOut (applyP t l fuel).1,.int .i64 (applyP t l fuel).2]) []:=by
 have hc:=closed_spec t ht.1 ht.2
 have hC:Spec Tryz.prog 28 [pp (.slice (l.map encT)),pp (.fn 58 [])] [] (.bool (l.any fun x=>!closedT x)) []:=
  ContainsFuncT encT l 58 [] _ (fun e _=>encT_sz e) fun x hx=>apply1_spec x (hl x hx)
 rw[any_closed] at hC
 have hA:=tApps_spec t l ht.1 ht.2 hl hn
 have hap:=appsT_ok l t ht hl
 have hR:=run_spec (appsT t l) fuel hap.1 hap.2
 have z0:encOut zeroO=.agg [.int .i64 0,.int .i64 0,.int .i64 0,.int .i64 0,.int .i64 0,.str ByteArray.empty,.slice [],.slice [],.slice []]:=rfl
 cases hcl:closedT t with
 |false=>
  rw[applyP,if_pos (.inl hcl),z0]
  rw[hcl] at hc
  refine wk (rv:=[.cell 6 38,.tmp 7]) ann24 33 Tryz.func24 ?_
  simp only[go_sem]
  refine aCall_intro hc ?_
  simp only[go_sem]
 |true=>
 rw[hcl] at hc
 cases hal:l.all closedT with
 |false=>
  rw[applyP,if_pos (.inr hal),z0]
  rw[hal] at hC
  refine wk (rv:=[.cell 6 38,.tmp 7]) ann24 33 Tryz.func24 ?_
  simp only[go_sem]
  refine aCall_intro hc ?_
  simp only[go_sem]
  refine aCall_intro hC ?_
  simp only[go_sem]
 |true=>
 rw[hal] at hC
 rw[applyP,if_neg (by rw[hcl,hal];simp)]
 rw[AppsT,if_neg (by rw[closed_valid hcl,all_valid hal];simp)] at hA
 by_cases h5:l.length>1000
 ·rw[if_pos h5,encT_zero] at hA
  rw[if_pos h5,z0]
  refine wk (rv:=[.cell 6 38,.tmp 7]) ann24 33 Tryz.func24 ?_
  simp only[go_sem]
  refine aCall_intro hc ?_
  simp only[go_sem]
  refine aCall_intro hC ?_
  simp only[go_sem]
  refine aCall_intro hA ?_
  simp only[go_sem]
 rw[if_neg h5] at hA ⊢
 rw[finT] at hA
 cases hv:validT (appsT t l) with
 |false=>
  rw[if_pos (.inr hv),encT_zero] at hA
  rw[if_pos rfl,z0]
  refine wk (rv:=[.cell 6 38,.tmp 7]) ann24 33 Tryz.func24 ?_
  simp only[go_sem]
  refine aCall_intro hc ?_
  simp only[go_sem]
  refine aCall_intro hC ?_
  simp only[go_sem]
  refine aCall_intro hA ?_
  simp only[go_sem]
 |true=>
  rw[if_neg (by rw[hv];simp)] at hA
  rw[if_neg (by decide)]
  simp only at hA
  generalize runP (appsT t l) fuel=r at hR ⊢
  generalize appsT t l=a at hA hR
  refine wk (rv:=[.cell 6 38,.tmp 7]) ann24 33 Tryz.func24 ?_
  simp only[go_sem]
  refine aCall_intro hc ?_
  simp only[go_sem]
  refine aCall_intro hC ?_
  simp only[go_sem]
  refine aCall_intro hA ?_
  simp only[go_sem]
  refine aCall_intro hR ?_
  simp only[go_sem]
theorem rclosed2_spec (t:TermT) (h:okT t) (hv:validT t=true):Spec Tryz.prog 37 [pp (encT t)] [] (.bool (closedT t)) []:=by
 have hc:=rClosed_spec t hv h
 rw[show (decide ((sortU (consF t 0)).length=0)&&decide ((sortU (termsF t 0)).length=0))=closedT t from by rw[closedT,hv];simp] at hc
 exact hc
theorem rapply_spec (t:TermT) (l:List TermT) (fuel:Int) (ht:okT t∧wcT t) (hl:∀x∈l,okT x∧wcT x) (hn:l.length≤100000000):Spec Tryz.prog 25 [pp (encT t),pp (.slice (l.map encT)),ii fuel] [] (.tuple [encOut (applyP t l fuel).1,.int .i64 (applyP t l fuel).2]) []:=by
 have hV:=rtValid_spec t ht.1
 have hap:=appsT_ok l t ht hl
 have hP:=rtApps_spec t l hn
 have hV2:=rtValid_spec (appsT t l) hap.1
 have hR:=rrun_spec (appsT t l) fuel hap.1 hap.2
 have z0:encOut zeroO=.agg [.int .i64 0,.int .i64 0,.int .i64 0,.int .i64 0,.int .i64 0,.str ByteArray.empty,.slice [],.slice [],.slice []]:=rfl
 cases hcl:closedT t with
 |false=>
  rw[applyP,if_pos (.inl hcl),z0]
  cases hv:validT t with
  |false=>
   rw[hv] at hV
   refine wk (rv:=[.cell 6 38,.tmp 7]) ann25 56 Tryz.func25 ?_
   simp only[go_sem]
   refine aCall_intro hV ?_
   simp only[go_sem]
  |true=>
   have hc:=rclosed2_spec t ht.1 hv
   rw[hv] at hV
   rw[hcl] at hc
   refine wk (rv:=[.cell 6 38,.tmp 7]) ann25 56 Tryz.func25 ?_
   simp only[go_sem]
   refine aCall_intro hV ?_
   simp only[go_sem]
   refine aCall_intro hc ?_
   simp only[go_sem]
 |true=>
 have hv:=closed_valid hcl
 have hc:=rclosed2_spec t ht.1 hv
 rw[hv] at hV
 rw[hcl] at hc
 generalize hres:applyP t l fuel=res
 refine wk (rv:=[.cell 6 38,.tmp 7]) ann25 56 Tryz.func25 ?_
 simp only[go_sem]
 refine aCall_intro hV ?_
 simp only[go_sem]
 refine aCall_intro hc ?_
 simp only[go_sem]
 refine aLoop_list (α:=TermT) (β:=Nat) (fun rest m=>⟨[(6,.one (.ptr (.loc 6) 0)),(8,ii m),(1,pp (.slice (l.map encT))),(2,ii fuel),(3,pp (.ep (encT t) 0))],[(.loc 6,⟨.agg 9,.agg [.pv (.int .i64 0),.pv (.int .i64 0),.pv (.int .i64 0),.pv (.int .i64 0),.pv (.int .i64 0),.pv (.str ByteArray.empty),.nilS,.nilS,.nilS]⟩)],[]⟩) (fun rest m=>(∃pre,l=pre++rest∧m=pre.length)∧rest.all closedT=l.all closedT) ?_ ?_ l 0 _ ?_ ⟨⟨[],rfl,rfl⟩,rfl⟩
 ·rintro m ⟨⟨pre,g1,g2⟩,g3⟩ K
  simp only[List.append_nil] at g1
  subst g1
  have hal:l.all closedT=true:=by rw[←g3];rfl
  rw[applyP,if_neg (by rw[hcl,hal];simp)] at hres
  subst g2
  by_cases h5:l.length>1000
  ·have d5:decide ((l.length:Int)>1000)=true:=decide_eq_true (by omega)
   rw[if_pos h5] at hres
   subst hres
   simp only[go_sem,lt_false (Int.le_refl _),List.length_map,d5,z0]
  ·have d5:decide ((l.length:Int)>1000)=false:=decide_eq_false (by omega)
   rw[if_neg h5] at hres
   simp only[go_sem,lt_false (Int.le_refl _),List.length_map,d5]
   refine aCall_intro hP ?_
   simp only[go_sem,encT_sz]
   refine aCall_intro hV2 ?_
   cases hv2:validT (appsT t l) with
   |false=>
    rw[hv2,if_pos rfl] at hres
    subst hres
    simp only[go_sem,z0]
   |true=>
    rw[hv2,if_neg (by decide)] at hres
    subst hres
    simp only[go_sem]
    refine aCall_intro hR ?_
    simp only[go_sem]
 ·rintro x rest m ⟨⟨pre,g1,g2⟩,g3⟩ K hK
  have hx:(l.map encT)[m]? = some (encT x):=by simp[g1,g2]
  have hlt:decide ((m:Int)<(l.length:Int))=true:=decide_eq_true (by rw[g1,g2];simp;omega)
  have hll:m<l.length:=by rw[g1,g2];simp
  have w4:IntKind.i64.wrap ((m:Int)+1)=((m+1:Nat):Int):=by rw[wrapI (by omega) (by omega)];simp
  have hxo:=hl x (by rw[g1];simp)
  have hVx:=rtValid_spec x hxo.1
  rw[List.all_cons] at g3
  cases hcx:closedT x with
  |false=>
   rw[hcx,Bool.false_and] at g3
   rw[applyP,if_pos (.inr g3.symm)] at hres
   subst hres
   cases hvx:validT x with
   |false=>
    rw[hvx] at hVx
    simp only[go_sem,hlt,hx,List.length_map]
    refine aCall_intro hVx ?_
    simp only[go_sem,z0]
   |true=>
    have hCx:=rclosed2_spec x hxo.1 hvx
    rw[hvx] at hVx
    rw[hcx] at hCx
    simp only[go_sem,hlt,hx,List.length_map]
    refine aCall_intro hVx ?_
    simp only[go_sem,hx,Int.toNat_natCast,Int.natCast_nonneg]
    refine aCall_intro hCx ?_
    simp only[go_sem,z0]
  |true=>
   rw[hcx,Bool.true_and] at g3
   have hvx:=closed_valid hcx
   have hCx:=rclosed2_spec x hxo.1 hvx
   rw[hvx] at hVx
   rw[hcx] at hCx
   simp only[go_sem,hlt,hx,List.length_map]
   refine aCall_intro hVx ?_
   simp only[go_sem,hx,Int.toNat_natCast,Int.natCast_nonneg]
   refine aCall_intro hCx ?_
   simp only[go_sem,w4]
   refine hK (m+1) _ ?_ ⟨⟨pre++[x],by simp[g1],by simp[g2]⟩,g3⟩
   simp only[go_sem]
 ·simp only[go_sem,Int.natCast_zero]
theorem fitsS_len (l:List TermT) (h:fitsS l=true):l.length≤100000000:=by
 rw[fitsS,←anyT_eq] at h
 have:=(anyT_ok l 1500 0 (by decide) (by decide) (by simpa using h)).2
 omega
theorem EvalApplies_spec (t:TermT) (l:List TermT) (fuel:Int):Spec Tryz.prog 7 [pp (encT t),pp (.slice (l.map encT)),ii fuel] [] (.bool true) []:=by
 have hf:=fitsS_spec [t]
 have hok:=fitsS_ok [t]
 have hf2:=fitsS_spec l
 have hok2:=fitsS_ok l
 refine wk (rv:=[.tmp 6]) ann7 52 Tryz.func7 ?_
 simp only[go_sem]
 refine aCall_intro awake_spec ?_
 simp only[go_sem]
 cases hb:fitsS [t] with
 |false=>
  rw[hb] at hf
  refine aCall_intro hf ?_
  simp only[go_sem]
 |true=>
 rw[hb] at hf
 refine aCall_intro hf ?_
 simp only[go_sem]
 cases hb2:fitsS l with
 |false=>
  rw[hb2] at hf2
  refine aCall_intro hf2 ?_
  simp only[go_sem]
 |true=>
  rw[hb2] at hf2
  have h1:=hok hb t (by simp)
  have hn:=fitsS_len l hb2
  have ha:=apply_spec t l fuel h1 (hok2 hb2) hn
  have hr:=rapply_spec t l fuel h1 (hok2 hb2) hn
  generalize applyP t l fuel=r at ha hr
  have hS:=Same15_refl r.1
  have d3:(r.2==r.2)=true:=by simp
  refine aCall_intro hf2 ?_
  by_cases g1:fuel>20000
  ·by_cases g2:fuel≤1048576
   ·simp only[go_sem,decide_eq_true g1,decide_eq_true g2]
   ·simp only[go_sem,decide_eq_true g1,decide_eq_false g2]
    refine aCall_intro ha ?_
    simp only[go_sem]
    refine aCall_intro hr ?_
    simp only[go_sem]
    refine aCall_intro hS ?_
    simp only[go_sem,d3]
  ·simp only[go_sem,decide_eq_false g1]
   refine aCall_intro ha ?_
   simp only[go_sem]
   refine aCall_intro hr ?_
   simp only[go_sem]
   refine aCall_intro hS ?_
   simp only[go_sem,d3]
end Go.Abs.Kon