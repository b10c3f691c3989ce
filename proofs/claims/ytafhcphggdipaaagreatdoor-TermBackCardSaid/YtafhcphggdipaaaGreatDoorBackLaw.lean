/- The law TermBack. -/
import Derived.Test.YtafhcphggdipaaaGreatDoorFreeLaw
import Derived.Test.YtafhcphggdipaaaGreatDoorTermE
import Derived.Test.YtafhcphggdipaaaGreatDoorTermG
import Derived.Test.YtafhcphggdipaaaGreatDoorTermX
set_option linter.unusedSimpArgs false
set_option linter.unusedVariables false
namespace Go.Abs.Kon
open Go Go.Proofs Go.Abs
set_option maxRecDepth 100000
set_option maxHeartbeats 4000000
theorem kept_valid {t:TermT}(h:validT t=true):keptT t=(t,0):=by rw[keptT,if_pos h]
theorem back_one {t:TermT}{n m:Int}(h:validT t=true) (h1:0≤n) (h2:n≤255) (h3:0≤m) (h4:m≤255) (h5:validT (shM n m t)=true):ShiftT (shM n m t) (-n) (-m)=(t,0):=by
 have hwf:=(valid_wf h).1
 rw[ShiftT_M h5 (by rw[inB,decide_eq_true (by omega),decide_eq_true (by omega)];rfl) (by rw[inB,decide_eq_true (by omega),decide_eq_true (by omega)];rfl),shM_back n m h1 h3 hwf,kept_valid h]
 · refine head_nonneg fun i hi=>?_
   obtain ⟨j,hj,rfl⟩:=(consF_sh n m h1 t 0 0 hwf (valid_wf h5).1 (by decide) i).1 ((sortU_mem _).1 hi)
   have:=consF_n t 0 (by decide) j hj
   omega
 · refine head_nonneg fun i hi=>?_
   obtain ⟨j,hj,rfl⟩:=(termsF_sh n m h3 t 0 0 hwf i).1 ((sortU_mem _).1 hi)
   have:=termsF_n t 0 hwf (by decide) j hj
   omega
theorem TermBack_spec (t by':TermT) (l:List ConT) (n m:Int) (n1:0≤n) (n2:n≤255) (m1:0≤m) (m2:m≤255) (hok:okT t) (hwc:wcT t) (hok':okT by') (hwc':wcT by') (hl:∀c∈l,wtF c≤900000000∧okS c) (hln:l.length≤100000000) :
   Spec Tryz.prog 4 [pp (encT t),pp (encT by'),pp (.slice (l.map encC)),pp (.int .u8 n),pp (.int .u8 m)] [] (.bool true) []:=by
 have hAw:=tawake_spec
 have hB1:=big_spec t
 have hB2:=big_spec by'
 have hW:=wide_spec l
 have hV:=rtValid_spec t hok
 have hV':=rtValid_spec by' hok'
 have hVl:=rValidAll_spec l fun c hc=>(hl c hc).2
 have hS:=rtSame_spec t t
 rw[sameT_refl] at hS
 have hSh:=tShift_spec t n m hok hwc
 have hSh1:=tShift_spec t 0 1 hok hwc
 have hSh2:=tShift_spec t l.length 0 hok hwc
 obtain ⟨ox,wx⟩:=shM_okwc n m hok hwc
 obtain ⟨ox1,wx1⟩:=shM_okwc 0 1 hok hwc
 obtain ⟨ox2,wx2⟩:=shM_okwc l.length 0 hok hwc
 have hBk:=tShift_spec (shM n m t) (-n) (-m) ox wx
 have hSu:=tSubst_spec (shM 0 1 t) by' ox1 wx1 hok' hwc'
 have hSc:=tSubstCons_spec (shM l.length 0 t) l ox2 wx2 hl hln
 have kX:∀a:TermT,((keptT a).2=0∧(keptT a).1=a∧validT a=true)∨(keptT a).2=6:=fun a=>by
   rw[keptT]
   cases hx:validT a with
   |true=>left;rw[if_pos rfl];exact ⟨rfl,rfl,rfl⟩
   |false=>right;rw[if_neg (by decide)]
 have good:validT t=true→validT by'=true→l.all validF=true→l.length≤10 →
     (ShiftT t n m=keptT (shM n m t)∧ShiftT t 0 1=keptT (shM 0 1 t)∧ShiftT t l.length 0=keptT (shM l.length 0 t))∧(validT (shM n m t)=true→ShiftT (shM n m t) (-n) (-m)=(t,0)) ∧
     (validT (shM 0 1 t)=true→SubstT (shM 0 1 t) by'=(t,0))∧(validT (shM l.length 0 t)=true→SubstConsT (shM l.length 0 t) l=(t,0)):=fun h1 h2 h3 h4=>by
   refine ⟨⟨ShiftT_up h1 n1 n2 m1 m2,ShiftT_up h1 (by decide) (by decide) (by decide) (by decide),ShiftT_up h1 (by omega) (by omega) (by decide) (by decide)⟩,fun h=>back_one h1 n1 n2 m1 m2 h,fun h=>?_,fun h=>?_⟩
   · rw[SubstT_M h h2,sub_shM by' (valid_wf h1).1,kept_valid h1]
   · rw[SubstConsT_M h h3 (by omega),subC_shM l (valid_wf h1).1,kept_valid h1]
 have k1:=kX (shM n m t)
 have k2:=kX (shM 0 1 t)
 have k3:=kX (shM l.length 0 t)
 clear kX hok hwc hok' hwc' hl hln ox wx ox1 wx1 ox2 wx2
 have i1:IntKind.i64.wrap n=n:=wrap_id (by omega) (by omega)
 have i2:IntKind.i64.wrap m=m:=wrap_id (by omega) (by omega)
 have j1:IntKind.i64.wrap (-n)=-n:=wrap_id (by omega) (by omega)
 have j2:IntKind.i64.wrap (-m)=-m:=wrap_id (by omega) (by omega)
 have z1:(0:Int) - n=-n:=by omega
 have z2:(0:Int) - m=-m:=by omega
 have e00:((0:Int) != 0)=false:=rfl
 have e00':((0:Int)==0)=true:=rfl
 have e60:((6:Int)==0)=false:=rfl
 have e66:((6:Int) != 6)=false:=rfl
 generalize shM n m t=X at *
 generalize shM 0 1 t=X1 at *
 generalize shM l.length 0 t=X2 at *
 generalize ShiftT X (-n) (-m)=R at *
 generalize SubstT X1 by'=R1 at *
 generalize SubstConsT X2 l=R2 at *
 generalize ShiftT t n m=Q at *
 generalize ShiftT t 0 1=Q1 at *
 generalize ShiftT t l.length 0=Q2 at *
 generalize keptT X=K at *
 generalize keptT X1=K1 at *
 generalize keptT X2=K2 at *
 generalize validT X=vX at *
 generalize validT X1=vX1 at *
 generalize validT X2=vX2 at *
 generalize validT t=v at *
 generalize validT by'=v' at *
 generalize l.all validF=vl at *
 generalize bigT t=b1 at *
 generalize bigT by'=b2 at *
 generalize wideF l=b3 at *
 refine wk (rv:=[.tmp 10]) ann4 131 Tryz.func4 ?_
 simp only[go_sem]
 refine aCall_intro hAw ?_
 simp only[go_sem,encT_sz]
 refine aCall_intro hB1 ?_
 cases b1 with
 |true=>simp only[go_sem]
 |false=>
 simp only[go_sem,encT_sz]
 refine aCall_intro hB2 ?_
 cases b2 with
 |true=>simp only[go_sem]
 |false=>
 simp only[go_sem,encT_sz]
 refine aCall_intro hW ?_
 cases b3 with
 |true=>simp only[go_sem]
 |false=>
 by_cases h10:l.length≤10
 rotate_left
 · have d1:decide ((l.length:Int)>10)=true:=decide_eq_true (by omega)
   simp only[go_sem,List.length_map,d1]
 have d1:decide ((l.length:Int)>10)=false:=decide_eq_false (by omega)
 simp only[go_sem,List.length_map,d1,encT_sz]
 refine aCall_intro hV ?_
 cases v with
 |false=>simp only[go_sem]
 |true=>
 simp only[go_sem,encT_sz]
 refine aCall_intro hV' ?_
 cases v' with
 |false=>simp only[go_sem]
 |true=>
 simp only[go_sem,encT_sz]
 refine aCall_intro hVl ?_
 cases vl with
 |false=>simp only[go_sem]
 |true=>
 obtain ⟨⟨rfl,rfl,rfl⟩,g1,g2,g3⟩:=good rfl rfl rfl h10
 simp only[go_sem,encT_sz,i1,i2]
 refine aCall_intro hSh ?_
 rcases k1 with ⟨a1,a2,a3⟩|a1
 · obtain rfl:=g1 a3
   simp only[go_sem,encT_sz,a1,a2,e00,e00',e60,e66,i1,i2,z1,z2,j1,j2]
   refine aCall_intro hBk ?_
   simp only[go_sem,encT_sz,e00]
   refine aCall_intro hS ?_
   simp only[go_sem,encT_sz]
   refine aCall_intro hSh1 ?_
   rcases k2 with ⟨c1,c2,c3⟩|c1
   · obtain rfl:=g2 c3
     simp only[go_sem,encT_sz,c1,c2,e00,e00',e60,e66]
     refine aCall_intro hSu ?_
     simp only[go_sem,encT_sz,e00]
     refine aCall_intro hS ?_
     simp only[go_sem,encT_sz,List.length_map]
     refine aCall_intro hSh2 ?_
     rcases k3 with ⟨f1,f2,f3⟩|f1
     · obtain rfl:=g3 f3
       simp only[go_sem,encT_sz,f1,f2,e00,e00',e60,e66]
       refine aCall_intro hSc ?_
       simp only[go_sem,encT_sz,e00]
       refine aCall_intro hS ?_
       simp only[go_sem,encT_sz]
     · simp only[go_sem,encT_sz,f1,e00,e00',e60,e66]
   · simp only[go_sem,encT_sz,c1,e00,e00',e60,e66,List.length_map]
     refine aCall_intro hSh2 ?_
     rcases k3 with ⟨f1,f2,f3⟩|f1
     · obtain rfl:=g3 f3
       simp only[go_sem,encT_sz,f1,f2,e00,e00',e60,e66]
       refine aCall_intro hSc ?_
       simp only[go_sem,encT_sz,e00]
       refine aCall_intro hS ?_
       simp only[go_sem,encT_sz]
     · simp only[go_sem,encT_sz,f1,e00,e00',e60,e66]
 · simp only[go_sem,encT_sz,a1,e00,e00',e60,e66]
   refine aCall_intro hSh1 ?_
   rcases k2 with ⟨c1,c2,c3⟩|c1
   · obtain rfl:=g2 c3
     simp only[go_sem,encT_sz,c1,c2,e00,e00',e60,e66]
     refine aCall_intro hSu ?_
     simp only[go_sem,encT_sz,e00]
     refine aCall_intro hS ?_
     simp only[go_sem,encT_sz,List.length_map]
     refine aCall_intro hSh2 ?_
     rcases k3 with ⟨f1,f2,f3⟩|f1
     · obtain rfl:=g3 f3
       simp only[go_sem,encT_sz,f1,f2,e00,e00',e60,e66]
       refine aCall_intro hSc ?_
       simp only[go_sem,encT_sz,e00]
       refine aCall_intro hS ?_
       simp only[go_sem,encT_sz]
     · simp only[go_sem,encT_sz,f1,e00,e00',e60,e66]
   · simp only[go_sem,encT_sz,c1,e00,e00',e60,e66,List.length_map]
     refine aCall_intro hSh2 ?_
     rcases k3 with ⟨f1,f2,f3⟩|f1
     · obtain rfl:=g3 f3
       simp only[go_sem,encT_sz,f1,f2,e00,e00',e60,e66]
       refine aCall_intro hSc ?_
       simp only[go_sem,encT_sz,e00]
       refine aCall_intro hS ?_
       simp only[go_sem,encT_sz]
     · simp only[go_sem,encT_sz,f1,e00,e00',e60,e66]
theorem TermBack_all (t by':TermT) (l:List ConT) (n m:Int) (n1:0≤n) (n2:n≤255) (m1:0≤m) (m2:m≤255) (h:okTL t) (h':okTL by') (hl:∀c∈l,okSL c) :
   Spec Tryz.prog 4 [pp (encT t),pp (encT by'),pp (.slice (l.map encC)),pp (.int .u8 n),pp (.int .u8 m)] [] (.bool true) []:=by
 by_cases hg:validT t=true∧validT by'=true∧l.all validF=true∧l.length≤10
 · obtain ⟨g1,g2,g3,g4⟩:=hg
   exact TermBack_spec t by' l n m n1 n2 m1 m2 (valid_okwc g1).1 (valid_okwc g1).2 (valid_okwc g2).1 (valid_okwc g2).2 (fun c hc=>validF_okwc (List.all_eq_true.1 g3 c hc)) (by omega)
 have hAw:=tawake_spec
 have hB1:=big_spec t
 have hB2:=big_spec by'
 have hW:=wide_spec l
 have hV:=rtValid_specL t h
 have hV':=rtValid_specL by' h'
 have hVl:=rValidAll_specL l hl
 generalize validT t=v at *
 generalize validT by'=v' at *
 generalize l.all validF=vl at *
 generalize bigT t=b1 at *
 generalize bigT by'=b2 at *
 generalize wideF l=b3 at *
 clear h h' hl
 refine wk (rv:=[.tmp 10]) ann4 131 Tryz.func4 ?_
 simp only[go_sem]
 refine aCall_intro hAw ?_
 simp only[go_sem,encT_sz]
 refine aCall_intro hB1 ?_
 cases b1 with
 |true=>simp only[go_sem]
 |false=>
 simp only[go_sem,encT_sz]
 refine aCall_intro hB2 ?_
 cases b2 with
 |true=>simp only[go_sem]
 |false=>
 simp only[go_sem,encT_sz]
 refine aCall_intro hW ?_
 cases b3 with
 |true=>simp only[go_sem]
 |false=>
 by_cases h10:l.length≤10
 rotate_left
 · have d1:decide ((l.length:Int)>10)=true:=decide_eq_true (by omega)
   simp only[go_sem,List.length_map,d1]
 have d1:decide ((l.length:Int)>10)=false:=decide_eq_false (by omega)
 simp only[go_sem,List.length_map,d1,encT_sz]
 refine aCall_intro hV ?_
 cases v with
 |false=>simp only[go_sem]
 |true=>
 simp only[go_sem,encT_sz]
 refine aCall_intro hV' ?_
 cases v' with
 |false=>simp only[go_sem]
 |true=>
 simp only[go_sem,encT_sz]
 refine aCall_intro hVl ?_
 cases vl with
 |false=>simp only[go_sem]
 |true=>exact absurd ⟨rfl,rfl,rfl,h10⟩ hg
end Go.Abs.Kon
