/- The law StepMakes. -/
import Derived.Test.YtafhcphggdipaaaGreatDoorStepF
set_option linter.unusedSimpArgs false
set_option linter.unusedVariables false
namespace Go.Abs.Kon
open Go Go.Proofs Go.Abs
set_option maxRecDepth 100000
set_option maxHeartbeats 4000000
theorem StepMakes_spec (t:TermT) (hok:okT t) (hwc:True):Spec Tryz.prog 8 [pp (encT t)] [] (.bool true) []:=by
 have hAw:=sawake_spec
 have hB:=big_spec t
 have hFa:=Fails_spec t hok hwc
 have hW:=Whole_spec t hok
 have hrF:=fun h=>rFails_spec t h hok
 have hV:=Value_spec t hok hwc
 have hrV:=rValue_spec t hok
 have hS:=Step_spec t hok hwc
 have hrS:=rStep_spec t hok
 rw[←step_eq hok] at hrS
 have hSame:=rtSame_spec (stepT t).1 (stepT t).1
 rw[sameT_refl] at hSame
 have hEq:=EqualS (stepT t).2.1 (stepT t).2.1
 rw[eqL_refl strEq (fun x=>by simp[strEq])] at hEq
 have hfp:failP t=if closedT t=true then failN t else 0:=rfl
 have hcv:closedT t=true→validT t=true:=closed_valid
 clear hok hwc
 generalize stepT t=r at hS hrS hSame hEq
 obtain ⟨y,o,e⟩:=r
 simp only[encR] at hS hrS hSame hEq
 generalize bigT t=b at hB
 generalize (closedT t&&resT t)=v at hV hrV
 have v0:(v != v)=false:=by cases v<;>rfl
 refine wk (rv:=[.tmp 2]) ann8 66 Tryz.func8 ?_
 simp only[go_sem]
 refine aCall_intro hAw ?_
 simp only[go_sem,encT_sz]
 refine aCall_intro hB ?_
 cases b with
 |true=>simp only[go_sem]
 |false=>
 simp only[go_sem,encT_sz]
 refine aCall_intro hFa ?_
 simp only[go_sem,encT_sz]
 refine aCall_intro hW ?_
 have e1:(e==e)=true:=by simp
 cases hc:closedT t with
 |false=>
  rw[if_neg (by rw[hc];decide)] at hfp
  rw[hfp]
  simp only[go_sem,encT_sz]
  refine aCall_intro hV ?_
  simp only[go_sem,encT_sz]
  refine aCall_intro hrV ?_
  simp only[go_sem,encT_sz,v0,Int.reduceBNe,Int.reduceLT,Int.reduceGT,gt_iff_lt,decide_false,bne_self_eq_false]
  refine aCall_intro hS ?_
  simp only[go_sem,encT_sz]
  refine aCall_intro hrS ?_
  simp only[go_sem,encT_sz,e1]
  refine aCall_intro hSame ?_
  simp only[go_sem,encT_sz]
  refine aCall_intro hEq ?_
  simp only[go_sem]
 |true=>
  rw[if_pos hc] at hfp
  have hrF:=hrF (hcv hc)
  rw[←hfp] at hrF
  generalize failP t=f at hFa hrF
  have f0:(f != f)=false:=by simp
  have d0:(decide (f>0) != decide (f>0))=false:=by simp
  simp only[go_sem,encT_sz]
  refine aCall_intro hrF ?_
  simp only[go_sem,encT_sz]
  refine aCall_intro hV ?_
  simp only[go_sem,encT_sz]
  refine aCall_intro hrV ?_
  simp only[go_sem,encT_sz,v0,f0,d0]
  refine aCall_intro hS ?_
  simp only[go_sem,encT_sz]
  refine aCall_intro hrS ?_
  simp only[go_sem,encT_sz,e1]
  refine aCall_intro hSame ?_
  simp only[go_sem,encT_sz]
  refine aCall_intro hEq ?_
  simp only[go_sem]
theorem StepMakes_all (t:TermT):Spec Tryz.prog 8 [pp (encT t)] [] (.bool true) []:=by
 cases hb:bigT t with
 |false=>exact StepMakes_spec t (small_okT hb) trivial
 |true=>
  have hAw:=sawake_spec
  have hB:=big_spec t
  rw[hb] at hB
  refine wk (rv:=[.tmp 2]) ann8 66 Tryz.func8 ?_
  simp only[go_sem]
  refine aCall_intro hAw ?_
  simp only[go_sem,encT_sz]
  refine aCall_intro hB ?_
  simp only[go_sem]
end Go.Abs.Kon