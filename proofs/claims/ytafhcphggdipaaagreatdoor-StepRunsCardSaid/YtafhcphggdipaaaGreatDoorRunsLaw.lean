/- The law StepRuns. -/
import Derived.Test.YtafhcphggdipaaaGreatDoorTraceB
import Derived.Test.YtafhcphggdipaaaGreatDoorTraceC
import Derived.Test.YtafhcphggdipaaaGreatDoorStepF
set_option linter.unusedSimpArgs false
set_option linter.unusedVariables false
namespace Go.Abs.Kon
open Go Go.Proofs Go.Abs
set_option maxRecDepth 100000
set_option maxHeartbeats 4000000
theorem StepRuns_of (t:TermT) (hok:okT t) (hwc:True) (fuel:Int)
  (hT:Spec Tryz.prog 28 [pp (encT t),ii fuel] [] (.tuple [.slice ((traceTop t fuel).1.map encT),.int .i64 (traceTop t fuel).2]) [])
  (hrT:closedT t=true→0≤fuel→fuel≤150→Spec Tryz.prog 31 [pp (encT t),ii fuel] [] (.tuple [.slice ((rtrT fuel.toNat t [t] []).1.map encT),.slice ((rtrT fuel.toNat t [t] []).2.1.map .str),.int .i64 (rtrT fuel.toNat t [t] []).2.2]) []) :
  Spec Tryz.prog 7 [pp (encT t),ii fuel] [] (.bool true) []:=by
 have hAw:=sawake_spec
 have hB:=big_spec t
 have hW:=Whole_spec t hok
 have hR:=Run_spec t hok hwc fuel
 have hN:=none16_spec
 generalize bigT t=b at hB
 cases b with
 |true=>
  clear hT hrT hR hW hN
  refine wk (rv:=[.tmp 4]) ann7 165 Tryz.func7 ?_
  simp only[go_sem]
  refine aCall_intro hAw ?_
  simp only[go_sem,encT_sz]
  refine aCall_intro hB ?_
  simp only[go_sem]
 |false=>
 by_cases h1:fuel>150∧fuel≤1048576
 ·have d1:=decide_eq_true h1.1
  have d2:=decide_eq_true h1.2
  clear hT hrT hR hW hN
  refine wk (rv:=[.tmp 4]) ann7 165 Tryz.func7 ?_
  simp only[go_sem]
  refine aCall_intro hAw ?_
  simp only[go_sem,encT_sz]
  refine aCall_intro hB ?_
  simp only[go_sem,d1,d2]
 have hd:(decide (fuel>150)=false)∨(decide (fuel>150)=true∧decide (fuel≤1048576)=false):=by
  by_cases g:fuel>150
  ·exact .inr ⟨decide_eq_true g,decide_eq_false (fun g2=>h1 ⟨g,g2⟩)⟩
  ·exact .inl (decide_eq_false g)
 cases hc:closedT t with
 |false=>
  rw[hc] at hW
  rw[traceTop,if_pos hc] at hT
  rw[runTop,if_pos hc,encRun_mk] at hR
  clear hrT
  refine wk (rv:=[.tmp 4]) ann7 165 Tryz.func7 ?_
  simp only[go_sem]
  refine aCall_intro hAw ?_
  simp only[go_sem,encT_sz]
  refine aCall_intro hB ?_
  rcases hd with hd|⟨hd,hd2⟩
  all_goals
   simp only[go_sem,hd, *,encT_sz]
   refine aCall_intro hR ?_
   simp only[go_sem,encT_sz]
   refine aCall_intro hT ?_
   simp only[go_sem,encT_sz]
   refine aCall_intro hW ?_
   simp only[go_sem,encT_sz,Int.reduceBEq]
   refine aCall_intro hN ?_
   simp only[go_sem,encT_sz,Int.reduceBEq,List.map_nil,List.length_nil,Int.natCast_zero]
 |true=>
 rw[hc] at hW
 have hnc:¬closedT t=false:=by rw[hc];decide
 rw[traceTop,if_neg hnc] at hT
 rw[runTop,if_neg hnc] at hR
 by_cases h2:fuel<0∨fuel>1048576
 ·rw[if_pos (by omega)] at hT
  rw[if_pos h2,encRun_mk] at hR
  clear hrT
  have hd3:(decide (fuel<0)=true)∨(decide (fuel<0)=false∧decide (fuel>1048576)=true):=by
   rcases h2 with g|g
   ·exact .inl (decide_eq_true g)
   ·exact .inr ⟨decide_eq_false (by omega),decide_eq_true g⟩
  refine wk (rv:=[.tmp 4]) ann7 165 Tryz.func7 ?_
  simp only[go_sem]
  refine aCall_intro hAw ?_
  simp only[go_sem,encT_sz]
  refine aCall_intro hB ?_
  rcases hd with hd|⟨hd,hd2⟩
  all_goals
   simp only[go_sem,hd, *,encT_sz]
   refine aCall_intro hR ?_
   simp only[go_sem,encT_sz]
   refine aCall_intro hT ?_
   simp only[go_sem,encT_sz]
   refine aCall_intro hW ?_
   rcases hd3 with hd3|⟨hd3,hd4⟩
   all_goals
    simp only[go_sem,encT_sz,hd3, *,Int.reduceBEq]
    refine aCall_intro hN ?_
    simp only[go_sem,encT_sz,Int.reduceBEq,List.map_nil,List.length_nil,Int.natCast_zero]
 have h3:0≤fuel∧fuel≤150:=by omega
 have d1:decide (fuel>150)=false:=decide_eq_false (by omega)
 have d2:decide (fuel<0)=false:=decide_eq_false (by omega)
 have d3:decide (fuel>1048576)=false:=decide_eq_false (by omega)
 have hrT:=hrT hc h3.1 h3.2
 rw[if_neg (by omega)] at hT
 rw[if_neg h2] at hR
 rcases run_tr fuel.toNat t [] 0 [] hok hc with ⟨e,e0,e1,e2⟩|⟨o,pre,y,e1,e2,e3⟩
 ·rw[List.nil_append] at e2
  rw[e1] at hT hR
  rw[e2] at hrT
  rw[if_pos e0] at hT
  rw[encRun_mk] at hR
  simp only at hT hrT
  have f0:(e != 0)=true:=by simpa using e0
  have f1:(e==e)=true:=by simp
  clear e1 e2
  refine wk (rv:=[.tmp 4]) ann7 165 Tryz.func7 ?_
  simp only[go_sem]
  refine aCall_intro hAw ?_
  simp only[go_sem,encT_sz]
  refine aCall_intro hB ?_
  simp only[go_sem,d1,encT_sz]
  refine aCall_intro hR ?_
  simp only[go_sem,encT_sz]
  refine aCall_intro hT ?_
  simp only[go_sem,encT_sz]
  refine aCall_intro hW ?_
  simp only[go_sem,d2,d3,encT_sz]
  refine aCall_intro hrT ?_
  simp only[go_sem,f0,f1,encT_sz]
  refine aCall_intro hN ?_
  simp only[go_sem,f0,f1,encT_sz,Int.reduceBEq,List.map_nil,List.length_nil,Int.natCast_zero]
 ·rw[List.nil_append] at e3
  rw[e1] at hT hR
  rw[e2] at hT
  rw[e3] at hrT
  rw[if_neg (fun h=>h rfl)] at hT
  rw[encRun_mk] at hR
  simp only[List.nil_append] at hT hrT
  have hS:=rtSame_spec y y
  rw[sameT_refl] at hS
  have hE:=EqualS o o
  rw[eqL_refl strEq (fun x=>by simp[strEq])] at hE
  have hF:Spec Tryz.prog 33 [pp (.slice ((pre++[y]).map encT)),pp (.slice ((pre++[y]).map encT)),pp (.fn 20 [])] [] (.bool true) []:=by
   have:=EqualFuncT encT (pre++[y]) (pre++[y]) 20 [] sameT (fun e _=>encT_sz e) (fun e _=>encT_sz e) fun x _ z _=>rtSame_spec x z
   rw[eqL_refl sameT sameT_refl] at this
   exact this
  have hlen:((pre++[y]).map encT).length=pre.length+1:=by simp
  have hx:((pre++[y]).map encT)[pre.length]? = some (encT y):=by simp
  generalize (pre++[y]).map encT=L at hT hrT hF hlen hx
  have hst:(0:Int)+(pre.length:Int)=pre.length:=by omega
  rw[hst] at hR
  have hbig:pre.length≤1000000000:=by
   have:=reach_len fuel.toNat t []
   rw[e2,List.length_append,List.length_singleton] at this
   omega
  clear e1 e2 e3
  ·have w1:IntKind.i64.wrap (((pre.length+1:Nat):Int) - 1)=(pre.length:Int):=by rw[wrap_id (by omega) (by omega)];omega
   have f1:((pre.length:Int)==(pre.length:Int))=true:=by simp
   refine wk (rv:=[.tmp 4]) ann7 165 Tryz.func7 ?_
   simp only[go_sem]
   refine aCall_intro hAw ?_
   simp only[go_sem,encT_sz]
   refine aCall_intro hB ?_
   simp only[go_sem,d1,encT_sz]
   refine aCall_intro hR ?_
   simp only[go_sem,encT_sz]
   refine aCall_intro hT ?_
   simp only[go_sem,encT_sz]
   refine aCall_intro hW ?_
   simp only[go_sem,d2,d3,encT_sz]
   refine aCall_intro hrT ?_
   simp only[go_sem,encT_sz,Int.reduceBEq,Int.reduceBNe,hlen,w1,Int.toNat_natCast,Int.natCast_nonneg,hx]
   refine aCall_intro hS ?_
   simp only[go_sem,encT_sz,Int.reduceBEq,hlen,w1,f1]
   refine aCall_intro hE ?_
   simp only[go_sem,encT_sz,Int.reduceBEq,hlen,w1,f1]
   refine aCall_intro hF ?_
   simp only[go_sem]
theorem StepRuns_spec (t:TermT) (hok:okT t) (hwc:True) (fuel:Int):Spec Tryz.prog 7 [pp (encT t),ii fuel] [] (.bool true) []:=
 StepRuns_of t hok hwc fuel (Trace_spec t hok hwc fuel) fun _ h1 h2=>rTrace_spec t hok fuel h1 (by omega)
theorem StepRuns_all (t:TermT) (fuel:Int):Spec Tryz.prog 7 [pp (encT t),ii fuel] [] (.bool true) []:=by
 cases hb:bigT t with
 |false=>exact StepRuns_spec t (small_okT hb) trivial fuel
 |true=>
  have hAw:=sawake_spec
  have hB:=big_spec t
  rw[hb] at hB
  refine wk (rv:=[.tmp 4]) ann7 165 Tryz.func7 ?_
  simp only[go_sem]
  refine aCall_intro hAw ?_
  simp only[go_sem,encT_sz]
  refine aCall_intro hB ?_
  simp only[go_sem]
end Go.Abs.Kon