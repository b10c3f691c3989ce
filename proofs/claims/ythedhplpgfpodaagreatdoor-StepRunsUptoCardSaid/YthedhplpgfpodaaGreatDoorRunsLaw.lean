/- The walk of the law StepRuns. -/
import Derived.Test.YthedhplpgfpodaaGreatDoorTraceC
import Derived.Test.YthedhplpgfpodaaGreatDoorTraceB
import Derived.Test.YthedhplpgfpodaaGreatDoorTraceD
set_option linter.unusedSimpArgs false
set_option linter.unusedVariables false
namespace Go.Abs.Kon
open Go Go.Proofs Go.Abs
set_option maxRecDepth 100000
set_option maxHeartbeats 4000000
theorem StepRuns_of (t : TermT) (hok : okT t) (hwc : wcT t) (fuel : Int)
  (hT : Spec Tryz.prog 26 [pp (encT t), ii fuel] [] (.tuple [.slice ((qcz t fuel).1.map encT), .int .i64 (qcz t fuel).2]) [])
  (hrT : qan t = true → 0 ≤ fuel → fuel ≤ 150 → Spec Tryz.prog 29 [pp (encT t), ii fuel] [] (.tuple [.slice ((rtrT fuel.toNat t [t] []).1.map encT), .slice ((rtrT fuel.toNat t [t] []).2.1.map .str), .int .i64 (rtrT fuel.toNat t [t] []).2.2]) []) :
  Spec Tryz.prog 5 [pp (encT t), ii fuel] [] (.bool true) [] := by
 have hAw := sawake_spec
 have hB := big_spec t
 have hW := Whole_spec t hok
 have hR := Run_spec t hok hwc fuel
 have hN := none16_spec
 generalize bigT t = b at hB
 cases b with
 | true =>
   clear hT hrT hR hW hN
   refine wk (rv := [.tmp 4]) ann5 165 Tryz.func5 ?_
   simp only [go_sem]
   refine aC hAw ?_
   simp only [go_sem, eTz]
   refine aC hB ?_
   simp only [go_sem]
 | false =>
 by_cases h1 : fuel > 150 ∧ fuel ≤ 1048576
 ·have d1 := decide_eq_true h1.1
  have d2 := decide_eq_true h1.2
  clear hT hrT hR hW hN
  refine wk (rv := [.tmp 4]) ann5 165 Tryz.func5 ?_
  simp only [go_sem]
  refine aC hAw ?_
  simp only [go_sem, eTz]
  refine aC hB ?_
  simp only [go_sem, d1, d2]
 have hd : (decide (fuel > 150) = false) ∨ (decide (fuel > 150) = true ∧ decide (fuel ≤ 1048576) = false) := by
  by_cases g : fuel > 150
  ·exact .inr ⟨decide_eq_true g, decide_eq_false (fun g2 => h1 ⟨g, g2⟩)⟩
  ·exact .inl (decide_eq_false g)
 cases hc : qan t with
 | false =>
   rw [hc] at hW
   rw [qcz, if_pos hc] at hT
   rw [runTop, if_pos hc, qas] at hR
   clear hrT
   refine wk (rv := [.tmp 4]) ann5 165 Tryz.func5 ?_
   simp only [go_sem]
   refine aC hAw ?_
   simp only [go_sem, eTz]
   refine aC hB ?_
   rcases hd with hd | ⟨hd, hd2⟩
   all_goals
    simp only [go_sem, hd, *, eTz]
    refine aC hR ?_
    simp only [go_sem, eTz]
    refine aC hT ?_
    simp only [go_sem, eTz]
    refine aC hW ?_
    simp only [go_sem, eTz, Int.reduceBEq]
    refine aC hN ?_
    simp only [go_sem, eTz, Int.reduceBEq, List.map_nil, List.length_nil, Int.natCast_zero]
 | true =>
 rw [hc] at hW
 have hnc : ¬ qan t = false := by rw [hc]; decide
 rw [qcz, if_neg hnc] at hT
 rw [runTop, if_neg hnc] at hR
 by_cases h2 : fuel < 0 ∨ fuel > 1048576
 ·rw [if_pos (by omega)] at hT
  rw [if_pos h2, qas] at hR
  clear hrT
  have hd3 : (decide (fuel < 0) = true) ∨ (decide (fuel < 0) = false ∧ decide (fuel > 1048576) = true) := by
   rcases h2 with g | g
   ·exact .inl (decide_eq_true g)
   ·exact .inr ⟨decide_eq_false (by omega), decide_eq_true g⟩
  refine wk (rv := [.tmp 4]) ann5 165 Tryz.func5 ?_
  simp only [go_sem]
  refine aC hAw ?_
  simp only [go_sem, eTz]
  refine aC hB ?_
  rcases hd with hd | ⟨hd, hd2⟩
  all_goals
   simp only [go_sem, hd, *, eTz]
   refine aC hR ?_
   simp only [go_sem, eTz]
   refine aC hT ?_
   simp only [go_sem, eTz]
   refine aC hW ?_
   rcases hd3 with hd3 | ⟨hd3, hd4⟩
   all_goals
    simp only [go_sem, eTz, hd3, *, Int.reduceBEq]
    refine aC hN ?_
    simp only [go_sem, eTz, Int.reduceBEq, List.map_nil, List.length_nil, Int.natCast_zero]
 have h3 : 0 ≤ fuel ∧ fuel ≤ 150 := by omega
 have d1 : decide (fuel > 150) = false := decide_eq_false (by omega)
 have d2 : decide (fuel < 0) = false := decide_eq_false (by omega)
 have d3 : decide (fuel > 1048576) = false := decide_eq_false (by omega)
 have hrT := hrT hc h3.1 h3.2
 rw [if_neg (by omega)] at hT
 rw [if_neg h2] at hR
 rcases run_tr fuel.toNat t [] 0 [] hok hc with ⟨e, e0, e1, e2⟩ | ⟨o, pre, y, e1, e2, e3⟩
 ·rw [List.nil_append] at e2
  rw [e1] at hT hR
  rw [e2] at hrT
  rw [if_pos e0] at hT
  rw [qas] at hR
  simp only at hT hrT
  have f0 : (e != 0) = true := by simpa using e0
  have f1 : (e == e) = true := by simp
  clear e1 e2
  refine wk (rv := [.tmp 4]) ann5 165 Tryz.func5 ?_
  simp only [go_sem]
  refine aC hAw ?_
  simp only [go_sem, eTz]
  refine aC hB ?_
  simp only [go_sem, d1, eTz]
  refine aC hR ?_
  simp only [go_sem, eTz]
  refine aC hT ?_
  simp only [go_sem, eTz]
  refine aC hW ?_
  simp only [go_sem, d2, d3, eTz]
  refine aC hrT ?_
  simp only [go_sem, f0, f1, eTz]
  refine aC hN ?_
  simp only [go_sem, f0, f1, eTz, Int.reduceBEq, List.map_nil, List.length_nil, Int.natCast_zero]
 ·rw [List.nil_append] at e3
  rw [e1] at hT hR
  rw [e2] at hT
  rw [e3] at hrT
  rw [if_neg (fun h => h rfl)] at hT
  rw [qas] at hR
  simp only [List.nil_append] at hT hrT
  have hS := qc2 y y
  rw [sameT_refl] at hS
  have hE := EqualS o o
  rw [eqL_refl qbg (fun x => by simp [qbg])] at hE
  have hF : Spec Tryz.prog 32 [pp (.slice ((pre ++ [y]).map encT)), pp (.slice ((pre ++ [y]).map encT)), pp (.fn 30 [])] [] (.bool true) [] := by
   have := EqualFuncT encT (pre ++ [y]) (pre ++ [y]) 30 [] sameT (fun e _ => eTz e) (fun e _ => eTz e) fun x _ z _ => qc2 x z
   rw [eqL_refl sameT sameT_refl] at this
   exact this
  have hlen : ((pre ++ [y]).map encT).length = pre.length + 1 := by simp
  have hx : ((pre ++ [y]).map encT)[pre.length]? = some (encT y) := by simp
  generalize (pre ++ [y]).map encT = L at hT hrT hF hlen hx
  have hst : (0 : Int) + (pre.length : Int) = pre.length := by omega
  rw [hst] at hR
  have hbig : pre.length ≤ 1000000000 := by
   have := reach_len fuel.toNat t []
   rw [e2, List.length_append, List.length_singleton] at this
   omega
  clear e1 e2 e3
  ·have w1 : IntKind.i64.wrap (((pre.length + 1 : Nat) : Int) - 1) = (pre.length : Int) := by rw [wId (by omega) (by omega)]; omega
   have f1 : ((pre.length : Int) == (pre.length : Int)) = true := by simp
   refine wk (rv := [.tmp 4]) ann5 165 Tryz.func5 ?_
   simp only [go_sem]
   refine aC hAw ?_
   simp only [go_sem, eTz]
   refine aC hB ?_
   simp only [go_sem, d1, eTz]
   refine aC hR ?_
   simp only [go_sem, eTz]
   refine aC hT ?_
   simp only [go_sem, eTz]
   refine aC hW ?_
   simp only [go_sem, d2, d3, eTz]
   refine aC hrT ?_
   simp only [go_sem, eTz, Int.reduceBEq, Int.reduceBNe, hlen, w1, Int.toNat_natCast, Int.natCast_nonneg, hx]
   refine aC hS ?_
   simp only [go_sem, eTz, Int.reduceBEq, hlen, w1, f1]
   refine aC hE ?_
   simp only [go_sem, eTz, Int.reduceBEq, hlen, w1, f1]
   refine aC hF ?_
   simp only [go_sem]
theorem StepRuns_spec (t : TermT) (hok : okT t) (hwc : wcT t) (fuel : Int) : Spec Tryz.prog 5 [pp (encT t), ii fuel] [] (.bool true) [] :=
 StepRuns_of t hok hwc fuel (Trace_spec t hok hwc fuel) fun _ h1 h2 => rTrace_spec t hok fuel h1 (by omega)
end Go.Abs.Kon
