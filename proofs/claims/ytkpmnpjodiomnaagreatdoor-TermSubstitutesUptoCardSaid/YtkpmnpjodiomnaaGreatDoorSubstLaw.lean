/- The walk of the law TermSubstitutes. -/
import Derived.Test.YtkpmnpjodiomnaaGreatDoorTermK
import Derived.Test.YtkpmnpjodiomnaaGreatDoorTermN
import Derived.Test.YtkpmnpjodiomnaaGreatDoorTermM
import Derived.Test.YtkpmnpjodiomnaaGreatDoorTermG
set_option linter.unusedSimpArgs false
set_option linter.unusedVariables false
namespace Go.Abs.Kon
open Go Go.Proofs Go.Abs
set_option maxRecDepth 100000
set_option maxHeartbeats 4000000

theorem is_self (x : TermT) (e : Int) : Spec Tryz.prog 17 [pp (encT x), ii e, pp (encT x), ii e] [] (.bool true) [] := by
  have h := is_spec x x e e
  rw [beq_self_eq_true, sameT_refl] at h
  exact h
theorem TermSubstitutes_spec (t by' : TermT) (l : List ConT) (hok : okT t) (hwc : wcT t) (hok' : okT by') (hwc' : wcT by') (hl : ∀ c ∈ l, wtF c ≤ 10000000 ∧ okS c) (hln : l.length ≤ 100000000) :
    Spec Tryz.prog 7 [pp (encT t), pp (encT by'), pp (.slice (l.map encC))] [] (.bool true) [] := by
  have hAw := tawake_spec
  have hB1 := big_spec t
  have hB2 := big_spec by'
  have hW := wide_spec l
  have hV := rtValid_spec t hok
  have hV' := rtValid_spec by' hok'
  have hVl := rValidAll_spec l fun c hc => (hl c hc).2
  have hSu := tSubst_spec t by' hok hwc hok' hwc'
  have hSc := tSubstCons_spec t l hok hwc hl hln
  have hI1 := is_self zeroT 1
  have hI5 := is_self zeroT 5
  rw [encT_zero] at hI1 hI5
  have p1 : validT t = false ∨ validT by' = false → SubstT t by' = (zeroT, 1) := fun h => by rw [SubstT, if_pos h]
  have p2 : validT t = true → validT by' = true → SubstT t by' = keptT (subM by' t) := SubstT_M
  have q1 : validT t = false ∨ l.all validF = false → SubstConsT t l = (zeroT, 1) := fun h => by rw [SubstConsT, if_pos h]
  have q2 : validT t = true → l.all validF = true → l.length > 1000 → SubstConsT t l = (zeroT, 5) := fun h1 h2 h3 => by rw [SubstConsT, if_neg (by rw [h1, h2]; rintro (e | e) <;> cases e), if_pos h3]
  have q3 : validT t = true → l.all validF = true → l.length ≤ 1000 → SubstConsT t l = keptT (subCM l t) := SubstConsT_M
  have r1 : validT t = true → validT by' = true → Spec Tryz.prog 46 [pp (encT t), pp (encT by')] [] (encT (subM by' t)) [] := fun h h' => by
    obtain ⟨a1, a2⟩ := valid_wf h
    obtain ⟨b1, b2⟩ := valid_wf h'
    have := rtSubst_spec t by' a1 hok (by omega) b1 hok' hwc' (by omega)
    rw [rsub_map by' b1 t 0 0 a1] at this
    exact this
  have r2 : validT t = true → l.all validF = true → Spec Tryz.prog 47 [pp (encT t), pp (.slice (l.map encC))] [] (encT (subCM l t)) [] := fun h h' => by
    obtain ⟨a1, a2⟩ := valid_wf h
    have := rtSubstCons_spec l (fun x hx => ⟨by have := (hl x hx).1; omega, validF_formed (List.all_eq_true.1 h' x hx)⟩) hln t a1 hok hwc (by omega)
    rw [rsubC_map l h' t 0 0 a1] at this
    exact this
  have k1 := Kept_spec (subM by' t) (subM_okwc hok hwc hok' hwc').1
  have k2 : validT t = true → l.all validF = true → Spec Tryz.prog 22 [pp (encT (subCM l t))] [] (.tuple [encT (keptT (subCM l t)).1, .int .i64 (keptT (subCM l t)).2]) [] := fun h h' =>
    Kept_spec (subCM l t) (subCM_okT l h' (fun x hx => (hl x hx).2) hok (valid_wf h).1)
  have hK1 := is_self (keptT (subM by' t)).1 (keptT (subM by' t)).2
  have hK2 := is_self (keptT (subCM l t)).1 (keptT (subCM l t)).2
  clear hok hwc hok' hwc' hl hln
  generalize keptT (subM by' t) = K1 at *
  generalize keptT (subCM l t) = K2 at *
  generalize subM by' t = M1 at *
  generalize subCM l t = M2 at *
  generalize SubstT t by' = P at *
  generalize SubstConsT t l = Q at *
  generalize validT t = v at *
  generalize validT by' = v' at *
  generalize l.all validF = vl at *
  generalize bigT t = b1 at *
  generalize bigT by' = b2 at *
  generalize wideF l = b3 at *
  refine Spec.walk (rv := [.tmp 6]) ann7 98 Tryz.func7 mixed rfl rfl (by kernel_rfl) rfl rfl fun hfit => ?_
  clear hfit
  simp only [go_sem]
  refine aCall_intro hAw ?_
  simp only [go_sem, encT_sz]
  refine aCall_intro hB1 ?_
  cases b1 with
  | true => simp only [go_sem]
  | false =>
  simp only [go_sem, encT_sz]
  refine aCall_intro hB2 ?_
  cases b2 with
  | true => simp only [go_sem]
  | false =>
  simp only [go_sem, encT_sz]
  refine aCall_intro hW ?_
  cases b3 with
  | true => simp only [go_sem]
  | false =>
  simp only [go_sem, encT_sz]
  refine aCall_intro hSu ?_
  simp only [go_sem, encT_sz]
  refine aCall_intro hSc ?_
  simp only [go_sem, encT_sz]
  refine aCall_intro hV ?_
  cases v with
  | false =>
    obtain rfl := p1 (.inl rfl)
    obtain rfl := q1 (.inl rfl)
    simp only [go_sem, encT_sz, encT_zero]
    refine aCall_intro hI1 ?_
    simp only [go_sem, encT_sz, encT_zero]
    refine aCall_intro hV ?_
    simp only [go_sem, encT_sz, encT_zero]
    refine aCall_intro hI1 ?_
    simp only [go_sem]
  | true =>
  simp only [go_sem, encT_sz]
  refine aCall_intro hV' ?_
  cases v' with
  | false =>
    obtain rfl := p1 (.inr rfl)
    simp only [go_sem, encT_sz, encT_zero]
    refine aCall_intro hI1 ?_
    simp only [go_sem, encT_sz]
    refine aCall_intro hV ?_
    simp only [go_sem, encT_sz]
    refine aCall_intro hVl ?_
    cases vl with
    | false =>
      obtain rfl := q1 (.inr rfl)
      simp only [go_sem, encT_sz, encT_zero]
      refine aCall_intro hI1 ?_
      simp only [go_sem]
    | true =>
      by_cases hn : l.length > 1000
      · obtain rfl := q2 rfl rfl hn
        have d1 : decide ((l.length : Int) > 1000) = true := decide_eq_true (by omega)
        simp only [go_sem, encT_sz, encT_zero, List.length_map, d1]
        refine aCall_intro hI5 ?_
        simp only [go_sem]
      · obtain rfl := q3 rfl rfl (by omega)
        have d1 : decide ((l.length : Int) > 1000) = false := decide_eq_false (by omega)
        simp only [go_sem, encT_sz, List.length_map, d1]
        refine aCall_intro (r2 rfl rfl) ?_
        simp only [go_sem, encT_sz]
        refine aCall_intro (k2 rfl rfl) ?_
        simp only [go_sem, encT_sz]
        refine aCall_intro hK2 ?_
        simp only [go_sem]
  | true =>
    obtain rfl := p2 rfl rfl
    simp only [go_sem, encT_sz]
    refine aCall_intro (r1 rfl rfl) ?_
    simp only [go_sem, encT_sz]
    refine aCall_intro k1 ?_
    simp only [go_sem, encT_sz]
    refine aCall_intro hK1 ?_
    simp only [go_sem, encT_sz]
    refine aCall_intro hV ?_
    simp only [go_sem, encT_sz]
    refine aCall_intro hVl ?_
    cases vl with
    | false =>
      obtain rfl := q1 (.inr rfl)
      simp only [go_sem, encT_sz, encT_zero]
      refine aCall_intro hI1 ?_
      simp only [go_sem]
    | true =>
      by_cases hn : l.length > 1000
      · obtain rfl := q2 rfl rfl hn
        have d1 : decide ((l.length : Int) > 1000) = true := decide_eq_true (by omega)
        simp only [go_sem, encT_sz, encT_zero, List.length_map, d1]
        refine aCall_intro hI5 ?_
        simp only [go_sem]
      · obtain rfl := q3 rfl rfl (by omega)
        have d1 : decide ((l.length : Int) > 1000) = false := decide_eq_false (by omega)
        simp only [go_sem, encT_sz, List.length_map, d1]
        refine aCall_intro (r2 rfl rfl) ?_
        simp only [go_sem, encT_sz]
        refine aCall_intro (k2 rfl rfl) ?_
        simp only [go_sem, encT_sz]
        refine aCall_intro hK2 ?_
        simp only [go_sem]
end Go.Abs.Kon
