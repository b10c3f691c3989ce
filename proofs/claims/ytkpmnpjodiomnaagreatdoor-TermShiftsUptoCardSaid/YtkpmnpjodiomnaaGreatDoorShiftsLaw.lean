/- The walk of the law TermShifts. -/
import Derived.Test.YtkpmnpjodiomnaaGreatDoorTermG
import Derived.Test.YtkpmnpjodiomnaaGreatDoorTermI
set_option linter.unusedSimpArgs false
set_option linter.unusedVariables false
namespace Go.Abs.Kon
open Go Go.Proofs Go.Abs
set_option maxRecDepth 100000
set_option maxHeartbeats 4000000

theorem okCon_csh {c : ConT} (by' f : Int) (h : okCon c) (hf : eqC c zeroC = true ∨ formedF c = true) : okCon (cshR c by' f) := by
  rw [cshR]
  split
  · exact h
  · rename_i hz
    have hf' := hf.resolve_left hz
    rw [← shift_eq by' f c 0 f hf' (by rw [Int.add_zero])]
    refine ⟨?_, mapF_okS _ c 0 h.2 fun x b hx => okS_shiftLeaf by' f x b ((leaves_mem c 0 x b hx).2.1 h.2)⟩
    rw [shift_size by' f c 0 hf']
    exact h.1
mutual
theorem okT_rsh (cons terms : Int) : ∀ (t : TermT) (uc ut : Int), okT t → wfT t = true → okT (rshT cons terms t uc ut)
  | .mk op n s con to k names l, uc, ut, hok, hwf => by
    rw [wfT, Bool.and_eq_true] at hwf
    obtain ⟨_, _, _, _, _, _, _, f1, f2⟩ := node_op hwf.1
    have hL := okT_rshL cons terms op l 0 uc ut (okT_con hok).2.2.2 hwf.2
    simp only [okT] at hok
    rw [rshT]
    simp only [okT]
    refine ⟨hok.1, okCon_csh _ _ hok.2.1 (fit_or f1), okCon_csh _ _ hok.2.2.1 (fit_or f2), hok.2.2.2.1, hok.2.2.2.2.1, hok.2.2.2.2.2.1, ?_, hL⟩
    rw [rshL_len]
    exact hok.2.2.2.2.2.2.1
theorem okT_rshL (cons terms op : Int) : ∀ (l : List TermT) (i : Nat) (uc ut : Int), okTs l → wfL l = true → okTs (rshL cons terms op l i uc ut)
  | [], i, uc, ut, _, _ => by rw [rshL]; trivial
  | x :: r, i, uc, ut, hok, hwf => by
    rw [wfL, Bool.and_eq_true] at hwf
    simp only [okTs] at hok
    rw [rshL]
    simp only [okTs]
    exact ⟨okT_rsh cons terms x _ _ hok.1 hwf.1, okT_rshL cons terms op r _ _ _ hok.2 hwf.2⟩
end
theorem ts1_spec (n : Int) : Spec Tryz.prog 18 [ii n] [] (.bool (!inB n)) [] := by
  have e : (!inB n) = (decide (n < -20000) || decide (n > 20000)) := by
    rw [inB, Bool.eq_iff_iff]
    simp only [Bool.not_eq_true', Bool.and_eq_false_iff, Bool.or_eq_true, decide_eq_true_iff, decide_eq_false_iff_not]
    omega
  rw [e]
  refine Spec.walk (rv := [.tmp 2]) ann18 9 Tryz.func18 mixed rfl rfl (by kernel_rfl) rfl rfl fun hfit => ?_
  clear hfit
  simp only [go_sem]
  refine guardK_intro (fun hb => ?_) (fun hb => ?_)
  · simp only [go_sem, hb, Bool.true_or]
    try (have hb' : decide (n < -20000) = false := by simpa using hb
         simp only [go_sem, hb', Bool.false_or])
  · simp only [go_sem, hb, Bool.true_or]
    try (have hb' : decide (n < -20000) = false := by simpa using hb
         simp only [go_sem, hb', Bool.false_or])
theorem least_spec (l : List Int) (by' : Int) (h1 : -20000 ≤ by') (h2 : by' ≤ 20000) (h : ∀ x ∈ l, 0 ≤ x ∧ x ≤ 20000) : Spec Tryz.prog 19 [pp (.slice (ints l)), ii by'] [] (.bool (headLt l by')) [] := by
  cases l with
  | nil =>
    have d0 : decide ((0 : Int) > 0) = false := by decide
    refine Spec.walk (rv := [.tmp 4]) ann19 16 Tryz.func19 mixed rfl rfl (by kernel_rfl) rfl rfl fun hfit => ?_
    clear hfit
    simp only [go_sem, List.length_map, List.length_nil, List.map_nil, Int.natCast_zero, d0]
    try rfl
  | cons x r =>
    obtain ⟨g1, g2⟩ := h x (by simp)
    have w1 : IntKind.i64.wrap (x + by') = x + by' := wrap_id (by omega) (by omega)
    have d0 : decide (((r.length + 1 : Nat) : Int) > 0) = true := by simp
    refine Spec.walk (rv := [.tmp 4]) ann19 16 Tryz.func19 mixed rfl rfl (by kernel_rfl) rfl rfl fun hfit => ?_
    clear hfit
    simp only [go_sem, List.length_map, List.length_cons, List.map_cons, d0, w1]
    try rfl
theorem is_self (x : TermT) (e : Int) : Spec Tryz.prog 17 [pp (encT x), ii e, pp (encT x), ii e] [] (.bool true) [] := by
  have h := is_spec x x e e
  rw [beq_self_eq_true, sameT_refl] at h
  exact h
theorem TermShifts_spec (t : TermT) (cons terms : Int) (hok : okT t) (hwc : wcT t) : Spec Tryz.prog 3 [pp (encT t), ii cons, ii terms] [] (.bool true) [] := by
  have hAw := tawake_spec
  have hBig := big_spec t
  have hSh := tShift_spec t cons terms hok hwc
  have hV := rtValid_spec t hok
  have hI1 := is_self zeroT 1
  have hI2 := is_self zeroT 2
  rw [encT_zero] at hI1 hI2
  have hO1 := ts1_spec cons
  have hO2 := ts1_spec terms
  generalize bigT t = b0 at hBig
  have pre : ∀ P : Prop, P → P := fun _ h => h
  cases b0 with
  | true =>
    refine Spec.walk (rv := [.tmp 6]) ann3 67 Tryz.func3 mixed rfl rfl (by kernel_rfl) rfl rfl fun hfit => ?_
    clear hfit
    simp only [go_sem]
    refine aCall_intro hAw ?_
    simp only [go_sem, encT_sz]
    refine aCall_intro hBig ?_
    simp only [go_sem]
  | false =>
    cases hv : validT t with
    | false =>
      rw [hv] at hV
      rw [ShiftT, if_pos hv, encT_zero] at hSh
      refine Spec.walk (rv := [.tmp 6]) ann3 67 Tryz.func3 mixed rfl rfl (by kernel_rfl) rfl rfl fun hfit => ?_
      clear hfit
      simp only [go_sem]
      refine aCall_intro hAw ?_
      simp only [go_sem, encT_sz]
      refine aCall_intro hBig ?_
      simp only [go_sem, encT_sz]
      refine aCall_intro hSh ?_
      simp only [go_sem, encT_sz]
      refine aCall_intro hV ?_
      simp only [go_sem, encT_sz]
      refine aCall_intro hI1 ?_
      simp only [go_sem]
    | true =>
      rw [hv] at hV
      obtain ⟨hwf, hd⟩ := valid_wf hv
      have hFC := rFreeCons_spec t hwf hok hwc (by omega)
      have hFT := rFreeTerms_spec t hwf hok (by omega)
      have hb1 : ∀ x ∈ sortU (consF t 0), 0 ≤ x ∧ x ≤ 20000 := fun x hx => consF_n t 0 (by decide) x (sortU_mem _ |>.1 hx)
      have hb2 : ∀ x ∈ sortU (termsF t 0), 0 ≤ x ∧ x ≤ 20000 := fun x hx => termsF_n t 0 hwf (by decide) x (sortU_mem _ |>.1 hx)
      have hrange : ∀ n, inB n = true → -20000 ≤ n ∧ n ≤ 20000 := fun n h => by
        rw [inB, Bool.and_eq_true] at h
        exact ⟨of_decide_eq_true h.1, of_decide_eq_true h.2⟩
      have hL1 : inB cons = true → Spec Tryz.prog 19 [pp (.slice (ints (sortU (consF t 0)))), ii cons] [] (.bool (headLt (sortU (consF t 0)) cons)) [] := fun h => least_spec _ cons (hrange cons h).1 (hrange cons h).2 hb1
      have hL2 : inB terms = true → Spec Tryz.prog 19 [pp (.slice (ints (sortU (termsF t 0)))), ii terms] [] (.bool (headLt (sortU (termsF t 0)) terms)) [] := fun h => least_spec _ terms (hrange terms h).1 (hrange terms h).2 hb2
      have hbad : inB cons = false ∨ inB terms = false ∨ headLt (sortU (consF t 0)) cons = true ∨ headLt (sortU (termsF t 0)) terms = true → ShiftT t cons terms = (zeroT, 2) := fun h => by
        rw [ShiftT, if_neg (by rw [hv]; decide), if_pos h]
      have hgood : inB cons = true → inB terms = true → headLt (sortU (consF t 0)) cons = false → headLt (sortU (termsF t 0)) terms = false → ShiftT t cons terms = keptT (rshT cons terms t 0 0) := fun h1 h2 h3 h4 => ShiftT_eq hv h1 h2 h3 h4
      have hrS : inB cons = true → inB terms = true → Spec Tryz.prog 23 [pp (encT t), ii cons, ii terms] [] (encT (rshT cons terms t 0 0)) [] := fun h1 h2 =>
        rtShift_spec cons terms (hrange cons h1).1 (hrange cons h1).2 (hrange terms h2).1 (hrange terms h2).2 t hwf hok hwc (by omega)
      have hK := Kept_spec (rshT cons terms t 0 0) (okT_rsh cons terms t 0 0 hok hwf)
      have hIK := is_self (keptT (rshT cons terms t 0 0)).1 (keptT (rshT cons terms t 0 0)).2
      generalize ShiftT t cons terms = X at hSh hbad hgood
      generalize keptT (rshT cons terms t 0 0) = KX at hK hIK hgood
      generalize rshT cons terms t 0 0 = RX at hK hrS
      clear hb1 hb2 hrange
      generalize headLt (sortU (consF t 0)) cons = q1 at hL1 hbad hgood
      generalize headLt (sortU (termsF t 0)) terms = q2 at hL2 hbad hgood
      generalize sortU (consF t 0) = la at hFC hL1
      generalize sortU (termsF t 0) = lb at hFT hL2
      generalize inB cons = i1 at hO1 hL1 hbad hgood hrS
      generalize inB terms = i2 at hO2 hL2 hbad hgood hrS
      refine Spec.walk (rv := [.tmp 6]) ann3 67 Tryz.func3 mixed rfl rfl (by kernel_rfl) rfl rfl fun hfit => ?_
      clear hfit
      simp only [go_sem]
      refine aCall_intro hAw ?_
      simp only [go_sem, encT_sz]
      refine aCall_intro hBig ?_
      simp only [go_sem, encT_sz]
      refine aCall_intro hSh ?_
      simp only [go_sem, encT_sz]
      refine aCall_intro hV ?_
      simp only [go_sem, encT_sz]
      refine aCall_intro hO1 ?_
      cases i1 with
      | false =>
        obtain rfl := hbad (.inl rfl)
        simp only [go_sem, encT_sz, encT_zero]
        refine aCall_intro hI2 ?_
        simp only [go_sem]
      | true =>
        simp only [go_sem, encT_sz]
        refine aCall_intro hO2 ?_
        cases i2 with
        | false =>
          obtain rfl := hbad (.inr (.inl rfl))
          simp only [go_sem, encT_sz, encT_zero]
          refine aCall_intro hI2 ?_
          simp only [go_sem]
        | true =>
          simp only [go_sem, encT_sz]
          refine aCall_intro hFC ?_
          simp only [go_sem, encT_sz]
          refine aCall_intro (hL1 rfl) ?_
          cases q1 with
          | true =>
            obtain rfl := hbad (.inr (.inr (.inl rfl)))
            simp only [go_sem, encT_sz, encT_zero]
            refine aCall_intro hI2 ?_
            simp only [go_sem]
          | false =>
            simp only [go_sem, encT_sz]
            refine aCall_intro hFT ?_
            simp only [go_sem, encT_sz]
            refine aCall_intro (hL2 rfl) ?_
            cases q2 with
            | true =>
              obtain rfl := hbad (.inr (.inr (.inr rfl)))
              simp only [go_sem, encT_sz, encT_zero]
              refine aCall_intro hI2 ?_
              simp only [go_sem]
            | false =>
              obtain rfl := hgood rfl rfl rfl rfl
              simp only [go_sem, encT_sz]
              refine aCall_intro (hrS rfl rfl) ?_
              simp only [go_sem, encT_sz]
              refine aCall_intro hK ?_
              simp only [go_sem, encT_sz]
              refine aCall_intro hIK ?_
              simp only [go_sem]
end Go.Abs.Kon
