/- The walk of the law TermValues. -/
import Derived.Test.YtkpmnpjodiomnaaGreatDoorTermK
import Derived.Test.YtkpmnpjodiomnaaGreatDoorTermL
import Derived.Test.YtkpmnpjodiomnaaGreatDoorTermG
set_option linter.unusedSimpArgs false
set_option linter.unusedVariables false
namespace Go.Abs.Kon
open Go Go.Proofs Go.Abs
set_option maxRecDepth 100000
set_option maxHeartbeats 4000000

theorem fin_ok {r : TermT × Int} (h : okT r.1) : okT (finT r).1 := by
  rw [finT]
  split
  · exact okT_zero
  · exact h
theorem ShiftT_ok {t : TermT} (n m : Int) (h1 : okT t) (h2 : wcT t) : okT (ShiftT t n m).1 := by
  rw [ShiftT]
  split
  · exact okT_zero
  · split
    · exact okT_zero
    · exact fin_ok (shT_ok n m t 0 0 h1 h2)
theorem SubstT_ok {t by' : TermT} (h1 : okT t) (h2 : wcT t) (h3 : okT by') (h4 : wcT by') : okT (SubstT t by').1 := by
  rw [SubstT]
  split
  · exact okT_zero
  · exact fin_ok (subT_ok t by' h1 h2 h3 h4)
theorem SubstConsT_ok {t : TermT} {us : List ConT} (h1 : okT t) (hus : ∀ x ∈ us, okS x) : okT (SubstConsT t us).1 := by
  rw [SubstConsT]
  split
  · exact okT_zero
  · rename_i h
    split
    · exact okT_zero
    · refine fin_ok (subCT_ok us hus t h1 (valid_wf ?_).1)
      cases hv : validT t with
      | true => rfl
      | false => exact absurd (.inl hv) h
theorem values1_spec (t : TermT) (h : okT t) : Spec Tryz.prog 48 [pp (encT t)] [] (.bool (!(validT t && valF t))) [] := by
  have hV := tValue_spec t h
  generalize (validT t && valF t) = b at hV
  refine Spec.walk (rv := [.tmp 2]) ann48 6 Tryz.func48 mixed rfl rfl (by kernel_rfl) rfl rfl fun hfit => ?_
  clear hfit
  simp only [go_sem, encT_sz]
  refine aCall_intro hV ?_
  simp only [go_sem]
theorem TermValues_spec (t by' : TermT) (l : List ConT) (hok : okT t) (hwc : wcT t) (hok' : okT by') (hwc' : wcT by') (hl : ∀ c ∈ l, wtF c ≤ 10000000 ∧ okS c) (hn : l.length ≤ 100000000) :
    Spec Tryz.prog 10 [pp (encT t), pp (encT by'), pp (.slice (l.map encC))] [] (.bool true) [] := by
  have hAw := tawake_spec
  have hB1 := big_spec t
  have hB2 := big_spec by'
  have hW := wide_spec l
  have hV := tValue_spec t hok
  have hSh := tShift_spec t 1 1 hok hwc
  have hSu := tSubst_spec t by' hok hwc hok' hwc'
  have hSc := tSubstCons_spec t l hok hwc hl hn
  have vX := tValue_spec (ShiftT t 1 1).1 (ShiftT_ok 1 1 hok hwc)
  have vY := tValue_spec (SubstT t by').1 (SubstT_ok hok hwc hok' hwc')
  have vZ := tValue_spec (SubstConsT t l).1 (SubstConsT_ok hok fun x hx => (hl x hx).2)
  have gX : (validT t && valF t) = true → (ShiftT t 1 1).2 = 0 → (validT (ShiftT t 1 1).1 && valF (ShiftT t 1 1).1) = true := fun h => ShiftT_val (by simp at h; exact h.2)
  have gY : (validT t && valF t) = true → (SubstT t by').2 = 0 → (validT (SubstT t by').1 && valF (SubstT t by').1) = true := fun h => SubstT_val (by simp at h; exact h.2)
  have gZ : (validT t && valF t) = true → (SubstConsT t l).2 = 0 → (validT (SubstConsT t l).1 && valF (SubstConsT t l).1) = true := fun h => SubstConsT_val (by simp at h; exact h.2)
  obtain ⟨op, n, s, con, to, k, names, tl⟩ := t
  have hch : (validT (.mk op n s con to k names tl) && valF (.mk op n s con to k names tl)) = true → (op = 2 ∨ op = 3 ∨ op = 4 ∨ op = 6 ∨ op = 16) ∨ ((op = 10 ∨ op = 12 ∨ op = 14 ∨ op = 8) ∧
      Spec Tryz.prog 30 [pp (.slice (tl.map encT)), pp (.fn 48 [])] [] (.bool false) []) := fun h => by
    rw [Bool.and_eq_true] at h
    rcases valF_op h.2 with h1 | ⟨h1, h2⟩
    · exact .inl h1
    · refine .inr ⟨h1, ?_⟩
      have hA : Spec Tryz.prog 30 [pp (.slice (tl.map encT)), pp (.fn 48 [])] [] (.bool (tl.any fun x => !(validT x && valF x))) [] :=
        ContainsFuncT2 encT tl 48 [] _ (fun e _ => encT_sz e) fun x hx => values1_spec x (okTs_mem.1 (okT_con hok).2.2.2 x hx)
      have e : (tl.any fun x => !(validT x && valF x)) = false := by
        rw [List.any_eq_false]
        intro x hx
        rw [valFs_all] at h2
        rw [valid_parts_T h.1 x hx, List.all_eq_true.1 h2 x hx]
        decide
      rw [e] at hA
      exact hA
  generalize ShiftT (.mk op n s con to k names tl) 1 1 = X at *
  generalize SubstT (.mk op n s con to k names tl) by' = Y at *
  generalize SubstConsT (.mk op n s con to k names tl) l = Z at *
  generalize (validT (.mk op n s con to k names tl) && valF (.mk op n s con to k names tl)) = v at *
  generalize (validT X.1 && valF X.1) = x at *
  generalize (validT Y.1 && valF Y.1) = y at *
  generalize (validT Z.1 && valF Z.1) = z at *
  generalize bigT (.mk op n s con to k names tl) = b1 at *
  generalize bigT by' = b2 at *
  generalize wideF l = b3 at *
  clear hok hwc hok' hwc' hl hn
  refine Spec.walk (rv := [.tmp 6]) ann10 102 Tryz.func10 mixed rfl rfl (by kernel_rfl) rfl rfl fun hfit => ?_
  clear hfit
  simp only [go_sem]
  refine aCall_intro hAw ?_
  simp only [go_sem, encT_sz]
  refine aCall_intro hB1 ?_
  cases b1 with
  | true => simp only [go_sem]
  | false =>
  simp only [go_sem, encT_sz]
  refine aCall_intro hB2 ?_
  cases b2 with
  | true => simp only [go_sem]
  | false =>
  simp only [go_sem, encT_sz]
  refine aCall_intro hW ?_
  cases b3 with
  | true => simp only [go_sem]
  | false =>
  simp only [go_sem, encT_sz]
  refine aCall_intro hV ?_
  cases v with
  | false => simp only [go_sem]
  | true =>
  have cX : ((X.2 == 0) = true ∧ x = true) ∨ (X.2 == 0) = false := by
    cases h : (X.2 == 0) with
    | true => exact .inl ⟨rfl, gX rfl (eq_of_beq h)⟩
    | false => exact .inr rfl
  clear gX
  have cY : ((Y.2 == 0) = true ∧ y = true) ∨ (Y.2 == 0) = false := by
    cases h : (Y.2 == 0) with
    | true => exact .inl ⟨rfl, gY rfl (eq_of_beq h)⟩
    | false => exact .inr rfl
  clear gY
  have cZ : ((Z.2 == 0) = true ∧ z = true) ∨ (Z.2 == 0) = false := by
    cases h : (Z.2 == 0) with
    | true => exact .inl ⟨rfl, gZ rfl (eq_of_beq h)⟩
    | false => exact .inr rfl
  clear gZ
  have hch := hch rfl
  simp only [go_sem, encT_sz]
  refine aCall_intro hSh ?_
  rcases cX with ⟨e1, rfl⟩ | e1
  all_goals
    simp only [go_sem, encT_sz, e1]
    try (refine aCall_intro vX ?_; simp only [go_sem, encT_sz])
    refine aCall_intro hSu ?_
    rcases cY with ⟨e2, rfl⟩ | e2
    all_goals
      simp only [go_sem, encT_sz, e2]
      try (refine aCall_intro vY ?_; simp only [go_sem, encT_sz])
      refine aCall_intro hSc ?_
      rcases cZ with ⟨e3, rfl⟩ | e3
      all_goals
        simp only [go_sem, encT_sz, e3]
        try (refine aCall_intro vZ ?_; simp only [go_sem, encT_sz])
        rcases hch with (h | h | h | h | h) | ⟨h | h | h | h, hA⟩
        all_goals
          subst h
          simp only [go_sem, encT_sz, encT_mk, Int.reduceBEq]
          try (refine aCall_intro hA ?_; simp only [go_sem])
end Go.Abs.Kon
