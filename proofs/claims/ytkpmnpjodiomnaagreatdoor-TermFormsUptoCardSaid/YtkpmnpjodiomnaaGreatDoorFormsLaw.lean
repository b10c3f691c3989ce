/- The walk of the law TermForms. -/
import Derived.Test.YtkpmnpjodiomnaaGreatDoorTermG
import Derived.Test.YtkpmnpjodiomnaaGreatDoorTermJ
set_option linter.unusedSimpArgs false
set_option linter.unusedVariables false
namespace Go.Abs.Kon
open Go Go.Proofs Go.Abs
set_option maxRecDepth 100000
set_option maxHeartbeats 4000000

theorem TermForms_spec (a b : TermT) (ha : okT a) (hwa : wcT a) (hb : okT b) : Spec Tryz.prog 6 [pp (encT a), pp (encT b)] [] (.bool true) [] := by
  have hAw := tawake_spec
  have hBa := big_spec a
  have hBb := big_spec b
  have hrV := rtValid_spec a ha
  have hrVb := rtValid_spec b hb
  have hF := tFreeX_spec a ha hwa
  have hV := tValid_spec a ha
  have hE := tEqual_spec a b ha hb
  have hEa := tEqual_spec a a ha ha
  rw [sameT_refl] at hEa
  have hS := rtSame_spec a b
  have hVal := tValue_spec a ha
  have hrVal := rValue_spec a ha
  have hSz := tSize_spec a ha
  have hrSz := fun h => rtSize_spec a ha h
  have e0 : ∀ x : Bool, (x != x) = false := fun x => by cases x <;> rfl
  have ei : ∀ x : Int, (x == x) = true := fun x => by simp
  have hz : validT a = false → sizeT a = 0 := fun h => by
    rw [sizeT, if_neg]
    rw [validT] at h
    rw [h]; decide
  generalize bigT a = b1 at hBa
  generalize bigT b = b2 at hBb
  generalize sameT a b = s at hE hS
  refine Spec.walk (rv := [.tmp 4]) ann6 99 Tryz.func6 mixed rfl rfl (by kernel_rfl) rfl rfl fun hfit => ?_
  clear hfit
  simp only [go_sem]
  refine aCall_intro hAw ?_
  simp only [go_sem, encT_sz]
  refine aCall_intro hBa ?_
  cases b1 with
  | true => simp only [go_sem]
  | false =>
  simp only [go_sem, encT_sz]
  refine aCall_intro hBb ?_
  cases b2 with
  | true => simp only [go_sem]
  | false =>
  simp only [go_sem, encT_sz]
  refine aCall_intro hrV ?_
  simp only [go_sem, encT_sz]
  cases hv : validT a with
  | false =>
    rw [hv] at hV hE hEa hVal hrVal
    rw [FreeT, if_neg (by rw [hv]; decide)] at hF
    rw [hz hv] at hSz
    simp only [Bool.false_and, Bool.and_false, List.map_nil] at hE hEa hVal hrVal hF
    refine aCall_intro hF ?_
    simp only [go_sem, encT_sz, List.length_nil, Int.natCast_zero]
    refine aCall_intro hV ?_
    simp only [go_sem, encT_sz, e0]
    refine aCall_intro hE ?_
    simp only [go_sem, encT_sz, e0]
    refine aCall_intro hEa ?_
    simp only [go_sem, encT_sz, e0]
    refine aCall_intro hVal ?_
    simp only [go_sem, encT_sz, e0]
    refine aCall_intro hrVal ?_
    simp only [go_sem, encT_sz, e0]
    refine aCall_intro hSz ?_
    simp only [go_sem, encT_sz, ei, List.length_nil, Int.natCast_zero, List.map_nil]
  | true =>
    rw [hv] at hV hE hEa hVal hrVal
    obtain ⟨hwf, hd⟩ := valid_wf hv
    have hFC := rFreeCons_spec a hwf ha hwa (by omega)
    have hFT := rFreeTerms_spec a hwf ha (by omega)
    rw [FreeT, if_pos hv] at hF
    have hrSz := hrSz hv
    have hQ1 : Spec Tryz.prog 25 [pp (.slice (ints (sortU (consF a 0)))), pp (.slice (ints (sortU (consF a 0))))] [] (.bool true) [] := by
      have := EqualI (sortU (consF a 0)) (sortU (consF a 0))
      rw [eqL_refl intEq (fun x => by simp [intEq])] at this
      exact this
    have hQ2 : Spec Tryz.prog 25 [pp (.slice (ints (sortU (termsF a 0)))), pp (.slice (ints (sortU (termsF a 0))))] [] (.bool true) [] := by
      have := EqualI (sortU (termsF a 0)) (sortU (termsF a 0))
      rw [eqL_refl intEq (fun x => by simp [intEq])] at this
      exact this
    simp only [Bool.true_and] at hE hEa hVal hrVal
    generalize validT b = vb at hE hrVb
    generalize valF a = vf at hVal hrVal
    generalize sizeT a = sz at hSz hrSz
    generalize sortU (consF a 0) = la at hF hFC hQ1
    generalize sortU (termsF a 0) = lb at hF hFT hQ2
    refine aCall_intro hF ?_
    simp only [go_sem, encT_sz]
    refine aCall_intro hV ?_
    simp only [go_sem, encT_sz, e0]
    refine aCall_intro hE ?_
    simp only [go_sem, encT_sz, e0]
    refine aCall_intro hrVb ?_
    cases vb with
    | false =>
      simp only [go_sem, encT_sz, e0, Bool.false_and]
      refine aCall_intro hEa ?_
      simp only [go_sem, encT_sz, e0]
      refine aCall_intro hVal ?_
      simp only [go_sem, encT_sz, e0]
      refine aCall_intro hrVal ?_
      simp only [go_sem, encT_sz, e0]
      refine aCall_intro hSz ?_
      simp only [go_sem, encT_sz, ei]
      refine aCall_intro hrSz ?_
      simp only [go_sem, encT_sz, ei]
      refine aCall_intro hFC ?_
      simp only [go_sem, encT_sz, ei]
      refine aCall_intro hQ1 ?_
      simp only [go_sem, encT_sz, ei]
      refine aCall_intro hFT ?_
      simp only [go_sem, encT_sz, ei]
      refine aCall_intro hQ2 ?_
      simp only [go_sem]
    | true =>
      simp only [go_sem, encT_sz, e0, Bool.true_and]
      refine aCall_intro hS ?_
      simp only [go_sem, encT_sz, e0]
      refine aCall_intro hEa ?_
      simp only [go_sem, encT_sz, e0]
      refine aCall_intro hVal ?_
      simp only [go_sem, encT_sz, e0]
      refine aCall_intro hrVal ?_
      simp only [go_sem, encT_sz, e0]
      refine aCall_intro hSz ?_
      simp only [go_sem, encT_sz, ei]
      refine aCall_intro hrSz ?_
      simp only [go_sem, encT_sz, ei]
      refine aCall_intro hFC ?_
      simp only [go_sem, encT_sz, ei]
      refine aCall_intro hQ1 ?_
      simp only [go_sem, encT_sz, ei]
      refine aCall_intro hFT ?_
      simp only [go_sem, encT_sz, ei]
      refine aCall_intro hQ2 ?_
      simp only [go_sem]
end Go.Abs.Kon
