/- Terms. -/
import Derived.Test.YthedhplpgfpodaaGreatDoorTermI
import Derived.Test.YthedhplpgfpodaaGreatDoorTermD
set_option linter.unusedSimpArgs false
set_option linter.unusedVariables false
namespace Go.Abs.Kon
open Go Go.Proofs Go.Abs
set_option maxRecDepth 100000
set_option maxHeartbeats 4000000
theorem kequal_spec (a : KindT) : ∀ b, Spec Tryz.prog 191 [pp (encK a), pp (encK b)] [] (.bool (sameK a b)) [] := by
  revert a
  refine KindT.ind1 fun l ih => ?_
  rintro ⟨m⟩
  refine wf (rv := [.tmp 4]) ann191 32 Tryz.func191 fun hfit => ?_
  have hlen : l.length ≤ 9223372036854775807 := by
    simp only [argsFit, SV.pv?, SC.pv?, encK_mk, PV.fit, fitL, List.length_map, maxLen_eq] at hfit
    exact hfit.1.1.1
  clear hfit
  have hl0 : eqL sameK l m = sameK (.mk l) (.mk m) := by rw [sameKs_eq, sameK]
  generalize sameK (.mk l) (.mk m) = res at hl0
  have hle : l.length ≠ m.length → eqL sameK l m = false := eqL_length sameK l m
  simp only [go_sem, encK_mk, List.length_map]
  refine condK_intro (fun hb => ?_) (fun hb => ?_)
  · simp only [go_sem]
    rw [← hl0, hle (by intro h; simp [h] at hb)]
  · have hl : l.length = m.length := by simp at hb; omega
    simp only [go_sem, List.length_map]
    refine aLoop_list (α := KindT) (β := List KindT × List KindT × List KindT) (fun rest b => ⟨[(16, ii b.1.length), (3, pp (.ep (encK (.mk m)) 0)), (2, pp (.ep (encK (.mk l)) 0)), (15, ii l.length)], [], []⟩) (fun rest b => l = b.1 ++ rest ∧ m = b.2.1 ++ b.2.2 ∧ b.1.length = b.2.1.length ∧ eqL sameK rest b.2.2 = res) ?_ ?_ l ([], [], m) _ ?_ ⟨rfl, rfl, rfl, hl0⟩
    · rintro ⟨pre, pre', rest'⟩ ⟨h4, h4', h6, h5⟩ K
      simp only [List.append_nil] at h4 h4' h6
      simp only [go_sem, h4, lt_false (Int.le_refl _), List.length_map, encK_mk]
      have : rest' = [] := by
        have := congrArg List.length h4'
        rw [← hl, h4] at this; simp at this
        exact List.eq_nil_of_length_eq_zero (by omega)
      rw [this] at h5
      simp only [eqL] at h5
      rw [h5]
    · rintro x rest ⟨pre, pre', rest'⟩ ⟨h4, h4', h6, h5⟩ K hK
      simp only at h4 h4' h6 h5
      cases rest' with
      | nil =>
        exfalso
        have h7 := congrArg List.length h4'
        have h8 := congrArg List.length h4
        simp at h7 h8; omega
      | cons y rest' =>
        have hx : (l.map encK)[pre.length]? = some (encK x) := by simp [h4]
        have hy : (m.map encK)[pre.length]? = some (encK y) := by simp [h4', h6]
        have hlt : (pre.length : Int) < l.length := by rw [h4]; simp; omega
        have hm : x ∈ l := by simp [h4]
        simp only [go_sem, decide_eq_true hlt, Int.toNat_natCast, Int.natCast_nonneg, hx, hy, encK_sz, encK_mk]
        refine aCall_intro (ih x hm y) ?_
        simp only [go_sem]
        refine condK_intro (fun hb => ?_) (fun hb => ?_)
        · have hb' : sameK x y = false := by simpa using hb
          simp only [eqL, hb', Bool.false_and] at h5
          subst h5
          simp only [go_sem]
        · have hb' : sameK x y = true := by simpa using hb
          have w4 : IntKind.i64.wrap ((pre.length : Int) + 1) = ((pre ++ [x]).length : Int) := by rw [wrap_id (by omega) (by omega)]; simp
          simp only [eqL, hb', Bool.true_and] at h5
          simp only [go_sem, w4]
          refine hK (pre ++ [x], pre' ++ [y], rest') _ ?_ ⟨by simp [h4], by simp [h4'], by simp [h6], h5⟩
          simp only [go_sem, encK_mk]
    · simp only [go_sem, List.length_nil, Int.natCast_zero, encK_mk]
theorem kEqual_spec (a b : KindT) (ha : (sizeK a 20000 1).isSome = true) (hb : (sizeK b 20000 1).isSome = true) : Spec Tryz.prog 124 [pp (encK a), pp (encK b)] [] (.bool (sameK a b)) [] := by
  have h1 := kValid_spec a
  have h2 := kValid_spec b
  have h3 := kequal_spec a b
  rw [ha] at h1
  rw [hb] at h2
  refine wk (rv := [.tmp 4]) ann124 16 Tryz.func124 ?_
  simp only [go_sem, encK_sz]
  refine aCall_intro h1 ?_
  simp only [go_sem, encK_sz]
  refine aCall_intro h2 ?_
  simp only [go_sem, encK_sz]
  refine aCall_intro h3 ?_
  simp only [go_sem]
end Go.Abs.Kon
