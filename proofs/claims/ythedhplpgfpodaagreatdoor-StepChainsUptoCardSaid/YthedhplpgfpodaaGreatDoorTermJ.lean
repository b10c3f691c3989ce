/- Terms. -/
import Derived.Test.YthedhplpgfpodaaGreatDoorTermI
import Derived.Test.YthedhplpgfpodaaGreatDoorTermD
set_option linter.unusedSimpArgs false
set_option linter.unusedVariables false
namespace Go.Abs.Kon
open Go Go.Proofs Go.Abs
set_option maxRecDepth 100000
set_option maxHeartbeats 4000000
theorem EqualFuncT {α : Type} (enc : α → PV) (es fs : List α) (f : FuncId) (caps : List PV) (q : α → α → Bool) (hes : ∀ e ∈ es, PV.hasSz (.agg 18) (enc e) = true) (hfs : ∀ e ∈ fs, PV.hasSz (.agg 18) (enc e) = true) (hq : Pred2On enc f caps q es fs) : Spec Tryz.prog 32 [pp (.slice (es.map enc)), pp (.slice (fs.map enc)), pp (.fn f caps)] [] (.bool (eqL q es fs)) [] := by
 refine wf (rv := [.tmp 6]) ann32 32 Tryz.func32 fun hfit => ?_
 have hlen : es.length ≤ 9223372036854775807 := by
  simp only [argsFit, SV.pv?, SC.pv?, PV.fit, mLe, List.length_map] at hfit
  exact hfit.1.1
 clear hfit
 generalize h0 : eqL q es fs = res
 simp only [go_sem, List.length_map]
 refine cKi (fun hb => ?_) (fun hb => ?_)
 ·simp only [go_sem]
  rw [← h0, qce]
  intro h; simp [h] at hb
 ·have hl : es.length = fs.length := by simp at hb; omega
  simp only [go_sem, List.length_map]
  refine aLl (α := α) (β := List α × List α × List α) (fun rest b => ⟨[(17, ii b.1.length), (2, pp (.fn f caps)), (1, pp (.slice (fs.map enc))), (15, pp (.slice (es.map enc))), (16, ii es.length)], [], []⟩) (fun rest b => es = b.1 ++ rest ∧ fs = b.2.1 ++ b.2.2 ∧ b.1.length = b.2.1.length ∧ eqL q rest b.2.2 = res) ?_ ?_ es ([], [], fs) _ ?_ ⟨rfl, rfl, rfl, h0⟩
  ·rintro ⟨pre, pre', rest'⟩ ⟨h4, h4', h6, h5⟩ K
   simp only [List.append_nil] at h4 h4' h6
   simp only [go_sem, h4, ltF (Int.le_refl _)]
   have : rest' = [] := by
    have := congrArg List.length h4'
    rw [← hl, h4] at this; simp at this
    exact List.eq_nil_of_length_eq_zero (by omega)
   rw [this] at h5
   simp only [eqL] at h5
   rw [h5]
  ·rintro x rest ⟨pre, pre', rest'⟩ ⟨h4, h4', h6, h5⟩ K hK
   simp only at h4 h4' h6 h5
   cases rest' with
   | nil =>
     exfalso
     have h7 := congrArg List.length h4'
     have h8 := congrArg List.length h4
     simp at h7 h8; omega
   | cons y rest' =>
     have hx : (es.map enc)[pre.length]? = some (enc x) := by simp [h4]
     have hy : (fs.map enc)[pre.length]? = some (enc y) := by simp [h4', h6]
     have hlt : (pre.length : Int) < es.length := by rw [h4]; simp; omega
     have hm : x ∈ es := by simp [h4]
     have hn : y ∈ fs := by simp [h4']
     simp only [go_sem, decide_eq_true hlt, Int.toNat_natCast, Int.natCast_nonneg, hx, hy, hes x hm, hfs y hn]
     refine aC (hq x hm y hn) ?_
     simp only [go_sem]
     refine cKi (fun hb => ?_) (fun hb => ?_)
     ·have hb' : q x y = false := by simpa using hb
      simp only [eqL, hb', Bool.false_and] at h5
      subst h5
      simp only [go_sem]
     ·have hb' : q x y = true := by simpa using hb
      have w4 : IntKind.i64.wrap ((pre.length : Int) + 1) = ((pre ++ [x]).length : Int) := by rw [wId (by omega) (by omega)]; simp
      simp only [eqL, hb', Bool.true_and] at h5
      simp only [go_sem, w4]
      refine hK (pre ++ [x], pre' ++ [y], rest') _ ?_ ⟨by simp [h4], by simp [h4'], by simp [h6], h5⟩
      simp only [go_sem]
  ·simp only [go_sem, List.length_nil, Int.natCast_zero]
end Go.Abs.Kon
