/- Terms. -/
import Derived.Test.YthedhplpgfpodaaGreatDoorTermF
import Derived.Test.YthedhplpgfpodaaGreatDoorKonH
set_option linter.unusedSimpArgs false
set_option linter.unusedVariables false
namespace Go.Abs.Kon
open Go Go.Proofs Go.Abs
set_option maxRecDepth 100000
set_option maxHeartbeats 4000000
theorem rsh0 {c : ConT} (h : formedF c = true) (f : Int) : rShiftF c 0 f = c := by
 rw [← shift_eq 0 f c 0 f h (by rw [Int.add_zero])]
 refine map_id (fun x b hx hf => ?_) c 0 h
 rw [qaf]
 split
 ·rename_i e
  rw [Int.add_zero]
  exact var_formed e.1 hf
 ·exact leafC_formed hx hf
theorem csh0 {c : ConT} (h : eqC c zeroC = true ∨ qac c = true) (f : Int) : cshR c 0 f = c := by
 rw [cshR]
 rcases h with h | h
 ·rw [if_pos h]
 ·split
  ·rfl
  ·exact rsh0 (qah h) f
theorem fits_or {c : ConT} {b : Bool} (h : qav c b = true) : eqC c zeroC = true ∨ qac c = true := by
 rw [qav] at h
 split at h
 ·exact .inr h
 ·exact .inl h
mutual
theorem rshT_id : ∀ (t : TermT) (uc ut : Int), wfT t = true → rshT 0 0 t uc ut = t
 | .mk op n s con to k names l, uc, ut, h => by
   rw [wfT, Bool.and_eq_true] at h
   obtain ⟨hn, hl⟩ := h
   obtain ⟨_, _, _, _, _, _, _, h1, h2⟩ := qc5 hn
   rw [rshT, csh0 (fits_or h1), csh0 (fits_or h2), rshL_id op l 0 uc ut hl, Int.add_zero, ite_self]
theorem rshL_id (op : Int) : ∀ (l : List TermT) (i : Nat) (uc ut : Int), wfL l = true → rshL 0 0 op l i uc ut = l
 | [], i, uc, ut, h => by rw [rshL]
 | x :: r, i, uc, ut, h => by
   rw [wfL, Bool.and_eq_true] at h
   rw [rshL, rshT_id x _ _ h.1, rshL_id op r (i + 1) uc ut h.2]
end
theorem consF_n0 (t : TermT) (uc : Int) (h : 0 ≤ uc) : ∀ i ∈ consF t uc, i + 0 ≥ 0 := fun i hi => by have := consF_n t uc h i hi; omega
theorem sh0 {t : TermT} (h : wfT t = true) : shT 0 0 t = (t, 0) := by
 have h1 := sh_eq 0 0 (by decide) (by decide) t 0 0 h (Int.le_refl _) (consF_n0 t 0 (Int.le_refl _))
 rw [shT]
 have h2 : (chT (shCf 0) (shVf 0) t 0 0).2 = 0 := by
  cases Int.decEq (chT (shCf 0) (shVf 0) t 0 0).2 0 with
  | isTrue e => exact e
  | isFalse e =>
    have := h1.2 e
    rw [rshT_id t 0 0 h, h] at this
    cases this
 have h3 := h1.1 h2
 rw [rshT_id t 0 0 h] at h3
 exact Prod.ext h3 h2
theorem shc0 {c : ConT} (h : qac c = true) : qcj c 0 0 = (c, 0) := by
 rw [shift_ok h (Int.le_refl _) (by decide) (by decide) (fun i hi => by
  obtain ⟨n, h1, h2, rfl⟩ := mem_above.1 hi
  omega), rsh0 (qah h), if_pos h]
theorem fin_kept0 (t : TermT) : finT (t, 0) = keptT t := by
 rw [finT, keptT]
 cases qab t
 ·rw [if_pos (.inr rfl), if_neg (by decide)]
 ·rw [if_neg (by rintro (e | e); exact e rfl; cases e), if_pos rfl]
end Go.Abs.Kon
