/- Terms. -/
import Derived.Test.YthedhplpgfpodaaGreatDoorTermK
import Derived.Test.YthedhplpgfpodaaGreatDoorTermJ
set_option linter.unusedSimpArgs false
set_option linter.unusedVariables false
namespace Go.Abs.Kon
open Go Go.Proofs Go.Abs
set_option maxRecDepth 100000
set_option maxHeartbeats 4000000
mutual
theorem meas_mono : ∀ (t : TermT) (left depth left' depth' : Int), (measT t left depth).2 = true → left ≤ left' → depth' ≤ depth → measT t left' depth' = measT t left depth ∧ (measT t left' depth').2 = true
 | .mk op n s con to k names l, left, depth, left', depth', h, h1, h2 => by
   rw [measT] at h ⊢
   rw [measT]
   by_cases e : left ≤ 0 ∨ depth > 400 ∨ qbw op n s con to k names l.length = false
   ·rw [if_pos e] at h; cases h
   ·rw [if_neg e] at h ⊢
    rw [if_neg (by rintro (g | g | g); exact e (.inl (by omega)); exact e (.inr (.inl (by omega))); exact e (.inr (.inr g)))]
    exact measL_mono l _ _ _ _ _ h h1 h2
theorem measL_mono : ∀ (l : List TermT) (left n depth left' depth' : Int), (measTL l left n depth).2 = true → left ≤ left' → depth' ≤ depth → measTL l left' n depth' = measTL l left n depth ∧ (measTL l left' n depth').2 = true
 | [], left, n, depth, left', depth', h, h1, h2 => by
   rw [measTL] at h ⊢
   rw [measTL]
   have := of_decide_eq_true h
   rw [decide_eq_true this, decide_eq_true (show n ≤ left' by omega)]
   exact ⟨rfl, rfl⟩
 | x :: r, left, n, depth, left', depth', h, h1, h2 => by
   rw [measTL] at h ⊢
   rw [measTL]
   by_cases e : (measT x (left - n) (depth + 1)).2 = false
   ·rw [if_pos e] at h; cases h
   ·have e' : (measT x (left - n) (depth + 1)).2 = true := by simpa using e
    obtain ⟨g1, g2⟩ := meas_mono x (left - n) (depth + 1) (left' - n) (depth' + 1) e' (by omega) (by omega)
    rw [if_neg e] at h ⊢
    rw [g1, if_neg e]
    exact measL_mono r left _ depth left' depth' h h1 h2
end
theorem measL_all : ∀ (l : List TermT) (left n depth : Int), (measTL l left n depth).2 = true → 0 ≤ n → left ≤ 20000 → 0 ≤ depth → ∀ x ∈ l, qab x = true
 | [], _, _, _, _, _, _, _, x, hx => by cases hx
 | y :: r, left, n, depth, h, hn, hl, hd, x, hx => by
   rw [measTL] at h
   by_cases e : (measT y (left - n) (depth + 1)).2 = false
   ·rw [if_pos e] at h; cases h
   ·rw [if_neg e] at h
    rcases List.mem_cons.1 hx with rfl | hx
    ·exact (meas_mono x (left - n) (depth + 1) 20000 1 (by simpa using e) (by omega) (by omega)).2
    ·exact measL_all r left _ depth h (by have := (measT_le y (left - n) (depth + 1)).1; omega) hl hd x hx
theorem qbl {op n : Int} {s : ByteArray} {con to : ConT} {k : List KindT} {names : List ByteArray} {l : List TermT} (h : qab (.mk op n s con to k names l) = true) : ∀ x ∈ l, qab x = true := by
 rw [qab, measT] at h
 split at h
 ·cases h
 ·exact measL_all l _ _ _ h (by split <;> split <;> omega) (by decide) (by decide)
end Go.Abs.Kon
