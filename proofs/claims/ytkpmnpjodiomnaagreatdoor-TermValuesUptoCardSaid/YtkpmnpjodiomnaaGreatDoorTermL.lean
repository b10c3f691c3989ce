/- Terms: values stay values. -/
import Derived.Test.YtkpmnpjodiomnaaGreatDoorTermK
import Derived.Test.YtkpmnpjodiomnaaGreatDoorTermJ
set_option linter.unusedSimpArgs false
set_option linter.unusedVariables false
namespace Go.Abs.Kon
open Go Go.Proofs Go.Abs
set_option maxRecDepth 100000
set_option maxHeartbeats 4000000

theorem valF_op {op n : Int} {s : ByteArray} {con to : ConT} {k : List KindT} {names : List ByteArray} {l : List TermT} (h : valF (.mk op n s con to k names l) = true) :
    (op = 2 ∨ op = 3 ∨ op = 4 ∨ op = 6 ∨ op = 16) ∨ ((op = 10 ∨ op = 12 ∨ op = 14 ∨ op = 8) ∧ valFs l = true) := by
  rw [valF] at h
  by_cases h1 : op = 2 ∨ op = 3 ∨ op = 4 ∨ op = 6 ∨ op = 16
  · exact .inl h1
  · rw [if_neg h1] at h
    by_cases h2 : op = 10 ∨ op = 12 ∨ op = 14 ∨ op = 8
    · rw [if_pos h2] at h
      exact .inr ⟨h2, h⟩
    · rw [if_neg h2] at h; cases h
mutual
/-- A value that is rebuilt is a value. -/
theorem valF_ch (cf : ConT → Int → Int → ConT × Int) (vf : Int → Int → Int → TermT × Int) : ∀ (t : TermT) (u w : Int), valF t = true → (chT cf vf t u w).2 = 0 → valF (chT cf vf t u w).1 = true
  | .mk op n s con to k names l, u, w, h, h0 => by
    have h1 := valF_op h
    have ho : op ≠ 1 := by omega
    rw [chT, if_neg ho] at h0 ⊢
    by_cases e1 : hasConF op = true ∧ (cf con u w).2 ≠ 0
    · rw [if_pos e1] at h0; exact absurd h0 e1.2
    · rw [if_neg e1] at h0 ⊢
      by_cases e2 : op = 8 ∧ (cf to u w).2 ≠ 0
      · rw [if_pos e2] at h0; exact absurd h0 e2.2
      · rw [if_neg e2] at h0 ⊢
        by_cases e3 : (chL cf vf op l 0 u w).2 ≠ 0
        · rw [if_pos e3] at h0; exact absurd h0 e3
        · rw [if_neg e3]
          rw [valF]
          rcases h1 with h1 | ⟨h1, h2⟩
          · rw [if_pos h1]
          · rw [if_neg (by omega), if_pos h1]
            exact valF_chL cf vf op l 0 u w h2 (by simpa using e3)
theorem valF_chL (cf : ConT → Int → Int → ConT × Int) (vf : Int → Int → Int → TermT × Int) (op : Int) : ∀ (l : List TermT) (i : Nat) (u w : Int), valFs l = true → (chL cf vf op l i u w).2 = 0 → valFs (chL cf vf op l i u w).1 = true
  | [], i, u, w, _, _ => by rw [chL]; rfl
  | x :: r, i, u, w, h, h0 => by
    rw [valFs, Bool.and_eq_true] at h
    rw [chL] at h0 ⊢
    by_cases e1 : (chT cf vf x (u + insC op i) (w + insT op i)).2 ≠ 0
    · rw [if_pos e1] at h0; exact absurd h0 e1
    · rw [if_neg e1] at h0 ⊢
      by_cases e2 : (chL cf vf op r (i + 1) u w).2 ≠ 0
      · rw [if_pos e2] at h0; exact absurd h0 e2
      · rw [if_neg e2, valFs, valF_ch cf vf x _ _ h.1 (by simpa using e1), valF_chL cf vf op r (i + 1) u w h.2 (by simpa using e2)]
        rfl
end
theorem fin_val {r : TermT × Int} (h : r.2 = 0 → valF r.1 = true) (h0 : (finT r).2 = 0) : (validT (finT r).1 && valF (finT r).1) = true := by
  rw [finT] at h0 ⊢
  by_cases e : r.2 ≠ 0 ∨ validT r.1 = false
  · rw [if_pos e] at h0; cases h0
  · rw [if_neg e]
    have e1 : r.2 = 0 := by
      by_cases g : r.2 = 0
      · exact g
      · exact absurd (.inl g) e
    have e2 : validT r.1 = true := by
      cases g : validT r.1 with
      | true => rfl
      | false => exact absurd (.inr g) e
    simp only
    rw [e2, h e1]; rfl
theorem ShiftT_val {t : TermT} {n m : Int} (h : valF t = true) (h0 : (ShiftT t n m).2 = 0) : (validT (ShiftT t n m).1 && valF (ShiftT t n m).1) = true := by
  rw [ShiftT] at h0 ⊢
  by_cases e1 : validT t = false
  · rw [if_pos e1] at h0; cases h0
  · rw [if_neg e1] at h0 ⊢
    by_cases e2 : inB n = false ∨ inB m = false ∨ headLt (sortU (consF t 0)) n = true ∨ headLt (sortU (termsF t 0)) m = true
    · rw [if_pos e2] at h0; cases h0
    · rw [if_neg e2] at h0 ⊢
      exact fin_val (fun g => valF_ch _ _ t 0 0 h g) h0
theorem SubstT_val {t by' : TermT} (h : valF t = true) (h0 : (SubstT t by').2 = 0) : (validT (SubstT t by').1 && valF (SubstT t by').1) = true := by
  rw [SubstT] at h0 ⊢
  by_cases e1 : validT t = false ∨ validT by' = false
  · rw [if_pos e1] at h0; cases h0
  · rw [if_neg e1] at h0 ⊢
    exact fin_val (fun g => valF_ch _ _ t 0 0 h g) h0
theorem SubstConsT_val {t : TermT} {us : List ConT} (h : valF t = true) (h0 : (SubstConsT t us).2 = 0) : (validT (SubstConsT t us).1 && valF (SubstConsT t us).1) = true := by
  rw [SubstConsT] at h0 ⊢
  by_cases e1 : validT t = false ∨ us.all validF = false
  · rw [if_pos e1] at h0; cases h0
  · rw [if_neg e1] at h0 ⊢
    by_cases e2 : us.length > 1000
    · rw [if_pos e2] at h0; cases h0
    · rw [if_neg e2] at h0 ⊢
      exact fin_val (fun g => valF_ch _ _ t 0 0 h g) h0
mutual
/-- More room does no harm. -/
theorem meas_mono : ∀ (t : TermT) (left depth left' depth' : Int), (measT t left depth).2 = true → left ≤ left' → depth' ≤ depth → measT t left' depth' = measT t left depth ∧ (measT t left' depth').2 = true
  | .mk op n s con to k names l, left, depth, left', depth', h, h1, h2 => by
    rw [measT] at h ⊢
    rw [measT]
    by_cases e : left ≤ 0 ∨ depth > 400 ∨ nodeT op n s con to k names l.length = false
    · rw [if_pos e] at h; cases h
    · rw [if_neg e] at h ⊢
      rw [if_neg (by rintro (g | g | g); exact e (.inl (by omega)); exact e (.inr (.inl (by omega))); exact e (.inr (.inr g)))]
      exact measL_mono l _ _ _ _ _ h h1 h2
theorem measL_mono : ∀ (l : List TermT) (left n depth left' depth' : Int), (measTL l left n depth).2 = true → left ≤ left' → depth' ≤ depth → measTL l left' n depth' = measTL l left n depth ∧ (measTL l left' n depth').2 = true
  | [], left, n, depth, left', depth', h, h1, h2 => by
    rw [measTL] at h ⊢
    rw [measTL]
    have := of_decide_eq_true h
    rw [decide_eq_true this, decide_eq_true (show n ≤ left' by omega)]
    exact ⟨rfl, rfl⟩
  | x :: r, left, n, depth, left', depth', h, h1, h2 => by
    rw [measTL] at h ⊢
    rw [measTL]
    by_cases e : (measT x (left - n) (depth + 1)).2 = false
    · rw [if_pos e] at h; cases h
    · have e' : (measT x (left - n) (depth + 1)).2 = true := by simpa using e
      obtain ⟨g1, g2⟩ := meas_mono x (left - n) (depth + 1) (left' - n) (depth' + 1) e' (by omega) (by omega)
      rw [if_neg e] at h ⊢
      rw [g1, if_neg e]
      exact measL_mono r left _ depth left' depth' h h1 h2
end
theorem measL_all : ∀ (l : List TermT) (left n depth : Int), (measTL l left n depth).2 = true → 0 ≤ n → left ≤ 20000 → 0 ≤ depth → ∀ x ∈ l, validT x = true
  | [], _, _, _, _, _, _, _, x, hx => by cases hx
  | y :: r, left, n, depth, h, hn, hl, hd, x, hx => by
    rw [measTL] at h
    by_cases e : (measT y (left - n) (depth + 1)).2 = false
    · rw [if_pos e] at h; cases h
    · rw [if_neg e] at h
      rcases List.mem_cons.1 hx with rfl | hx
      · exact (meas_mono x (left - n) (depth + 1) 20000 1 (by simpa using e) (by omega) (by omega)).2
      · exact measL_all r left _ depth h (by have := (measT_le y (left - n) (depth + 1)).1; omega) hl hd x hx
theorem valid_parts_T {op n : Int} {s : ByteArray} {con to : ConT} {k : List KindT} {names : List ByteArray} {l : List TermT} (h : validT (.mk op n s con to k names l) = true) : ∀ x ∈ l, validT x = true := by
  rw [validT, measT] at h
  split at h
  · cases h
  · exact measL_all l _ _ _ h (by split <;> split <;> omega) (by decide) (by decide)
end Go.Abs.Kon
