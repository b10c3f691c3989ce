/- Terms. -/
import Derived.Test.YthedhplpgfpodaaGreatDoorTermA
import Derived.Test.YthedhplpgfpodaaGreatDoorKonH
import Derived.Test.YthedhplpgfpodaaGreatDoorAbsC
import Derived.Test.YthedhplpgfpodaaGreatDoorShelfA
import Derived.Maps.RangeRun
import Derived.WalkKit
import Derived.Maps.AppendAt
import Derived.BigCall
set_option linter.unusedSimpArgs false
set_option linter.unusedVariables false
namespace Go.Abs.Kon
open Go Go.Proofs Go.Abs
set_option maxRecDepth 100000
set_option maxHeartbeats 4000000
theorem strEq_empty {s : ByteArray} (h : qbg s ByteArray.empty = true) : s = ByteArray.empty := by
 have h1 : s.toList = ByteArray.empty.toList := eq_of_beq h
 rw [Lib.toList_data, Lib.toList_data] at h1
 have h2 : s.data = ByteArray.empty.data := Array.toList_inj.1 h1
 cases s
 cases h2
 rfl
theorem eqCs_nil {l : List ConT} (h : eqCs l [] = true) : l = [] := by
 cases l with
 | nil => rfl
 | cons x r => rw [eqCs] at h; cases h
theorem sameK_nil {k : List KindT} (h : sameK (.mk k) (.mk []) = true) : k = [] := by
 cases k with
 | nil => rfl
 | cons x r => rw [sameK, sameKs] at h; cases h
theorem eqL_nil {l : List ByteArray} (h : eqL qbg l [] = true) : l = [] := by
 cases l with
 | nil => rfl
 | cons x r => rw [eqL] at h; cases h
theorem eqC_zero {c : ConT} (h : eqC c zeroC = true) : c = zeroC := by
 obtain ⟨op, n, s, k, names, l⟩ := c
 rw [zeroC, eqC] at h
 simp only [Bool.and_eq_true] at h
 obtain ⟨h1, h2, h3, h4, h5, h6⟩ := h
 rw [eq_of_beq h1, eq_of_beq h2, strEq_empty h3, sameK_nil h4, eqL_nil h5, eqCs_nil h6, zeroC]
theorem valid_zero : qac zeroC = false := by decide +kernel
theorem qdy {c : ConT} (h : qac c = true) : eqC c zeroC = false := by
 cases h1 : eqC c zeroC with
 | false => rfl
 | true => rw [eqC_zero h1, valid_zero] at h; cases h
theorem qc5 {op n : Int} {s : ByteArray} {con to : ConT} {k : List KindT} {names : List ByteArray} {len : Nat} (h : qbw op n s con to k names len = true) :
  1 ≤ op ∧ op ≤ 19 ∧ numT op n = true ∧ (len : Int) = qb5 op n names.length ∧ textT op s = true ∧ qdx op names = true ∧ (op == 6 && qdt k || decide (k.length = 0)) = true ∧ qav con (qad op) = true ∧ qav to (op == 8) = true := by
 rw [qbw] at h
 simp only [Bool.and_eq_true, decide_eq_true_iff] at h
 simpa only [Bool.and_eq_true] using h
theorem qbi {op n : Int} {s : ByteArray} {con to : ConT} {k : List KindT} {names : List ByteArray} {len : Nat} (h : qbw op n s con to k names len = true) :
  (qad op = true → qac con = true) ∧ (qad op = false → con = zeroC) ∧ (op = 8 → qac to = true) ∧ (op ≠ 8 → to = zeroC) := by
 obtain ⟨_, _, _, _, _, _, _, h1, h2⟩ := qc5 h
 refine ⟨fun e => ?_, fun e => ?_, fun e => ?_, fun e => ?_⟩
 ·rw [e, qav, if_pos rfl] at h1; exact h1
 ·rw [e, qav, if_neg (by decide)] at h1; exact eqC_zero h1
 ·have : (op == 8) = true := by simp [e]
  rw [this, qav, if_pos rfl] at h2; exact h2
 ·have : (op == 8) = false := by simp [e]
  rw [this, qav, if_neg (by decide)] at h2; exact eqC_zero h2
/-! The reference -/
def qat (op : Int) (i : Nat) : Int := if op = 6 ∨ (op = 9 ∧ i = 1) then 1 else 0
def qam (op : Int) (i : Nat) : Int := if op = 4 ∨ op = 16 then 1 else if op = 17 ∨ op = 9 ∨ op = 13 then (if i > 0 then 1 else 0) else 0
theorem ins_cons {op : Int} {i : Nat} (h : op = 9 → i ≤ 1) : insC op i = qat op i := by
 rw [insC, qat]
 by_cases h6 : op = 6
 ·rw [if_pos h6, if_pos (.inl h6)]
 ·by_cases h9 : op = 9
  ·have := h h9
   rw [if_neg h6, if_pos h9]
   split
   ·rename_i e; rcases e with e | e
    ·exact absurd e h6
    ·omega
   ·rename_i e
    have : i ≠ 1 := fun e' => e (.inr ⟨h9, e'⟩)
    omega
  ·rw [if_neg h6, if_neg h9, if_neg (by rintro (e | e); exact h6 e; exact h9 e.1)]
theorem ins_terms {op : Int} {i : Nat} (h : op = 9 → i ≤ 1) : insT op i = qam op i := by
 rw [insT, qam]
 by_cases h4 : op = 4 ∨ op = 16
 ·rw [if_pos h4, if_pos h4]
 ·rw [if_neg h4, if_neg h4]
  by_cases h9 : op = 9
  ·have := h h9
   have n1 : ¬ (op = 17 ∨ op = 13) := by omega
   have n2 : op = 17 ∨ op = 9 ∨ op = 13 := by omega
   rw [if_neg n1, if_pos h9, if_pos n2]
   split <;> omega
  ·by_cases h17 : op = 17 ∨ op = 13
   ·have n2 : op = 17 ∨ op = 9 ∨ op = 13 := by omega
    rw [if_pos h17, if_pos n2]
    (repeat' split) <;> omega
   ·have n2 : ¬ (op = 17 ∨ op = 9 ∨ op = 13) := by omega
    rw [if_neg h17, if_neg h9, if_neg n2]
def cshR (c : ConT) (by' from' : Int) : ConT := if eqC c zeroC = true then c else rShiftF c by' from'
mutual
def rshT (cons terms : Int) : TermT → Int → Int → TermT
 | .mk op n s con to k names l, uc, ut => .mk op (if op = 1 ∧ n ≥ ut then n + terms else n) s (cshR con cons uc) (cshR to cons uc) k names (rshL cons terms op l 0 uc ut)
def rshL (cons terms op : Int) : List TermT → Nat → Int → Int → List TermT
 | [], _, _, _ => []
 | x :: r, i, uc, ut => rshT cons terms x (uc + qat op i) (ut + qam op i) :: rshL cons terms op r (i + 1) uc ut
end
def keptT (t : TermT) : TermT × Int := if qab t = true then (t, 0) else (zeroT, 6)
theorem lostF_iff (c : ConT) (by' from' : Int) : lostF c by' from' = true ↔ ∃ x b, (x, b) ∈ leaves c 0 ∧ x.op = 1 ∧ x.n - b ≥ from' ∧ x.n - b + by' < from' := by
 rw [lostF]
 have : ∀ (l : List (ConT × Int)) (s : Bool), l.foldl (qe5 by' from') s = true ↔ s = true ∨ ∃ x b, (x, b) ∈ l ∧ x.op = 1 ∧ x.n - b ≥ from' ∧ x.n - b + by' < from' := by
  intro l
  induction l with
  | nil => intro s; simp
  | cons y l ih =>
    intro s
    rw [List.foldl_cons, ih]
    simp only [qe5, Bool.or_eq_true, Bool.and_eq_true, decide_eq_true_iff, beq_iff_eq, List.mem_cons]
    constructor
    ·rintro ((h | h) | ⟨x, b, h1, h2⟩)
     ·exact .inl h
     ·exact .inr ⟨y.1, y.2, .inl rfl, h⟩
     ·exact .inr ⟨x, b, .inr h1, h2⟩
    ·rintro (h | ⟨x, b, h1 | h1, h2⟩)
     ·exact .inl (.inl h)
     ·subst h1; exact .inl (.inr h2)
     ·exact .inr ⟨x, b, h1, h2⟩
 rw [this]
 simp
theorem mem_freeL {c : ConT} {i : Int} : i ∈ freeL c ↔ ∃ x b, (x, b) ∈ leaves c 0 ∧ x.op = 1 ∧ x.n ≥ b ∧ i = x.n - b := by
 rw [freeL, List.mem_filterMap]
 constructor
 ·rintro ⟨⟨x, b⟩, h1, h2⟩
  split at h2
  ·rename_i h3
   cases h2
   exact ⟨x, b, h1, h3.1, h3.2, rfl⟩
  ·cases h2
 ·rintro ⟨x, b, h1, h2, h3, rfl⟩
  exact ⟨(x, b), h1, by rw [if_pos ⟨h2, h3⟩]⟩
theorem mem_freeF {c : ConT} (h : qac c = true) {i : Int} : i ∈ qd3 c ↔ i ∈ freeL c := by rw [qd3, if_pos h, qc0]
theorem mem_above {l : List Int} {u i : Int} : i ∈ qbd l u ↔ ∃ n ∈ l, n ≥ u ∧ i = n - u := by
 rw [qbd, List.mem_filterMap]
 constructor
 ·rintro ⟨n, h1, h2⟩
  split at h2
  ·cases h2; exact ⟨n, h1, by assumption, rfl⟩
  ·cases h2
 ·rintro ⟨n, h1, h2, rfl⟩
  exact ⟨n, h1, by rw [if_pos h2]⟩
theorem shift_ok {c : ConT} {by' from' : Int} (h : qac c = true) (h1 : 0 ≤ from') (h2 : -20000 ≤ by') (h3 : by' ≤ 20000) (h4 : ∀ i ∈ qbd (qd3 c) from', i + by' ≥ 0) :
  qcj c by' from' = if qac (rShiftF c by' from') = true then (rShiftF c by' from', 0) else (zeroC, 6) := by
 have hl : lostF c by' from' = false := by
  cases hl : lostF c by' from' with
  | false => rfl
  | true =>
    obtain ⟨x, b, e1, e2, e3, e4⟩ := (lostF_iff c by' from').1 hl
    have := h4 (x.n - b - from') (mem_above.2 ⟨x.n - b, (mem_freeF h).2 (mem_freeL.2 ⟨x, b, e1, e2, by omega, rfl⟩), e3, rfl⟩)
    omega
 rw [qcj, if_neg (by rw [h]; decide), if_neg (by rw [hl]; rintro (e | e | e | e); omega; omega; omega; cases e), replF_eq, shift_eq by' from' c 0 from' (qah h) (by rw [Int.add_zero])]
theorem qde {n : Int} {s : ByteArray} {con to : ConT} {k : List KindT} {names : List ByteArray} {len : Nat} (h : qbw 9 n s con to k names len = true) : len = 2 := by
 obtain ⟨_, _, _, h1, _⟩ := qc5 h
 rw [qb5, if_neg (by decide), if_neg (by decide), if_pos (by decide)] at h1
 omega
theorem qbh {op n : Int} {s : ByteArray} {con to : ConT} {k : List KindT} {names : List ByteArray} {len : Nat} (h : qbw op n s con to k names len = true) (h1 : op = 1) :
  s = ByteArray.empty ∧ con = zeroC ∧ to = zeroC ∧ k = [] ∧ names = [] ∧ len = 0 ∧ 0 ≤ n ∧ n ≤ 20000 := by
 subst h1
 obtain ⟨_, _, e1, e2, e3, e4, e5, e6, e7⟩ := qc5 h
 obtain ⟨_, g1, _, g2⟩ := qbi h
 rw [qb5, if_pos (by decide)] at e2
 rw [textT, if_neg (by decide), if_neg (by decide)] at e3
 rw [qdx, if_pos (by decide)] at e4
 rw [numT, if_pos rfl] at e1
 simp only [Bool.and_eq_true, decide_eq_true_iff] at e1
 refine ⟨strEq_empty e3, g1 (by decide), g2 (by decide), ?_, List.eq_nil_of_length_eq_zero (of_decide_eq_true e4), by omega, e1⟩
 have : ((1 : Int) == 6) = false := by decide
 rw [this, Bool.false_and, Bool.false_or] at e5
 exact List.eq_nil_of_length_eq_zero (of_decide_eq_true e5)
theorem zero_csh (by' from' : Int) : cshR zeroC by' from' = zeroC := by rw [cshR, if_pos (eqC_refl _)]
theorem node_swap {op n : Int} {s : ByteArray} {con to con' to' : ConT} {k : List KindT} {names : List ByteArray} {len : Nat} (h : qbw op n s con' to' k names len = true) (h1 : qav con (qad op) = false ∨ qav to (op == 8) = false) : qbw op n s con to k names len = false := by
 rw [qbw]
 rcases h1 with h1 | h1 <;> rw [h1] <;> simp
mutual
theorem sh_eq (cons terms : Int) (hc1 : -20000 ≤ cons) (hc2 : cons ≤ 20000) : ∀ (t : TermT) (uc ut : Int), wfT t = true → 0 ≤ uc → (∀ i ∈ consF t uc, i + cons ≥ 0) →
  ((chT (shCf cons) (shVf terms) t uc ut).2 = 0 → (chT (shCf cons) (shVf terms) t uc ut).1 = rshT cons terms t uc ut) ∧ ((chT (shCf cons) (shVf terms) t uc ut).2 ≠ 0 → wfT (rshT cons terms t uc ut) = false)
 | .mk op n s con to k names l, uc, ut, hwf, huc, hfr => by
   rw [wfT, Bool.and_eq_true] at hwf
   obtain ⟨hn, hwl⟩ := hwf
   obtain ⟨c1, c2, c3, c4⟩ := qbi hn
   rw [consF] at hfr
   have hL := shL_eq cons terms hc1 hc2 op l 0 uc ut hwl huc (fun e => by subst e; have := qde hn; omega) (fun i hi => hfr i (List.mem_append_right _ (List.mem_append_right _ hi)))
   rw [chT, rshT]
   by_cases h1 : op = 1
   ·obtain ⟨rfl, rfl, rfl, rfl, rfl, e6, _⟩ := qbh hn h1
    have := List.eq_nil_of_length_eq_zero e6
    subst this h1
    rw [if_pos rfl, shVf, zero_csh, rshL]
    refine ⟨fun _ => ?_, fun h => absurd rfl h⟩
    rw [varT]
    by_cases h2 : n ≥ ut
    ·rw [if_pos h2, if_pos ⟨rfl, h2⟩]
    ·rw [if_neg h2, if_neg (fun e => h2 e.2)]
   ·have hn1 : ¬ (op = 1 ∧ n ≥ ut) := fun e => h1 e.1
    rw [if_neg h1, if_neg hn1]
    have hcon : qad op = true → shCf cons con uc ut = if qac (rShiftF con cons uc) = true then (rShiftF con cons uc, 0) else (zeroC, 6) := fun e => by
     rw [e] at hfr
     exact shift_ok (c1 e) huc hc1 hc2 fun i hi => hfr i (List.mem_append_left _ (by simpa using hi))
    have hto : op = 8 → shCf cons to uc ut = if qac (rShiftF to cons uc) = true then (rShiftF to cons uc, 0) else (zeroC, 6) := fun e => by
     subst e
     exact shift_ok (c3 rfl) huc hc1 hc2 fun i hi => hfr i (List.mem_append_right _ (List.mem_append_left _ (by simpa using hi)))
    have hcv : qad op = true → cshR con cons uc = rShiftF con cons uc := fun e => by rw [cshR, if_neg (by rw [qdy (c1 e)]; decide)]
    have htv : op = 8 → cshR to cons uc = rShiftF to cons uc := fun e => by rw [cshR, if_neg (by rw [qdy (c3 e)]; decide)]
    have hcz : qad op = false → cshR con cons uc = zeroC := fun e => by rw [c2 e, zero_csh]
    have htz : op ≠ 8 → cshR to cons uc = zeroC := fun e => by rw [c4 e, zero_csh]
    have hlen : (rshL cons terms op l 0 uc ut).length = l.length := by
     have : ∀ (l : List TermT) (i : Nat), (rshL cons terms op l i uc ut).length = l.length := by
      intro l
      induction l with
      | nil => intro i; rw [rshL]
      | cons x r ih => intro i; rw [rshL, List.length_cons, ih, List.length_cons]
     exact this l 0
    have bad : ∀ {P : Prop}, (qav (cshR con cons uc) (qad op) = false ∨ qav (cshR to cons uc) (op == 8) = false) → P → P ∧ wfT (.mk op n s (cshR con cons uc) (cshR to cons uc) k names (rshL cons terms op l 0 uc ut)) = false := by
     intro P h hp
     refine ⟨hp, ?_⟩
     rw [wfT, hlen, node_swap hn h, Bool.false_and]
    by_cases e1 : qad op = true ∧ (shCf cons con uc ut).2 ≠ 0
    ·rw [if_pos e1]
     refine ⟨fun h => absurd h e1.2, fun _ => ?_⟩
     refine (bad (P := True) (.inl ?_) trivial).2
     rw [hcv e1.1, e1.1, qav, if_pos rfl]
     cases hv : qac (rShiftF con cons uc) with
     | false => rfl
     | true => exact absurd (by rw [hcon e1.1, if_pos hv]) e1.2
    ·rw [if_neg e1]
     by_cases e2 : op = 8 ∧ (shCf cons to uc ut).2 ≠ 0
     ·rw [if_pos e2]
      refine ⟨fun h => absurd h e2.2, fun _ => ?_⟩
      refine (bad (P := True) (.inr ?_) trivial).2
      have h8 : (op == 8) = true := by simp [e2.1]
      rw [htv e2.1, h8, qav, if_pos rfl]
      cases hv : qac (rShiftF to cons uc) with
      | false => rfl
      | true => exact absurd (by rw [hto e2.1, if_pos hv]) e2.2
     ·rw [if_neg e2]
      by_cases e3 : (chL (shCf cons) (shVf terms) op l 0 uc ut).2 ≠ 0
      ·rw [if_pos e3]
       refine ⟨fun h => absurd h e3, fun _ => ?_⟩
       rw [wfT, hL.2 e3, Bool.and_false]
      ·rw [if_neg e3]
       refine ⟨fun _ => ?_, fun h => absurd rfl h⟩
       have e3' : (chL (shCf cons) (shVf terms) op l 0 uc ut).2 = 0 := by simpa using e3
       have ha : (if qad op = true then (shCf cons con uc ut).1 else zeroC) = cshR con cons uc := by
        by_cases hh : qad op = true
        ·rw [if_pos hh, hcv hh]
         have : (shCf cons con uc ut).2 = 0 := by
          cases Int.decEq (shCf cons con uc ut).2 0 with
          | isTrue h => exact h
          | isFalse h => exact absurd ⟨hh, h⟩ e1
         rw [hcon hh] at this ⊢
         split
         ·rfl
         ·rename_i hv; rw [if_neg hv] at this; cases this
        ·rw [if_neg hh, hcz (by simpa using hh)]
       have hb : (if op = 8 then (shCf cons to uc ut).1 else zeroC) = cshR to cons uc := by
        by_cases hh : op = 8
        ·rw [if_pos hh, htv hh]
         have : (shCf cons to uc ut).2 = 0 := by
          cases Int.decEq (shCf cons to uc ut).2 0 with
          | isTrue h => exact h
          | isFalse h => exact absurd ⟨hh, h⟩ e2
         rw [hto hh] at this ⊢
         split
         ·rfl
         ·rename_i hv; rw [if_neg hv] at this; cases this
        ·rw [if_neg hh, htz hh]
       rw [hL.1 e3', ha, hb]
theorem shL_eq (cons terms : Int) (hc1 : -20000 ≤ cons) (hc2 : cons ≤ 20000) (op : Int) : ∀ (l : List TermT) (i : Nat) (uc ut : Int), wfL l = true → 0 ≤ uc → (op = 9 → i + l.length ≤ 2) → (∀ j ∈ consL op l i uc, j + cons ≥ 0) →
  ((chL (shCf cons) (shVf terms) op l i uc ut).2 = 0 → (chL (shCf cons) (shVf terms) op l i uc ut).1 = rshL cons terms op l i uc ut) ∧ ((chL (shCf cons) (shVf terms) op l i uc ut).2 ≠ 0 → wfL (rshL cons terms op l i uc ut) = false)
 | [], i, uc, ut, hwf, huc, hi, hfr => by
   rw [chL, rshL]
   exact ⟨fun _ => rfl, fun h => absurd rfl h⟩
 | x :: r, i, uc, ut, hwf, huc, hi, hfr => by
   rw [wfL, Bool.and_eq_true] at hwf
   rw [consL] at hfr
   have hi0 : op = 9 → i ≤ 1 := fun e => by have := hi e; rw [List.length_cons] at this; omega
   have huc' : 0 ≤ uc + insC op i := by rw [insC]; (repeat' split) <;> omega
   have hX := sh_eq cons terms hc1 hc2 x (uc + insC op i) (ut + insT op i) hwf.1 huc' fun j hj => hfr j (List.mem_append_left _ hj)
   have hR := shL_eq cons terms hc1 hc2 op r (i + 1) uc ut hwf.2 huc (fun e => by have := hi e; rw [List.length_cons] at this; omega) fun j hj => hfr j (List.mem_append_right _ hj)
   rw [chL, rshL, wfL, ← ins_cons hi0, ← ins_terms hi0]
   by_cases e1 : (chT (shCf cons) (shVf terms) x (uc + insC op i) (ut + insT op i)).2 ≠ 0
   ·rw [if_pos e1, hX.2 e1, Bool.false_and]
    exact ⟨fun h => absurd h e1, fun _ => rfl⟩
   ·rw [if_neg e1]
    have e1' : (chT (shCf cons) (shVf terms) x (uc + insC op i) (ut + insT op i)).2 = 0 := by simpa using e1
    by_cases e2 : (chL (shCf cons) (shVf terms) op r (i + 1) uc ut).2 ≠ 0
    ·rw [if_pos e2, hR.2 e2, Bool.and_false]
     exact ⟨fun h => absurd h e2, fun _ => rfl⟩
    ·rw [if_neg e2]
     have e2' : (chL (shCf cons) (shVf terms) op r (i + 1) uc ut).2 = 0 := by simpa using e2
     rw [hX.1 e1', hR.1 e2']
     exact ⟨fun _ => rfl, fun h => absurd rfl h⟩
end
end Go.Abs.Kon
namespace Go.Abs.Kon
open Go Go.Proofs Go.Abs
set_option maxRecDepth 100000
set_option maxHeartbeats 4000000
def addL (n : Int) : List Int → Bool → List Int
 | [], done => if done = true then [] else [n]
 | x :: r, done => (if done = false ∧ x ≥ n then [n] else []) ++ ((if x ≠ n then [x] else []) ++ addL n r (done || decide (x ≥ n)))
theorem addL_done (n : Int) : ∀ l : List Int, (∀ x ∈ l, x > n) → addL n l true = l
 | [], _ => by rw [addL, if_pos rfl]
 | x :: r, h => by
   have hx := h x (by simp)
   rw [addL, if_neg (fun e => by cases e.1), if_pos (by omega), Bool.true_or, addL_done n r fun y hy => h y (by simp [hy])]
   rfl
theorem addL_insU (n : Int) : ∀ l : List Int, l.Pairwise (· < ·) → addL n l false = insU n l
 | [], _ => by rw [addL, insU, if_neg (by decide)]
 | x :: r, h => by
   have h0 := List.pairwise_cons.1 h
   rw [addL, insU]
   by_cases h1 : n < x
   ·rw [if_pos h1, if_pos ⟨rfl, by omega⟩, if_pos (by omega), Bool.false_or, decide_eq_true (by omega : x ≥ n), addL_done n r fun y hy => by have := h0.1 y hy; omega]
    rfl
   ·rw [if_neg h1]
    by_cases h2 : n = x
    ·subst h2
     rw [if_pos rfl, if_pos ⟨rfl, by omega⟩, if_neg (by simp), Bool.false_or, decide_eq_true (by omega : n ≥ n), addL_done n r fun y hy => h0.1 y hy]
     rfl
    ·rw [if_neg h2, if_neg (by omega), if_pos (by omega), Bool.false_or, decide_eq_false (by omega : ¬ x ≥ n), addL_insU n r h0.2]
     rfl
def pickA (x : ConT × Int) : Option Int := if x.1.op = 1 ∧ x.1.n ≥ x.2 then some (x.1.n - x.2) else none
theorem pickA_mk (op n : Int) (s : ByteArray) (k : List KindT) (names : List ByteArray) (l : List ConT) (d : Int) : pickA (.mk op n s k names l, d) = if op = 1 ∧ n ≥ d then some (n - d) else none := rfl
def qcv (c : ConT) (d : Int) : List Int := (leaves c d).filterMap pickA
def qbv (l : List ConT) (d : Int) : List Int := (leavesL l d).filterMap pickA
theorem rfreeA_0 (c : ConT) : qcv c 0 = freeL c := rfl
abbrev insAll (l m : List Int) : List Int := m.foldl (fun acc x => insU x acc) l
theorem rfreeAL_cons (x : ConT) (r : List ConT) (d : Int) : qbv (x :: r) d = qcv x d ++ qbv r d := by rw [qbv, leavesL, List.filterMap_append]; rfl
theorem rfreeA_var {n : Int} {s : ByteArray} {k : List KindT} {names : List ByteArray} {l : List ConT} {d : Int} : qcv (.mk 1 n s k names l) d = if n ≥ d then [n - d] else [] := by
 rw [qcv, leaves, if_pos (.inl rfl)]
 rw [List.filterMap_cons, List.filterMap_nil, pickA_mk]
 by_cases h : n ≥ d
 ·have h' : (1 : Int) = 1 ∧ n ≥ d := ⟨rfl, h⟩
  rw [if_pos h', if_pos h]
 ·have h' : ¬ ((1 : Int) = 1 ∧ n ≥ d) := fun e => h e.2
  rw [if_neg h', if_neg h]
theorem rfreeA_node {op n : Int} {s : ByteArray} {k : List KindT} {names : List ByteArray} {l : List ConT} {d : Int} (h : formedF (.mk op n s k names l) = true) (h1 : op ≠ 1) : qcv (.mk op n s k names l) d = qbv l (qbs op d) := by
 by_cases h2 : op = 2
 ·have := qdi h (.inr h2)
  subst this
  rw [qcv, leaves, if_pos (.inr h2), qbv, leavesL]
  have h' : ¬ (op = 1 ∧ n ≥ d) := fun e => h1 e.1
  rw [List.filterMap_cons, List.filterMap_nil, pickA_mk, if_neg h']
 ·rw [qcv, leaves, if_neg (by rintro (e | e); exact h1 e; exact h2 e), qbv, qbs]
mutual
def consRF : TermT → Int → List Int
 | .mk op _ _ con to _ _ l, uc => qbd (qar (freeL con)) uc ++ (qbd (qar (freeL to)) uc ++ consRL op l 0 uc)
def consRL (op : Int) : List TermT → Nat → Int → List Int
 | [], _, _ => []
 | x :: r, i, uc => consRF x (uc + qat op i) ++ consRL op r (i + 1) uc
end
mutual
def termsRF : TermT → Int → List Int
 | .mk op n _ _ _ _ _ l, ut => if op = 1 ∧ n ≥ ut then [n - ut] else qdb op l 0 ut
def qdb (op : Int) : List TermT → Nat → Int → List Int
 | [], _, _ => []
 | x :: r, i, ut => termsRF x (ut + qam op i) ++ qdb op r (i + 1) ut
end
theorem freeL_zero : freeL zeroC = [] := by decide +kernel
theorem above_nil (u : Int) : qbd [] u = [] := rfl
theorem sortU_nil : qar [] = [] := rfl
mutual
theorem consRF_eq : ∀ (t : TermT) (uc : Int), wfT t = true → consRF t uc = consF t uc
 | .mk op n s con to k names l, uc, h => by
   rw [wfT, Bool.and_eq_true] at h
   obtain ⟨hn, hl⟩ := h
   obtain ⟨c1, c2, c3, c4⟩ := qbi hn
   rw [consRF, consF, consRL_eq op l 0 uc hl (fun e => by subst e; have := qde hn; omega)]
   congr 1
   ·by_cases e : qad op = true
    ·rw [if_pos e, qd3, if_pos (c1 e)]
    ·rw [if_neg e, c2 (by simpa using e), freeL_zero, sortU_nil, above_nil]
   ·congr 1
    by_cases e : op = 8
    ·rw [if_pos e, qd3, if_pos (c3 e)]
    ·rw [if_neg e, c4 e, freeL_zero, sortU_nil, above_nil]
theorem consRL_eq (op : Int) : ∀ (l : List TermT) (i : Nat) (uc : Int), wfL l = true → (op = 9 → i + l.length ≤ 2) → consRL op l i uc = consL op l i uc
 | [], i, uc, h, hi => by rw [consRL, consL]
 | x :: r, i, uc, h, hi => by
   rw [wfL, Bool.and_eq_true] at h
   have hi0 : op = 9 → i ≤ 1 := fun e => by have := hi e; rw [List.length_cons] at this; omega
   rw [consRL, consL, ins_cons hi0, consRF_eq x _ h.1, consRL_eq op r (i + 1) uc h.2 (fun e => by have := hi e; rw [List.length_cons] at this; omega)]
end
mutual
theorem termsRF_eq : ∀ (t : TermT) (ut : Int), wfT t = true → termsRF t ut = termsF t ut
 | .mk op n s con to k names l, ut, h => by
   rw [wfT, Bool.and_eq_true] at h
   obtain ⟨hn, hl⟩ := h
   rw [termsRF, termsF]
   by_cases h1 : op = 1
   ·obtain ⟨_, _, _, _, _, e6, _⟩ := qbh hn h1
    have := List.eq_nil_of_length_eq_zero e6
    subst this
    rw [if_pos h1, qd0, qdb, List.append_nil, qbd]
    simp only [List.filterMap_cons, List.filterMap_nil]
    by_cases h2 : n ≥ ut
    ·rw [if_pos ⟨h1, h2⟩, if_pos h2]
    ·rw [if_neg (fun e => h2 e.2), if_neg h2]
   ·rw [if_neg (fun e => h1 e.1), if_neg h1, List.nil_append, termsRL_eq op l 0 ut hl (fun e => by subst e; have := qde hn; omega)]
theorem termsRL_eq (op : Int) : ∀ (l : List TermT) (i : Nat) (ut : Int), wfL l = true → (op = 9 → i + l.length ≤ 2) → qdb op l i ut = qd0 op l i ut
 | [], i, ut, h, hi => by rw [qdb, qd0]
 | x :: r, i, ut, h, hi => by
   rw [wfL, Bool.and_eq_true] at h
   have hi0 : op = 9 → i ≤ 1 := fun e => by have := hi e; rw [List.length_cons] at this; omega
   rw [qdb, qd0, ins_terms hi0, termsRF_eq x _ h.1, termsRL_eq op r (i + 1) ut h.2 (fun e => by have := hi e; rw [List.length_cons] at this; omega)]
end
end Go.Abs.Kon
namespace Go.Abs.Kon
open Go Go.Proofs Go.Abs
open Go.Sort (putCells putRow grow)
set_option maxRecDepth 100000
set_option maxHeartbeats 4000000
abbrev ints (l : List Int) : List PV := l.map (PV.int .i64)
theorem rep_ints {I : Imm} : ∀ {zs : List Int} {vs : List Value}, RepL I (ints zs) vs → vs = zs.map (Value.int .i64)
 | [], vs, h => by rw [ints, List.map_nil, RepL] at h; simp [h]
 | z :: zs, vs, h => by
   rw [ints, List.map_cons, RepL] at h
   obtain ⟨v, rest, rfl, h2, h3⟩ := h
   rw [Rep] at h2
   rw [h2, rep_ints h3, List.map_cons]
theorem ints_rep {I : Imm} : ∀ zs : List Int, RepL I (ints zs) (zs.map (Value.int .i64))
 | [] => by rw [ints, List.map_nil, List.map_nil, RepL]
 | z :: zs => by
   rw [ints, List.map_cons, List.map_cons, RepL]
   exact ⟨_, _, rfl, by rw [Rep], ints_rep zs⟩
theorem flat_ints : ∀ zs : List Int, flC (zs.map (Value.int .i64)) = zs.map (Value.int .i64)
 | [] => rfl
 | z :: zs => by
   have ih := flat_ints zs
   simp only [flC, List.map_cons, List.flatMap_cons] at ih ⊢
   rw [ih]
   simp [Value.cells]
theorem holds_ints {w : World} {g : Nat} {cur : Array Value} {T : TypeId} {zs : List Int} (hb : w.heap[g]? = some (.cells cur T (0, 0))) (h : ∀ (j : Nat) (v : Value), (zs.map (Value.int .i64))[j]? = some v → cur[j]? = some v) :
  Go.Sort.Holds (Value.int .i64) w g 0 zs.toArray := by
 intro j hj
 have hj' : j < zs.length := by simpa using hj
 refine ⟨?_, by simp [World.frozen?, hb]⟩
 rw [Nat.zero_add, qbc hb, h j (.int .i64 zs[j]) (by simp [hj'])]
 simp [hj']
theorem row_sorted {w : World} {g n : Nat} {os : Array Obj} {cur : Array Value} {T : TypeId} (d : Array Int) (hb : w.heap[g]? = some (.cells cur T (0, 0))) :
  RowTo w (grow (putRow (Value.int .i64) (Go.Sort.ahead w n) g 0 d) os) g (putCells (Value.int .i64) 0 d cur) T := by
 have hg : g < w.heap.size := (Array.getElem?_eq_some_iff.1 hb).1
 refine ⟨?_, fun b hb' hne => ?_, ?_, rfl, rfl, rfl⟩
 ·rw [Go.Sort.heap_grow_old _ _ (by simpa using hg)]
  simp [putRow, Go.Sort.mapBlock, Go.Sort.ahead, Array.getElem?_modify, hb, Go.Sort.onCells]
 ·rw [Go.Sort.heap_grow_old _ _ (by simpa using hb')]
  have : g ≠ b := fun e => hne e.symm
  simp [putRow, Go.Sort.mapBlock, Go.Sort.ahead, Array.getElem?_modify, this]
 ·simp
theorem put_cells {cur : Array Value} {zs : List Int} (h : zs.length ≤ cur.size) : ∀ (j : Nat) (v : Value), (zs.map (Value.int .i64))[j]? = some v → (putCells (Value.int .i64) 0 zs.toArray cur)[j]? = some v := by
 intro j v hj
 have hj' : j < zs.length := by
  rcases Nat.lt_or_ge j zs.length with h1 | h1
  ·exact h1
  ·rw [List.getElem?_eq_none (by simpa using h1)] at hj; cases hj
 rw [← hj]
 simp [putCells, hj', show j < cur.size by omega]
theorem Sort_turn (zs : List Int) (hn : zs.length < 4611686018427387904) : Turn Tryz.prog 284 .one (ints zs) (fun t => .ex t .one (ints (zs.mergeSort fun x y => decide (x ≤ y)))) .any := by
 refine turn_ex (by kernel_rfl) (by simp) (fun e he => ?_) fun I w g cap cur T vs h1 h2 h3 h4 h5 h6 h7 => ?_
 ·obtain ⟨z, _, rfl⟩ := List.mem_map.1 he; rfl
 ·obtain rfl := rep_ints h1
  rw [flat_ints] at h7
  rw [ints, List.length_map] at h3 ⊢
  have hg : g < w.heap.size := (Array.getElem?_eq_some_iff.1 h5).1
  refine (show Calls Tryz.prog 284 _ _ _ from Any.slices_Sort_int Tryz.laysSort g 0 cap zs w (holds_ints h5 h7) hg hn).mono ?_
  rintro e w' ⟨rfl, n, os, rfl⟩
  refine ⟨_, (zs.mergeSort fun x y => decide (x ≤ y)).map (Value.int .i64), _, rfl, row_sorted _ h5, by simp [putCells], ints_rep _, fun x hx => ?_, ?_⟩
  ·obtain ⟨z, _, rfl⟩ := List.mem_map.1 hx; rfl
  ·rw [flat_ints]
   exact put_cells (by have : cur.size = cap * 1 := h6; simp; omega)
theorem compact_length (zs : List Int) : (Lib.compact zs).length ≤ zs.length := by
 unfold Lib.compact Lib.compactUpTo
 rw [List.length_map]
 refine Nat.le_trans (List.length_filter_le _ _) ?_
 simp
theorem Compact_turn (zs : List Int) (hn : zs.length ≤ 9223372036854775807) : Turn Tryz.prog 285 .one (ints zs) (fun _ => .any) (.pv (.slice (ints (Lib.compact zs)))) := by
 have hl := compact_length zs
 refine turn_imm (by kernel_rfl) (by simpa using hl) fun I w g cap cur T vs h1 h2 h3 h4 h5 h6 h7 => ?_
 obtain rfl := rep_ints h1
 rw [flat_ints] at h7
 rw [ints, List.length_map] at h3 ⊢
 refine (show Calls Tryz.prog 285 _ _ _ from Any.slices_Compact_int Tryz.laysComp g 0 cap zs w (holds_ints h5 h7) hn h3).mono ?_
 rintro e w' ⟨rfl, n, rfl⟩
 have hcs : cur.size = cap * 1 := h6
 have hR := row_sorted (n := n) (os := #[]) (Lib.compact zs ++ List.replicate (zs.length - (Lib.compact zs).length) 0).toArray h5
 rw [Go.Sort.grow_empty] at hR
 refine ⟨(Lib.compact zs).map (Value.int .i64), _, by rw [ints, List.length_map], hR, by simp [putCells], ints_rep _, fun x hx => ?_, ?_⟩
 ·obtain ⟨z, _, rfl⟩ := List.mem_map.1 hx; rfl
 ·rw [flat_ints]
  intro j v hj
  refine put_cells (zs := Lib.compact zs ++ List.replicate (zs.length - (Lib.compact zs).length) 0) (by simp; omega) j v ?_
  have hj' : j < (Lib.compact zs).length := by
   rcases Nat.lt_or_ge j (Lib.compact zs).length with h1 | h1
   ·exact h1
   ·rw [List.getElem?_eq_none (by simpa using h1)] at hj; cases hj
  rw [List.map_append, List.getElem?_append_left (by simpa using hj')]
  exact hj
/-! Nothing to sort -/
theorem Len64_0 : Spec Tryz.prog 183 [pp (.int .u64 0)] [] (.int .i64 (Lib.bitLen 0)) [] := by
 refine Spec.of_below (by kernel_rfl) fun G w vs hW hr => ?_
 simp only [RepSVs, pp, RepSV, RepSC, Rep] at hr
 obtain ⟨v, rest, h1, rfl, h3⟩ := hr
 subst h3
 obtain rfl := Array.toList_inj.1 (show vs.toList = (#[Value.int .u64 0] : Array Value).toList from h1)
 refine (Tryz.bits_Len64 0 w (by decide) (by decide)).mono ?_
 rintro e w' ⟨rfl, rfl⟩
 exact ⟨_, rfl, rfl, RowKit.Below.refl _ _⟩
theorem Len_0 : Spec Tryz.prog 113 [pp (.int .u64 0)] [] (.int .i64 (Lib.bitLen 0)) [] := by
 have hI := Len64_0
 refine wk (rv := [.tmp 2]) ann113 8 Tryz.func113 ?_
 simp only [go_sem]
 refine aC hI ?_
 simp only [go_sem]
theorem insertion_0 : Spec Tryz.prog 321 [pp (.slice []), ii 0, ii 0] [] (.tuple []) [] := by
 refine wk (rv := []) ann321 49 Tryz.func321 ?_
 have w1 : IntKind.i64.wrap (0 + 1) = 1 := by decide
 have t1 : decide ((1 : Int) < 0) = false := rfl
 simp only [go_sem, w1]
 refine ⟨1, ?_⟩
 rw [qao]
 simp only [go_sem, t1]
theorem pdq_0 (n : Int) : Spec Tryz.prog 306 [pp (.slice []), ii 0, ii 0, ii n] [] (.tuple []) [] := by
 have hI := insertion_0
 refine wk (rv := []) ann306 134 Tryz.func306 ?_
 have w1 : IntKind.i64.wrap (0 - 0) = 0 := by decide
 simp only [go_sem, w1]
 refine ⟨1, ?_⟩
 rw [qao]
 simp only [go_sem, w1]
 refine aC hI ?_
 simp only [go_sem]
theorem Sort_0 : Spec Tryz.prog 284 [pp (.slice [])] [] (.tuple []) [] := by
 have hI := Len_0
 have hP := pdq_0 (Lib.bitLen 0)
 refine wk (rv := []) ann284 11 Tryz.func284 ?_
 have n1 : ((0 : Nat) : Int) = 0 := rfl
 have w1 : IntKind.u64.wrap 0 = 0 := by decide
 simp only [go_sem, n1, w1, List.length_nil]
 refine aC hI ?_
 simp only [go_sem, n1, List.length_nil]
 refine aC hP ?_
 simp only [go_sem]
theorem Compact_0 : Spec Tryz.prog 285 [pp (.slice [])] [] (.slice []) [] := by
 refine wk (rv := [.tmp 2]) ann285 61 Tryz.func285 ?_
 have n1 : ((0 : Nat) : Int) = 0 := rfl
 have t1 : decide ((0 : Int) < 2) = true := rfl
 simp only [go_sem, n1, t1, List.length_nil]
/-! Free variables are collected -/
def annFree1 : Ann := ⟨[3], [1000020], [(2, []), (1, [2, 1, 3, 13]), (0, [2, 1, 3])], []⟩
@[go_sem] theorem annFree1_imm : annFree1.imm = [3] := rfl
@[go_sem] theorem annFree1_frz : annFree1.frz = [1000020] := rfl
@[go_sem] theorem annFree1_live : annFree1.live = [(2, []), (1, [2, 1, 3, 13]), (0, [2, 1, 3])] := rfl
@[go_sem] theorem annFree1_head : annFree1.head = [] := rfl
def freeB (t : Nat) : List Int → Box
 | [] => ⟨.one, .one .nilS⟩
 | x :: r => exB t .one (ints (x :: r))
theorem Free1_spec0 (op n : Int) (s : ByteArray) (k : List KindT) (names : List ByteArray) (cl : List ConT) (b : Int) (l : List Int) (h1 : 0 ≤ n) (h2 : n ≤ 20000) (h3 : 0 ≤ b) (h4 : b ≤ 100000000) (h5 : l.length ≤ 1000000000) :
  Spec Tryz.prog 283 [pp (encC (.mk op n s k names cl)), ii b, .one (.ptr (.ref 0) 0)] [freeB 0 l] (.tuple []) [freeB (if op = 1 ∧ n ≥ b then 40 else 0) (l ++ (if op = 1 ∧ n ≥ b then [n - b] else []))] := by
 have w1 : IntKind.i64.wrap (n - b) = n - b := wId (by omega) (by omega)
 have hbytes : (l.length + 1) * 8 ≤ 140737488355328 := by omega
 have hmx : l.length + 1 ≤ maxLen := by rw [mLe]; omega
 by_cases hc : op = 1 ∧ n ≥ b
 ·obtain ⟨rfl, hc⟩ := hc
  rw [if_pos ⟨rfl, hc⟩, if_pos ⟨rfl, hc⟩]
  cases l with
  | nil =>
    refine wk (rv := []) annFree1 21 Tryz.func283 ?_
    simp only [go_sem, eCm, freeB, w1, decide_eq_true hc, oneM, List.nil_append, ints, List.map_cons, List.map_nil, exB]
  | cons x r =>
    refine wk (rv := []) annFree1 21 Tryz.func283 ?_
    simp only [List.length_cons] at hbytes hmx
    simp only [go_sem, eCm, freeB, w1, decide_eq_true hc, List.cons_append, ints, List.map_cons, List.map_append, List.map_nil, exB, List.length_map, hbytes, hmx]
 ·rw [if_neg hc, if_neg hc, List.append_nil]
  cases l with
  | nil =>
    refine wk (rv := []) annFree1 21 Tryz.func283 ?_
    simp only [go_sem, eCm, freeB]
    refine gKi (fun hb => ?_) (fun hb => ?_)
    ·have e1 : op = 1 := eq_of_beq hb
     simp only [go_sem, decide_eq_false (fun e => hc ⟨e1, e⟩)]
    ·simp only [go_sem]
  | cons x r =>
    refine wk (rv := []) annFree1 21 Tryz.func283 ?_
    simp only [go_sem, eCm, freeB, exB]
    refine gKi (fun hb => ?_) (fun hb => ?_)
    ·have e1 : op = 1 := eq_of_beq hb
     simp only [go_sem, decide_eq_false (fun e => hc ⟨e1, e⟩)]
    ·simp only [go_sem]
theorem freeB_in {f : FuncId} {args : List SV} {r : PV} {refs' : List Box} (t : Nat) {l : List Int} (ha : args.flatMap svToks = []) (h : Spec Tryz.prog f args [freeB 0 l] r refs') : Spec Tryz.prog f args [freeB t l] r refs' := by
 cases l with
 | nil => exact h
 | cons x r => exact Spec.in_ex t (by decide) ha h
theorem freeB_out {f : FuncId} {args : List SV} {r : PV} {refs : List Box} (t t' : Nat) {l : List Int} (h : Spec Tryz.prog f args refs r [freeB t l]) : Spec Tryz.prog f args refs r [freeB t' l] := by
 cases l with
 | nil => exact h
 | cons x r => exact Spec.out_ex t' h
theorem pick_list (op n : Int) (s : ByteArray) (k : List KindT) (names : List ByteArray) (cl : List ConT) (b : Int) (ho : op = 1 ∨ op = 2) : qcv (.mk op n s k names cl) b = if op = 1 ∧ n ≥ b then [n - b] else [] := by
 rw [qcv, leaves, if_pos ho]
 rw [List.filterMap_cons, List.filterMap_nil, pickA_mk]
 by_cases h : op = 1 ∧ n ≥ b
 ·rw [if_pos h, if_pos h]
 ·rw [if_neg h, if_neg h]
theorem rfreeAL_len (l : List ConT) (b : Int) : (qbv l b).length ≤ wtL l := by
 rw [qbv]
 refine Nat.le_trans (List.length_filterMap_le _ _) ?_
 have h1 : (∀ c : ConT, ∀ b, (leaves c b).length ≤ wtF c) := by
  refine ConT.ind1 fun op n s k names l ih b => ?_
  have h2 : ∀ (l' : List ConT), (∀ x ∈ l', ∀ b, (leaves x b).length ≤ wtF x) → ∀ b, (leavesL l' b).length ≤ wtL l' := by
   intro l'
   induction l' with
   | nil => intro _ b; rw [leavesL]; simp
   | cons x r ihr =>
     intro h b
     rw [leavesL, wtL, List.length_append]
     have := h x (by simp) b
     have := ihr (fun y hy => h y (by simp [hy])) b
     omega
  rw [leaves, wtF]
  split
  ·rw [List.length_singleton]; omega
  ·have := h2 l ih (if qai op then b + 1 else b)
   omega
 induction l with
 | nil => rw [leavesL]; simp
 | cons x r ih =>
   rw [leavesL, wtL, List.length_append]
   have := h1 x b
   omega
theorem rfreeA_len (c : ConT) (b : Int) (h : formedF c = true) : (qcv c b).length ≤ wtF c := by
 obtain ⟨op, n, s, k, names, l⟩ := c
 by_cases h1 : op = 1 ∨ op = 2
 ·rw [pick_list op n s k names l b h1, wtF]
  split <;> simp
  omega
 ·rw [rfreeA_node h (fun e => h1 (.inl e)), wtF]
  have := rfreeAL_len l (qbs op b)
  omega
theorem each_free (c : ConT) : ∀ (binders : Int) (l : List Int), 0 ≤ binders → binders + depthF c ≤ 100000000 → formedF c = true → l.length + wtF c ≤ 1000000000 →
  Spec Tryz.prog 188 [pp (encC c), ii binders, .one (.fn 283 [.ptr (.ref 0) 0])] [freeB 0 l] (.tuple []) [freeB 0 (l ++ qcv c binders)] := by
 revert c
 refine ConT.ind1 fun op n s k names cl ih => ?_
 intro binders l h1 h2 h3 h4
 have hB := binder_spec (.mk op n s k names cl)
 have hn := qdj h3
 replace hn : 0 ≤ n ∧ n ≤ 20000 := hn
 simp only [ConT.op] at hB
 rw [eCm] at hB
 rw [depthF] at h2
 rw [wtF] at h4
 have w2 : IntKind.i64.wrap (binders + 1) = binders + 1 := wId (by omega) (by omega)
 by_cases ho : op = 1 ∨ op = 2
 ·have hl := qdi h3 ho
  subst hl
  have e2 : qai op = false := by simp [qai]; omega
  have hS := Free1_spec0 op n s k names [] binders l hn.1 hn.2 h1 (by omega) (by omega)
  rw [pick_list op n s k names [] binders ho]
  replace hS := freeB_out _ 0 hS
  generalize l ++ (if op = 1 ∧ n ≥ binders then [n - binders] else []) = l2 at hS ⊢
  refine freeB_out 38 0 ?_
  rw [e2] at hB
  rw [eCm] at hS
  have h12 : (op == 1) = true ∨ ((op == 1) = false ∧ (op == 2) = true) := by
   rcases ho with h | h <;> simp [h]
  cases l <;> cases l2 <;> (
   simp only [freeB, exB] at hS ⊢
   refine wf (rv := []) ann188 36 Tryz.func188 fun hfit => ?_
   clear hfit ih
   simp only [go_sem, eCm]
   rcases h12 with h12 | ⟨h12, h13⟩
   all_goals
    simp only [go_sem, h12]
    try simp only [go_sem, h13]
    refine aC hS ?_
    simp only [go_sem]
    refine aC hB ?_
    simp only [go_sem]
    refine ⟨1, ?_⟩
    rw [qao]
    simp only [go_sem, List.map_nil, List.length_nil, Int.natCast_zero, ltF (Int.le_refl _)])
 ·have hfm : formedL cl = true := by rw [formedF, Bool.and_eq_true] at h3; exact h3.2
  rw [formedL_all] at hfm
  have e1 : (op == 1) = false := by simp; omega
  have e3 : (op == 2) = false := by simp; omega
  rw [rfreeA_node h3 (fun e => ho (.inl e))]
  obtain ⟨bb, hbb⟩ : ∃ bb, qbs op binders = bb := ⟨_, rfl⟩
  have hbb0 : 0 ≤ bb := by rw [← hbb, qbs]; split <;> omega
  have hbb1 : bb + depthL cl ≤ 100000000 := by rw [← hbb, qbs]; split <;> omega
  rw [qbs] at hbb
  rw [show qbs op binders = bb from by rw [qbs]; exact hbb]
  have hlen : l.length + wtL cl ≤ 1000000000 := by omega
  have hwl := wtL_len cl
  cases hcl : cl with
  | nil =>
    subst hcl
    rw [show qbv [] bb = [] from by rw [qbv, leavesL]; rfl, List.append_nil]
    cases l <;> (
     simp only [freeB, exB]
     refine wk (rv := []) ann188 36 Tryz.func188 ?_
     simp only [go_sem, eCm, e1, e3]
     refine aC hB ?_
     simp only [go_sem]
     refine cKi (fun hc => ?_) (fun hc => ?_)
     all_goals
      simp only [go_sem, List.length_map]
      refine ⟨1, ?_⟩
      rw [qao]
      simp only [go_sem, List.map_nil, List.length_nil, Int.natCast_zero, ltF (Int.le_refl _)])
  | cons c0 cl0 =>
    rw [← hcl]
    have hne : cl ≠ [] := by rw [hcl]; simp
    clear hcl
    generalize hres : l ++ qbv cl bb = res
    refine freeB_out 68 0 ?_
    have hstart : ∃ b0, b0 = freeB 0 l := ⟨_, rfl⟩
    obtain ⟨b0, hb0⟩ := hstart
    have hb0' : (∃ x r, l = x :: r ∧ b0 = ⟨.one, .one (.ex 0 .one (ints (x :: r)))⟩) ∨ (l = [] ∧ b0 = ⟨.one, .one .nilS⟩) := by
     cases l with
     | nil => exact .inr ⟨rfl, hb0⟩
     | cons x r => exact .inl ⟨x, r, rfl, hb0⟩
    rw [← hb0]
    have step : ∀ (x : ConT), x ∈ cl → ∀ cur : List Int, cur.length + wtF x ≤ 1000000000 → Spec Tryz.prog 188 [pp (encC x), ii bb, .one (.fn 283 [.ptr (.ref 0) 0])] [freeB 0 cur] (.tuple []) [freeB 0 (cur ++ qcv x bb)] := by
     intro x hx cur hcur
     exact ih x hx bb cur hbb0 (by have := qdh hx; omega) (List.all_eq_true.1 hfm x hx) hcur
    rcases hb0' with ⟨x0, r0, hl, hb0'⟩ | ⟨hl, hb0'⟩
    all_goals
     rw [hb0']
     refine Spec.walk (rv := []) ann188 36 Tryz.func188 mixed rfl rfl (by kernel_rfl) rfl (by cases res <;> rfl) fun hfit => ?_
     clear hfit
     simp only [go_sem, eCm, e1, e3]
     refine aC hB ?_
     simp only [go_sem]
     refine cKi (fun hc => ?_) (fun hc => ?_)
     all_goals
      first
       | (have e : IntKind.i64.wrap (binders + 1) = bb := by rw [w2, ← hbb, hc]; rfl
          simp only [go_sem, e, List.length_map])
       | (have e : binders = bb := by rw [← hbb, hc]; rfl
          simp only [go_sem, e, List.length_map])
      refine aLl (α := ConT) (β := Nat × Bool × List Int) (fun rest b => ⟨[(27, ii b.1), (2, .one (.fn 283 [.ptr (.ref 0) 0])), (1, ii bb), (25, pp (.slice (cl.map encC))), (26, ii cl.length)], [(.ref 0, freeB (if b.2.1 = true then 68 else 0) b.2.2)], []⟩)
       (fun rest b => ∃ pre, cl = pre ++ rest ∧ b.1 = pre.length ∧ b.2.2.length + wtL rest ≤ 1000000000 ∧ (rest = [] → b.2.1 = true) ∧ b.2.2 ++ qbv rest bb = res) ?_ ?_ cl (0, false, l) _ ?_ ⟨[], rfl, rfl, hlen, fun e => absurd e hne, hres⟩
      ·rintro ⟨m, st, cur⟩ ⟨pre, g1, g2, g3, g4, g5⟩ K
       simp only [List.append_nil] at g1 g2 g4 g5
       have g4 := g4 trivial
       subst g1 g4
       rw [show qbv [] bb = [] from by rw [qbv, leavesL]; rfl, List.append_nil] at g5
       subst g5
       cases cur <;> simp only [go_sem, g2, ltF (Int.le_refl _), freeB, exB]
      ·rintro x rest ⟨m, st, cur⟩ ⟨pre, g1, g2, g3, g4, g5⟩ K hK
       simp only at g2 g3 g4 g5
       have hx : (cl.map encC)[m]? = some (encC x) := by simp [g1, g2]
       have hlt : (m : Int) < cl.length := by rw [g1, g2]; simp; omega
       have hll : m < cl.length := by rw [g1, g2]; simp
       have hm : x ∈ cl := by simp [g1]
       rw [wtL] at g3
       have hI := step x hm cur (by omega)
       have hln := rfreeA_len x bb (List.all_eq_true.1 hfm x hm)
       have w4 : IntKind.i64.wrap ((m : Int) + 1) = ((m + 1 : Nat) : Int) := by rw [wId (by omega) (by omega)]; simp
       rw [rfreeAL_cons, ← List.append_assoc] at g5
       have hK' := fun s' hs => hK (m + 1, true, cur ++ qcv x bb) s' hs ⟨pre ++ [x], by simp [g1], by simp [g2], by simp only [List.length_append]; omega, fun _ => rfl, g5⟩
       clear hK g5
       replace hI := freeB_in (if st = true then 68 else 0) rfl hI
       generalize cur ++ qcv x bb = cur2 at hI hK'
       cases st <;> cases cur <;> cases cur2 <;> (
        simp only [freeB, exB, Bool.false_eq_true, if_true, if_false, ints, List.map_cons] at hI hK' ⊢
        simp only [go_sem, decide_eq_true hlt, Int.toNat_natCast, Int.natCast_nonneg, hx, eCz]
        refine aC hI ?_
        simp only [go_sem, eCz, w4]
        refine hK' _ ?_
        simp only [go_sem])
      ·first
        | (subst hl; simp only [go_sem, Int.natCast_zero, freeB, exB, Bool.false_eq_true, if_false])
/-! tycon.Free -/
def annFree : Ann := ⟨[1], [2000005, 2000006], [(6, [2, 3]), (5, [4]), (4, [4]), (3, [4, 1]), (2, [2, 3]), (1, [1, 7]), (0, [1])], []⟩
@[go_sem] theorem annFree_imm : annFree.imm = [1] := rfl
@[go_sem] theorem annFree_frz : annFree.frz = [2000005, 2000006] := rfl
@[go_sem] theorem annFree_live : annFree.live = [(6, [2, 3]), (5, [4]), (4, [4]), (3, [4, 1]), (2, [2, 3]), (1, [1, 7]), (0, [1])] := rfl
@[go_sem] theorem annFree_head : annFree.head = [] := rfl
theorem tFree_spec (c : ConT) (h1 : wtF c ≤ 900000000) (h2 : okS c) : Spec Tryz.prog 242 [pp (encC c)] [] (.tuple [.slice (ints (qd3 c)), .int .i64 (if qac c = true then 0 else 1)]) [] := by
 have hsc := sizeF_wt c
 have hd := depthF_le c
 have hV := Valid_spec c (by omega) h2
 rw [qd3]
 cases hv : qac c with
 | false =>
   rw [hv] at hV
   refine wk (rv := [.tmp 2, .tmp 3]) annFree 15 Tryz.func242 ?_
   simp only [go_sem, eCz]
   refine aC hV ?_
   simp only [go_sem, ints, List.map_nil]
 | true =>
   have hf := qah hv
   have hd := (qdz hv).1
   have hE := each_free c 0 [] (by decide) (by omega) hf (by simp; omega)
   rw [hv] at hV
   rw [List.nil_append, rfreeA_0] at hE
   have hl : (freeL c).length ≤ 1000000000 := by rw [← rfreeA_0]; have := rfreeA_len c 0 hf; omega
   rw [if_pos rfl, if_pos rfl, ← compact_sortU]
   generalize freeL c = l at hE hl ⊢
   have hS := Sort_turn l (by omega)
   have hC := Compact_turn (l.mergeSort fun x y => decide (x ≤ y)) (by simp; omega)
   cases l with
   | nil =>
     simp only [freeB] at hE
     refine wk (rv := [.tmp 2, .tmp 3]) annFree 15 Tryz.func242 ?_
     simp only [go_sem, eCz]
     refine aC hV ?_
     simp only [go_sem, eCz]
     refine aC hE ?_
     simp only [go_sem]
     refine qc9 ?_
     simp only [go_sem]
     refine aC Sort_0 ?_
     simp only [go_sem]
     refine qc9 ?_
     simp only [go_sem]
     refine aC Compact_0 ?_
     simp only [go_sem]
     rw [show Lib.compact (List.mergeSort [] fun x y : Int => decide (x ≤ y)) = [] from by rw [compact_sortU]; rfl]
     simp only [ints, List.map_nil]
   | cons x r =>
     have hne : ∃ y q, (List.mergeSort (x :: r) fun x y => decide (x ≤ y)) = y :: q := by
      cases hq : (List.mergeSort (x :: r) fun x y => decide (x ≤ y)) with
      | nil => have := congrArg List.length hq; simp at this
      | cons y q => exact ⟨y, q, rfl⟩
     generalize (List.mergeSort (x :: r) fun x y => decide (x ≤ y)) = so at hS hC hne
     simp only [freeB, exB] at hE
     refine wk (rv := [.tmp 2, .tmp 3]) annFree 15 Tryz.func242 ?_
     simp only [go_sem, eCz]
     refine aC hV ?_
     simp only [go_sem, eCz]
     refine aC hE ?_
     simp only [go_sem]
     refine aFlipOr_load rfl ⟨rfl, rfl, rfl⟩ ⟨rfl, rfl, rfl⟩ (by simp only [go_sem]) rfl rfl hS ?_
     simp only [go_sem, AS.flip, flipT, flipB, flipSV, flipSC]
     refine aFlipOr_load rfl ⟨rfl, rfl, rfl⟩ ⟨rfl, rfl, rfl⟩ (by simp only [go_sem]) rfl rfl hC ?_
     simp only [go_sem, AS.flip, flipT, flipB, flipSV, flipSC]
end Go.Abs.Kon
namespace Go.Abs.Kon
open Go Go.Proofs Go.Abs Go.RowKit
open Go.ChangeMaps (setBlock)
set_option maxRecDepth 100000
set_option maxHeartbeats 4000000
theorem Spec.at_world {f : FuncId} {args : List SV} {r : PV} (h : Spec Tryz.prog f args [] r []) {G : Gh} {w : World} {vs : Array Value} (hW : WInv G w) (hr : RepSVs ⟨G.I, fun _ => none, fun _ => none, fun _ => 0⟩ [] args vs.toList) :
  Calls Tryz.prog f vs w fun e w' => ∃ v I', e = .returned v ∧ Rep I' r v ∧ Below w.heap.size w w' := by
 have hW0 : WInv ⟨G.I, fun _ => none, fun _ => none, fun _ => 0⟩ w :=
  ⟨hW.imm, fun _ _ _ h => (by cases h), fun _ _ h => (by cases h), fun _ _ h => (by cases h), fun _ _ h => (by cases h), fun _ _ _ _ _ h => (by cases h), fun _ _ _ _ h => (by cases h), fun g hg => ⟨(hW.glob g hg).1, fun _ h => (by cases h), fun _ _ h => (by cases h)⟩⟩
 refine (h.2.2 _ w vs hW0 (fun t ht => absurd rfl ht) (fun n hn => absurd rfl hn) (fun j bx hj => by simp at hj) hr).mono ?_
 rintro e w' ⟨v, G', rfl, h1, h2, h3, _⟩
 refine ⟨v, G'.I, rfl, h1, h3.os, h3.tape, h3.output, h3.size, fun b hb => h3.heap b hb (fun n hn => ?_) ?_⟩
 ·intro h4; cases h4
 ·rintro ⟨t, tk, _, h4, _⟩; cases h4
theorem pw_inj {α β : Type} (f : α → β) : ∀ (l : List α), l.Pairwise (fun a b => f a ≠ f b) → ∀ a ∈ l, ∀ b ∈ l, f a = f b → a = b
 | [], _, a, ha => by cases ha
 | z :: l, hp, a, ha => by
   intro b hb hab
   obtain ⟨p1, p2⟩ := List.pairwise_cons.1 hp
   rcases List.mem_cons.1 ha with e1 | ha
   ·rcases List.mem_cons.1 hb with e2 | hb
    ·rw [e1, e2]
    ·rw [e1] at hab
     exact absurd hab (p1 b hb)
   ·rcases List.mem_cons.1 hb with e2 | hb
    ·rw [e2] at hab
     exact absurd hab.symm (p1 a ha)
    ·exact pw_inj f l p2 a ha b hb hab
def Met (es : Array MapEntry) (seen : Array Nat) (ss : List Int) : Prop :=
 ss.Nodup ∧ (∀ x, x ∈ ss ↔ ∃ e ∈ es.toList, e.key = .int .i64 x ∧ seen.contains e.born = true) ∧ ss.length + (leftOf es seen).size ≤ es.size
theorem Met.start (es : Array MapEntry) : Met es #[] [] := by
 refine ⟨List.nodup_nil, fun x => by simp, ?_⟩
 unfold leftOf
 simp only [List.length_nil, Nat.zero_add]
 exact Array.size_filter_le
theorem Met.step {es : Array MapEntry} {seen : Array Nat} {ss : List Int} {clock : Nat} {ks : List Int} (h : Met es seen ss) (hok : MapOk es clock ks) {e : MapEntry} (he : e ∈ (leftOf es seen).toList) :
  ∃ x, e.key = .int .i64 x ∧ e.val = .bool true ∧ Met es (seen.push e.born) (ss ++ [x]) := by
 obtain ⟨h1, h2, h3⟩ := h
 obtain ⟨k1, k2, k3, k4⟩ := hok
 obtain ⟨g1, g2⟩ := mem_left he
 have hk : e.key ∈ es.toList.map (·.key) := List.mem_map.2 ⟨e, g1, rfl⟩
 rw [k1, List.mem_map] at hk
 obtain ⟨x, hx, hxe⟩ := hk
 have hkeys : (es.toList.map (·.key)).Nodup := by
  rw [k1]
  exact k2.map _ fun a b hab hne => hab (by cases hne; rfl)
 have huniq : ∀ a ∈ es.toList, a.key = e.key → a = e := by
  intro a ha hae
  exact pw_inj (·.key) _ (List.pairwise_map (f := fun x : MapEntry => x.key) |>.1 hkeys) a ha e g1 hae
 refine ⟨x, hxe.symm, (k3 e g1).1, ?_, fun y => ?_, ?_⟩
 ·refine List.nodup_append.2 ⟨h1, by simp, fun a ha b hb => ?_⟩
  simp only [List.mem_singleton] at hb
  subst hb
  rintro rfl
  obtain ⟨e', m1, m2, m3⟩ := (h2 a).1 ha
  have := huniq e' m1 (by rw [m2, hxe])
  rw [this, g2] at m3
  cases m3
 ·simp only [List.mem_append, List.mem_singleton, h2, contains_push, Bool.or_eq_true, beq_iff_eq]
  constructor
  ·rintro (⟨e', m1, m2, m3⟩ | rfl)
   ·exact ⟨e', m1, m2, .inl m3⟩
   ·exact ⟨e, g1, hxe.symm, .inr rfl⟩
  ·rintro ⟨e', m1, m2, m3 | m3⟩
   ·exact .inl ⟨e', m1, m2, m3⟩
   ·right
    have he' : e' = e := by
     exact pw_inj (·.born) _ (List.pairwise_map (f := fun x : MapEntry => x.born) |>.1 k4) e' m1 e g1 m3
    subst he'
    rw [← hxe] at m2
    cases m2
    rfl
 ·have := left_shrinks es seen e he
  rw [List.length_append, List.length_singleton]
  omega
theorem Met.done {es : Array MapEntry} {seen : Array Nat} {ss : List Int} {clock : Nat} {ks : List Int} (h : Met es seen ss) (hok : MapOk es clock ks) (h0 : (leftOf es seen).size = 0) : ∀ x, x ∈ ss ↔ x ∈ ks := by
 obtain ⟨h1, h2, h3⟩ := h
 obtain ⟨k1, k2, k3, k4⟩ := hok
 intro x
 have hall : ∀ e ∈ es.toList, seen.contains e.born = true := by
  intro e he
  cases hc : seen.contains e.born with
  | true => rfl
  | false =>
    exfalso
    have : e ∈ leftOf es seen := by
     unfold leftOf
     exact Array.mem_filter.2 ⟨Array.mem_toList_iff.1 he, by rw [hc]; rfl⟩
    have h4 := Array.size_pos_of_mem this
    omega
 rw [h2]
 have hk : x ∈ ks ↔ Value.int .i64 x ∈ es.toList.map (·.key) := by
  rw [k1, List.mem_map]
  constructor
  ·intro h; exact ⟨x, h, rfl⟩
  ·rintro ⟨y, hy, e⟩; cases e; exact hy
 rw [hk, List.mem_map]
 constructor
 ·rintro ⟨e, m1, m2, _⟩; exact ⟨e, m1, m2⟩
 ·rintro ⟨e, m1, m2⟩; exact ⟨e, m1, m2, hall e m1⟩
theorem infoI : (Tryz.prog.info? 3).map (fun i => (i.zero, i.size, i.bytes)) = some (some (.int .i64 0), 1, 8) := by kernel_rfl
theorem sorted_calls (ks : List Int) (hks : ks.length ≤ 1000000000) (bm : Nat) (es : Array MapEntry) (clock : Nat) (G : Gh) (w : World) (hW : WInv G w) (hb : w.heap[bm]? = some (.map es clock)) (hok : MapOk es clock ks) :
  Calls Tryz.prog 244 #[.map (some bm)] w fun e w' => ∃ v, e = .returned v ∧ Below w.heap.size w w' ∧
   ((qar ks = [] ∧ v = .slice none 0 0) ∨ ∃ g cap cur T, v = .slice (some ⟨g, 0, none⟩) (qar ks).length cap ∧ w.heap.size ≤ g ∧ w'.heap[g]? = some (.cells cur T (0, 0)) ∧ (qar ks).length ≤ cap ∧ cap ≤ maxLen ∧
     ∀ (j : Nat) (v : Value), ((qar ks).map (Value.int .i64))[j]? = some v → cur[j]? = some v) := by
 obtain ⟨i0, hi, hz0, hz1, hz2⟩ := info_parts infoI
 have hes : es.size = ks.length := by
  have := congrArg List.length hok.1
  simpa using this
 have hbl : bm < w.heap.size := (Array.getElem?_eq_some_iff.1 hb).1
 have hrg := run_range_map (P := Tryz.prog) w 218 3 4 bm es clock Tryz.underlying218 hb
 go_enter Tryz.func244, Tryz.ntmps244
 go_wp2
 go_loopw [3] (fun v wr => ∃ (seen : Array Nat) (c0 : Nat) (ss : List Int), wr.heap[w.heap.size]? = some (.mapIter (some bm) clock seen c0) ∧ clock ≤ c0 ∧ wr.heap[bm]? = some (.map es clock) ∧ Met es seen ss ∧
   wr.ownsRow (w.heap.size + 1) 3 1 v ss.length (ss.map (Value.int .i64)) ∧ Below w.heap.size w wr)
  (fun _ wr => (leftOf es (wr.iterSeen w.heap.size)).size)
 case atStart =>
  refine ⟨#[], clock, [], heap_alloc_new _ _, Nat.le_refl _, ?_, Met.start es, World.ownsRow_nil _ _ _ _, (Below.refl _ _).alloc (Nat.le_refl _) _⟩
  rw [heap_alloc_old w _ hbl]; exact hb
 case round =>
  obtain ⟨seen, c0, ss, hit, hsc, hbm, hmet, hown, hbe⟩ := hrel
  rcases run_next_at (P := Tryz.prog) wr 0 w.heap.size bm clock c0 seen es clock hit hbm (fun x hx => (hok.2.2.1 x hx).2) hsc with ⟨h0, hrun⟩ | ⟨e, he, w1, hw1, hrun⟩
  ·have hnx : ∀ ty, (Instr.next (.pointer (some ⟨w.heap.size, 0, none⟩)) false ty).run Tryz.prog wr = _ := fun _ => hrun
   have hall := hmet.done hok h0
   have hsu : (ss.mergeSort fun x y => decide (x ≤ y)) = qar ks := by rw [mergeSort_sortU hmet.1]; exact sortU_congr hall
   rcases hown.2 with ⟨rfl, hn0⟩ | ⟨g, cap, cur, rfl, hbase, hg, h1, h2, h3, h4⟩
   ·have hss : ss = [] := List.eq_nil_of_length_eq_zero hn0
    subst hss
    have hc := Spec.at_world Sort_0 (vs := #[.slice none 0 0]) (below_ext hW hbe (fun _ => False) (fun _ => False)).1 (by
     simp only [RepSVs, pp, RepSV, RepSC]
     refine ⟨_, _, rfl, ?_, rfl⟩
     rw [Rep]
     exact ⟨none, 0, 0, .one, rfl, rfl, Nat.le_refl _, Nat.zero_le _, .inl rfl⟩)
    clear hrg hit hbm hown
    go_wp2_with (go_at_call 284; refine hc.mono ?_; rintro e w' ⟨v', I', rfl, hv', hbe'⟩)
    go_ret
    refine ⟨_, rfl, hbe.trans ⟨hbe'.os, hbe'.tape, hbe'.output, hbe'.size, fun k hk => hbe'.block k (Nat.lt_of_lt_of_le hk hbe.size)⟩, .inl ⟨?_, rfl⟩⟩
    rw [← hsu]; simp
   ·have hH : Go.Sort.Holds (Value.int .i64) wr g 0 ss.toArray := holds_ints hg fun j v hj => by
     have hj' : j < ss.length := by
      rcases Nat.lt_or_ge j ss.length with h1 | h1
      ·exact h1
      ·rw [List.getElem?_eq_none (by simpa using h1)] at hj; cases hj
     rw [← h4, List.getElem?_take_of_lt (by omega), Array.getElem?_toList] at hj
     exact hj
    have hsl : ss.length ≤ 1000000000 := by have := hmet.2.2; omega
    have hc := Any.slices_Sort_int Tryz.laysSort g 0 cap ss wr hH (Array.getElem?_eq_some_iff.1 hg).1 (by omega)
    replace hc : Calls Tryz.prog 284 _ _ _ := hc
    have hlen : (qar ks).length = ss.length := by rw [← hsu]; simp
    clear hrg hit hbm
    go_wp2_with (go_at_call 284; refine hc.mono ?_; rintro e w' ⟨rfl, n, os, rfl⟩)
    go_ret
    have hR := row_sorted (n := n) (os := os) (qar ks).toArray hg
    refine ⟨_, rfl, hbe.trans ⟨hR.os, hR.tape, hR.output, hR.size, fun k hk => hR.old k (Nat.lt_of_lt_of_le hk hbe.size) (by omega)⟩, .inr ⟨g, cap, _, _, by rw [hlen]; rfl, by omega, hR.row, by omega, h2, ?_⟩⟩
    exact put_cells (by omega)
  ·obtain ⟨x, hkey, hval, hmet'⟩ := hmet.step hok he
   have hm1 := mem_left he
   have HI : Aside (wr.heap[w.heap.size]? = some (.mapIter (some bm) clock seen c0)) := hit
   have hr1 : w1.heap[w.heap.size]? = some (.mapIter (some bm) clock seen c0) := by rcases hw1 with rfl | rfl <;> exact hit
   have hset := Go.MapKept.heap_set (o' := Obj.mapIter (some bm) clock (seen.push e.born) clock) hr1
   obtain ⟨w2, hw2⟩ : ∃ w2, w2 = setBlock w1 w.heap.size (.mapIter (some bm) clock (seen.push e.born) clock) := ⟨_, rfl⟩
   have hsz1 : w1.heap.size = wr.heap.size := by rcases hw1 with rfl | rfl <;> rfl
   have hheap1 : w1.heap = wr.heap := by rcases hw1 with rfl | rfl <;> rfl
   have hsz2 : w2.heap.size = wr.heap.size := by rw [hw2, ← hsz1]; simp [setBlock]
   have hold2 : ∀ i, i ≠ w.heap.size → w2.heap[i]? = wr.heap[i]? := fun i hi => by rw [hw2, ← hheap1]; exact hset.2 i hi
   have hit2 : w2.heap[w.heap.size]? = some (.mapIter (some bm) clock (seen.push e.born) clock) := by rw [hw2]; exact hset.1
   have hbm2 : w2.heap[bm]? = some (.map es clock) := by rw [hold2 bm (by omega)]; exact hbm
   have hg2 : wr.grownBy w2 (some w.heap.size) := by
    refine ⟨?_, ?_, ?_, by omega, fun k hk hne => hold2 k (fun e => hne (by rw [e]))⟩ <;> rw [hw2] <;> rcases hw1 with rfl | rfl <;> rfl
   have hown2 := hown.kept hg2 (.inr (fun e => by have := (hown.lt _ e).1; omega))
   have hen := run_entry_at (P := Tryz.prog) w2 w.heap.size bm clock seen es clock e hit2 hbm2 hm1.1 hok.2.2.2
   rw [← hw2] at hrun
   rw [hkey, hval] at hrun hen
   have hnx : ∀ ty, (Instr.next (.pointer (some ⟨w.heap.size, 0, none⟩)) false ty).run Tryz.prog wr = _ := fun _ => hrun
   have hsl : ss.length + 1 ≤ 1000000000 := by have := hmet'.2.2; rw [List.length_append, List.length_singleton] at this; omega
   have hbase2 : w.heap.size + 1 ≤ w2.heap.size := by have := (Array.getElem?_eq_some_iff.1 hit2).1; omega
   have HZ : Aside (w2.heap.size = wr.heap.size) := hsz2
   clear hrg hit hbm hw2 hset hold2 hsz1 hheap1 hsz2
   go_wp2_with (first
    | (at_builtin; refine wpList_append_own _ rfl _ _ 140 rfl (w.heap.size + 1) 3 i0 (.int .i64 0) 1 8 Tryz.underlying140 hi hz0 hz1 hz2 rfl (by decide) _ _ _ rfl (hown2.alloc _) ⟨w2.heap.size, 0, none⟩ 1 1 [.int .i64 x] rfl rfl (cell_one_new _ _ _) (fun x hx => by simp at hx; subst hx; rfl) (by unfold maxLen; omega) (by omega) (by simp; omega) ?_; intro v' w3 hown' hgrow3 hnil3))
   have hsz2 := HZ.out
   have hk3 : ∀ i, i ≤ w.heap.size → w3.heap[i]? = w2.heap[i]? := fun i hi => by
    rw [hgrow3.block i (by simp; omega) (fun e => by have := (hown2.lt _ e.symm).1; omega), heap_alloc_old w2 _ (by omega)]
   have hit3 : w3.heap[w.heap.size]? = some (.mapIter (some bm) clock (seen.push e.born) clock) := by rw [hk3 _ (Nat.le_refl _)]; exact hit2
   have hbm3 : w3.heap[bm]? = some (.map es clock) := by rw [hk3 _ (by omega)]; exact hbm2
   have hlt := left_shrinks es seen e he
   have hbe3 : Below w.heap.size w w3 := ((hbe.grown hg2 hbe.size (fun j hj => by cases hj; exact Nat.le_refl _)).alloc (by have := hbe.size; omega) _).grown hgrow3 (by simp; have := hbe.size; omega) (fun j hj => by have := (hown2.lt j hj).1; omega)
   go_roundw
   case rel =>
    refine ⟨seen.push e.born, clock, ss ++ [x], hit3, Nat.le_refl _, hbm3, hmet', ?_, hbe3⟩
    rw [List.length_append, List.map_append]
    exact hown'
   case measure =>
    have m1 : w3.iterSeen w.heap.size = seen.push e.born := by simp [World.iterSeen, hit3]
    have m2 : wr.iterSeen w.heap.size = seen := by simp [World.iterSeen, HI.out]
    rw [m1, m2]
    exact hlt
theorem sorted_spec (ks : List Int) (hks : ks.length ≤ 1000000000) : Spec Tryz.prog 244 [.one (.mp (.ref 0))] [⟨.one, .one (.mpc ks)⟩] (.slice (ints (qar ks))) [⟨.one, .one (.mpc ks)⟩] := by
 refine ⟨by kernel_rfl, rfl, fun G w vs hW hev hbl hbx hr => ?_⟩
 obtain ⟨b, es, clock, h1, h2, h3⟩ := (hbx 0 _ rfl).map
 simp only [RepSVs, RepSV, RepSC] at hr
 obtain ⟨v, rest, g1, ⟨b', g2, rfl⟩, rfl⟩ := hr
 have hbb : b' = b := by rw [h1] at g2; cases g2; rfl
 subst hbb
 obtain rfl : vs = #[.map (some b')] := Array.toList_inj.1 g1
 refine (sorted_calls ks hks b' es clock G w hW h2 h3).mono ?_
 rintro e w' ⟨v, rfl, hB, hv⟩
 obtain ⟨hW1, hE⟩ := below_ext hW hB (fun n => isRef n 1) (fun _ => True)
 have hbl' : b' < w.heap.size := hW.lt _ _ h1
 rcases hv with ⟨e0, rfl⟩ | ⟨g, cap, cur, T, rfl, hg, hrow, hl1, hl2, hc⟩
 ·refine ⟨_, G, rfl, ?_, hW1, hE, fun j bx hj => ?_⟩
  ·rw [e0, ints, List.map_nil, Rep]
   exact ⟨none, 0, 0, .one, rfl, rfl, Nat.le_refl _, Nat.zero_le _, .inl rfl⟩
  ·cases j with
   | zero => simp at hj; subst hj; exact .inr (.inl ⟨b', ks, es, clock, h1, by rw [hB.block b' hbl']; exact h2, rfl, h3⟩)
   | succ j => simp at hj
 ·let G' : Gh := ⟨fun b o => if b = g then ((qar ks).map (Value.int .i64))[o]? else G.I b o, G.blk, G.tok, G.cap⟩
  have hI : G.I.le G'.I := by
   intro b o v hv
   show (if b = g then _ else _) = _
   rw [if_neg]
   ·exact hv
   ·intro e; have := winv_lt hW hv; omega
  refine ⟨_, G', rfl, ?_, ⟨fun b o v hv => ?_, hW1.inj, hW1.lt, fun n b hn o => ?_, fun t tk ht => ?_, hW1.tokInj, hW1.tokBlk, hW1.glob⟩, ⟨hI, fun b o v hv => ?_, hE.blk, hE.mono, hE.blkNew, hE.tok, hE.tokNew, hE.heap, hE.size, hE.os, hE.tape, hE.output, hE.cap⟩, fun j bx hj => ?_⟩
  ·have hR : RepE G'.I .one (ints (qar ks)) g 0 := RepE_of_flat (ints_rep _) (fun x hx => by obtain ⟨z, _, rfl⟩ := List.mem_map.1 hx; rfl) fun j x hj => by
    rw [flat_ints] at hj
    show (if g = g then ((qar ks).map (Value.int .i64))[0 + j]? else _) = _
    rw [if_pos rfl, Nat.zero_add]
    exact hj
   have := Rep_slice_mk (cap := cap) hR (by rw [ints, List.length_map]; exact hl1) hl2
   rw [ints, List.length_map] at this
   exact this
  ·have hv' : (if b = g then ((qar ks).map (Value.int .i64))[o]? else G.I b o) = some v := hv
   split at hv'
   ·rename_i e; subst e; rw [qbc hrow]; exact hc o v hv'
   ·exact hW1.imm b o v hv'
  ·show (if b = g then _ else _) = _
   rw [if_neg]
   ·exact hW1.blkImm n b hn o
   ·intro e; have := hW.lt n b hn; omega
  ·refine (hW1.tokOk t tk ht).keep fun g' hg' => ⟨rfl, fun o v hv => ?_⟩
   have hv' : (if g' = g then ((qar ks).map (Value.int .i64))[o]? else G.I g' o) = some v := hv
   rw [if_neg] at hv'
   ·exact hv'
   ·intro e; have := qd7 hW ht hg'; omega
  ·have hv' : (if b = g then ((qar ks).map (Value.int .i64))[o]? else G.I b o) = some v := hv
   split at hv'
   ·rename_i e; exact .inr (.inl (by omega))
   ·exact .inl hv'
  ·cases j with
   | zero => simp at hj; subst hj; exact .inr (.inl ⟨b', ks, es, clock, h1, by rw [hB.block b' hbl']; exact h2, rfl, h3⟩)
   | succ j => simp at hj
end Go.Abs.Kon
