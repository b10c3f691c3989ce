/- Plain laws of shifting and substituting; weights; what the laws call tiny. -/
import Derived.Test.YthbfnaaminlopaaGreatDoorVSubstsLaw
set_option linter.unusedSimpArgs false
set_option linter.unusedVariables false
namespace Go.Abs.Kon
open Go Go.Proofs Go.Abs
set_option maxRecDepth 100000
set_option maxHeartbeats 4000000

def isLeaf (x : ConT) : Prop := x.op = 1 ∨ x.op = 2
mutual
/-- Two ways of mapping twice. -/
theorem fuse {l1 l2 l3 l4 : ConT → Int → ConT} {b1 b2 b3 b4 : Int} (h : ∀ x t, 0 ≤ t → isLeaf x → mapF l2 (l1 x (b1 + t)) (b2 + t) = mapF l4 (l3 x (b3 + t)) (b4 + t)) :
    ∀ (c : ConT) (t : Int), 0 ≤ t → mapF l2 (mapF l1 c (b1 + t)) (b2 + t) = mapF l4 (mapF l3 c (b3 + t)) (b4 + t)
  | .mk op n s k names l, t, ht => by
    rw [mapF, mapF.eq_def l3]
    simp only
    by_cases ho : op = 1 ∨ op = 2
    · rw [if_pos ho, if_pos ho]
      exact h _ t ht ho
    · rw [if_neg ho, if_neg ho, mapF, mapF, if_neg ho, if_neg ho]
      congr 1
      by_cases hb : isBinder op = true
      · simp only [hb, if_true]
        have := fuseL h l (t + 1) (by omega)
        have e1 : b1 + t + 1 = b1 + (t + 1) := by omega
        have e2 : b2 + t + 1 = b2 + (t + 1) := by omega
        have e3 : b3 + t + 1 = b3 + (t + 1) := by omega
        have e4 : b4 + t + 1 = b4 + (t + 1) := by omega
        rw [e1, e2, e3, e4]; exact this
      · simp only [hb, if_false]
        exact fuseL h l t ht
theorem fuseL {l1 l2 l3 l4 : ConT → Int → ConT} {b1 b2 b3 b4 : Int} (h : ∀ x t, 0 ≤ t → isLeaf x → mapF l2 (l1 x (b1 + t)) (b2 + t) = mapF l4 (l3 x (b3 + t)) (b4 + t)) :
    ∀ (l : List ConT) (t : Int), 0 ≤ t → mapL l2 (mapL l1 l (b1 + t)) (b2 + t) = mapL l4 (mapL l3 l (b3 + t)) (b4 + t)
  | [], t, ht => by simp only [mapL]
  | x :: r, t, ht => by
    simp only [mapL]
    rw [fuse h x t ht, fuseL h r t ht]
end
mutual
theorem fuse1 {l1 l2 l3 : ConT → Int → ConT} {b1 b2 b3 : Int} (h : ∀ x t, 0 ≤ t → isLeaf x → mapF l2 (l1 x (b1 + t)) (b2 + t) = l3 x (b3 + t)) :
    ∀ (c : ConT) (t : Int), 0 ≤ t → mapF l2 (mapF l1 c (b1 + t)) (b2 + t) = mapF l3 c (b3 + t)
  | .mk op n s k names l, t, ht => by
    rw [mapF, mapF.eq_def l3]
    simp only
    by_cases ho : op = 1 ∨ op = 2
    · rw [if_pos ho, if_pos ho]
      exact h _ t ht ho
    · rw [if_neg ho, if_neg ho, mapF, if_neg ho]
      congr 1
      by_cases hb : isBinder op = true
      · simp only [hb, if_true]
        have := fuse1L h l (t + 1) (by omega)
        have e1 : b1 + t + 1 = b1 + (t + 1) := by omega
        have e2 : b2 + t + 1 = b2 + (t + 1) := by omega
        have e3 : b3 + t + 1 = b3 + (t + 1) := by omega
        rw [e1, e2, e3]; exact this
      · simp only [hb, if_false]
        exact fuse1L h l t ht
theorem fuse1L {l1 l2 l3 : ConT → Int → ConT} {b1 b2 b3 : Int} (h : ∀ x t, 0 ≤ t → isLeaf x → mapF l2 (l1 x (b1 + t)) (b2 + t) = l3 x (b3 + t)) :
    ∀ (l : List ConT) (t : Int), 0 ≤ t → mapL l2 (mapL l1 l (b1 + t)) (b2 + t) = mapL l3 l (b3 + t)
  | [], t, ht => by simp only [mapL]
  | x :: r, t, ht => by
    simp only [mapL]
    rw [fuse1 h x t ht, fuse1L h r t ht]
end
mutual
theorem map_congr {l1 l2 : ConT → Int → ConT} : ∀ (c : ConT) (b1 b2 : Int), (∀ x t, 0 ≤ t → isLeaf x → l1 x (b1 + t) = l2 x (b2 + t)) → mapF l1 c b1 = mapF l2 c b2
  | .mk op n s k names l, b1, b2, h => by
    rw [mapF, mapF]
    by_cases ho : op = 1 ∨ op = 2
    · rw [if_pos ho, if_pos ho]
      have := h (.mk op n s k names l) 0 (by decide) ho
      rw [Int.add_zero, Int.add_zero] at this
      exact this
    · rw [if_neg ho, if_neg ho]
      congr 1
      split
      · exact map_congrL l _ _ fun x t ht hx => by
          have := h x (t + 1) (by omega) hx
          have e1 : b1 + (t + 1) = b1 + 1 + t := by omega
          have e2 : b2 + (t + 1) = b2 + 1 + t := by omega
          rw [e1, e2] at this; exact this
      · exact map_congrL l _ _ h
theorem map_congrL {l1 l2 : ConT → Int → ConT} : ∀ (l : List ConT) (b1 b2 : Int), (∀ x t, 0 ≤ t → isLeaf x → l1 x (b1 + t) = l2 x (b2 + t)) → mapL l1 l b1 = mapL l2 l b2
  | [], b1, b2, h => by rw [mapL, mapL]
  | x :: r, b1, b2, h => by rw [mapL, mapL, map_congr x b1 b2 h, map_congrL r b1 b2 h]
end
mutual
/-- A map that leaves the leaves of a well-formed constructor. -/
theorem map_id {l1 : ConT → Int → ConT} (h : ∀ x b, isLeaf x → formedF x = true → l1 x b = x) : ∀ (c : ConT) (b : Int), formedF c = true → mapF l1 c b = c
  | .mk op n s k names l, b, hf => by
    rw [mapF]
    by_cases ho : op = 1 ∨ op = 2
    · rw [if_pos ho]
      exact h (.mk op n s k names l) _ ho hf
    · rw [if_neg ho, map_idL h l _ (by rw [formedF, Bool.and_eq_true] at hf; exact hf.2)]
theorem map_idL {l1 : ConT → Int → ConT} (h : ∀ x b, isLeaf x → formedF x = true → l1 x b = x) : ∀ (l : List ConT) (b : Int), formedL l = true → mapL l1 l b = l
  | [], b, hf => by rw [mapL]
  | x :: r, b, hf => by
    rw [formedL, Bool.and_eq_true] at hf
    rw [mapL, map_id h x b hf.1, map_idL h r b hf.2]
end
theorem leafC_formed {x : ConT} (hx : isLeaf x) (hf : formedF x = true) : leafC x = x := by
  obtain ⟨op, n, s, k, names, l⟩ := x
  exact leafC_self hf hx
theorem bytes_empty {s : ByteArray} (h : (bytesOf s).isEmpty = true) : s = ByteArray.empty := by
  rw [bytesOf, List.isEmpty_iff] at h
  cases s with
  | mk d =>
    cases d with
    | mk l => simp at h; subst h; rfl
theorem var_formed {x : ConT} (hx : x.op = 1) (hf : formedF x = true) : varC x.n = x := by
  obtain ⟨op, n, s, k, names, l⟩ := x
  have ho : op = 1 := hx
  have h1 := leaf_names hf (.inl ho)
  have h2 := leaf_nil hf (.inl ho)
  subst h1 h2 ho
  rw [formedF, nodeF] at hf
  simp only [Bool.and_eq_true] at hf
  obtain ⟨⟨_, _, hs, hk, _⟩, _⟩ := hf
  have e1 : isBinder 1 = false := rfl
  rw [e1] at hk
  simp at hs hk
  have : s = ByteArray.empty := bytes_empty (by rw [List.isEmpty_iff]; exact hs)
  subst this hk
  rfl

/-! Leaves that are mapped again -/

theorem mapF_varC (l1 : ConT → Int → ConT) (n b : Int) : mapF l1 (varC n) b = l1 (varC n) b := by rw [varC, mapF, if_pos (.inl rfl)]
theorem mapF_leafC (l1 : ConT → Int → ConT) {x : ConT} (hx : isLeaf x) (b : Int) : mapF l1 (leafC x) b = l1 (leafC x) b := by
  show mapF l1 (.mk x.op x.n x.s x.k [] []) b = _
  rw [mapF]
  exact if_pos hx
theorem leafC_op (x : ConT) : (leafC x).op = x.op := rfl
theorem leafC_n (x : ConT) : (leafC x).n = x.n := rfl
theorem leafC_leafC (x : ConT) : leafC (leafC x) = leafC x := rfl
theorem varC_op (n : Int) : (varC n).op = 1 := rfl
theorem varC_n (n : Int) : (varC n).n = n := rfl
theorem leafC_varC (n : Int) : leafC (varC n) = varC n := rfl

/-- A leaf, shifted. -/
theorem shift_hi {n f b : Int} {x : ConT} (h1 : x.op = 1) (h2 : x.n - b ≥ f) : shiftLeaf n f x b = varC (x.n + n) := by rw [shiftLeaf, if_pos ⟨h1, h2⟩]
theorem shift_lo {n f b : Int} {x : ConT} (h : ¬ (x.op = 1 ∧ x.n - b ≥ f)) : shiftLeaf n f x b = leafC x := by rw [shiftLeaf, if_neg h]

/-- Two shifts are one. -/
theorem shift_shift (n m f : Int) (h : 0 ≤ n) (c : ConT) (b : Int) (hb : 0 ≤ b) : mapF (shiftLeaf m f) (mapF (shiftLeaf n f) c b) b = mapF (shiftLeaf (n + m) f) c b := by
  have := fuse1 (l1 := shiftLeaf n f) (l2 := shiftLeaf m f) (l3 := shiftLeaf (n + m) f) (b1 := 0) (b2 := 0) (b3 := 0) (fun x t ht hx => by
    rw [Int.zero_add]
    by_cases h1 : x.op = 1 ∧ x.n - t ≥ f
    · rw [shift_hi h1.1 h1.2, mapF_varC, shift_hi (varC_op _) (by rw [varC_n]; omega), shift_hi h1.1 h1.2, varC_n, Int.add_assoc]
    · rw [shift_lo h1, mapF_leafC _ hx, shift_lo h1, shift_lo (by rw [leafC_op, leafC_n]; exact h1), leafC_leafC]) c b hb
  simpa only [Int.zero_add] using this
/-- There and back. -/
theorem shift_back (n f : Int) (h : 0 ≤ n) (c : ConT) (hf : formedF c = true) : mapF (shiftLeaf (-n) f) (mapF (shiftLeaf n f) c 0) 0 = c := by
  rw [shift_shift n (-n) f h c 0 (Int.le_refl _)]
  refine map_id (fun x b hx hfx => ?_) c 0 hf
  by_cases h1 : x.op = 1 ∧ x.n - b ≥ f
  · rw [shift_hi h1.1 h1.2, Int.add_right_neg, Int.add_zero]
    exact var_formed h1.1 hfx
  · rw [shift_lo h1]
    exact leafC_formed hx hfx

/-- Substituting, without a limit. -/
def substM (us : List ConT) (c : ConT) (b : Int) : ConT :=
  if c.op ≠ 1 ∨ c.n - b < 0 then leafC c else
  if c.n - b ≥ us.length then varC (c.n - us.length) else
  mapF (shiftLeaf b 0) (us.getD (c.n - b).toNat zeroC) 0
theorem substM_eq (us : List ConT) (h : us.all validF = true) (c : ConT) (b : Int) : mapF (substLeaf us) c b = mapF (substM us) c b := by
  refine map_congr c b b fun x t _ _ => ?_
  rw [substLeaf, substM]
  split
  · rfl
  · split
    · rfl
    · rename_i h1 h2
      have hlt : (x.n - (b + t)).toNat < us.length := by omega
      rw [List.getD_eq_getElem?_getD, List.getElem?_eq_getElem hlt, Option.getD_some]
      have hv := List.all_eq_true.1 h _ (List.getElem_mem hlt)
      rw [put_eq hv]
      exact (shift_eq _ 0 _ 0 0 (validF_formed hv) rfl).symm
theorem sub_lo {us : List ConT} {x : ConT} {b : Int} (h : x.op ≠ 1 ∨ x.n - b < 0) : substM us x b = leafC x := by rw [substM, if_pos h]
theorem sub_hi {us : List ConT} {x : ConT} {b m : Int} (ho : x.op = 1) (h0 : 0 ≤ x.n - b) (h : x.n - b ≥ us.length) (hm : x.n - us.length = m) : substM us x b = varC m := by
  rw [substM, if_neg (by omega), if_pos h, hm]
theorem sub_in {us : List ConT} {x : ConT} {b m : Int} (ho : x.op = 1) (hm : x.n - b = m) (h0 : 0 ≤ m) (h : m < us.length) : substM us x b = mapF (shiftLeaf b 0) (us.getD m.toNat zeroC) 0 := by
  rw [substM, if_neg (by omega), if_neg (by omega), hm]
theorem one_len (y : ConT) : (([y] : List ConT).length : Int) = 1 := rfl
/-- What was shifted is given back. -/
theorem subst_shift (a : ConT) (c : ConT) (hf : formedF c = true) : mapF (substM [a]) (mapF (shiftLeaf 1 0) c 0) 0 = c := by
  have := fuse1 (l1 := shiftLeaf 1 0) (l2 := substM [a]) (l3 := shiftLeaf 0 0) (b1 := 0) (b2 := 0) (b3 := 0) (fun x t ht hx => by
    rw [Int.zero_add]
    by_cases h1 : x.op = 1 ∧ x.n - t ≥ 0
    · rw [shift_hi h1.1 h1.2, mapF_varC, shift_hi h1.1 h1.2, sub_hi (m := x.n + 0) (varC_op _) (by rw [varC_n]; omega) (by rw [varC_n, one_len]; omega) (by rw [varC_n, one_len]; omega)]
    · rw [shift_lo h1, mapF_leafC _ hx, shift_lo h1, sub_lo (by rw [leafC_op, leafC_n]; by_cases ho : x.op = 1 <;> omega), leafC_leafC]) c 0 (Int.le_refl _)
  simp only [Int.zero_add] at this
  rw [this]
  refine map_id (fun x b hx hfx => ?_) c 0 hf
  by_cases h1 : x.op = 1 ∧ x.n - b ≥ 0
  · rw [shift_hi h1.1 h1.2, Int.add_zero]
    exact var_formed h1.1 hfx
  · rw [shift_lo h1]
    exact leafC_formed hx hfx

/-! Substitutions commute -/

theorem shift_base (n f : Int) (c : ConT) (t : Int) : mapF (shiftLeaf n f) c t = mapF (shiftLeaf n (f + t)) c 0 := by
  refine map_congr c t 0 fun x u hu hx => ?_
  by_cases h1 : x.op = 1 ∧ x.n - (t + u) ≥ f
  · rw [shift_hi h1.1 h1.2, shift_hi h1.1 (by omega)]
  · rw [shift_lo h1, shift_lo (fun e => h1 ⟨e.1, by omega⟩)]
/-- Shifted by e, then from e on by d. -/
theorem shift_over (d e : Int) (he : 0 ≤ e) (c : ConT) : mapF (shiftLeaf d e) (mapF (shiftLeaf e 0) c 0) 0 = mapF (shiftLeaf (d + e) 0) c 0 := by
  have := fuse1 (l1 := shiftLeaf e 0) (l2 := shiftLeaf d e) (l3 := shiftLeaf (d + e) 0) (b1 := 0) (b2 := 0) (b3 := 0) (fun x t ht hx => by
    rw [Int.zero_add]
    by_cases h1 : x.op = 1 ∧ x.n - t ≥ 0
    · rw [shift_hi h1.1 h1.2, mapF_varC, shift_hi (varC_op _) (by rw [varC_n]; omega), shift_hi h1.1 h1.2, varC_n]
      congr 1; omega
    · rw [shift_lo h1, mapF_leafC _ hx, shift_lo h1, shift_lo (by rw [leafC_op, leafC_n]; omega), leafC_leafC]) c 0 (Int.le_refl _)
  simpa only [Int.zero_add] using this
/-- Under d binders: substituting into what was shifted over them. -/
theorem subst_under (us : List ConT) (d : Int) (hd : 0 ≤ d) (a : ConT) : mapF (substM us) (mapF (shiftLeaf d 0) a 0) d = mapF (shiftLeaf d 0) (mapF (substM us) a 0) 0 := by
  have := fuse (l1 := shiftLeaf d 0) (l2 := substM us) (l3 := substM us) (l4 := shiftLeaf d 0) (b1 := 0) (b2 := d) (b3 := 0) (b4 := 0) (fun x t ht hx => by
    simp only [Int.zero_add]
    by_cases h1 : x.op = 1 ∧ x.n - t ≥ 0
    · rw [shift_hi h1.1 h1.2, mapF_varC]
      by_cases h2 : x.n - t ≥ us.length
      · rw [sub_hi (m := x.n - us.length + d) (varC_op _) (by rw [varC_n]; omega) (by rw [varC_n]; omega) (by rw [varC_n]; omega), sub_hi (m := x.n - us.length) h1.1 (by omega) h2 rfl, mapF_varC, shift_hi (varC_op _) (by rw [varC_n]; omega), varC_n]
      · rw [sub_in (m := x.n - t) (varC_op _) (by rw [varC_n]; omega) (by omega) (by omega), sub_in (m := x.n - t) h1.1 rfl (by omega) (by omega)]
        generalize us.getD (x.n - t).toNat zeroC = u
        have h3 := shift_base d 0 (mapF (shiftLeaf t 0) u 0) t
        rw [h3, Int.zero_add, shift_over d t ht]
    · have h2 : x.op ≠ 1 ∨ x.n - t < 0 := by by_cases ho : x.op = 1 <;> omega
      have h3 : x.op ≠ 1 ∨ x.n - (d + t) < 0 := by by_cases ho : x.op = 1 <;> omega
      rw [shift_lo h1, mapF_leafC _ hx, sub_lo h2, sub_lo (x := leafC x) h3, mapF_leafC _ hx, shift_lo (x := leafC x) h1]) a 0 (Int.le_refl _)
  simpa only [Int.zero_add, Int.add_zero] using this
/-- A term that was shifted over one binder more does not know what is put in there. -/
theorem subst_skip (y : ConT) (d : Int) (hd : 0 ≤ d) (u : ConT) : mapF (substM [y]) (mapF (shiftLeaf (d + 1) 0) u 0) d = mapF (shiftLeaf d 0) u 0 := by
  have := fuse1 (l1 := shiftLeaf (d + 1) 0) (l2 := substM [y]) (l3 := shiftLeaf d 0) (b1 := 0) (b2 := d) (b3 := 0) (fun x t ht hx => by
    simp only [Int.zero_add]
    by_cases h1 : x.op = 1 ∧ x.n - t ≥ 0
    · rw [shift_hi h1.1 h1.2, mapF_varC, shift_hi h1.1 h1.2, sub_hi (m := x.n + d) (varC_op _) (by rw [varC_n]; omega) (by rw [varC_n, one_len]; omega) (by rw [varC_n, one_len]; omega)]
    · rw [shift_lo h1, mapF_leafC _ hx, shift_lo h1, sub_lo (by rw [leafC_op, leafC_n]; by_cases ho : x.op = 1 <;> omega), leafC_leafC]) u 0 (Int.le_refl _)
  simpa only [Int.zero_add, Int.add_zero] using this
theorem subst_subst (us : List ConT) (a c : ConT) : mapF (substM us) (mapF (substM [a]) c 0) 0 = mapF (substM [mapF (substM us) a 0]) (mapF (substM us) c 1) 0 := by
  have := fuse (l1 := substM [a]) (l2 := substM us) (l3 := substM us) (l4 := substM [mapF (substM us) a 0]) (b1 := 0) (b2 := 0) (b3 := 1) (b4 := 0) (fun x t ht hx => by
    simp only [Int.zero_add]
    by_cases h1 : x.op ≠ 1 ∨ x.n - t < 0
    · have h2 : x.op ≠ 1 ∨ x.n - (1 + t) < 0 := by by_cases ho : x.op = 1 <;> omega
      rw [sub_lo h1, sub_lo h2, mapF_leafC _ hx, mapF_leafC _ hx, sub_lo (x := leafC x) h1, sub_lo (x := leafC x) h1]
    · have ho : x.op = 1 := by by_cases ho : x.op = 1 <;> omega
      by_cases h3 : x.n - t = 0
      · have h2 : x.op ≠ 1 ∨ x.n - (1 + t) < 0 := by omega
        rw [sub_in (us := [a]) (m := 0) ho h3 (by decide) (by rw [one_len]; decide), sub_lo h2, mapF_leafC _ hx, sub_in (x := leafC x) (m := 0) ho h3 (by decide) (by rw [one_len]; decide)]
        exact subst_under us t ht a
      · rw [sub_hi (us := [a]) (m := x.n - 1) ho (by omega) (by rw [one_len]; omega) (by rw [one_len]), mapF_varC]
        by_cases h4 : x.n - (1 + t) ≥ us.length
        · rw [sub_hi (m := x.n - 1 - us.length) (varC_op _) (by rw [varC_n]; omega) (by rw [varC_n]; omega) (by rw [varC_n]), sub_hi (m := x.n - us.length) ho (by omega) h4 rfl, mapF_varC,
            sub_hi (m := x.n - 1 - us.length) (varC_op _) (by rw [varC_n]; omega) (by rw [varC_n, one_len]; omega) (by rw [varC_n, one_len]; omega)]
        · rw [sub_in (m := x.n - (1 + t)) (varC_op _) (by rw [varC_n]; omega) (by omega) (by omega), sub_in (m := x.n - (1 + t)) ho rfl (by omega) (by omega)]
          have e2 : 1 + t = t + 1 := by omega
          rw [e2]
          exact (subst_skip _ t ht _).symm) c 0 (Int.le_refl _)
  simpa only [Int.zero_add, Int.add_zero] using this
end Go.Abs.Kon

namespace Go.Abs.Kon
open Go Go.Proofs Go.Abs
set_option maxRecDepth 100000
set_option maxHeartbeats 4000000

mutual
theorem wt_le (leaf : ConT → Int → ConT) : ∀ (c : ConT) (b : Int), (∀ x b', (x, b') ∈ leaves c b → wtF (leaf x b') ≤ wtF x) → wtF (mapF leaf c b) ≤ wtF c
  | .mk op n s k names l, b, h => by
    rw [mapF]
    split
    · rename_i ho
      exact h _ _ (by rw [leaves, if_pos ho]; simp)
    · rename_i ho
      have := wt_leL leaf l (if isBinder op then b + 1 else b) fun x b' hx => h x b' (by rw [leaves, if_neg ho]; exact hx)
      rw [wtF, wtF]; omega
theorem wt_leL (leaf : ConT → Int → ConT) : ∀ (l : List ConT) (b : Int), (∀ x b', (x, b') ∈ leavesL l b → wtF (leaf x b') ≤ wtF x) → wtL (mapL leaf l b) ≤ wtL l
  | [], b, h => by rw [mapL]; exact Nat.le_refl _
  | x :: r, b, h => by
    have h1 := wt_le leaf x b fun y b' hy => h y b' (by rw [leavesL]; exact List.mem_append_left _ hy)
    have h2 := wt_leL leaf r b fun y b' hy => h y b' (by rw [leavesL]; exact List.mem_append_right _ hy)
    rw [mapL, wtL, wtL]; omega
end
mutual
theorem wt_mul (leaf : ConT → Int → ConT) (M : Nat) (hM : 1 ≤ M) : ∀ (c : ConT) (b : Int), (∀ x b', (x, b') ∈ leaves c b → wtF (leaf x b') ≤ M) → wtF (mapF leaf c b) ≤ wtF c * M
  | .mk op n s k names l, b, h => by
    rw [mapF]
    split
    · rename_i ho
      have h1 := h (.mk op n s k names l) b (by rw [leaves, if_pos ho]; simp)
      have h2 : 1 ≤ wtF (.mk op n s k names l) := by rw [wtF]; omega
      exact Nat.le_trans h1 (Nat.le_mul_of_pos_left M h2)
    · rename_i ho
      have h1 := wt_mulL leaf M hM l (if isBinder op then b + 1 else b) fun x b' hx => h x b' (by rw [leaves, if_neg ho]; exact hx)
      rw [wtF, wtF, Nat.add_mul]
      have h2 : 1 + knL k + names.length ≤ (1 + knL k + names.length) * M := Nat.le_mul_of_pos_right _ hM
      omega
theorem wt_mulL (leaf : ConT → Int → ConT) (M : Nat) (hM : 1 ≤ M) : ∀ (l : List ConT) (b : Int), (∀ x b', (x, b') ∈ leavesL l b → wtF (leaf x b') ≤ M) → wtL (mapL leaf l b) ≤ wtL l * M
  | [], b, h => by rw [mapL, wtL]; omega
  | x :: r, b, h => by
    have h1 := wt_mul leaf M hM x b fun y b' hy => h y b' (by rw [leavesL]; exact List.mem_append_left _ hy)
    have h2 := wt_mulL leaf M hM r b fun y b' hy => h y b' (by rw [leavesL]; exact List.mem_append_right _ hy)
    rw [mapL, wtL, wtL, Nat.add_mul]; omega
end
theorem wt_leafC (x : ConT) : wtF (leafC x) ≤ wtF x := by
  obtain ⟨op, n, s, k, names, l⟩ := x
  rw [leafC, wtF, wtF]
  simp only [ConT.k, List.length_nil, wtL]; omega
theorem wt_varC (n : Int) : wtF (varC n) = 1 := rfl
theorem wt_pos (c : ConT) : 1 ≤ wtF c := by cases c; rw [wtF]; omega
theorem wt_shiftLeaf (n f : Int) (x : ConT) (b : Int) : wtF (shiftLeaf n f x b) ≤ wtF x := by
  rw [shiftLeaf]
  split
  · rw [wt_varC]; exact wt_pos x
  · exact wt_leafC x
theorem wt_shift (n f : Int) (c : ConT) (b : Int) : wtF (mapF (shiftLeaf n f) c b) ≤ wtF c := wt_le _ c b fun x b' _ => wt_shiftLeaf n f x b'

mutual
theorem leaves_map (leaf : ConT → Int → ConT) (hl : ∀ x b, isLeaf x → isLeaf (leaf x b)) : ∀ (c : ConT) (b : Int) (y : ConT) (b' : Int), (y, b') ∈ leaves (mapF leaf c b) b → ∃ x, (x, b') ∈ leaves c b ∧ y = leaf x b'
  | .mk op n s k names l, b, y, b', h => by
    rw [mapF] at h
    by_cases ho : op = 1 ∨ op = 2
    · rw [if_pos ho] at h
      have h1 := hl (.mk op n s k names l) b ho
      generalize hz : leaf (.mk op n s k names l) b = z at h h1
      obtain ⟨op', n', s', k', names', l'⟩ := z
      have h1' : op' = 1 ∨ op' = 2 := h1
      rw [leaves, if_pos h1'] at h
      simp only [List.mem_singleton, Prod.mk.injEq] at h
      obtain ⟨rfl, rfl⟩ := h
      exact ⟨.mk op n s k names l, by rw [leaves, if_pos ho]; simp, hz.symm⟩
    · rw [if_neg ho, leaves, if_neg ho] at h
      obtain ⟨x, h1, h2⟩ := leaves_mapL leaf hl l _ y b' h
      exact ⟨x, by rw [leaves, if_neg ho]; exact h1, h2⟩
theorem leaves_mapL (leaf : ConT → Int → ConT) (hl : ∀ x b, isLeaf x → isLeaf (leaf x b)) : ∀ (l : List ConT) (b : Int) (y : ConT) (b' : Int), (y, b') ∈ leavesL (mapL leaf l b) b → ∃ x, (x, b') ∈ leavesL l b ∧ y = leaf x b'
  | [], b, y, b', h => by rw [mapL] at h; simp [leavesL] at h
  | x :: r, b, y, b', h => by
    rw [mapL, leavesL] at h
    rcases List.mem_append.1 h with h | h
    · obtain ⟨z, h1, h2⟩ := leaves_map leaf hl x b y b' h
      exact ⟨z, by rw [leavesL]; exact List.mem_append_left _ h1, h2⟩
    · obtain ⟨z, h1, h2⟩ := leaves_mapL leaf hl r b y b' h
      exact ⟨z, by rw [leavesL]; exact List.mem_append_right _ h1, h2⟩
end
theorem isLeaf_shift (n f : Int) (x : ConT) (b : Int) (h : isLeaf x) : isLeaf (shiftLeaf n f x b) := by
  rw [shiftLeaf]
  split
  · exact .inl rfl
  · exact h

theorem lost_false (c : ConT) (by' from' : Int) (h : ∀ x b, (x, b) ∈ leaves c 0 → ¬ (x.op = 1 ∧ x.n - b ≥ from' ∧ x.n - b + by' < from')) : lostF c by' from' = false := by
  rw [lostF]
  generalize hl : leaves c 0 = l at h
  clear hl
  have : ∀ l : List (ConT × Int), (∀ x b, (x, b) ∈ l → ¬ (x.op = 1 ∧ x.n - b ≥ from' ∧ x.n - b + by' < from')) → l.foldl (lostStep by' from') false = false := by
    intro l
    induction l with
    | nil => intro _; rfl
    | cons p r ih =>
      intro h
      obtain ⟨x, b⟩ := p
      rw [List.foldl_cons]
      have h1 := h x b (by simp)
      have : lostStep by' from' false (x, b) = false := by
        rw [lostStep]
        by_cases e1 : x.op = 1
        · by_cases e2 : x.n - b ≥ from'
          · have e3 : ¬ x.n - b + by' < from' := fun e3 => h1 ⟨e1, e2, e3⟩
            simp only [decide_eq_false e3]; simp
          · simp only [decide_eq_false e2]; simp
        · have : (x.op == 1) = false := by simpa using e1
          simp only [this]; simp
      rw [this]
      exact ih fun y b' hy => h y b' (by simp [hy])
  exact this l h
/-- Shifting up loses nothing. -/
theorem shiftF_up (c : ConT) (n f : Int) (h1 : validF c = true) (h2 : 0 ≤ n) (h3 : n ≤ 20000) (h4 : 0 ≤ f) : shiftF c n f = replF (shiftLeaf n f) c := by
  rw [shiftF, if_neg (by rw [h1]; simp), if_neg]
  rintro (h | h | h | h)
  · omega
  · omega
  · omega
  · rw [lost_false c n f fun x b _ => by omega] at h; cases h
/-- Shifting back what was shifted. -/
theorem shiftF_down (c : ConT) (n f : Int) (h1 : validF (mapF (shiftLeaf n f) c 0) = true) (h2 : 0 ≤ n) (h3 : n ≤ 20000) (h4 : 0 ≤ f) : shiftF (mapF (shiftLeaf n f) c 0) (-n) f = replF (shiftLeaf (-n) f) (mapF (shiftLeaf n f) c 0) := by
  rw [shiftF, if_neg (by rw [h1]; simp), if_neg]
  rintro (h | h | h | h)
  · omega
  · omega
  · omega
  · rw [lost_false _ (-n) f fun y b hy => ?_] at h
    · cases h
    · obtain ⟨x, _, rfl⟩ := leaves_map (shiftLeaf n f) (fun x b hx => isLeaf_shift n f x b hx) c 0 y b hy
      by_cases e : x.op = 1 ∧ x.n - b ≥ f
      · rw [shift_hi e.1 e.2, varC_op, varC_n]; omega
      · rw [shift_lo e, leafC_op, leafC_n]; omega

/-! Small constructors -/

def tinyP (c : ConT) : Bool := decide (nodesF c 60 1 ≥ 60) || !validF c
theorem tiny1_spec (c : ConT) : Spec Tryz.prog 60 [pp (encC c)] [] (.bool (tinyP c)) [] := by
  have hN := nodes_spec c 60 1 (by decide) (by decide) (by decide) (by decide)
  generalize h0 : tinyP c = res
  rw [tinyP] at h0
  refine Spec.walk (rv := [.tmp 2]) ann60 11 Tryz.func60 mixed rfl rfl (by kernel_rfl) rfl rfl fun hfit => ?_
  clear hfit
  simp only [go_sem, reduceCtorEq, ↓reduceIte, Nat.reduceEqDiff, Nat.reduceAdd, Nat.reduceMul, Nat.reduceSub, Nat.reduceLeDiff, Nat.reduceBEq, Int.reduceToNat, Int.reduceLE, Int.reduceLT, encC_sz]
  refine aCall_intro hN ?_
  simp only [go_sem, reduceCtorEq, ↓reduceIte, Nat.reduceEqDiff, Nat.reduceAdd, Nat.reduceMul, Nat.reduceSub, Nat.reduceLeDiff, Nat.reduceBEq, Int.reduceToNat, Int.reduceLE, Int.reduceLT, encC_sz]
  refine guardK_intro (fun hb => ?_) (fun hb => ?_)
  · have hlt : nodesF c 60 1 < 60 := by have := of_decide_eq_false hb; omega
    have hV := rValid_spec c (nodesF_eq c 60 1 (by decide) hlt).2
    rw [hb, Bool.false_or] at h0
    simp only [go_sem, reduceCtorEq, ↓reduceIte, Nat.reduceEqDiff, Nat.reduceAdd, Nat.reduceMul, Nat.reduceSub, Nat.reduceLeDiff, Nat.reduceBEq, Int.reduceToNat, Int.reduceLE, Int.reduceLT, encC_sz]
    refine aCall_intro hV ?_
    simp only [go_sem, reduceCtorEq, ↓reduceIte, Nat.reduceEqDiff, Nat.reduceAdd, Nat.reduceMul, Nat.reduceSub, Nat.reduceLeDiff, Nat.reduceBEq, Int.reduceToNat, Int.reduceLE, Int.reduceLT]
    rw [h0]
  · rw [hb] at h0
    simp only [go_sem, reduceCtorEq, ↓reduceIte, Nat.reduceEqDiff, Nat.reduceAdd, Nat.reduceMul, Nat.reduceSub, Nat.reduceLeDiff, Nat.reduceBEq, Int.reduceToNat, Int.reduceLE, Int.reduceLT, encC_sz]
    rw [← h0]; rfl
theorem tiny_spec (l : List ConT) : Spec Tryz.prog 22 [pp (.slice (l.map encC))] [] (.bool (!l.any tinyP)) [] := by
  have hA : Spec Tryz.prog 40 [pp (.slice (l.map encC)), pp (.fn 60 [])] [] (.bool (l.any tinyP)) [] :=
    ContainsFuncC encC l 60 [] _ (fun e _ => encC_sz e) fun x _ => tiny1_spec x
  refine Spec.walk (rv := [.tmp 2]) ann22 6 Tryz.func22 mixed rfl rfl (by kernel_rfl) rfl rfl fun hfit => ?_
  clear hfit
  simp only [go_sem, reduceCtorEq, ↓reduceIte, Nat.reduceEqDiff, Nat.reduceAdd, Nat.reduceMul, Nat.reduceSub, Nat.reduceLeDiff, Nat.reduceBEq, Int.reduceToNat, Int.reduceLE, Int.reduceLT]
  refine aCall_intro hA ?_
  simp only [go_sem, reduceCtorEq, ↓reduceIte, Nat.reduceEqDiff, Nat.reduceAdd, Nat.reduceMul, Nat.reduceSub, Nat.reduceLeDiff, Nat.reduceBEq, Int.reduceToNat, Int.reduceLE, Int.reduceLT]
theorem tiny_of {c : ConT} (h : tinyP c = false) : wtF c < 60 ∧ okS c ∧ validF c = true := by
  rw [tinyP] at h
  simp only [Bool.or_eq_false_iff, decide_eq_false_iff_not, Bool.not_eq_false'] at h
  obtain ⟨h1, h2⟩ := nodesF_eq c 60 1 (by decide) (by omega)
  exact ⟨by omega, h2, h.2⟩
theorem okS_shift (n f : Int) {c : ConT} (h : okS c) : okS (mapF (shiftLeaf n f) c 0) := mapF_okS _ c 0 h fun x b hx => okS_shiftLeaf n f x b ((leaves_mem c 0 x b hx).2.1 h)
end Go.Abs.Kon
