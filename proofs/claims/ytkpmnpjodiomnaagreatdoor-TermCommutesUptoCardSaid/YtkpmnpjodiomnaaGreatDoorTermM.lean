/- Terms: maps of terms, that they fuse, and what becomes of free variables. -/
import Derived.Test.YtkpmnpjodiomnaaGreatDoorTermK
set_option linter.unusedSimpArgs false
set_option linter.unusedVariables false
namespace Go.Abs.Kon
open Go Go.Proofs Go.Abs
set_option maxRecDepth 100000
set_option maxHeartbeats 4000000

mutual
def mapT (cf : ConT → Int → ConT) (vf : Int → Int → Int → TermT) : TermT → Int → Int → TermT
  | .mk op n s con to k names l, uc, ut =>
    if op = 1 then vf n uc ut else .mk op n s (if hasConF op = true then cf con uc else zeroC) (if op = 8 then cf to uc else zeroC) k names (mapTL cf vf op l 0 uc ut)
def mapTL (cf : ConT → Int → ConT) (vf : Int → Int → Int → TermT) (op : Int) : List TermT → Nat → Int → Int → List TermT
  | [], _, _, _ => []
  | x :: r, i, uc, ut => mapT cf vf x (uc + insC op i) (ut + insT op i) :: mapTL cf vf op r (i + 1) uc ut
end
theorem mapTL_len (cf : ConT → Int → ConT) (vf : Int → Int → Int → TermT) (op : Int) : ∀ (l : List TermT) (i : Nat) (uc ut : Int), (mapTL cf vf op l i uc ut).length = l.length
  | [], i, uc, ut => by rw [mapTL]
  | x :: r, i, uc, ut => by rw [mapTL, List.length_cons, List.length_cons, mapTL_len cf vf op r]

section fuse
variable {c1 c2 c3 c4 : ConT → Int → ConT} {v1 v2 v3 v4 : Int → Int → Int → TermT} {b1 b2 b3 b4 d1 d2 d3 d4 : Int}
mutual
/-- Two ways of mapping twice. -/
theorem fuseT (hc : ∀ c u, 0 ≤ u → validF c = true → c2 (c1 c (b1 + u)) (b2 + u) = c4 (c3 c (b3 + u)) (b4 + u))
    (hv : ∀ n u w, 0 ≤ n → n ≤ 20000 → 0 ≤ u → 0 ≤ w → mapT c2 v2 (v1 n (b1 + u) (d1 + w)) (b2 + u) (d2 + w) = mapT c4 v4 (v3 n (b3 + u) (d3 + w)) (b4 + u) (d4 + w)) :
    ∀ (t : TermT) (u w : Int), wfT t = true → 0 ≤ u → 0 ≤ w → mapT c2 v2 (mapT c1 v1 t (b1 + u) (d1 + w)) (b2 + u) (d2 + w) = mapT c4 v4 (mapT c3 v3 t (b3 + u) (d3 + w)) (b4 + u) (d4 + w)
  | .mk op n s con to k names l, u, w, hwf, hu, hw => by
    rw [wfT, Bool.and_eq_true] at hwf
    obtain ⟨n1, _, n3, _⟩ := node_con hwf.1
    by_cases ho : op = 1
    · obtain ⟨_, _, _, _, _, _, g1, g2⟩ := node_op1 hwf.1 ho
      rw [mapT, mapT.eq_def c3]
      simp only [if_pos ho]
      exact hv n u w g1 g2 hu hw
    · have hL := fuseTL hc hv op l 0 u w hwf.2 hu hw
      rw [mapT, mapT.eq_def c3]
      simp only [if_neg ho]
      rw [mapT, mapT.eq_def c4]
      simp only [if_neg ho]
      rw [hL]
      have hC : (if hasConF op = true then c2 (if hasConF op = true then c1 con (b1 + u) else zeroC) (b2 + u) else zeroC) = (if hasConF op = true then c4 (if hasConF op = true then c3 con (b3 + u) else zeroC) (b4 + u) else zeroC) := by
        by_cases e : hasConF op = true
        · simp only [if_pos e]; exact hc con u hu (n1 e)
        · simp only [if_neg e]
      have hT : (if op = 8 then c2 (if op = 8 then c1 to (b1 + u) else zeroC) (b2 + u) else zeroC) = (if op = 8 then c4 (if op = 8 then c3 to (b3 + u) else zeroC) (b4 + u) else zeroC) := by
        by_cases e : op = 8
        · simp only [if_pos e]; exact hc to u hu (n3 e)
        · simp only [if_neg e]
      rw [hC, hT]
theorem fuseTL (hc : ∀ c u, 0 ≤ u → validF c = true → c2 (c1 c (b1 + u)) (b2 + u) = c4 (c3 c (b3 + u)) (b4 + u))
    (hv : ∀ n u w, 0 ≤ n → n ≤ 20000 → 0 ≤ u → 0 ≤ w → mapT c2 v2 (v1 n (b1 + u) (d1 + w)) (b2 + u) (d2 + w) = mapT c4 v4 (v3 n (b3 + u) (d3 + w)) (b4 + u) (d4 + w)) (op : Int) :
    ∀ (l : List TermT) (i : Nat) (u w : Int), wfL l = true → 0 ≤ u → 0 ≤ w → mapTL c2 v2 op (mapTL c1 v1 op l i (b1 + u) (d1 + w)) i (b2 + u) (d2 + w) = mapTL c4 v4 op (mapTL c3 v3 op l i (b3 + u) (d3 + w)) i (b4 + u) (d4 + w)
  | [], i, u, w, _, _, _ => by simp only [mapTL]
  | x :: r, i, u, w, hwf, hu, hw => by
    rw [wfL, Bool.and_eq_true] at hwf
    have h1 := fuseT hc hv x (u + insC op i) (w + insT op i) hwf.1 (by have := insC_nn op i; omega) (by have := insT_nn op i; omega)
    have h2 := fuseTL hc hv op r (i + 1) u w hwf.2 hu hw
    simp only [mapTL]
    rw [h2]
    simp only [Int.add_assoc]
    rw [h1]
end
mutual
/-- Mapping twice is mapping once. -/
theorem fuse1T (hc : ∀ c u, 0 ≤ u → validF c = true → c2 (c1 c (b1 + u)) (b2 + u) = c3 c (b3 + u))
    (hv : ∀ n u w, 0 ≤ n → n ≤ 20000 → 0 ≤ u → 0 ≤ w → mapT c2 v2 (v1 n (b1 + u) (d1 + w)) (b2 + u) (d2 + w) = v3 n (b3 + u) (d3 + w)) :
    ∀ (t : TermT) (u w : Int), wfT t = true → 0 ≤ u → 0 ≤ w → mapT c2 v2 (mapT c1 v1 t (b1 + u) (d1 + w)) (b2 + u) (d2 + w) = mapT c3 v3 t (b3 + u) (d3 + w)
  | .mk op n s con to k names l, u, w, hwf, hu, hw => by
    rw [wfT, Bool.and_eq_true] at hwf
    obtain ⟨n1, _, n3, _⟩ := node_con hwf.1
    by_cases ho : op = 1
    · obtain ⟨_, _, _, _, _, _, g1, g2⟩ := node_op1 hwf.1 ho
      rw [mapT, mapT.eq_def c3]
      simp only [if_pos ho]
      exact hv n u w g1 g2 hu hw
    · have hL := fuse1TL hc hv op l 0 u w hwf.2 hu hw
      rw [mapT, mapT.eq_def c3]
      simp only [if_neg ho]
      rw [mapT]
      simp only [if_neg ho]
      rw [hL]
      have hC : (if hasConF op = true then c2 (if hasConF op = true then c1 con (b1 + u) else zeroC) (b2 + u) else zeroC) = (if hasConF op = true then c3 con (b3 + u) else zeroC) := by
        by_cases e : hasConF op = true
        · simp only [if_pos e]; exact hc con u hu (n1 e)
        · simp only [if_neg e]
      have hT : (if op = 8 then c2 (if op = 8 then c1 to (b1 + u) else zeroC) (b2 + u) else zeroC) = (if op = 8 then c3 to (b3 + u) else zeroC) := by
        by_cases e : op = 8
        · simp only [if_pos e]; exact hc to u hu (n3 e)
        · simp only [if_neg e]
      rw [hC, hT]
theorem fuse1TL (hc : ∀ c u, 0 ≤ u → validF c = true → c2 (c1 c (b1 + u)) (b2 + u) = c3 c (b3 + u))
    (hv : ∀ n u w, 0 ≤ n → n ≤ 20000 → 0 ≤ u → 0 ≤ w → mapT c2 v2 (v1 n (b1 + u) (d1 + w)) (b2 + u) (d2 + w) = v3 n (b3 + u) (d3 + w)) (op : Int) :
    ∀ (l : List TermT) (i : Nat) (u w : Int), wfL l = true → 0 ≤ u → 0 ≤ w → mapTL c2 v2 op (mapTL c1 v1 op l i (b1 + u) (d1 + w)) i (b2 + u) (d2 + w) = mapTL c3 v3 op l i (b3 + u) (d3 + w)
  | [], i, u, w, _, _, _ => by simp only [mapTL]
  | x :: r, i, u, w, hwf, hu, hw => by
    rw [wfL, Bool.and_eq_true] at hwf
    have h1 := fuse1T hc hv x (u + insC op i) (w + insT op i) hwf.1 (by have := insC_nn op i; omega) (by have := insT_nn op i; omega)
    have h2 := fuse1TL hc hv op r (i + 1) u w hwf.2 hu hw
    simp only [mapTL]
    rw [h2]
    simp only [Int.add_assoc]
    rw [h1]
end
mutual
/-- Maps that do the same. -/
theorem mapT_congr (hc : ∀ c u, 0 ≤ u → validF c = true → c1 c (b1 + u) = c2 c (b2 + u)) (hv : ∀ n u w, 0 ≤ n → n ≤ 20000 → 0 ≤ u → 0 ≤ w → v1 n (b1 + u) (d1 + w) = v2 n (b2 + u) (d2 + w)) :
    ∀ (t : TermT) (u w : Int), wfT t = true → 0 ≤ u → 0 ≤ w → mapT c1 v1 t (b1 + u) (d1 + w) = mapT c2 v2 t (b2 + u) (d2 + w)
  | .mk op n s con to k names l, u, w, hwf, hu, hw => by
    rw [wfT, Bool.and_eq_true] at hwf
    obtain ⟨n1, _, n3, _⟩ := node_con hwf.1
    by_cases ho : op = 1
    · obtain ⟨_, _, _, _, _, _, g1, g2⟩ := node_op1 hwf.1 ho
      rw [mapT, mapT.eq_def c2]
      simp only [if_pos ho]
      exact hv n u w g1 g2 hu hw
    · have hL := mapTL_congr hc hv op l 0 u w hwf.2 hu hw
      rw [mapT, mapT.eq_def c2]
      simp only [if_neg ho]
      rw [hL]
      have hC : (if hasConF op = true then c1 con (b1 + u) else zeroC) = (if hasConF op = true then c2 con (b2 + u) else zeroC) := by
        by_cases e : hasConF op = true
        · simp only [if_pos e]; exact hc con u hu (n1 e)
        · simp only [if_neg e]
      have hT : (if op = 8 then c1 to (b1 + u) else zeroC) = (if op = 8 then c2 to (b2 + u) else zeroC) := by
        by_cases e : op = 8
        · simp only [if_pos e]; exact hc to u hu (n3 e)
        · simp only [if_neg e]
      rw [hC, hT]
theorem mapTL_congr (hc : ∀ c u, 0 ≤ u → validF c = true → c1 c (b1 + u) = c2 c (b2 + u)) (hv : ∀ n u w, 0 ≤ n → n ≤ 20000 → 0 ≤ u → 0 ≤ w → v1 n (b1 + u) (d1 + w) = v2 n (b2 + u) (d2 + w)) (op : Int) :
    ∀ (l : List TermT) (i : Nat) (u w : Int), wfL l = true → 0 ≤ u → 0 ≤ w → mapTL c1 v1 op l i (b1 + u) (d1 + w) = mapTL c2 v2 op l i (b2 + u) (d2 + w)
  | [], i, u, w, _, _, _ => by simp only [mapTL]
  | x :: r, i, u, w, hwf, hu, hw => by
    rw [wfL, Bool.and_eq_true] at hwf
    have h1 := mapT_congr hc hv x (u + insC op i) (w + insT op i) hwf.1 (by have := insC_nn op i; omega) (by have := insT_nn op i; omega)
    have h2 := mapTL_congr hc hv op r (i + 1) u w hwf.2 hu hw
    simp only [mapTL]
    rw [h2]
    simp only [Int.add_assoc]
    rw [h1]
end
end fuse
mutual
/-- The map that does nothing. -/
theorem mapT_id {c1 : ConT → Int → ConT} {v1 : Int → Int → Int → TermT} (hc : ∀ c u, 0 ≤ u → validF c = true → c1 c u = c) (hv : ∀ n u w, v1 n u w = varT n) :
    ∀ (t : TermT) (u w : Int), wfT t = true → 0 ≤ u → mapT c1 v1 t u w = t
  | .mk op n s con to k names l, u, w, hwf, hu => by
    rw [wfT, Bool.and_eq_true] at hwf
    obtain ⟨n1, n2, n3, n4⟩ := node_con hwf.1
    rw [mapT]
    by_cases ho : op = 1
    · obtain ⟨rfl, rfl, rfl, rfl, rfl, g, _⟩ := node_op1 hwf.1 ho
      rw [if_pos ho, hv, varT, List.eq_nil_of_length_eq_zero g, ho]
    · rw [if_neg ho, mapTL_id hc hv op l 0 u w hwf.2 hu]
      have hC : (if hasConF op = true then c1 con u else zeroC) = con := by
        by_cases e : hasConF op = true
        · rw [if_pos e, hc con u hu (n1 e)]
        · rw [if_neg e, n2 (by simpa using e)]
      have hT : (if op = 8 then c1 to u else zeroC) = to := by
        by_cases e : op = 8
        · rw [if_pos e, hc to u hu (n3 e)]
        · rw [if_neg e, n4 e]
      rw [hC, hT]
theorem mapTL_id {c1 : ConT → Int → ConT} {v1 : Int → Int → Int → TermT} (hc : ∀ c u, 0 ≤ u → validF c = true → c1 c u = c) (hv : ∀ n u w, v1 n u w = varT n) (op : Int) :
    ∀ (l : List TermT) (i : Nat) (u w : Int), wfL l = true → 0 ≤ u → mapTL c1 v1 op l i u w = l
  | [], i, u, w, _, _ => by rw [mapTL]
  | x :: r, i, u, w, hwf, hu => by
    rw [wfL, Bool.and_eq_true] at hwf
    rw [mapTL, mapT_id hc hv x _ _ hwf.1 (by have := insC_nn op i; omega), mapTL_id hc hv op r (i + 1) u w hwf.2 hu]
end

/-! Rebuilding is mapping -/

theorem node_with {op n : Int} {s : ByteArray} {con to : ConT} {k : List KindT} {names : List ByteArray} {len : Nat} (h : nodeT op n s con to k names len = true) (c' t' : ConT) : nodeT op n s c' t' k names len = (fitsC c' (hasConF op) && fitsC t' (op == 8)) := by
  obtain ⟨h1, h2, h3, h4, h5, h6, h7, _⟩ := node_op h
  rw [nodeT, decide_eq_true h1, decide_eq_true h2, h3, decide_eq_true h4, h5, h6, h7]
  rfl
theorem chL_len (cf : ConT → Int → Int → ConT × Int) (vf : Int → Int → Int → TermT × Int) (op : Int) : ∀ (l : List TermT) (i : Nat) (u w : Int), (chL cf vf op l i u w).2 = 0 → (chL cf vf op l i u w).1.length = l.length
  | [], i, u, w, _ => by rw [chL]
  | x :: r, i, u, w, h => by
    rw [chL] at h ⊢
    by_cases h1 : (chT cf vf x (u + insC op i) (w + insT op i)).2 ≠ 0
    · rw [if_pos h1] at h; exact absurd h h1
    · rw [if_neg h1] at h ⊢
      by_cases h2 : (chL cf vf op r (i + 1) u w).2 ≠ 0
      · rw [if_pos h2] at h; exact absurd h h2
      · rw [if_neg h2, List.length_cons, List.length_cons, chL_len cf vf op r (i + 1) u w (by simpa using h2)]
theorem chT_node (cf : ConT → Int → Int → ConT × Int) (vf : Int → Int → Int → TermT × Int) {op n : Int} {s : ByteArray} {con to : ConT} {k : List KindT} {names : List ByteArray} {l : List TermT} {u w : Int} (ho : op ≠ 1) :
    ((hasConF op = true → (cf con u w).2 = 0) ∧ (op = 8 → (cf to u w).2 = 0) ∧ (chL cf vf op l 0 u w).2 = 0 ∧
      chT cf vf (.mk op n s con to k names l) u w = (.mk op n s (if hasConF op = true then (cf con u w).1 else zeroC) (if op = 8 then (cf to u w).1 else zeroC) k names (chL cf vf op l 0 u w).1, 0)) ∨
    (((hasConF op = true ∧ (cf con u w).2 ≠ 0) ∨ (op = 8 ∧ (cf to u w).2 ≠ 0) ∨ (chL cf vf op l 0 u w).2 ≠ 0) ∧ (chT cf vf (.mk op n s con to k names l) u w).2 ≠ 0) := by
  rw [chT, if_neg ho]
  by_cases h1 : hasConF op = true ∧ (cf con u w).2 ≠ 0
  · right
    rw [if_pos h1]
    exact ⟨.inl h1, h1.2⟩
  · rw [if_neg h1]
    by_cases h2 : op = 8 ∧ (cf to u w).2 ≠ 0
    · right
      rw [if_pos h2]
      exact ⟨.inr (.inl h2), h2.2⟩
    · rw [if_neg h2]
      by_cases h3 : (chL cf vf op l 0 u w).2 ≠ 0
      · right
        rw [if_pos h3]
        exact ⟨.inr (.inr h3), h3⟩
      · left
        rw [if_neg h3]
        refine ⟨fun e => ?_, fun e => ?_, by simpa using h3, rfl⟩
        · by_cases g : (cf con u w).2 = 0
          · exact g
          · exact absurd ⟨e, g⟩ h1
        · by_cases g : (cf to u w).2 = 0
          · exact g
          · exact absurd ⟨e, g⟩ h2
theorem ins_le {op n : Int} {s : ByteArray} {con to : ConT} {k : List KindT} {names : List ByteArray} {l : List TermT} (h : nodeT op n s con to k names l.length = true) : op = 9 → l.length ≤ 2 := fun e => by
  subst e
  have := node_parts9 h
  omega
theorem ins_bound {op : Int} {i : Nat} (h : op = 9 → i + 1 ≤ 2) : insC op i ≤ 1 ∧ insT op i ≤ 1 := by
  rw [insC, insT]
  by_cases e9 : op = 9
  · have := h e9
    constructor <;> (repeat' split) <;> omega
  · constructor <;> (repeat' split) <;> omega
section kept
variable {cf : ConT → Int → Int → ConT × Int} {vf : Int → Int → Int → TermT × Int} {cf' : ConT → Int → ConT} {vf' : Int → Int → Int → TermT}
mutual
theorem chT_map (hc : ∀ c u w, validF c = true → 0 ≤ u → u ≤ 400 → ((cf c u w).2 = 0 ∧ (cf c u w).1 = cf' c u) ∨ (validF (cf' c u) = false ∧ ((cf c u w).2 = 0 → validF (cf c u w).1 = false)))
    (hv : ∀ n u w, 0 ≤ n → n ≤ 20000 → 0 ≤ u → u ≤ 400 → 0 ≤ w → w ≤ 400 → ((vf n u w).2 = 0 ∧ (vf n u w).1 = vf' n u w) ∨ (wfT (vf' n u w) = false ∧ ((vf n u w).2 = 0 → wfT (vf n u w).1 = false))) :
    ∀ (t : TermT) (u w : Int), wfT t = true → 0 ≤ u → u + depthT t ≤ 401 → 0 ≤ w → w + depthT t ≤ 401 →
    ((chT cf vf t u w).2 = 0 ∧ (chT cf vf t u w).1 = mapT cf' vf' t u w) ∨ (wfT (mapT cf' vf' t u w) = false ∧ ((chT cf vf t u w).2 = 0 → wfT (chT cf vf t u w).1 = false))
  | .mk op n s con to k names l, u, w, hwf, h1, h2, h3, h4 => by
    rw [wfT, Bool.and_eq_true] at hwf
    obtain ⟨hn, hl⟩ := hwf
    obtain ⟨n1, _, n3, _⟩ := node_con hn
    rw [depthT] at h2 h4
    by_cases ho : op = 1
    · obtain ⟨_, _, _, _, _, _, g1, g2⟩ := node_op1 hn ho
      rw [chT, mapT, if_pos ho, if_pos ho]
      exact hv n u w g1 g2 h1 (by omega) h3 (by omega)
    · have hL := chL_map hc hv op l 0 u w hl (fun e => by have := ins_le hn e; omega) h1 (by omega) h3 (by omega)
      have hM : mapT cf' vf' (.mk op n s con to k names l) u w = .mk op n s (if hasConF op = true then cf' con u else zeroC) (if op = 8 then cf' to u else zeroC) k names (mapTL cf' vf' op l 0 u w) := by rw [mapT, if_neg ho]
      have hwM : wfT (mapT cf' vf' (.mk op n s con to k names l) u w) = ((fitsC (if hasConF op = true then cf' con u else zeroC) (hasConF op) && fitsC (if op = 8 then cf' to u else zeroC) (op == 8)) && wfL (mapTL cf' vf' op l 0 u w)) := by
        rw [hM, wfT, mapTL_len, node_with hn]
      have e8 : ∀ {c : ConT}, op = 8 → fitsC c (op == 8) = validF c := fun e => by
        have : (op == 8) = true := by simp [e]
        rw [this, fitsC, if_pos rfl]
      have eC : ∀ {c : ConT}, hasConF op = true → fitsC c (hasConF op) = validF c := fun e => by rw [e, fitsC, if_pos rfl]
      rcases chT_node cf vf (n := n) (s := s) (con := con) (to := to) (k := k) (names := names) (l := l) (u := u) (w := w) ho with ⟨a, b, r, e⟩ | ⟨bad, e⟩
      · have hwA : wfT (chT cf vf (.mk op n s con to k names l) u w).1 = ((fitsC (if hasConF op = true then (cf con u w).1 else zeroC) (hasConF op) && fitsC (if op = 8 then (cf to u w).1 else zeroC) (op == 8)) && wfL (chL cf vf op l 0 u w).1) := by
          rw [e, wfT, chL_len cf vf op l 0 u w r, node_with hn]
        have PC : (if hasConF op = true then (cf con u w).1 else zeroC) = (if hasConF op = true then cf' con u else zeroC) ∨ (fitsC (if hasConF op = true then cf' con u else zeroC) (hasConF op) = false ∧ fitsC (if hasConF op = true then (cf con u w).1 else zeroC) (hasConF op) = false) := by
          by_cases hh : hasConF op = true
          · rw [if_pos hh, if_pos hh, eC hh, eC hh]
            rcases hc con u w (n1 hh) h1 (by omega) with ⟨_, g⟩ | ⟨g1, g2⟩
            · exact .inl g
            · exact .inr ⟨g1, g2 (a hh)⟩
          · rw [if_neg hh, if_neg hh]; exact .inl rfl
        have PT : (if op = 8 then (cf to u w).1 else zeroC) = (if op = 8 then cf' to u else zeroC) ∨ (fitsC (if op = 8 then cf' to u else zeroC) (op == 8) = false ∧ fitsC (if op = 8 then (cf to u w).1 else zeroC) (op == 8) = false) := by
          by_cases hh : op = 8
          · rw [if_pos hh, if_pos hh, e8 hh, e8 hh]
            rcases hc to u w (n3 hh) h1 (by omega) with ⟨_, g⟩ | ⟨g1, g2⟩
            · exact .inl g
            · exact .inr ⟨g1, g2 (b hh)⟩
          · rw [if_neg hh, if_neg hh]; exact .inl rfl
        rcases PC with pc | ⟨pc, pc'⟩
        · rcases PT with pt | ⟨pt, pt'⟩
          · rcases hL with ⟨_, pl⟩ | ⟨pl, pl'⟩
            · left
              refine ⟨by rw [e], ?_⟩
              rw [e, hM, pc, pt, pl]
            · right
              rw [hwM, hwA, pl, pl' r, Bool.and_false, Bool.and_false]
              exact ⟨rfl, fun _ => rfl⟩
          · right
            rw [hwM, hwA, pt, pt', Bool.and_false, Bool.and_false, Bool.false_and, Bool.false_and]
            exact ⟨rfl, fun _ => rfl⟩
        · right
          rw [hwM, hwA, pc, pc', Bool.false_and, Bool.false_and, Bool.false_and, Bool.false_and]
          exact ⟨rfl, fun _ => rfl⟩
      · right
        refine ⟨?_, fun h => absurd h e⟩
        rw [hwM]
        rcases bad with ⟨hh, g⟩ | ⟨hh, g⟩ | g
        · rcases hc con u w (n1 hh) h1 (by omega) with ⟨g1, _⟩ | ⟨g1, _⟩
          · exact absurd g1 g
          · rw [eC hh, if_pos hh, g1, Bool.false_and, Bool.false_and]
        · rcases hc to u w (n3 hh) h1 (by omega) with ⟨g1, _⟩ | ⟨g1, _⟩
          · exact absurd g1 g
          · rw [e8 hh, if_pos hh, g1, Bool.and_false, Bool.false_and]
        · rcases hL with ⟨g1, _⟩ | ⟨g1, _⟩
          · exact absurd g1 g
          · rw [g1, Bool.and_false]
theorem chL_map (hc : ∀ c u w, validF c = true → 0 ≤ u → u ≤ 400 → ((cf c u w).2 = 0 ∧ (cf c u w).1 = cf' c u) ∨ (validF (cf' c u) = false ∧ ((cf c u w).2 = 0 → validF (cf c u w).1 = false)))
    (hv : ∀ n u w, 0 ≤ n → n ≤ 20000 → 0 ≤ u → u ≤ 400 → 0 ≤ w → w ≤ 400 → ((vf n u w).2 = 0 ∧ (vf n u w).1 = vf' n u w) ∨ (wfT (vf' n u w) = false ∧ ((vf n u w).2 = 0 → wfT (vf n u w).1 = false))) (op : Int) :
    ∀ (l : List TermT) (i : Nat) (u w : Int), wfL l = true → (op = 9 → i + l.length ≤ 2) → 0 ≤ u → u + depthTL l ≤ 400 → 0 ≤ w → w + depthTL l ≤ 400 →
    ((chL cf vf op l i u w).2 = 0 ∧ (chL cf vf op l i u w).1 = mapTL cf' vf' op l i u w) ∨ (wfL (mapTL cf' vf' op l i u w) = false ∧ ((chL cf vf op l i u w).2 = 0 → wfL (chL cf vf op l i u w).1 = false))
  | [], i, u, w, _, _, _, _, _, _ => by
    rw [chL, mapTL]
    exact .inl ⟨rfl, rfl⟩
  | x :: r, i, u, w, hl, h9, h1, h2, h3, h4 => by
    rw [wfL, Bool.and_eq_true] at hl
    rw [depthTL] at h2 h4
    have b0 := insC_nn op i
    have b1 := insT_nn op i
    obtain ⟨b2, b3⟩ := ins_bound (op := op) (i := i) (fun e => by have := h9 e; rw [List.length_cons] at this; omega)
    have hX := chT_map hc hv x (u + insC op i) (w + insT op i) hl.1 (by omega) (by omega) (by omega) (by omega)
    have hR := chL_map hc hv op r (i + 1) u w hl.2 (fun e => by have := h9 e; rw [List.length_cons] at this; omega) h1 (by omega) h3 (by omega)
    rw [chL, mapTL, wfL]
    generalize chT cf vf x (u + insC op i) (w + insT op i) = A at hX
    generalize chL cf vf op r (i + 1) u w = B at hR
    generalize mapT cf' vf' x (u + insC op i) (w + insT op i) = A' at hX
    generalize mapTL cf' vf' op r (i + 1) u w = B' at hR
    by_cases a0 : A.2 ≠ 0
    · right
      rw [if_pos a0]
      rcases hX with ⟨g, _⟩ | ⟨g, _⟩
      · exact absurd g a0
      · rw [g, Bool.false_and]
        exact ⟨rfl, fun h => absurd h a0⟩
    · rw [if_neg a0]
      have a0' : A.2 = 0 := by simpa using a0
      by_cases c0 : B.2 ≠ 0
      · right
        rw [if_pos c0]
        rcases hR with ⟨g, _⟩ | ⟨g, _⟩
        · exact absurd g c0
        · rw [g, Bool.and_false]
          exact ⟨rfl, fun h => absurd h c0⟩
      · rw [if_neg c0]
        have c0' : B.2 = 0 := by simpa using c0
        rcases hX with ⟨_, g⟩ | ⟨g, g'⟩
        · rcases hR with ⟨_, q⟩ | ⟨q, q'⟩
          · left
            rw [g, q]
            exact ⟨rfl, rfl⟩
          · right
            refine ⟨by rw [q, Bool.and_false], fun _ => ?_⟩
            rw [wfL, q' c0', Bool.and_false]
        · right
          refine ⟨by rw [g, Bool.false_and], fun _ => ?_⟩
          rw [wfL, g' a0', Bool.false_and]
end
theorem not_wf {t : TermT} (h : wfT t = false) : validT t = false := by
  cases hv : validT t with
  | false => rfl
  | true => rw [(valid_wf hv).1] at h; exact h
theorem fin_map {t : TermT} (hc : ∀ c u w, validF c = true → 0 ≤ u → u ≤ 400 → ((cf c u w).2 = 0 ∧ (cf c u w).1 = cf' c u) ∨ (validF (cf' c u) = false ∧ ((cf c u w).2 = 0 → validF (cf c u w).1 = false)))
    (hv : ∀ n u w, 0 ≤ n → n ≤ 20000 → 0 ≤ u → u ≤ 400 → 0 ≤ w → w ≤ 400 → ((vf n u w).2 = 0 ∧ (vf n u w).1 = vf' n u w) ∨ (wfT (vf' n u w) = false ∧ ((vf n u w).2 = 0 → wfT (vf n u w).1 = false))) (h : validT t = true) :
    finT (chT cf vf t 0 0) = keptT (mapT cf' vf' t 0 0) := by
  obtain ⟨hwf, hd⟩ := valid_wf h
  rw [finT, keptT]
  rcases chT_map hc hv t 0 0 hwf (by decide) (by omega) (by decide) (by omega) with ⟨e1, e2⟩ | ⟨e1, e2⟩
  · rw [e2]
    cases hv2 : validT (mapT cf' vf' t 0 0) with
    | true => rw [if_neg (by rw [e1]; simp), if_pos rfl]
    | false => rw [if_pos (.inr rfl), if_neg (by decide)]
  · have hk : (if validT (mapT cf' vf' t 0 0) = true then (mapT cf' vf' t 0 0, (0 : Int)) else (zeroT, 6)) = (zeroT, 6) := if_neg (by rw [not_wf e1]; decide)
    rw [hk]
    by_cases e3 : (chT cf vf t 0 0).2 = 0
    · rw [if_pos (Or.inr (not_wf (e2 e3)))]
    · rw [if_pos (Or.inl e3)]
end kept
end Go.Abs.Kon

namespace Go.Abs.Kon
open Go Go.Proofs Go.Abs
set_option maxRecDepth 100000
set_option maxHeartbeats 4000000

def cshM (n : Int) (c : ConT) (u : Int) : ConT := mapF (shiftLeaf n 0) c u
def vshM (m n _u w : Int) : TermT := varT (if n ≥ w then n + m else n)
def shM (n m : Int) (t : TermT) : TermT := mapT (cshM n) (vshM m) t 0 0
def cidM (c : ConT) (_u : Int) : ConT := c
def vsubM (by' : TermT) (n u w : Int) : TermT := if n = w then shM u w by' else varT (if n > w then n - 1 else n)
def subM (by' t : TermT) : TermT := mapT cidM (vsubM by') t 0 0
def csubM (us : List ConT) (c : ConT) (u : Int) : ConT := mapF (substM us) c u
def vidM (n _u _w : Int) : TermT := varT n
def subCM (us : List ConT) (t : TermT) : TermT := mapT (csubM us) vidM t 0 0
theorem mapT_var (cf : ConT → Int → ConT) (vf : Int → Int → Int → TermT) (n u w : Int) : mapT cf vf (varT n) u w = vf n u w := by rw [varT, mapT, if_pos rfl]
theorem mshift0 {c : ConT} (h : formedF c = true) (u : Int) : mapF (shiftLeaf 0 0) c u = c := by
  refine map_id (fun x b hx hfx => ?_) c u h
  by_cases h1 : x.op = 1 ∧ x.n - b ≥ 0
  · rw [shift_hi h1.1 h1.2, Int.add_zero]
    exact var_formed h1.1 hfx
  · rw [shift_lo h1]
    exact leafC_formed hx hfx
theorem csh_valid {c : ConT} (h : validF c = true) (n u : Int) : cshR c n u = cshM n c u := by
  rw [cshR, if_neg (by rw [valid_notzero h]; decide), cshM]
  exact (shift_eq n 0 c u u (validF_formed h) (by rw [Int.zero_add])).symm
mutual
theorem rsh_map (n m : Int) : ∀ (t : TermT) (u w : Int), wfT t = true → rshT n m t u w = mapT (cshM n) (vshM m) t u w
  | .mk op i s con to k names l, u, w, hwf => by
    rw [wfT, Bool.and_eq_true] at hwf
    obtain ⟨n1, n2, n3, n4⟩ := node_con hwf.1
    rw [rshT, mapT]
    by_cases ho : op = 1
    · obtain ⟨rfl, rfl, rfl, rfl, rfl, g, _⟩ := node_op1 hwf.1 ho
      have := List.eq_nil_of_length_eq_zero g
      subst this ho
      rw [if_pos rfl, vshM, varT, zero_csh, rshL]
      by_cases h : i ≥ w
      · rw [if_pos h, if_pos ⟨rfl, h⟩]
      · rw [if_neg h, if_neg (fun e => h e.2)]
    · rw [if_neg ho, if_neg (fun e : op = 1 ∧ i ≥ w => ho e.1), rshL_map n m op l 0 u w hwf.2 (fun e => by have := ins_le hwf.1 e; omega)]
      have hC : cshR con n u = (if hasConF op = true then cshM n con u else zeroC) := by
        by_cases e : hasConF op = true
        · rw [if_pos e, csh_valid (n1 e)]
        · rw [if_neg e, n2 (by simpa using e), zero_csh]
      have hT : cshR to n u = (if op = 8 then cshM n to u else zeroC) := by
        by_cases e : op = 8
        · rw [if_pos e, csh_valid (n3 e)]
        · rw [if_neg e, n4 e, zero_csh]
      rw [hC, hT]
theorem rshL_map (n m op : Int) : ∀ (l : List TermT) (i : Nat) (u w : Int), wfL l = true → (op = 9 → i + l.length ≤ 2) → rshL n m op l i u w = mapTL (cshM n) (vshM m) op l i u w
  | [], i, u, w, _, _ => by rw [rshL, mapTL]
  | x :: r, i, u, w, hwf, h9 => by
    rw [wfL, Bool.and_eq_true] at hwf
    have h9' : op = 9 → i ≤ 1 := fun e => by have := h9 e; rw [List.length_cons] at this; omega
    rw [rshL, mapTL, ins_cons h9', ins_terms h9', rsh_map n m x _ _ hwf.1, rshL_map n m op r (i + 1) u w hwf.2 (fun e => by have := h9 e; rw [List.length_cons] at this; omega)]
end
theorem ShiftT_M {t : TermT} {n m : Int} (h : validT t = true) (h1 : inB n = true) (h2 : inB m = true) (h3 : headLt (sortU (consF t 0)) n = false) (h4 : headLt (sortU (termsF t 0)) m = false) : ShiftT t n m = keptT (shM n m t) := by
  rw [ShiftT_eq h h1 h2 h3 h4, rsh_map n m t 0 0 (valid_wf h).1, shM]
theorem shT_M {t : TermT} (h : wfT t = true) (n m : Int) (h1 : 0 ≤ n) (h2 : n ≤ 20000) :
    ((shT n m t).2 = 0 ∧ (shT n m t).1 = shM n m t) ∨ (wfT (shM n m t) = false ∧ ((shT n m t).2 = 0 → wfT (shT n m t).1 = false)) := by
  obtain ⟨e1, e2⟩ := sh_eq n m (by omega) h2 t 0 0 h (by decide) (fun i hi => by have := consF_n t 0 (by decide) i hi; omega)
  rw [rsh_map n m t 0 0 h] at e1 e2
  rw [shT, shM]
  by_cases h0 : (chT (shCf n) (shVf m) t 0 0).2 = 0
  · exact .inl ⟨h0, e1 h0⟩
  · exact .inr ⟨e2 h0, fun h => absurd h h0⟩
theorem SubstT_M {t by' : TermT} (h : validT t = true) (h' : validT by' = true) : SubstT t by' = keptT (subM by' t) := by
  rw [SubstT, if_neg (by rw [h, h']; rintro (e | e) <;> cases e), subM]
  refine fin_map (fun c u w hc _ _ => ?_) (fun n u w _ _ hu hu' hw hw' => ?_) h
  · rw [sameCf, shc0 hc, cidM]
    exact .inl ⟨rfl, rfl⟩
  · rw [subVf, vsubM]
    by_cases e : n = w
    · rw [if_pos e, if_pos e]
      exact shT_M (valid_wf h').1 u w hu (by omega)
    · rw [if_neg e, if_neg e]
      exact .inl ⟨rfl, rfl⟩
theorem SubstConsT_M {t : TermT} {us : List ConT} (h : validT t = true) (h' : us.all validF = true) (hl : us.length ≤ 1000) : SubstConsT t us = keptT (subCM us t) := by
  rw [SubstConsT, if_neg (by rw [h, h']; rintro (e | e) <;> cases e), if_neg (by omega), subCM]
  refine fin_map (fun c u w hc hu hu' => ?_) (fun n u w _ _ _ _ _ _ => ?_) h
  · rw [repCf, csubM]
    obtain ⟨_, hd, hf⟩ := valid_parts hc
    rcases repl_eq us h' c u hf hu (by omega) with e | ⟨e1, e2⟩
    · exact .inl ⟨rfl, e⟩
    · exact .inr ⟨e2, fun _ => e1⟩
  · rw [idVf, vidM]
    exact .inl ⟨rfl, rfl⟩

/-! There and back -/

theorem shM_back (n m : Int) (hn : 0 ≤ n) (hm : 0 ≤ m) {t : TermT} (h : wfT t = true) : shM (-n) (-m) (shM n m t) = t := by
  have := fuse1T (c1 := cshM n) (c2 := cshM (-n)) (c3 := cidM) (v1 := vshM m) (v2 := vshM (-m)) (v3 := vidM) (b1 := 0) (b2 := 0) (b3 := 0) (d1 := 0) (d2 := 0) (d3 := 0) (fun c u hu hc => by
    simp only [Int.zero_add, cshM, cidM]
    rw [shift_shift n (-n) 0 hn c u hu, Int.add_right_neg, mshift0 (validF_formed hc)]) (fun i u w _ _ _ _ => by
    simp only [Int.zero_add]
    rw [vshM, mapT_var, vshM, vidM]
    congr 1
    by_cases e : i ≥ w
    · rw [if_pos e, if_pos (by omega)]; omega
    · rw [if_neg e, if_neg e]) t 0 0 h (by decide) (by decide)
  simp only [Int.add_zero] at this
  rw [shM, shM, this]
  exact mapT_id (fun _ _ _ _ => rfl) (fun _ _ _ => rfl) t 0 0 h (by decide)
theorem sub_shM (by' : TermT) {t : TermT} (h : wfT t = true) : subM by' (shM 0 1 t) = t := by
  have := fuse1T (c1 := cshM 0) (c2 := cidM) (c3 := cidM) (v1 := vshM 1) (v2 := vsubM by') (v3 := vidM) (b1 := 0) (b2 := 0) (b3 := 0) (d1 := 0) (d2 := 0) (d3 := 0) (fun c u hu hc => by
    simp only [Int.zero_add, cshM, cidM]
    rw [mshift0 (validF_formed hc)]) (fun i u w _ _ _ _ => by
    simp only [Int.zero_add]
    rw [vshM, mapT_var, vsubM, vidM]
    by_cases e : i ≥ w
    · rw [if_pos e, if_neg (by omega), if_pos (by omega)]
      congr 1; omega
    · rw [if_neg e, if_neg (by omega), if_neg (by omega)]) t 0 0 h (by decide) (by decide)
  simp only [Int.add_zero] at this
  rw [shM, subM, this]
  exact mapT_id (fun _ _ _ _ => rfl) (fun _ _ _ => rfl) t 0 0 h (by decide)
theorem subst_shiftN (us : List ConT) (c : ConT) (hf : formedF c = true) (u : Int) (hu : 0 ≤ u) : mapF (substM us) (mapF (shiftLeaf us.length 0) c u) u = c := by
  have := fuse1 (l1 := shiftLeaf us.length 0) (l2 := substM us) (l3 := shiftLeaf 0 0) (b1 := 0) (b2 := 0) (b3 := 0) (fun x t ht hx => by
    rw [Int.zero_add]
    by_cases h1 : x.op = 1 ∧ x.n - t ≥ 0
    · rw [shift_hi h1.1 h1.2, mapF_varC, shift_hi h1.1 h1.2, sub_hi (m := x.n + 0) (varC_op _) (by rw [varC_n]; omega) (by rw [varC_n]; omega) (by rw [varC_n]; omega)]
    · rw [shift_lo h1, mapF_leafC _ hx, shift_lo h1, sub_lo (by rw [leafC_op, leafC_n]; by_cases ho : x.op = 1 <;> omega), leafC_leafC]) c u hu
  simp only [Int.zero_add] at this
  rw [this, mshift0 hf]
theorem subC_shM (us : List ConT) {t : TermT} (h : wfT t = true) : subCM us (shM us.length 0 t) = t := by
  have := fuse1T (c1 := cshM us.length) (c2 := csubM us) (c3 := cidM) (v1 := vshM 0) (v2 := vidM) (v3 := vidM) (b1 := 0) (b2 := 0) (b3 := 0) (d1 := 0) (d2 := 0) (d3 := 0) (fun c u hu hc => by
    simp only [Int.zero_add, cshM, cidM, csubM]
    rw [subst_shiftN us c (validF_formed hc) u hu]) (fun i u w _ _ _ _ => by
    simp only [Int.zero_add]
    rw [vshM, mapT_var, vidM, vidM, Int.add_zero]
    congr 1
    split <;> rfl) t 0 0 h (by decide) (by decide)
  simp only [Int.add_zero] at this
  rw [shM, subCM, this]
  exact mapT_id (fun _ _ _ _ => rfl) (fun _ _ _ => rfl) t 0 0 h (by decide)

/-! Substitutions commute -/

theorem subst_underU (us : List ConT) (d : Int) (hd : 0 ≤ d) (a : ConT) (u : Int) (hu : 0 ≤ u) : mapF (substM us) (mapF (shiftLeaf d 0) a u) (d + u) = mapF (shiftLeaf d 0) (mapF (substM us) a u) u := by
  have := fuse (l1 := shiftLeaf d 0) (l2 := substM us) (l3 := substM us) (l4 := shiftLeaf d 0) (b1 := 0) (b2 := d) (b3 := 0) (b4 := 0) (fun x t ht hx => by
    simp only [Int.zero_add]
    by_cases h1 : x.op = 1 ∧ x.n - t ≥ 0
    · rw [shift_hi h1.1 h1.2, mapF_varC]
      by_cases h2 : x.n - t ≥ us.length
      · rw [sub_hi (m := x.n - us.length + d) (varC_op _) (by rw [varC_n]; omega) (by rw [varC_n]; omega) (by rw [varC_n]; omega), sub_hi (m := x.n - us.length) h1.1 (by omega) h2 rfl, mapF_varC, shift_hi (varC_op _) (by rw [varC_n]; omega), varC_n]
      · rw [sub_in (m := x.n - t) (varC_op _) (by rw [varC_n]; omega) (by omega) (by omega), sub_in (m := x.n - t) h1.1 rfl (by omega) (by omega)]
        generalize us.getD (x.n - t).toNat zeroC = u
        have h3 := shift_base d 0 (mapF (shiftLeaf t 0) u 0) t
        rw [h3, Int.zero_add, shift_over d t ht]
    · have h2 : x.op ≠ 1 ∨ x.n - t < 0 := by by_cases ho : x.op = 1 <;> omega
      have h3 : x.op ≠ 1 ∨ x.n - (d + t) < 0 := by by_cases ho : x.op = 1 <;> omega
      rw [shift_lo h1, mapF_leafC _ hx, sub_lo h2, sub_lo (x := leafC x) h3, mapF_leafC _ hx, shift_lo (x := leafC x) h1]) a u hu
  simpa only [Int.zero_add] using this
theorem subC_under (us : List ConT) (e f : Int) (he : 0 ≤ e) {t : TermT} (h : wfT t = true) : mapT (csubM us) vidM (shM e f t) e f = shM e f (subCM us t) := by
  have := fuseT (c1 := cshM e) (c2 := csubM us) (c3 := csubM us) (c4 := cshM e) (v1 := vshM f) (v2 := vidM) (v3 := vidM) (v4 := vshM f) (b1 := 0) (b2 := e) (b3 := 0) (b4 := 0) (d1 := 0) (d2 := f) (d3 := 0) (d4 := 0) (fun c u hu hc => by
    simp only [Int.zero_add, cshM, csubM]
    exact subst_underU us e he c u hu) (fun i u w _ _ _ _ => by
    simp only [Int.zero_add]
    rw [vidM, mapT_var, vshM, mapT_var, vidM]) t 0 0 h (by decide) (by decide)
  simpa only [Int.add_zero, shM, subCM] using this
theorem sub_commutes (us : List ConT) {by' t : TermT} (h : wfT t = true) (h' : wfT by' = true) : subCM us (subM by' t) = subM (subCM us by') (subCM us t) := by
  have := fuseT (c1 := cidM) (c2 := csubM us) (c3 := csubM us) (c4 := cidM) (v1 := vsubM by') (v2 := vidM) (v3 := vidM) (v4 := vsubM (subCM us by')) (b1 := 0) (b2 := 0) (b3 := 0) (b4 := 0) (d1 := 0) (d2 := 0) (d3 := 0) (d4 := 0) (fun c u hu hc => by
    simp only [Int.zero_add, cidM]) (fun i u w _ _ hu hw => by
    simp only [Int.zero_add]
    rw [vidM, mapT_var, vsubM, vsubM]
    by_cases e : i = w
    · rw [if_pos e, if_pos e]
      exact subC_under us u w hu h'
    · rw [if_neg e, if_neg e, mapT_var, vidM]) t 0 0 h (by decide) (by decide)
  simpa only [Int.add_zero, subM, subCM] using this
end Go.Abs.Kon

namespace Go.Abs.Kon
open Go Go.Proofs Go.Abs
set_option maxRecDepth 100000
set_option maxHeartbeats 4000000

/-! How great what is made is -/

def okwc (t : TermT) : Prop := okT t ∧ wcT t
mutual
theorem mapT_okwc {cf : ConT → Int → ConT} {vf : Int → Int → Int → TermT} (hc : ∀ c u, wtF c ≤ 10000000 → okS c → wtF (cf c u) ≤ 10000000 ∧ okS (cf c u)) (hv : ∀ n u w, okwc (vf n u w)) :
    ∀ (t : TermT) (u w : Int), okT t → wcT t → okwc (mapT cf vf t u w)
  | .mk op n s con to k names l, u, w, hok, hwc => by
    have hz : wtF zeroC ≤ 10000000 ∧ okS zeroC := ⟨by decide, okS_zero⟩
    simp only [okT] at hok
    simp only [wcT] at hwc
    rw [mapT]
    by_cases ho : op = 1
    · rw [if_pos ho]; exact hv n u w
    · rw [if_neg ho]
      have hL := mapTL_okwc hc hv op l 0 u w hok.2.2.2.2.2.2.2 hwc.2.2
      have hC : wtF (if hasConF op = true then cf con u else zeroC) ≤ 10000000 ∧ okS (if hasConF op = true then cf con u else zeroC) := by
        split
        · exact hc con u hwc.1 hok.2.1.2
        · exact hz
      have hT : wtF (if op = 8 then cf to u else zeroC) ≤ 10000000 ∧ okS (if op = 8 then cf to u else zeroC) := by
        split
        · exact hc to u hwc.2.1 hok.2.2.1.2
        · exact hz
      generalize (if hasConF op = true then cf con u else zeroC) = c' at hC
      generalize (if op = 8 then cf to u else zeroC) = t' at hT
      have s1 := sizeF_wt c'
      have s2 := sizeF_wt t'
      constructor
      · simp only [okT]
        refine ⟨hok.1, ⟨by omega, hC.2⟩, ⟨by omega, hT.2⟩, hok.2.2.2.1, hok.2.2.2.2.1, hok.2.2.2.2.2.1, ?_, hL.1⟩
        rw [mapTL_len]; exact hok.2.2.2.2.2.2.1
      · simp only [wcT]
        exact ⟨hC.1, hT.1, hL.2⟩
theorem mapTL_okwc {cf : ConT → Int → ConT} {vf : Int → Int → Int → TermT} (hc : ∀ c u, wtF c ≤ 10000000 → okS c → wtF (cf c u) ≤ 10000000 ∧ okS (cf c u)) (hv : ∀ n u w, okwc (vf n u w)) (op : Int) :
    ∀ (l : List TermT) (i : Nat) (u w : Int), okTs l → wcTs l → okTs (mapTL cf vf op l i u w) ∧ wcTs (mapTL cf vf op l i u w)
  | [], i, u, w, _, _ => by rw [mapTL]; exact ⟨trivial, trivial⟩
  | x :: r, i, u, w, hok, hwc => by
    simp only [okTs] at hok
    simp only [wcTs] at hwc
    have h1 := mapT_okwc hc hv x (u + insC op i) (w + insT op i) hok.1 hwc.1
    have h2 := mapTL_okwc hc hv op r (i + 1) u w hok.2 hwc.2
    rw [mapTL]
    simp only [okTs, wcTs]
    exact ⟨⟨h1.1, h2.1⟩, h1.2, h2.2⟩
end
theorem wcT_varT (n : Int) : wcT (varT n) := by
  simp only [varT, wcT, wcTs]
  exact ⟨by decide, by decide, trivial⟩
theorem okwc_var (n : Int) : okwc (varT n) := ⟨okT_var n, wcT_varT n⟩
theorem csh_okwc (n : Int) (c : ConT) (u : Int) (h1 : wtF c ≤ 10000000) (h2 : okS c) : wtF (cshM n c u) ≤ 10000000 ∧ okS (cshM n c u) := by
  rw [cshM]
  exact ⟨Nat.le_trans (wt_shift n 0 c u) h1, mapF_okS _ c u h2 fun x b hx => okS_shiftLeaf n 0 x b ((leaves_mem c u x b hx).2.1 h2)⟩
theorem shM_okwc (n m : Int) {t : TermT} (h1 : okT t) (h2 : wcT t) : okwc (shM n m t) :=
  mapT_okwc (csh_okwc n) (fun _ _ _ => okwc_var _) t 0 0 h1 h2
theorem subM_okwc {t by' : TermT} (h1 : okT t) (h2 : wcT t) (h3 : okT by') (h4 : wcT by') : okwc (subM by' t) :=
  mapT_okwc (fun c _ h h' => ⟨h, h'⟩) (fun n u w => by
    rw [vsubM]
    split
    · exact shM_okwc u w h3 h4
    · exact okwc_var _) t 0 0 h1 h2

/-! Free variables -/

mutual
theorem map_leaves (leaf : ConT → Int → ConT) (hl : ∀ x b, isLeaf x → isLeaf (leaf x b)) : ∀ (c : ConT) (b : Int) (x : ConT) (b' : Int), (x, b') ∈ leaves c b → (leaf x b', b') ∈ leaves (mapF leaf c b) b
  | .mk op n s k names l, b, x, b', h => by
    rw [mapF]
    by_cases ho : op = 1 ∨ op = 2
    · rw [leaves, if_pos ho] at h
      simp only [List.mem_singleton, Prod.mk.injEq] at h
      obtain ⟨rfl, rfl⟩ := h
      rw [if_pos ho]
      have h1 := hl (.mk op n s k names l) b' ho
      generalize leaf (.mk op n s k names l) b' = z at h1
      obtain ⟨op', n', s', k', names', l'⟩ := z
      have h1' : op' = 1 ∨ op' = 2 := h1
      rw [leaves, if_pos h1']
      simp
    · rw [leaves, if_neg ho] at h
      rw [if_neg ho, leaves, if_neg ho]
      exact map_leavesL leaf hl l _ x b' h
theorem map_leavesL (leaf : ConT → Int → ConT) (hl : ∀ x b, isLeaf x → isLeaf (leaf x b)) : ∀ (l : List ConT) (b : Int) (x : ConT) (b' : Int), (x, b') ∈ leavesL l b → (leaf x b', b') ∈ leavesL (mapL leaf l b) b
  | [], b, x, b', h => by simp [leavesL] at h
  | y :: r, b, x, b', h => by
    rw [leavesL] at h
    rw [mapL, leavesL]
    rcases List.mem_append.1 h with h | h
    · exact List.mem_append_left _ (map_leaves leaf hl y b x b' h)
    · exact List.mem_append_right _ (map_leavesL leaf hl r b x b' h)
end
theorem mem_aboveF {c : ConT} (h : validF c = true) {u : Int} (hu : 0 ≤ u) {i : Int} : i ∈ above (freeF c) u ↔ ∃ x b, (x, b) ∈ leaves c 0 ∧ x.op = 1 ∧ x.n - b ≥ u ∧ i = x.n - b - u := by
  rw [mem_above]
  constructor
  · rintro ⟨k, h1, h2, rfl⟩
    obtain ⟨x, b, e1, e2, e3, rfl⟩ := mem_freeL.1 ((mem_freeF h).1 h1)
    exact ⟨x, b, e1, e2, h2, rfl⟩
  · rintro ⟨x, b, e1, e2, e3, rfl⟩
    exact ⟨x.n - b, (mem_freeF h).2 (mem_freeL.2 ⟨x, b, e1, e2, by omega, rfl⟩), e3, rfl⟩
theorem free_csh {c : ConT} {n u : Int} (hn : 0 ≤ n) (hu : 0 ≤ u) (h : validF c = true) (h' : validF (cshM n c u) = true) {i : Int} : i ∈ above (freeF (cshM n c u)) u ↔ ∃ j ∈ above (freeF c) u, i = j + n := by
  have e : cshM n c u = mapF (shiftLeaf n u) c 0 := by
    have := shift_base n 0 c u
    rw [Int.zero_add] at this
    rw [cshM, this]
  rw [mem_aboveF h' hu, e]
  constructor
  · rintro ⟨y, b, h1, h2, h3, rfl⟩
    obtain ⟨x, h4, rfl⟩ := leaves_map (shiftLeaf n u) (fun x b hx => isLeaf_shift n u x b hx) c 0 y b h1
    by_cases g : x.op = 1 ∧ x.n - b ≥ u
    · refine ⟨x.n - b - u, (mem_aboveF h hu).2 ⟨x, b, h4, g.1, g.2, rfl⟩, ?_⟩
      rw [shift_hi g.1 g.2, varC_n]; omega
    · rw [shift_lo g, leafC_op] at h2
      rw [shift_lo g, leafC_n] at h3
      exact absurd ⟨h2, h3⟩ g
  · rintro ⟨j, h1, rfl⟩
    obtain ⟨x, b, h2, h3, h4, rfl⟩ := (mem_aboveF h hu).1 h1
    refine ⟨shiftLeaf n u x b, b, map_leaves (shiftLeaf n u) (fun x b hx => isLeaf_shift n u x b hx) c 0 x b h2, ?_, ?_, ?_⟩
    · rw [shift_hi h3 h4, varC_op]
    · rw [shift_hi h3 h4, varC_n]; omega
    · rw [shift_hi h3 h4, varC_n]; omega
theorem consF_var (n u : Int) : consF (varT n) u = [] := by
  rw [varT, consF, if_neg (by decide), if_neg (by decide), consL]; rfl
theorem termsF_var (n w : Int) : termsF (varT n) w = above [n] w := by
  rw [varT, termsF, if_pos rfl, termsL, List.append_nil]
mutual
theorem consF_sh (n m : Int) (hn : 0 ≤ n) : ∀ (t : TermT) (u w : Int), wfT t = true → wfT (mapT (cshM n) (vshM m) t u w) = true → 0 ≤ u → ∀ i, i ∈ consF (mapT (cshM n) (vshM m) t u w) u ↔ ∃ j ∈ consF t u, i = j + n
  | .mk op a s con to k names l, u, w, hwf, hwf', hu, i => by
    rw [wfT, Bool.and_eq_true] at hwf
    obtain ⟨n1, _, n3, _⟩ := node_con hwf.1
    by_cases ho : op = 1
    · obtain ⟨_, _, _, _, _, g, _⟩ := node_op1 hwf.1 ho
      have := List.eq_nil_of_length_eq_zero g
      subst this
      rw [mapT, if_pos ho, vshM, consF_var, consF, if_neg (by subst ho; decide), if_neg (by omega), consL]
      simp
    · rw [mapT, if_neg ho] at hwf' ⊢
      rw [wfT, Bool.and_eq_true] at hwf'
      obtain ⟨m1, _, m3, _⟩ := node_con hwf'.1
      have hL := consL_sh n m hn op l 0 u w hwf.2 hwf'.2 hu i
      rw [consF, consF, List.mem_append, List.mem_append, hL]
      have hC : i ∈ (if hasConF op = true then above (freeF (if hasConF op = true then cshM n con u else zeroC)) u else []) ↔ ∃ j ∈ (if hasConF op = true then above (freeF con) u else []), i = j + n := by
        by_cases e : hasConF op = true
        · have := m1 e
          simp only [if_pos e] at this ⊢
          exact free_csh hn hu (n1 e) this
        · simp only [if_neg e]; simp
      have hT : i ∈ (if op = 8 then above (freeF (if op = 8 then cshM n to u else zeroC)) u else []) ↔ ∃ j ∈ (if op = 8 then above (freeF to) u else []), i = j + n := by
        by_cases e : op = 8
        · have := m3 e
          simp only [if_pos e] at this ⊢
          exact free_csh hn hu (n3 e) this
        · simp only [if_neg e]; simp
      rw [hC, hT]
      simp only [List.mem_append]
      constructor
      · rintro (⟨j, h, e⟩ | ⟨j, h, e⟩ | ⟨j, h, e⟩)
        · exact ⟨j, .inl h, e⟩
        · exact ⟨j, .inr (.inl h), e⟩
        · exact ⟨j, .inr (.inr h), e⟩
      · rintro ⟨j, h | h | h, e⟩
        · exact .inl ⟨j, h, e⟩
        · exact .inr (.inl ⟨j, h, e⟩)
        · exact .inr (.inr ⟨j, h, e⟩)
theorem consL_sh (n m : Int) (hn : 0 ≤ n) (op : Int) : ∀ (l : List TermT) (q : Nat) (u w : Int), wfL l = true → wfL (mapTL (cshM n) (vshM m) op l q u w) = true → 0 ≤ u → ∀ i, i ∈ consL op (mapTL (cshM n) (vshM m) op l q u w) q u ↔ ∃ j ∈ consL op l q u, i = j + n
  | [], q, u, w, _, _, _, i => by rw [mapTL, consL]; simp
  | x :: r, q, u, w, hwf, hwf', hu, i => by
    rw [wfL, Bool.and_eq_true] at hwf
    rw [mapTL] at hwf' ⊢
    rw [wfL, Bool.and_eq_true] at hwf'
    have h1 := consF_sh n m hn x (u + insC op q) (w + insT op q) hwf.1 hwf'.1 (by have := insC_nn op q; omega) i
    have h2 := consL_sh n m hn op r (q + 1) u w hwf.2 hwf'.2 hu i
    rw [consL, consL, List.mem_append, h1, h2]
    simp only [List.mem_append]
    constructor
    · rintro (⟨j, h, e⟩ | ⟨j, h, e⟩)
      · exact ⟨j, .inl h, e⟩
      · exact ⟨j, .inr h, e⟩
    · rintro ⟨j, h | h, e⟩
      · exact .inl ⟨j, h, e⟩
      · exact .inr ⟨j, h, e⟩
end
theorem mem_above1 {a w i : Int} : i ∈ above [a] w ↔ a ≥ w ∧ i = a - w := by
  rw [mem_above]
  constructor
  · rintro ⟨n, h, h1, h2⟩
    rw [List.mem_singleton] at h
    subst h
    exact ⟨h1, h2⟩
  · rintro ⟨h1, h2⟩
    exact ⟨a, by simp, h1, h2⟩
mutual
theorem termsF_sh (n m : Int) (hm : 0 ≤ m) : ∀ (t : TermT) (u w : Int), wfT t = true → ∀ i, i ∈ termsF (mapT (cshM n) (vshM m) t u w) w ↔ ∃ j ∈ termsF t w, i = j + m
  | .mk op a s con to k names l, u, w, hwf, i => by
    rw [wfT, Bool.and_eq_true] at hwf
    by_cases ho : op = 1
    · obtain ⟨_, _, _, _, _, g, _⟩ := node_op1 hwf.1 ho
      have := List.eq_nil_of_length_eq_zero g
      subst this
      rw [mapT, if_pos ho, vshM, termsF_var, termsF, if_pos ho, termsL, List.append_nil, mem_above1]
      simp only [mem_above1]
      constructor
      · rintro ⟨h1, h2⟩
        refine ⟨a - w, ⟨?_, rfl⟩, ?_⟩ <;> split at h1 <;> split at h2 <;> omega
      · rintro ⟨j, ⟨h1, rfl⟩, rfl⟩
        rw [if_pos h1]; omega
    · rw [mapT, if_neg ho, termsF, termsF, if_neg ho]
      simp only [List.nil_append]
      exact termsL_sh n m hm op l 0 u w hwf.2 i
theorem termsL_sh (n m : Int) (hm : 0 ≤ m) (op : Int) : ∀ (l : List TermT) (q : Nat) (u w : Int), wfL l = true → ∀ i, i ∈ termsL op (mapTL (cshM n) (vshM m) op l q u w) q w ↔ ∃ j ∈ termsL op l q w, i = j + m
  | [], q, u, w, _, i => by rw [mapTL, termsL]; simp
  | x :: r, q, u, w, hwf, i => by
    rw [wfL, Bool.and_eq_true] at hwf
    have h1 := termsF_sh n m hm x (u + insC op q) (w + insT op q) hwf.1 i
    have h2 := termsL_sh n m hm op r (q + 1) u w hwf.2 i
    rw [mapTL, termsL, termsL, List.mem_append, h1, h2]
    simp only [List.mem_append]
    constructor
    · rintro (⟨j, h, e⟩ | ⟨j, h, e⟩)
      · exact ⟨j, .inl h, e⟩
      · exact ⟨j, .inr h, e⟩
    · rintro ⟨j, h | h, e⟩
      · exact .inl ⟨j, h, e⟩
      · exact .inr ⟨j, h, e⟩
end
/-- An ascending list with a number added. -/
theorem sortU_add {l l' : List Int} {n : Int} (h : ∀ i, i ∈ l' ↔ ∃ j ∈ l, i = j + n) : sortU l' = (sortU l).map (· + n) := by
  symm
  refine sortU_unique ?_ fun x => ?_
  · rw [List.pairwise_map]
    exact (sortU_asc l).imp fun h => by omega
  · rw [List.mem_map, h]
    constructor
    · rintro ⟨j, h1, rfl⟩; exact ⟨j, (sortU_mem l).1 h1, rfl⟩
    · rintro ⟨j, h1, rfl⟩; exact ⟨j, (sortU_mem l).2 h1, rfl⟩
theorem cons_shM {n m : Int} (hn : 0 ≤ n) {t : TermT} (h : wfT t = true) (h' : wfT (shM n m t) = true) : sortU (consF (shM n m t) 0) = (sortU (consF t 0)).map (· + n) :=
  sortU_add fun i => consF_sh n m hn t 0 0 h h' (by decide) i
theorem terms_shM {n m : Int} (hm : 0 ≤ m) {t : TermT} (h : wfT t = true) : sortU (termsF (shM n m t) 0) = (sortU (termsF t 0)).map (· + m) :=
  sortU_add fun i => termsF_sh n m hm t 0 0 h i
theorem head_nonneg {l : List Int} {n : Int} (h : ∀ i ∈ l, 0 ≤ i + n) : headLt l n = false := by
  cases l with
  | nil => rfl
  | cons x r =>
    rw [headLt]
    have := h x (by simp)
    exact decide_eq_false (by omega)

/-! A closed term that is substituted -/

def oneT : TermT := .mk 2 1 ByteArray.empty zeroC zeroC [] [] []
theorem shM_one (u w : Int) : shM u w oneT = oneT := by
  rw [shM, oneT, mapT, if_neg (by decide), if_neg (by decide), if_neg (by decide), mapTL]
theorem consF_oneT (u : Int) : consF oneT u = [] := by
  rw [oneT, consF, if_neg (by decide), if_neg (by decide), consL]; rfl
theorem termsF_oneT (u : Int) : termsF oneT u = [] := by
  rw [oneT, termsF, if_neg (by decide), termsL]; rfl
theorem vsub_one (n u w : Int) : vsubM oneT n u w = if n = w then oneT else varT (if n > w then n - 1 else n) := by rw [vsubM, shM_one]
mutual
theorem consF_one : ∀ (t : TermT) (u w : Int), wfT t = true → ∀ u', consF (mapT cidM (vsubM oneT) t u w) u' = consF t u'
  | .mk op a s con to k names l, u, w, hwf, u' => by
    rw [wfT, Bool.and_eq_true] at hwf
    by_cases ho : op = 1
    · obtain ⟨_, _, _, _, _, g, _⟩ := node_op1 hwf.1 ho
      have := List.eq_nil_of_length_eq_zero g
      subst this
      have hr : consF (.mk op a s con to k names []) u' = [] := by
        subst ho
        rw [consF, if_neg (by decide), if_neg (by decide), consL]; rfl
      rw [mapT, if_pos ho, vsub_one, hr]
      split
      · exact consF_oneT _
      · exact consF_var _ _
    · rw [mapT, if_neg ho, consF, consF, consL_one op l 0 u w hwf.2 u']
      have hC : (if hasConF op = true then above (freeF (if hasConF op = true then cidM con u else zeroC)) u' else []) = (if hasConF op = true then above (freeF con) u' else []) := by
        by_cases e : hasConF op = true
        · simp only [if_pos e, cidM]
        · simp only [if_neg e]
      have hT : (if op = 8 then above (freeF (if op = 8 then cidM to u else zeroC)) u' else []) = (if op = 8 then above (freeF to) u' else []) := by
        by_cases e : op = 8
        · simp only [if_pos e, cidM]
        · simp only [if_neg e]
      rw [hC, hT]
theorem consL_one (op : Int) : ∀ (l : List TermT) (q : Nat) (u w : Int), wfL l = true → ∀ u', consL op (mapTL cidM (vsubM oneT) op l q u w) q u' = consL op l q u'
  | [], q, u, w, _, u' => by rw [mapTL]
  | x :: r, q, u, w, hwf, u' => by
    rw [wfL, Bool.and_eq_true] at hwf
    rw [mapTL, consL, consL, consF_one x _ _ hwf.1, consL_one op r (q + 1) u w hwf.2]
end
mutual
theorem termsF_one : ∀ (t : TermT) (u w : Int), wfT t = true → ∀ i, i ∈ termsF (mapT cidM (vsubM oneT) t u w) w ↔ 0 ≤ i ∧ i + 1 ∈ termsF t w
  | .mk op a s con to k names l, u, w, hwf, i => by
    rw [wfT, Bool.and_eq_true] at hwf
    by_cases ho : op = 1
    · obtain ⟨_, _, _, _, _, g, _⟩ := node_op1 hwf.1 ho
      have := List.eq_nil_of_length_eq_zero g
      subst this
      rw [mapT, if_pos ho, vsub_one, termsF.eq_def (.mk op a s con to k names [])]
      simp only
      rw [if_pos ho, termsL, List.append_nil, mem_above1]
      by_cases e : a = w
      · rw [if_pos e, termsF_oneT]
        simp; omega
      · rw [if_neg e, termsF_var, mem_above1]
        split <;> omega
    · rw [mapT, if_neg ho, termsF, termsF, if_neg ho]
      simp only [List.nil_append]
      exact termsL_one op l 0 u w hwf.2 i
theorem termsL_one (op : Int) : ∀ (l : List TermT) (q : Nat) (u w : Int), wfL l = true → ∀ i, i ∈ termsL op (mapTL cidM (vsubM oneT) op l q u w) q w ↔ 0 ≤ i ∧ i + 1 ∈ termsL op l q w
  | [], q, u, w, _, i => by rw [mapTL, termsL]; simp
  | x :: r, q, u, w, hwf, i => by
    rw [wfL, Bool.and_eq_true] at hwf
    have h1 := termsF_one x (u + insC op q) (w + insT op q) hwf.1 i
    have h2 := termsL_one op r (q + 1) u w hwf.2 i
    rw [mapTL, termsL, termsL, List.mem_append, h1, h2, List.mem_append]
    constructor
    · rintro (h | h)
      · exact ⟨h.1, .inl h.2⟩
      · exact ⟨h.1, .inr h.2⟩
    · rintro ⟨h, g | g⟩
      · exact .inl ⟨h, g⟩
      · exact .inr ⟨h, g⟩
end
/-- A list without the 0 at its head. -/
def dropZ : List Int → List Int
  | [] => []
  | x :: r => if x = 0 then r else x :: r
theorem dropZ_mem {l : List Int} (h : l.Pairwise (· < ·)) (h0 : ∀ x ∈ l, 0 ≤ x) : (dropZ l).Pairwise (· < ·) ∧ ∀ x, x ∈ dropZ l ↔ x ∈ l ∧ 1 ≤ x := by
  cases l with
  | nil => exact ⟨List.Pairwise.nil, fun x => by simp [dropZ]⟩
  | cons y r =>
    rw [dropZ]
    obtain ⟨h1, h2⟩ := List.pairwise_cons.1 h
    have hy := h0 y (by simp)
    split
    · rename_i e
      subst e
      refine ⟨h2, fun x => ⟨fun hx => ⟨List.mem_cons_of_mem _ hx, by have := h1 x hx; omega⟩, fun hx => ?_⟩⟩
      rcases List.mem_cons.1 hx.1 with e | e
      · omega
      · exact e
    · refine ⟨h, fun x => ⟨fun hx => ⟨hx, ?_⟩, fun hx => hx.1⟩⟩
      rcases List.mem_cons.1 hx with e | e
      · omega
      · have := h1 x e; omega
theorem terms_one {t : TermT} (h : wfT t = true) : sortU (termsF (subM oneT t) 0) = (dropZ (sortU (termsF t 0))).map (· + -1) := by
  obtain ⟨d1, d2⟩ := dropZ_mem (sortU_asc (termsF t 0)) fun x hx => (termsF_n t 0 h (by decide) x ((sortU_mem _).1 hx)).1
  symm
  refine sortU_unique ?_ fun x => ?_
  · rw [List.pairwise_map]
    exact d1.imp fun h => by omega
  · rw [List.mem_map, subM, termsF_one t 0 0 h x]
    constructor
    · rintro ⟨j, h1, rfl⟩
      obtain ⟨e1, e2⟩ := (d2 j).1 h1
      refine ⟨by omega, ?_⟩
      have : j + -1 + 1 = j := by omega
      rw [this]; exact (sortU_mem _).1 e1
    · rintro ⟨h1, h2⟩
      exact ⟨x + 1, (d2 _).2 ⟨(sortU_mem _).2 h2, by omega⟩, by omega⟩
theorem cons_one {t : TermT} (h : wfT t = true) : sortU (consF (subM oneT t) 0) = sortU (consF t 0) := by
  rw [subM, consF_one t 0 0 h 0]
theorem meas_leaf {op n : Int} (h : nodeT op n ByteArray.empty zeroC zeroC [] [] 0 = true) (hh : hasConF op = false) (left depth : Int) : measT (.mk op n ByteArray.empty zeroC zeroC [] [] []) left depth = if left ≤ 0 ∨ depth > 400 then (0, false) else (1, decide (1 ≤ left)) := by
  rw [measT, List.length_nil, h]
  have e8 : op ≠ 8 := fun e => by subst e; revert hh; decide
  by_cases h1 : left ≤ 0 ∨ depth > 400
  · rw [if_pos h1, if_pos (by omega)]
  · rw [if_neg h1, if_neg (by rintro (e | e | e); exact h1 (.inl e); exact h1 (.inr e); cases e), hh, if_neg (by decide), if_neg e8, measTL]
    rfl
theorem node_var {n : Int} (h1 : 0 ≤ n) (h2 : n ≤ 20000) : nodeT 1 n ByteArray.empty zeroC zeroC [] [] 0 = true := by
  rw [nodeT, numT, if_pos rfl, decide_eq_true (show n ≥ 0 from h1), decide_eq_true h2]
  kernel_rfl
theorem node_one : nodeT 2 1 ByteArray.empty zeroC zeroC [] [] 0 = true := by decide +kernel
mutual
theorem meas_one : ∀ (t : TermT) (u w : Int), wfT t = true → 0 ≤ w → ∀ left depth, measT (mapT cidM (vsubM oneT) t u w) left depth = measT t left depth
  | .mk op a s con to k names l, u, w, hwf, hw, left, depth => by
    rw [wfT, Bool.and_eq_true] at hwf
    obtain ⟨_, n2, _, n4⟩ := node_con hwf.1
    by_cases ho : op = 1
    · obtain ⟨rfl, rfl, rfl, rfl, rfl, g, g1, g2⟩ := node_op1 hwf.1 ho
      have := List.eq_nil_of_length_eq_zero g
      subst this ho
      rw [mapT, if_pos rfl, vsub_one, meas_leaf (node_var g1 g2) rfl]
      by_cases e : a = w
      · rw [if_pos e, oneT, meas_leaf node_one rfl]
      · rw [if_neg e, varT]
        by_cases e' : a > w
        · rw [if_pos e', meas_leaf (node_var (by omega) (by omega)) rfl]
        · rw [if_neg e', meas_leaf (node_var g1 g2) rfl]
    · rw [mapT, if_neg ho]
      have hC : (if hasConF op = true then cidM con u else zeroC) = con := by
        by_cases e : hasConF op = true
        · rw [if_pos e, cidM]
        · rw [if_neg e, n2 (by simpa using e)]
      have hT : (if op = 8 then cidM to u else zeroC) = to := by
        by_cases e : op = 8
        · rw [if_pos e, cidM]
        · rw [if_neg e, n4 e]
      rw [hC, hT, measT, measT, mapTL_len, measL_one op l 0 u w hwf.2 hw]
theorem measL_one (op : Int) : ∀ (l : List TermT) (q : Nat) (u w : Int), wfL l = true → 0 ≤ w → ∀ left n depth, measTL (mapTL cidM (vsubM oneT) op l q u w) left n depth = measTL l left n depth
  | [], q, u, w, _, _, left, n, depth => by rw [mapTL]
  | x :: r, q, u, w, hwf, hw, left, n, depth => by
    rw [wfL, Bool.and_eq_true] at hwf
    rw [mapTL, measTL, measTL, meas_one x _ _ hwf.1 (by have := insT_nn op q; omega), measL_one op r (q + 1) u w hwf.2 hw]
end
theorem valid_one : validT oneT = true := by decide +kernel
theorem subst_one {t : TermT} (h : validT t = true) : SubstT t oneT = (subM oneT t, 0) ∧ validT (subM oneT t) = true := by
  have h1 : validT (subM oneT t) = true := by
    rw [validT, subM, meas_one t 0 0 (valid_wf h).1 (by decide)]
    exact h
  rw [SubstT_M h valid_one, keptT, if_pos h1]
  exact ⟨rfl, h1⟩
end Go.Abs.Kon
