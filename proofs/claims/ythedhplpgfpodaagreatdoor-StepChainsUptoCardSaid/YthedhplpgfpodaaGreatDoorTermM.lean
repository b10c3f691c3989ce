/- Terms. -/
import Derived.Test.YthedhplpgfpodaaGreatDoorTermK
set_option linter.unusedSimpArgs false
set_option linter.unusedVariables false
namespace Go.Abs.Kon
open Go Go.Proofs Go.Abs
set_option maxRecDepth 100000
set_option maxHeartbeats 4000000
mutual
def mapT (cf : ConT → Int → ConT) (vf : Int → Int → Int → TermT) : TermT → Int → Int → TermT
 | .mk op n s con to k names l, uc, ut =>
   if op = 1 then vf n uc ut else .mk op n s (if qad op = true then cf con uc else zeroC) (if op = 8 then cf to uc else zeroC) k names (qbx cf vf op l 0 uc ut)
def qbx (cf : ConT → Int → ConT) (vf : Int → Int → Int → TermT) (op : Int) : List TermT → Nat → Int → Int → List TermT
 | [], _, _, _ => []
 | x :: r, i, uc, ut => mapT cf vf x (uc + insC op i) (ut + insT op i) :: qbx cf vf op r (i + 1) uc ut
end
theorem mapTL_len (cf : ConT → Int → ConT) (vf : Int → Int → Int → TermT) (op : Int) : ∀ (l : List TermT) (i : Nat) (uc ut : Int), (qbx cf vf op l i uc ut).length = l.length
 | [], i, uc, ut => by rw [qbx]
 | x :: r, i, uc, ut => by rw [qbx, List.length_cons, List.length_cons, mapTL_len cf vf op r]
section fuse
variable {c1 c2 c3 c4 : ConT → Int → ConT} {v1 v2 v3 v4 : Int → Int → Int → TermT} {b1 b2 b3 b4 d1 d2 d3 d4 : Int}
end fuse
/-! Rebuilding is mapping -/
theorem node_with {op n : Int} {s : ByteArray} {con to : ConT} {k : List KindT} {names : List ByteArray} {len : Nat} (h : qbw op n s con to k names len = true) (c' t' : ConT) : qbw op n s c' t' k names len = (qav c' (qad op) && qav t' (op == 8)) := by
 obtain ⟨h1, h2, h3, h4, h5, h6, h7, _⟩ := qc5 h
 rw [qbw, decide_eq_true h1, decide_eq_true h2, h3, decide_eq_true h4, h5, h6, h7]
 rfl
theorem chL_len (cf : ConT → Int → Int → ConT × Int) (vf : Int → Int → Int → TermT × Int) (op : Int) : ∀ (l : List TermT) (i : Nat) (u w : Int), (chL cf vf op l i u w).2 = 0 → (chL cf vf op l i u w).1.length = l.length
 | [], i, u, w, _ => by rw [chL]
 | x :: r, i, u, w, h => by
   rw [chL] at h ⊢
   by_cases h1 : (chT cf vf x (u + insC op i) (w + insT op i)).2 ≠ 0
   ·rw [if_pos h1] at h; exact absurd h h1
   ·rw [if_neg h1] at h ⊢
    by_cases h2 : (chL cf vf op r (i + 1) u w).2 ≠ 0
    ·rw [if_pos h2] at h; exact absurd h h2
    ·rw [if_neg h2, List.length_cons, List.length_cons, chL_len cf vf op r (i + 1) u w (by simpa using h2)]
theorem chT_node (cf : ConT → Int → Int → ConT × Int) (vf : Int → Int → Int → TermT × Int) {op n : Int} {s : ByteArray} {con to : ConT} {k : List KindT} {names : List ByteArray} {l : List TermT} {u w : Int} (ho : op ≠ 1) :
  ((qad op = true → (cf con u w).2 = 0) ∧ (op = 8 → (cf to u w).2 = 0) ∧ (chL cf vf op l 0 u w).2 = 0 ∧
    chT cf vf (.mk op n s con to k names l) u w = (.mk op n s (if qad op = true then (cf con u w).1 else zeroC) (if op = 8 then (cf to u w).1 else zeroC) k names (chL cf vf op l 0 u w).1, 0)) ∨
  (((qad op = true ∧ (cf con u w).2 ≠ 0) ∨ (op = 8 ∧ (cf to u w).2 ≠ 0) ∨ (chL cf vf op l 0 u w).2 ≠ 0) ∧ (chT cf vf (.mk op n s con to k names l) u w).2 ≠ 0) := by
 rw [chT, if_neg ho]
 by_cases h1 : qad op = true ∧ (cf con u w).2 ≠ 0
 ·right
  rw [if_pos h1]
  exact ⟨.inl h1, h1.2⟩
 ·rw [if_neg h1]
  by_cases h2 : op = 8 ∧ (cf to u w).2 ≠ 0
  ·right
   rw [if_pos h2]
   exact ⟨.inr (.inl h2), h2.2⟩
  ·rw [if_neg h2]
   by_cases h3 : (chL cf vf op l 0 u w).2 ≠ 0
   ·right
    rw [if_pos h3]
    exact ⟨.inr (.inr h3), h3⟩
   ·left
    rw [if_neg h3]
    refine ⟨fun e => ?_, fun e => ?_, by simpa using h3, rfl⟩
    ·by_cases g : (cf con u w).2 = 0
     ·exact g
     ·exact absurd ⟨e, g⟩ h1
    ·by_cases g : (cf to u w).2 = 0
     ·exact g
     ·exact absurd ⟨e, g⟩ h2
theorem ins_le {op n : Int} {s : ByteArray} {con to : ConT} {k : List KindT} {names : List ByteArray} {l : List TermT} (h : qbw op n s con to k names l.length = true) : op = 9 → l.length ≤ 2 := fun e => by
 subst e
 have := qde h
 omega
theorem ins_bound {op : Int} {i : Nat} (h : op = 9 → i + 1 ≤ 2) : insC op i ≤ 1 ∧ insT op i ≤ 1 := by
 rw [insC, insT]
 by_cases e9 : op = 9
 ·have := h e9
  constructor <;> (repeat' split) <;> omega
 ·constructor <;> (repeat' split) <;> omega
section kept
variable {cf : ConT → Int → Int → ConT × Int} {vf : Int → Int → Int → TermT × Int} {cf' : ConT → Int → ConT} {vf' : Int → Int → Int → TermT}
mutual
theorem chT_map (hc : ∀ c u w, qac c = true → 0 ≤ u → u ≤ 400 → ((cf c u w).2 = 0 ∧ (cf c u w).1 = cf' c u) ∨ (qac (cf' c u) = false ∧ ((cf c u w).2 = 0 → qac (cf c u w).1 = false)))
  (hv : ∀ n u w, 0 ≤ n → n ≤ 20000 → 0 ≤ u → u ≤ 400 → 0 ≤ w → w ≤ 400 → ((vf n u w).2 = 0 ∧ (vf n u w).1 = vf' n u w) ∨ (wfT (vf' n u w) = false ∧ ((vf n u w).2 = 0 → wfT (vf n u w).1 = false))) :
  ∀ (t : TermT) (u w : Int), wfT t = true → 0 ≤ u → u + depthT t ≤ 401 → 0 ≤ w → w + depthT t ≤ 401 →
  ((chT cf vf t u w).2 = 0 ∧ (chT cf vf t u w).1 = mapT cf' vf' t u w) ∨ (wfT (mapT cf' vf' t u w) = false ∧ ((chT cf vf t u w).2 = 0 → wfT (chT cf vf t u w).1 = false))
 | .mk op n s con to k names l, u, w, hwf, h1, h2, h3, h4 => by
   rw [wfT, Bool.and_eq_true] at hwf
   obtain ⟨hn, hl⟩ := hwf
   obtain ⟨n1, _, n3, _⟩ := qbi hn
   rw [depthT] at h2 h4
   by_cases ho : op = 1
   ·obtain ⟨_, _, _, _, _, _, g1, g2⟩ := qbh hn ho
    rw [chT, mapT, if_pos ho, if_pos ho]
    exact hv n u w g1 g2 h1 (by omega) h3 (by omega)
   ·have hL := chL_map hc hv op l 0 u w hl (fun e => by have := ins_le hn e; omega) h1 (by omega) h3 (by omega)
    have hM : mapT cf' vf' (.mk op n s con to k names l) u w = .mk op n s (if qad op = true then cf' con u else zeroC) (if op = 8 then cf' to u else zeroC) k names (qbx cf' vf' op l 0 u w) := by rw [mapT, if_neg ho]
    have hwM : wfT (mapT cf' vf' (.mk op n s con to k names l) u w) = ((qav (if qad op = true then cf' con u else zeroC) (qad op) && qav (if op = 8 then cf' to u else zeroC) (op == 8)) && wfL (qbx cf' vf' op l 0 u w)) := by
     rw [hM, wfT, mapTL_len, node_with hn]
    have e8 : ∀ {c : ConT}, op = 8 → qav c (op == 8) = qac c := fun e => by
     have : (op == 8) = true := by simp [e]
     rw [this, qav, if_pos rfl]
    have eC : ∀ {c : ConT}, qad op = true → qav c (qad op) = qac c := fun e => by rw [e, qav, if_pos rfl]
    rcases chT_node cf vf (n := n) (s := s) (con := con) (to := to) (k := k) (names := names) (l := l) (u := u) (w := w) ho with ⟨a, b, r, e⟩ | ⟨bad, e⟩
    ·have hwA : wfT (chT cf vf (.mk op n s con to k names l) u w).1 = ((qav (if qad op = true then (cf con u w).1 else zeroC) (qad op) && qav (if op = 8 then (cf to u w).1 else zeroC) (op == 8)) && wfL (chL cf vf op l 0 u w).1) := by
      rw [e, wfT, chL_len cf vf op l 0 u w r, node_with hn]
     have PC : (if qad op = true then (cf con u w).1 else zeroC) = (if qad op = true then cf' con u else zeroC) ∨ (qav (if qad op = true then cf' con u else zeroC) (qad op) = false ∧ qav (if qad op = true then (cf con u w).1 else zeroC) (qad op) = false) := by
      by_cases hh : qad op = true
      ·rw [if_pos hh, if_pos hh, eC hh, eC hh]
       rcases hc con u w (n1 hh) h1 (by omega) with ⟨_, g⟩ | ⟨g1, g2⟩
       ·exact .inl g
       ·exact .inr ⟨g1, g2 (a hh)⟩
      ·rw [if_neg hh, if_neg hh]; exact .inl rfl
     have PT : (if op = 8 then (cf to u w).1 else zeroC) = (if op = 8 then cf' to u else zeroC) ∨ (qav (if op = 8 then cf' to u else zeroC) (op == 8) = false ∧ qav (if op = 8 then (cf to u w).1 else zeroC) (op == 8) = false) := by
      by_cases hh : op = 8
      ·rw [if_pos hh, if_pos hh, e8 hh, e8 hh]
       rcases hc to u w (n3 hh) h1 (by omega) with ⟨_, g⟩ | ⟨g1, g2⟩
       ·exact .inl g
       ·exact .inr ⟨g1, g2 (b hh)⟩
      ·rw [if_neg hh, if_neg hh]; exact .inl rfl
     rcases PC with pc | ⟨pc, pc'⟩
     ·rcases PT with pt | ⟨pt, pt'⟩
      ·rcases hL with ⟨_, pl⟩ | ⟨pl, pl'⟩
       ·left
        refine ⟨by rw [e], ?_⟩
        rw [e, hM, pc, pt, pl]
       ·right
        rw [hwM, hwA, pl, pl' r, Bool.and_false, Bool.and_false]
        exact ⟨rfl, fun _ => rfl⟩
      ·right
       rw [hwM, hwA, pt, pt', Bool.and_false, Bool.and_false, Bool.false_and, Bool.false_and]
       exact ⟨rfl, fun _ => rfl⟩
     ·right
      rw [hwM, hwA, pc, pc', Bool.false_and, Bool.false_and, Bool.false_and, Bool.false_and]
      exact ⟨rfl, fun _ => rfl⟩
    ·right
     refine ⟨?_, fun h => absurd h e⟩
     rw [hwM]
     rcases bad with ⟨hh, g⟩ | ⟨hh, g⟩ | g
     ·rcases hc con u w (n1 hh) h1 (by omega) with ⟨g1, _⟩ | ⟨g1, _⟩
      ·exact absurd g1 g
      ·rw [eC hh, if_pos hh, g1, Bool.false_and, Bool.false_and]
     ·rcases hc to u w (n3 hh) h1 (by omega) with ⟨g1, _⟩ | ⟨g1, _⟩
      ·exact absurd g1 g
      ·rw [e8 hh, if_pos hh, g1, Bool.and_false, Bool.false_and]
     ·rcases hL with ⟨g1, _⟩ | ⟨g1, _⟩
      ·exact absurd g1 g
      ·rw [g1, Bool.and_false]
theorem chL_map (hc : ∀ c u w, qac c = true → 0 ≤ u → u ≤ 400 → ((cf c u w).2 = 0 ∧ (cf c u w).1 = cf' c u) ∨ (qac (cf' c u) = false ∧ ((cf c u w).2 = 0 → qac (cf c u w).1 = false)))
  (hv : ∀ n u w, 0 ≤ n → n ≤ 20000 → 0 ≤ u → u ≤ 400 → 0 ≤ w → w ≤ 400 → ((vf n u w).2 = 0 ∧ (vf n u w).1 = vf' n u w) ∨ (wfT (vf' n u w) = false ∧ ((vf n u w).2 = 0 → wfT (vf n u w).1 = false))) (op : Int) :
  ∀ (l : List TermT) (i : Nat) (u w : Int), wfL l = true → (op = 9 → i + l.length ≤ 2) → 0 ≤ u → u + depthTL l ≤ 400 → 0 ≤ w → w + depthTL l ≤ 400 →
  ((chL cf vf op l i u w).2 = 0 ∧ (chL cf vf op l i u w).1 = qbx cf' vf' op l i u w) ∨ (wfL (qbx cf' vf' op l i u w) = false ∧ ((chL cf vf op l i u w).2 = 0 → wfL (chL cf vf op l i u w).1 = false))
 | [], i, u, w, _, _, _, _, _, _ => by
   rw [chL, qbx]
   exact .inl ⟨rfl, rfl⟩
 | x :: r, i, u, w, hl, h9, h1, h2, h3, h4 => by
   rw [wfL, Bool.and_eq_true] at hl
   rw [depthTL] at h2 h4
   have b0 := insC_nn op i
   have b1 := insT_nn op i
   obtain ⟨b2, b3⟩ := ins_bound (op := op) (i := i) (fun e => by have := h9 e; rw [List.length_cons] at this; omega)
   have hX := chT_map hc hv x (u + insC op i) (w + insT op i) hl.1 (by omega) (by omega) (by omega) (by omega)
   have hR := chL_map hc hv op r (i + 1) u w hl.2 (fun e => by have := h9 e; rw [List.length_cons] at this; omega) h1 (by omega) h3 (by omega)
   rw [chL, qbx, wfL]
   generalize chT cf vf x (u + insC op i) (w + insT op i) = A at hX
   generalize chL cf vf op r (i + 1) u w = B at hR
   generalize mapT cf' vf' x (u + insC op i) (w + insT op i) = A' at hX
   generalize qbx cf' vf' op r (i + 1) u w = B' at hR
   by_cases a0 : A.2 ≠ 0
   ·right
    rw [if_pos a0]
    rcases hX with ⟨g, _⟩ | ⟨g, _⟩
    ·exact absurd g a0
    ·rw [g, Bool.false_and]
     exact ⟨rfl, fun h => absurd h a0⟩
   ·rw [if_neg a0]
    have a0' : A.2 = 0 := by simpa using a0
    by_cases c0 : B.2 ≠ 0
    ·right
     rw [if_pos c0]
     rcases hR with ⟨g, _⟩ | ⟨g, _⟩
     ·exact absurd g c0
     ·rw [g, Bool.and_false]
      exact ⟨rfl, fun h => absurd h c0⟩
    ·rw [if_neg c0]
     have c0' : B.2 = 0 := by simpa using c0
     rcases hX with ⟨_, g⟩ | ⟨g, g'⟩
     ·rcases hR with ⟨_, q⟩ | ⟨q, q'⟩
      ·left
       rw [g, q]
       exact ⟨rfl, rfl⟩
      ·right
       refine ⟨by rw [q, Bool.and_false], fun _ => ?_⟩
       rw [wfL, q' c0', Bool.and_false]
     ·right
      refine ⟨by rw [g, Bool.false_and], fun _ => ?_⟩
      rw [wfL, g' a0', Bool.false_and]
end
theorem not_wf {t : TermT} (h : wfT t = false) : qab t = false := by
 cases hv : qab t with
 | false => rfl
 | true => rw [(qae hv).1] at h; exact h
theorem fin_map {t : TermT} (hc : ∀ c u w, qac c = true → 0 ≤ u → u ≤ 400 → ((cf c u w).2 = 0 ∧ (cf c u w).1 = cf' c u) ∨ (qac (cf' c u) = false ∧ ((cf c u w).2 = 0 → qac (cf c u w).1 = false)))
  (hv : ∀ n u w, 0 ≤ n → n ≤ 20000 → 0 ≤ u → u ≤ 400 → 0 ≤ w → w ≤ 400 → ((vf n u w).2 = 0 ∧ (vf n u w).1 = vf' n u w) ∨ (wfT (vf' n u w) = false ∧ ((vf n u w).2 = 0 → wfT (vf n u w).1 = false))) (h : qab t = true) :
  finT (chT cf vf t 0 0) = keptT (mapT cf' vf' t 0 0) := by
 obtain ⟨hwf, hd⟩ := qae h
 rw [finT, keptT]
 rcases chT_map hc hv t 0 0 hwf (by decide) (by omega) (by decide) (by omega) with ⟨e1, e2⟩ | ⟨e1, e2⟩
 ·rw [e2]
  cases hv2 : qab (mapT cf' vf' t 0 0) with
  | true => rw [if_neg (by rw [e1]; simp), if_pos rfl]
  | false => rw [if_pos (.inr rfl), if_neg (by decide)]
 ·have hk : (if qab (mapT cf' vf' t 0 0) = true then (mapT cf' vf' t 0 0, (0 : Int)) else (zeroT, 6)) = (zeroT, 6) := if_neg (by rw [not_wf e1]; decide)
  rw [hk]
  by_cases e3 : (chT cf vf t 0 0).2 = 0
  ·rw [if_pos (Or.inr (not_wf (e2 e3)))]
  ·rw [if_pos (Or.inl e3)]
end kept
def cshM (n : Int) (c : ConT) (u : Int) : ConT := mapF (qaf n 0) c u
def vshM (m n _u w : Int) : TermT := varT (if n ≥ w then n + m else n)
def shM (n m : Int) (t : TermT) : TermT := mapT (cshM n) (vshM m) t 0 0
def cidM (c : ConT) (_u : Int) : ConT := c
def vsubM (by' : TermT) (n u w : Int) : TermT := if n = w then shM u w by' else varT (if n > w then n - 1 else n)
def subM (by' t : TermT) : TermT := mapT cidM (vsubM by') t 0 0
def csubM (us : List ConT) (c : ConT) (u : Int) : ConT := mapF (qcq us) c u
def vidM (n _u _w : Int) : TermT := varT n
def subCM (us : List ConT) (t : TermT) : TermT := mapT (csubM us) vidM t 0 0
theorem csh_valid {c : ConT} (h : qac c = true) (n u : Int) : cshR c n u = cshM n c u := by
 rw [cshR, if_neg (by rw [qdy h]; decide), cshM]
 exact (shift_eq n 0 c u u (qah h) (by rw [Int.zero_add])).symm
mutual
theorem rsh_map (n m : Int) : ∀ (t : TermT) (u w : Int), wfT t = true → rshT n m t u w = mapT (cshM n) (vshM m) t u w
 | .mk op i s con to k names l, u, w, hwf => by
   rw [wfT, Bool.and_eq_true] at hwf
   obtain ⟨n1, n2, n3, n4⟩ := qbi hwf.1
   rw [rshT, mapT]
   by_cases ho : op = 1
   ·obtain ⟨rfl, rfl, rfl, rfl, rfl, g, _⟩ := qbh hwf.1 ho
    have := List.eq_nil_of_length_eq_zero g
    subst this ho
    rw [if_pos rfl, vshM, varT, zero_csh, rshL]
    by_cases h : i ≥ w
    ·rw [if_pos h, if_pos ⟨rfl, h⟩]
    ·rw [if_neg h, if_neg (fun e => h e.2)]
   ·rw [if_neg ho, if_neg (fun e : op = 1 ∧ i ≥ w => ho e.1), rshL_map n m op l 0 u w hwf.2 (fun e => by have := ins_le hwf.1 e; omega)]
    have hC : cshR con n u = (if qad op = true then cshM n con u else zeroC) := by
     by_cases e : qad op = true
     ·rw [if_pos e, csh_valid (n1 e)]
     ·rw [if_neg e, n2 (by simpa using e), zero_csh]
    have hT : cshR to n u = (if op = 8 then cshM n to u else zeroC) := by
     by_cases e : op = 8
     ·rw [if_pos e, csh_valid (n3 e)]
     ·rw [if_neg e, n4 e, zero_csh]
    rw [hC, hT]
theorem rshL_map (n m op : Int) : ∀ (l : List TermT) (i : Nat) (u w : Int), wfL l = true → (op = 9 → i + l.length ≤ 2) → rshL n m op l i u w = qbx (cshM n) (vshM m) op l i u w
 | [], i, u, w, _, _ => by rw [rshL, qbx]
 | x :: r, i, u, w, hwf, h9 => by
   rw [wfL, Bool.and_eq_true] at hwf
   have h9' : op = 9 → i ≤ 1 := fun e => by have := h9 e; rw [List.length_cons] at this; omega
   rw [rshL, qbx, ins_cons h9', ins_terms h9', rsh_map n m x _ _ hwf.1, rshL_map n m op r (i + 1) u w hwf.2 (fun e => by have := h9 e; rw [List.length_cons] at this; omega)]
end
theorem shT_M {t : TermT} (h : wfT t = true) (n m : Int) (h1 : 0 ≤ n) (h2 : n ≤ 20000) :
  ((shT n m t).2 = 0 ∧ (shT n m t).1 = shM n m t) ∨ (wfT (shM n m t) = false ∧ ((shT n m t).2 = 0 → wfT (shT n m t).1 = false)) := by
 obtain ⟨e1, e2⟩ := sh_eq n m (by omega) h2 t 0 0 h (by decide) (fun i hi => by have := consF_n t 0 (by decide) i hi; omega)
 rw [rsh_map n m t 0 0 h] at e1 e2
 rw [shT, shM]
 by_cases h0 : (chT (shCf n) (shVf m) t 0 0).2 = 0
 ·exact .inl ⟨h0, e1 h0⟩
 ·exact .inr ⟨e2 h0, fun h => absurd h h0⟩
theorem SubstT_M {t by' : TermT} (h : qab t = true) (h' : qab by' = true) : SubstT t by' = keptT (subM by' t) := by
 rw [SubstT, if_neg (by rw [h, h']; rintro (e | e) <;> cases e), subM]
 refine fin_map (fun c u w hc _ _ => ?_) (fun n u w _ _ hu hu' hw hw' => ?_) h
 ·rw [sameCf, shc0 hc, cidM]
  exact .inl ⟨rfl, rfl⟩
 ·rw [subVf, vsubM]
  by_cases e : n = w
  ·rw [if_pos e, if_pos e]
   exact shT_M (qae h').1 u w hu (by omega)
  ·rw [if_neg e, if_neg e]
   exact .inl ⟨rfl, rfl⟩
theorem SubstConsT_M {t : TermT} {us : List ConT} (h : qab t = true) (h' : us.all qac = true) (hl : us.length ≤ 1000) : SubstConsT t us = keptT (subCM us t) := by
 rw [SubstConsT, if_neg (by rw [h, h']; rintro (e | e) <;> cases e), if_neg (by omega), subCM]
 refine fin_map (fun c u w hc hu hu' => ?_) (fun n u w _ _ _ _ _ _ => ?_) h
 ·rw [repCf, csubM]
  obtain ⟨_, hd, hf⟩ := qda hc
  rcases repl_eq us h' c u hf hu (by omega) with e | ⟨e1, e2⟩
  ·exact .inl ⟨rfl, e⟩
  ·exact .inr ⟨e2, fun _ => e1⟩
 ·rw [idVf, vidM]
  exact .inl ⟨rfl, rfl⟩
/-! There and back -/
/-! Substitutions commute -/
/-! How great what is made is -/
def okwc (t : TermT) : Prop := okT t ∧ wcT t
mutual
theorem mapT_okwc {cf : ConT → Int → ConT} {vf : Int → Int → Int → TermT} (hc : ∀ c u, wtF c ≤ 900000000 → okS c → wtF (cf c u) ≤ 900000000 ∧ okS (cf c u)) (hv : ∀ n u w, okwc (vf n u w)) :
  ∀ (t : TermT) (u w : Int), okT t → wcT t → okwc (mapT cf vf t u w)
 | .mk op n s con to k names l, u, w, hok, hwc => by
   have hz : wtF zeroC ≤ 900000000 ∧ okS zeroC := ⟨by decide, okS_zero⟩
   simp only [okT] at hok
   simp only [wcT] at hwc
   rw [mapT]
   by_cases ho : op = 1
   ·rw [if_pos ho]; exact hv n u w
   ·rw [if_neg ho]
    have hL := mapTL_okwc hc hv op l 0 u w hok.2.2.2.2.2.2.2 hwc.2.2
    have hC : wtF (if qad op = true then cf con u else zeroC) ≤ 900000000 ∧ okS (if qad op = true then cf con u else zeroC) := by
     split
     ·exact hc con u hwc.1 hok.2.1.2
     ·exact hz
    have hT : wtF (if op = 8 then cf to u else zeroC) ≤ 900000000 ∧ okS (if op = 8 then cf to u else zeroC) := by
     split
     ·exact hc to u hwc.2.1 hok.2.2.1.2
     ·exact hz
    generalize (if qad op = true then cf con u else zeroC) = c' at hC
    generalize (if op = 8 then cf to u else zeroC) = t' at hT
    have s1 := sizeF_wt c'
    have s2 := sizeF_wt t'
    constructor
    ·simp only [okT]
     refine ⟨hok.1, ⟨by omega, hC.2⟩, ⟨by omega, hT.2⟩, hok.2.2.2.1, hok.2.2.2.2.1, hok.2.2.2.2.2.1, ?_, hL.1⟩
     rw [mapTL_len]; exact hok.2.2.2.2.2.2.1
    ·simp only [wcT]
     exact ⟨hC.1, hT.1, hL.2⟩
theorem mapTL_okwc {cf : ConT → Int → ConT} {vf : Int → Int → Int → TermT} (hc : ∀ c u, wtF c ≤ 900000000 → okS c → wtF (cf c u) ≤ 900000000 ∧ okS (cf c u)) (hv : ∀ n u w, okwc (vf n u w)) (op : Int) :
  ∀ (l : List TermT) (i : Nat) (u w : Int), okTs l → wcTs l → okTs (qbx cf vf op l i u w) ∧ wcTs (qbx cf vf op l i u w)
 | [], i, u, w, _, _ => by rw [qbx]; exact ⟨trivial, trivial⟩
 | x :: r, i, u, w, hok, hwc => by
   simp only [okTs] at hok
   simp only [wcTs] at hwc
   have h1 := mapT_okwc hc hv x (u + insC op i) (w + insT op i) hok.1 hwc.1
   have h2 := mapTL_okwc hc hv op r (i + 1) u w hok.2 hwc.2
   rw [qbx]
   simp only [okTs, wcTs]
   exact ⟨⟨h1.1, h2.1⟩, h1.2, h2.2⟩
end
theorem wcT_varT (n : Int) : wcT (varT n) := by
 simp only [varT, wcT, wcTs]
 exact ⟨by decide, by decide, trivial⟩
theorem okwc_var (n : Int) : okwc (varT n) := ⟨okT_var n, wcT_varT n⟩
theorem csh_okwc (n : Int) (c : ConT) (u : Int) (h1 : wtF c ≤ 900000000) (h2 : okS c) : wtF (cshM n c u) ≤ 900000000 ∧ okS (cshM n c u) := by
 rw [cshM]
 exact ⟨Nat.le_trans (wt_shift n 0 c u) h1, mapF_okS _ c u h2 fun x b hx => qe4 n 0 x b ((leaves_mem c u x b hx).2.1 h2)⟩
theorem shM_okwc (n m : Int) {t : TermT} (h1 : okT t) (h2 : wcT t) : okwc (shM n m t) :=
 mapT_okwc (csh_okwc n) (fun _ _ _ => okwc_var _) t 0 0 h1 h2
/-! Free variables -/
theorem mem_aboveF {c : ConT} (h : qac c = true) {u : Int} (hu : 0 ≤ u) {i : Int} : i ∈ qbd (qd3 c) u ↔ ∃ x b, (x, b) ∈ leaves c 0 ∧ x.op = 1 ∧ x.n - b ≥ u ∧ i = x.n - b - u := by
 rw [mem_above]
 constructor
 ·rintro ⟨k, h1, h2, rfl⟩
  obtain ⟨x, b, e1, e2, e3, rfl⟩ := mem_freeL.1 ((mem_freeF h).1 h1)
  exact ⟨x, b, e1, e2, h2, rfl⟩
 ·rintro ⟨x, b, e1, e2, e3, rfl⟩
  exact ⟨x.n - b, (mem_freeF h).2 (mem_freeL.2 ⟨x, b, e1, e2, by omega, rfl⟩), e3, rfl⟩
theorem mem_above1 {a w i : Int} : i ∈ qbd [a] w ↔ a ≥ w ∧ i = a - w := by
 rw [mem_above]
 constructor
 ·rintro ⟨n, h, h1, h2⟩
  rw [List.mem_singleton] at h
  subst h
  exact ⟨h1, h2⟩
 ·rintro ⟨h1, h2⟩
  exact ⟨a, by simp, h1, h2⟩
theorem head_nonneg {l : List Int} {n : Int} (h : ∀ i ∈ l, 0 ≤ i + n) : headLt l n = false := by
 cases l with
 | nil => rfl
 | cons x r =>
   rw [headLt]
   have := h x (by simp)
   exact decide_eq_false (by omega)
/-! A closed term that is substituted -/
theorem meas_leaf {op n : Int} (h : qbw op n ByteArray.empty zeroC zeroC [] [] 0 = true) (hh : qad op = false) (left depth : Int) : measT (.mk op n ByteArray.empty zeroC zeroC [] [] []) left depth = if left ≤ 0 ∨ depth > 400 then (0, false) else (1, decide (1 ≤ left)) := by
 rw [measT, List.length_nil, h]
 have e8 : op ≠ 8 := fun e => by subst e; revert hh; decide
 by_cases h1 : left ≤ 0 ∨ depth > 400
 ·rw [if_pos h1, if_pos (by omega)]
 ·rw [if_neg h1, if_neg (by rintro (e | e | e); exact h1 (.inl e); exact h1 (.inr e); cases e), hh, if_neg (by decide), if_neg e8, measTL]
  rfl
end Go.Abs.Kon
