/- Terms. -/
import Derived.Test.YthedhplpgfpodaaGreatDoorTermD
set_option linter.unusedSimpArgs false
set_option linter.unusedVariables false
namespace Go.Abs.Kon
open Go Go.Proofs Go.Abs
set_option maxRecDepth 100000
set_option maxHeartbeats 4000000
theorem sameK_0 (k : List KindT) : sameK (.mk k) (.mk []) = ((k.length : Int) == 0) := by
 cases k with
 | nil => rfl
 | cons x r =>
   rw [sameK, sameKs, List.length_cons]
   exact (beq_eq_false_iff_ne.2 (by omega)).symm
theorem eqL_0 (k : List ByteArray) : eqL qbg k [] = ((k.length : Int) == 0) := by
 cases k with
 | nil => rfl
 | cons x r =>
   rw [eqL, List.length_cons]
   exact (beq_eq_false_iff_ne.2 (by omega)).symm
theorem eqCs_0 (k : List ConT) : eqCs k [] = ((k.length : Int) == 0) := by
 cases k with
 | nil => rfl
 | cons x r =>
   rw [eqCs, List.length_cons]
   exact (beq_eq_false_iff_ne.2 (by omega)).symm
theorem NoCon_spec (c : ConT) : Spec Tryz.prog 252 [pp (encC c)] [] (.bool (eqC c zeroC)) [] := by
 obtain ⟨op, n, s, k, names, l⟩ := c
 rw [zeroC, eqC, sameK_0, eqL_0, eqCs_0, qbg]
 refine wk (rv := [.tmp 2]) ann252 35 Tryz.func252 ?_
 simp only [go_sem, eCm, List.length_map]
 repeat' ((first | refine cKi (fun _ => ?_) (fun _ => ?_) | refine gKi (fun _ => ?_) (fun _ => ?_)) <;> simp only [go_sem, List.length_map])
 all_goals (simp_all)
def rarityF (n : Int) : Int := if n = 6 ∨ n = 11 ∨ n = 13 ∨ n = 14 then 1 else if n = 1 ∨ n = 2 ∨ n = 3 ∨ n = 4 ∨ n = 5 ∨ n = 7 ∨ n = 8 ∨ n = 9 ∨ n = 10 ∨ n = 12 then 2 else 0
theorem rArity_spec (n : Int) : Spec Tryz.prog 286 [ii n] [] (.int .i64 (rarityF n)) [] := by
 refine wk (rv := [.tmp 2]) ann286 20 Tryz.func286 ?_
 simp only [go_sem]
 repeat' ((first | refine cKi (fun _ => ?_) (fun _ => ?_) | refine gKi (fun _ => ?_) (fun _ => ?_)) <;> simp only [go_sem, List.length_map])
 all_goals (simp only [rarityF]; simp_all)
def rpartsT (op : Int) : Int := if op = 1 ∨ op = 2 ∨ op = 3 ∨ op = 19 then 0 else if op = 4 ∨ op = 6 ∨ op = 7 ∨ op = 8 ∨ op = 11 ∨ op = 12 ∨ op = 14 ∨ op = 15 ∨ op = 16 then 1 else if op = 5 ∨ op = 9 ∨ op = 17 then 2 else -1
theorem qcs (op : Int) : Spec Tryz.prog 251 [ii op] [] (.int .i64 (rpartsT op)) [] := by
 refine wk (rv := [.tmp 2]) ann251 23 Tryz.func251 ?_
 simp only [go_sem]
 repeat' ((first | refine cKi (fun _ => ?_) (fun _ => ?_) | refine gKi (fun _ => ?_) (fun _ => ?_)) <;> simp only [go_sem, List.length_map])
 all_goals (simp only [rpartsT]; simp_all)
theorem qcc (l : List ByteArray) (hs : ∀ x ∈ l, x.size ≤ 100000000) : Spec Tryz.prog 250 [pp (.slice (l.map .str))] [] (.bool (qb7 l)) [] := by
 have hA := rAscending_spec l
 rw [qb7]
 generalize ascF l = b2 at hA
 refine wf (rv := [.tmp 2]) ann250 23 Tryz.func250 fun hfit => ?_
 have hlen : l.length ≤ 9223372036854775807 := by
  simp only [argsFit, SV.pv?, SC.pv?, PV.fit, List.length_map, mLe] at hfit
  exact hfit.1.1
 clear hfit
 generalize hres : (l.all qb2 && (decide ((l.length : Int) ≤ 1000) && b2)) = res
 simp only [go_sem]
 refine aLl (α := ByteArray) (β := Nat) (fun rest b => ⟨[(3, ii b), (0, pp (.slice (l.map .str)))], [], []⟩)
  (fun rest b => ∃ pre, l = pre ++ rest ∧ b = pre.length ∧ (rest.all qb2 && (decide ((l.length : Int) ≤ 1000) && b2)) = res) ?_ ?_ l 0 _ ?_ ⟨[], rfl, rfl, hres⟩
 ·rintro m ⟨pre, g1, g2, g3⟩ K
  simp only [List.append_nil] at g1
  subst g1
  simp only [List.all_nil, Bool.true_and] at g3
  subst g3
  simp only [go_sem, g2, ltF (Int.le_refl _), List.length_map]
  refine gKi (fun hb => ?_) (fun hb => ?_)
  ·simp only [go_sem]
   refine aC hA ?_
   simp only [go_sem, hb, Bool.true_and]
  ·have hb' : decide ((l.length : Int) ≤ 1000) = false := by simpa using hb
   simp only [go_sem, hb', Bool.false_and]
 ·rintro x rest m ⟨pre, g1, g2, g3⟩ K hK
  have hx : (l.map PV.str)[m]? = some (.str x) := by simp [g1, g2]
  have hlt : (m : Int) < l.length := by rw [g1, g2]; simp; omega
  have hll : m < l.length := by rw [g1, g2]; simp
  have hL := rIsLabel_spec x (hs x (by simp [g1]))
  have w4 : IntKind.i64.wrap ((m : Int) + 1) = ((m + 1 : Nat) : Int) := by rw [wId (by omega) (by omega)]; simp
  rw [List.all_cons] at g3
  simp only [go_sem, List.length_map, decide_eq_true hlt, Int.toNat_natCast, Int.natCast_nonneg, hx]
  refine aC hL ?_
  cases hl : qb2 x with
  | false =>
    rw [hl, Bool.false_and] at g3
    subst g3
    simp only [go_sem]
  | true =>
    rw [hl, Bool.true_and] at g3
    simp only [go_sem, w4]
    refine hK (m + 1) _ ?_ ⟨pre ++ [x], by simp [g1], by simp [g2], g3⟩
    simp only [go_sem]
 ·simp only [go_sem, Int.natCast_zero]
def numR (op n : Int) (len : Nat) : Bool := if op = 1 then decide (n ≥ 0) && decide (n ≤ 20000) else if op = 2 then decide (n ≥ -4503599627370496) && decide (n ≤ 4503599627370496) else if op = 18 then decide (rarityF n > 0) && ((len : Int) == rarityF n) else if op = 19 then decide (n ≥ 1) && decide (n ≤ 1000000) else n == 0
theorem qcb (op n : Int) (s : ByteArray) (con to : ConT) (k : List KindT) (names : List ByteArray) (l : List TermT) : Spec Tryz.prog 248 [pp (encT (.mk op n s con to k names l))] [] (.bool (numR op n l.length)) [] := by
 have hA := rArity_spec n
 generalize hres : numR op n l.length = res
 rw [numR] at hres
 generalize rarityF n = ar at hA hres
 refine wk (rv := [.tmp 2]) ann248 53 Tryz.func248 ?_
 simp only [go_sem, eTm, List.length_map]
 repeat' ((first | refine cKi (fun _ => ?_) (fun _ => ?_) | refine gKi (fun _ => ?_) (fun _ => ?_) | refine aC hA ?_ | refine ⟨by kernel_rfl, ?_⟩ | fail) <;> simp only [go_sem, List.length_map])
 all_goals (clear hA; subst hres; simp_all <;> omega)
theorem qdc (op n : Int) (s : ByteArray) (con to : ConT) (k : List KindT) (names : List ByteArray) (l : List TermT) (h : s.size ≤ 100000000) : Spec Tryz.prog 249 [pp (encT (.mk op n s con to k names l))] [] (.bool (textT op s)) [] := by
 have hL := rIsLabel_spec s h
 generalize hres : textT op s = res
 rw [textT, qbg] at hres
 generalize qb2 s = lb at hL hres
 refine wk (rv := [.tmp 2]) ann249 20 Tryz.func249 ?_
 simp only [go_sem, eTm]
 repeat' ((first | refine cKi (fun _ => ?_) (fun _ => ?_) | refine gKi (fun _ => ?_) (fun _ => ?_) | refine aC hL ?_) <;> simp only [go_sem, List.length_map])
 all_goals (clear hL; subst hres; simp_all)
def shapeR (op : Int) (names : List ByteArray) (len : Nat) : Bool :=
 if op = 10 then qb7 names && ((len : Int) == names.length) else
 if op = 13 then qb7 names && (!decide ((names.length : Int) < 1) && ((len : Int) == names.length + 1)) else
 if op = 18 then (names.length : Int) == 0 else ((names.length : Int) == 0) && ((len : Int) == rpartsT op)
def kindR (op : Int) (k : List KindT) : Bool := if op = 6 then qdt k else (k.length : Int) == 0
def nodeR (op n : Int) (s : ByteArray) (con to : ConT) (k : List KindT) (names : List ByteArray) (len : Nat) : Bool :=
 !decide (op < 1) && (!decide (op > 19) && (numR op n len && (textT op s && (shapeR op names len && (kindR op k && (qav con (qad op) && qav to (op == 8)))))))
theorem kValid_nil : qdt [] = true := by decide +kernel
theorem kindR_eq (op : Int) (k : List KindT) : kindR op k = (op == 6 && qdt k || decide (k.length = 0)) := by
 have e4 : ((k.length : Int) == 0) = decide (k.length = 0) := by rw [Bool.eq_iff_iff]; simp
 rw [kindR, e4]
 by_cases h : op = 6
 ·have h1 : (op == 6) = true := by simp [h]
  rw [if_pos h, h1, Bool.true_and]
  cases k with
  | nil => rw [kValid_nil]; rfl
  | cons x r => simp
 ·have h1 : (op == 6) = false := by simp [h]
  rw [if_neg h, h1, Bool.false_and, Bool.false_or]
theorem labels_names (names : List ByteArray) : qb7 names = (!decide (names.length > 1000) && (ascF names && !names.any (fun s => !qb2 s))) := by
 have a6 : names.all qb2 = !(names.any fun x => !qb2 x) := by simp [List.all_eq_not_any_not]
 have a5 : decide ((names.length : Int) ≤ 1000) = !decide (names.length > 1000) := by rw [Bool.eq_iff_iff]; simp only [Bool.not_eq_true', decide_eq_true_iff, decide_eq_false_iff_not]; omega
 rw [qb7, a6, a5]
 cases decide (names.length > 1000) <;> cases ascF names <;> cases (names.any fun x => !qb2 x) <;> rfl
theorem rarity_eq (n : Int) : (rarityF n > 0 ↔ 1 ≤ n ∧ n ≤ 14) ∧ (1 ≤ n → n ≤ 14 → rarityF n = arityF n) := by
 rw [rarityF, arityF]
 constructor
 ·(repeat' split) <;> omega
 ·intro h1 h2
  (repeat' split) <;> omega
theorem shape_eq (op n : Int) (names : List ByteArray) (len : Nat) (h1 : 1 ≤ op) (h2 : op ≤ 19) : (numR op n len && shapeR op names len) = (numT op n && (decide ((len : Int) = qb5 op n names.length) && qdx op names)) := by
 have d1 : ∀ a b : Int, (a == b) = decide (a = b) := fun a b => by rw [Bool.eq_iff_iff]; simp
 by_cases c1 : op = 10
 ·subst c1
  have p : qb5 10 n names.length = names.length := by simp [qb5]
  have q : qdx 10 names = qb7 names := by
   rw [labels_names, qdx, if_neg (by decide)]
   by_cases e : names.length > 1000
   ·rw [if_pos (.inr e), decide_eq_true e]; rfl
   ·rw [if_neg (by rintro (x | x); exact absurd x.1 (by decide); exact e x), decide_eq_false e]; rfl
  rw [p, q, numR, numT, shapeR]
  simp only [Int.reduceEq, if_false, if_true, d1]
  cases decide (n = 0) <;> cases qb7 names <;> simp
 ·by_cases c2 : op = 13
  ·subst c2
   have p : qb5 13 n names.length = names.length + 1 := by simp [qb5]
   have q : qdx 13 names = (qb7 names && !decide ((names.length : Int) < 1)) := by
    rw [labels_names, qdx, if_neg (by decide)]
    by_cases e0 : names.length = 0
    ·rw [if_pos (.inl ⟨rfl, e0⟩), e0]; simp
    ·have e0' : decide ((names.length : Int) < 1) = false := by simp; omega
     rw [e0']
     by_cases e : names.length > 1000
     ·rw [if_pos (.inr e), decide_eq_true e]; rfl
     ·rw [if_neg (by rintro (x | x); exact e0 x.2; exact e x), decide_eq_false e]; simp
   rw [p, q, numR, numT, shapeR]
   simp only [Int.reduceEq, if_false, if_true, d1]
   cases decide (n = 0) <;> cases qb7 names <;> cases decide ((names.length : Int) < 1) <;> simp
  ·have q : qdx op names = ((names.length : Int) == 0) := by
    rw [qdx, if_pos ⟨c1, c2⟩, d1, Bool.eq_iff_iff]; simp
   rw [q]
   by_cases c3 : op = 18
   ·subst c3
    have p : qb5 18 n names.length = arityF n := by simp [qb5]
    obtain ⟨r1, r2⟩ := rarity_eq n
    rw [p, numR, numT, shapeR]
    simp only [Int.reduceEq, if_false, if_true, d1]
    by_cases e : 1 ≤ n ∧ n ≤ 14
    ·have := r1.2 e
     rw [r2 e.1 e.2] at this ⊢
     rw [decide_eq_true this, decide_eq_true e.1, decide_eq_true e.2]
     simp
    ·have h0 : ¬ rarityF n > 0 := fun h => e (r1.1 h)
     rw [decide_eq_false h0]
     by_cases e1 : 1 ≤ n
     ·have : ¬ n ≤ 14 := fun h => e ⟨e1, h⟩
      rw [decide_eq_false this]; simp
     ·have : ¬ n ≥ 1 := e1
      rw [decide_eq_false this]; simp
   ·have p : qb5 op n names.length = rpartsT op := by
     rw [qb5, rpartsT]
     (repeat' split) <;> omega
    have e : numR op n len = numT op n := by rw [numR, numT, if_neg c3, if_neg c3]
    rw [p, e, shapeR, if_neg c1, if_neg c2, if_neg c3]
    simp only [d1]
    cases numT op n <;> cases decide ((names.length : Int) = 0) <;> simp
theorem node_eq (op n : Int) (s : ByteArray) (con to : ConT) (k : List KindT) (names : List ByteArray) (len : Nat) : nodeR op n s con to k names len = qbw op n s con to k names len := by
 rw [nodeR, qbw, kindR_eq]
 have e1 : decide (1 ≤ op) = !decide (op < 1) := by rw [Bool.eq_iff_iff]; simp only [Bool.not_eq_true', decide_eq_true_iff, decide_eq_false_iff_not]; omega
 have e2 : decide (op ≤ 19) = !decide (op > 19) := by rw [Bool.eq_iff_iff]; simp only [Bool.not_eq_true', decide_eq_true_iff, decide_eq_false_iff_not]; omega
 rw [e1, e2]
 by_cases h1 : op < 1
 ·rw [decide_eq_true h1]; rfl
 ·by_cases h2 : op > 19
  ·rw [decide_eq_true h2]; simp
  ·have := shape_eq op n names len (by omega) (by omega)
   rw [decide_eq_false h1, decide_eq_false h2]
   generalize numR op n len = a at this ⊢
   generalize shapeR op names len = b at this ⊢
   generalize numT op n = c at this ⊢
   generalize decide ((len : Int) = qb5 op n names.length) = d at this ⊢
   generalize qdx op names = e at this ⊢
   generalize textT op s = f
   cases f
   ·simp
   ·have : (a && b) = (c && (d && e)) := this
    simp only [Bool.not_false, Bool.true_and]
    rw [← Bool.and_assoc a b, this]
    cases c <;> cases d <;> cases e <;> rfl
theorem nodeR_in (op n : Int) (s : ByteArray) (con to : ConT) (k : List KindT) (names : List ByteArray) (len : Nat) (d1 : decide (op < 1) = false) (d2 : decide (op > 19) = false) : nodeR op n s con to k names len =
 (numR op n len && (textT op s && (shapeR op names len && (kindR op k && (qav con (qad op) && qav to (op == 8)))))) := by rw [nodeR, d1, d2]; rfl
theorem qd2 {a b : Int} (h : (a == b) = false) : ¬ a = b := by simpa using h
theorem rtnode_10 (n : Int) (s : ByteArray) (con to : ConT) (k : List KindT) (names : List ByteArray) (l : List TermT) (hs : s.size ≤ 100000000) (hc2 : okS con) (ht2 : okS to) (hns : ∀ x ∈ names, x.size ≤ 100000000) (hnl0 : names.length ≤ 100000000) : Spec Tryz.prog 197 [pp (encT (.mk 10 n s con to k names l))] [] (.bool (nodeR 10 n s con to k names l.length)) [] := by
 have hN := qcb 10 n s con to k names l
 have hT := qdc 10 n s con to k names l hs
 have hLb := qcc names hns
 have hP := qcs 10
 have hH := qc4 10
 have hK := qc3 (.mk k)
 have hV1 := qb0 con hc2
 have hV2 := qb0 to ht2
 have hZ1 := NoCon_spec con
 have hZ2 := NoCon_spec to
 generalize hres : nodeR 10 n s con to k names l.length = res
 rw [nodeR_in 10 n s con to k names l.length (by decide) (by decide), shapeR, kindR, qav, qav, qdt] at hres
 rw [show qad 10 = false from rfl] at hres hH
 simp only [Int.reduceEq, Int.reduceBEq, if_true, if_false, Bool.false_eq_true, ↓reduceIte] at hres
 clear hs hc2 ht2 hns
 simp only [eTm, qb4, qal, ConT.cells] at hN hT hK hV1 hV2 hZ1 hZ2
 generalize numR 10 n l.length = b1 at hN hres
 generalize textT 10 s = b2 at hT hres
 generalize qb7 names = b3 at hLb hres
 generalize rpartsT 10 = p at hP hres
 generalize (sizeK (.mk k) 20000 1).isSome = b5 at hK hres
 generalize qac con = b6 at hV1 hres
 generalize qac to = b7 at hV2 hres
 generalize eqC con zeroC = b8 at hZ1 hres
 generalize eqC to zeroC = b9 at hZ2 hres
 refine wk (rv := [.tmp 2]) ann197 139 Tryz.func197 ?_
 have w1 : IntKind.i64.wrap ((names.length : Int) + 1) = (names.length : Int) + 1 := wId (by omega) (by omega)
 clear hnl0
 generalize hnl : (names.length : Int) = nl at hres w1
 generalize hkl : (k.length : Int) = kl at hres
 generalize hll : (l.length : Int) = ll at hres
 simp only [go_sem, eTm, List.length_map, hnl, hkl, hll, w1, Int.reduceBEq, Int.reduceLT, Int.reduceGT, Int.reduceNeg, Int.reduceLE]
 repeat' ((first | refine cKi (fun _ => ?_) (fun _ => ?_) | refine gKi (fun _ => ?_) (fun _ => ?_) | refine aC hN ?_ | refine aC hT ?_ | refine aC hLb ?_ | refine aC hP ?_ | refine aC hH ?_ | refine aC hK ?_ | refine aC hV1 ?_ | refine aC hV2 ?_ | refine aC hZ1 ?_ | refine aC hZ2 ?_ | refine ⟨by kernel_rfl, ?_⟩ | fail) <;> simp only [go_sem, List.length_map, hnl, hkl, hll, w1, Int.reduceBEq, Int.reduceLT, Int.reduceGT, Int.reduceNeg, Int.reduceLE])
 all_goals (clear hN hT hLb hP hH hK hV1 hV2 hZ1 hZ2; subst hres; simp_all)
theorem rtnode_13 (n : Int) (s : ByteArray) (con to : ConT) (k : List KindT) (names : List ByteArray) (l : List TermT) (hs : s.size ≤ 100000000) (hc2 : okS con) (ht2 : okS to) (hns : ∀ x ∈ names, x.size ≤ 100000000) (hnl0 : names.length ≤ 100000000) : Spec Tryz.prog 197 [pp (encT (.mk 13 n s con to k names l))] [] (.bool (nodeR 13 n s con to k names l.length)) [] := by
 have hN := qcb 13 n s con to k names l
 have hT := qdc 13 n s con to k names l hs
 have hLb := qcc names hns
 have hP := qcs 13
 have hH := qc4 13
 have hK := qc3 (.mk k)
 have hV1 := qb0 con hc2
 have hV2 := qb0 to ht2
 have hZ1 := NoCon_spec con
 have hZ2 := NoCon_spec to
 generalize hres : nodeR 13 n s con to k names l.length = res
 rw [nodeR_in 13 n s con to k names l.length (by decide) (by decide), shapeR, kindR, qav, qav, qdt] at hres
 rw [show qad 13 = false from rfl] at hres hH
 simp only [Int.reduceEq, Int.reduceBEq, if_true, if_false, Bool.false_eq_true, ↓reduceIte] at hres
 clear hs hc2 ht2 hns
 simp only [eTm, qb4, qal, ConT.cells] at hN hT hK hV1 hV2 hZ1 hZ2
 generalize numR 13 n l.length = b1 at hN hres
 generalize textT 13 s = b2 at hT hres
 generalize qb7 names = b3 at hLb hres
 generalize rpartsT 13 = p at hP hres
 generalize (sizeK (.mk k) 20000 1).isSome = b5 at hK hres
 generalize qac con = b6 at hV1 hres
 generalize qac to = b7 at hV2 hres
 generalize eqC con zeroC = b8 at hZ1 hres
 generalize eqC to zeroC = b9 at hZ2 hres
 refine wk (rv := [.tmp 2]) ann197 139 Tryz.func197 ?_
 have w1 : IntKind.i64.wrap ((names.length : Int) + 1) = (names.length : Int) + 1 := wId (by omega) (by omega)
 clear hnl0
 generalize hnl : (names.length : Int) = nl at hres w1
 generalize hkl : (k.length : Int) = kl at hres
 generalize hll : (l.length : Int) = ll at hres
 simp only [go_sem, eTm, List.length_map, hnl, hkl, hll, w1, Int.reduceBEq, Int.reduceLT, Int.reduceGT, Int.reduceNeg, Int.reduceLE]
 repeat' ((first | refine cKi (fun _ => ?_) (fun _ => ?_) | refine gKi (fun _ => ?_) (fun _ => ?_) | refine aC hN ?_ | refine aC hT ?_ | refine aC hLb ?_ | refine aC hP ?_ | refine aC hH ?_ | refine aC hK ?_ | refine aC hV1 ?_ | refine aC hV2 ?_ | refine aC hZ1 ?_ | refine aC hZ2 ?_ | refine ⟨by kernel_rfl, ?_⟩ | fail) <;> simp only [go_sem, List.length_map, hnl, hkl, hll, w1, Int.reduceBEq, Int.reduceLT, Int.reduceGT, Int.reduceNeg, Int.reduceLE])
 all_goals (clear hN hT hLb hP hH hK hV1 hV2 hZ1 hZ2; subst hres; simp_all)
theorem rtnode_18 (n : Int) (s : ByteArray) (con to : ConT) (k : List KindT) (names : List ByteArray) (l : List TermT) (hs : s.size ≤ 100000000) (hc2 : okS con) (ht2 : okS to) (hns : ∀ x ∈ names, x.size ≤ 100000000) (hnl0 : names.length ≤ 100000000) : Spec Tryz.prog 197 [pp (encT (.mk 18 n s con to k names l))] [] (.bool (nodeR 18 n s con to k names l.length)) [] := by
 have hN := qcb 18 n s con to k names l
 have hT := qdc 18 n s con to k names l hs
 have hLb := qcc names hns
 have hP := qcs 18
 have hH := qc4 18
 have hK := qc3 (.mk k)
 have hV1 := qb0 con hc2
 have hV2 := qb0 to ht2
 have hZ1 := NoCon_spec con
 have hZ2 := NoCon_spec to
 generalize hres : nodeR 18 n s con to k names l.length = res
 rw [nodeR_in 18 n s con to k names l.length (by decide) (by decide), shapeR, kindR, qav, qav, qdt] at hres
 rw [show qad 18 = false from rfl] at hres hH
 simp only [Int.reduceEq, Int.reduceBEq, if_true, if_false, Bool.false_eq_true, ↓reduceIte] at hres
 clear hs hc2 ht2 hns
 simp only [eTm, qb4, qal, ConT.cells] at hN hT hK hV1 hV2 hZ1 hZ2
 generalize numR 18 n l.length = b1 at hN hres
 generalize textT 18 s = b2 at hT hres
 generalize qb7 names = b3 at hLb hres
 generalize rpartsT 18 = p at hP hres
 generalize (sizeK (.mk k) 20000 1).isSome = b5 at hK hres
 generalize qac con = b6 at hV1 hres
 generalize qac to = b7 at hV2 hres
 generalize eqC con zeroC = b8 at hZ1 hres
 generalize eqC to zeroC = b9 at hZ2 hres
 refine wk (rv := [.tmp 2]) ann197 139 Tryz.func197 ?_
 have w1 : IntKind.i64.wrap ((names.length : Int) + 1) = (names.length : Int) + 1 := wId (by omega) (by omega)
 clear hnl0
 generalize hnl : (names.length : Int) = nl at hres w1
 generalize hkl : (k.length : Int) = kl at hres
 generalize hll : (l.length : Int) = ll at hres
 simp only [go_sem, eTm, List.length_map, hnl, hkl, hll, w1, Int.reduceBEq, Int.reduceLT, Int.reduceGT, Int.reduceNeg, Int.reduceLE]
 repeat' ((first | refine cKi (fun _ => ?_) (fun _ => ?_) | refine gKi (fun _ => ?_) (fun _ => ?_) | refine aC hN ?_ | refine aC hT ?_ | refine aC hLb ?_ | refine aC hP ?_ | refine aC hH ?_ | refine aC hK ?_ | refine aC hV1 ?_ | refine aC hV2 ?_ | refine aC hZ1 ?_ | refine aC hZ2 ?_ | refine ⟨by kernel_rfl, ?_⟩ | fail) <;> simp only [go_sem, List.length_map, hnl, hkl, hll, w1, Int.reduceBEq, Int.reduceLT, Int.reduceGT, Int.reduceNeg, Int.reduceLE])
 all_goals (clear hN hT hLb hP hH hK hV1 hV2 hZ1 hZ2; subst hres; simp_all)
theorem rtnode_6 (n : Int) (s : ByteArray) (con to : ConT) (k : List KindT) (names : List ByteArray) (l : List TermT) (hs : s.size ≤ 100000000) (hc2 : okS con) (ht2 : okS to) (hns : ∀ x ∈ names, x.size ≤ 100000000) (hnl0 : names.length ≤ 100000000) : Spec Tryz.prog 197 [pp (encT (.mk 6 n s con to k names l))] [] (.bool (nodeR 6 n s con to k names l.length)) [] := by
 have hN := qcb 6 n s con to k names l
 have hT := qdc 6 n s con to k names l hs
 have hLb := qcc names hns
 have hP := qcs 6
 have hH := qc4 6
 have hK := qc3 (.mk k)
 have hV1 := qb0 con hc2
 have hV2 := qb0 to ht2
 have hZ1 := NoCon_spec con
 have hZ2 := NoCon_spec to
 generalize hres : nodeR 6 n s con to k names l.length = res
 rw [nodeR_in 6 n s con to k names l.length (by decide) (by decide), shapeR, kindR, qav, qav, qdt] at hres
 rw [show qad 6 = false from rfl] at hres hH
 simp only [Int.reduceEq, Int.reduceBEq, if_true, if_false, Bool.false_eq_true, ↓reduceIte] at hres
 clear hs hc2 ht2 hns
 simp only [eTm, qb4, qal, ConT.cells] at hN hT hK hV1 hV2 hZ1 hZ2
 generalize numR 6 n l.length = b1 at hN hres
 generalize textT 6 s = b2 at hT hres
 generalize qb7 names = b3 at hLb hres
 generalize rpartsT 6 = p at hP hres
 generalize (sizeK (.mk k) 20000 1).isSome = b5 at hK hres
 generalize qac con = b6 at hV1 hres
 generalize qac to = b7 at hV2 hres
 generalize eqC con zeroC = b8 at hZ1 hres
 generalize eqC to zeroC = b9 at hZ2 hres
 refine wk (rv := [.tmp 2]) ann197 139 Tryz.func197 ?_
 have w1 : IntKind.i64.wrap ((names.length : Int) + 1) = (names.length : Int) + 1 := wId (by omega) (by omega)
 clear hnl0
 generalize hnl : (names.length : Int) = nl at hres w1
 generalize hkl : (k.length : Int) = kl at hres
 generalize hll : (l.length : Int) = ll at hres
 simp only [go_sem, eTm, List.length_map, hnl, hkl, hll, w1, Int.reduceBEq, Int.reduceLT, Int.reduceGT, Int.reduceNeg, Int.reduceLE]
 repeat' ((first | refine cKi (fun _ => ?_) (fun _ => ?_) | refine gKi (fun _ => ?_) (fun _ => ?_) | refine aC hN ?_ | refine aC hT ?_ | refine aC hLb ?_ | refine aC hP ?_ | refine aC hH ?_ | refine aC hK ?_ | refine aC hV1 ?_ | refine aC hV2 ?_ | refine aC hZ1 ?_ | refine aC hZ2 ?_ | refine ⟨by kernel_rfl, ?_⟩ | fail) <;> simp only [go_sem, List.length_map, hnl, hkl, hll, w1, Int.reduceBEq, Int.reduceLT, Int.reduceGT, Int.reduceNeg, Int.reduceLE])
 all_goals (clear hN hT hLb hP hH hK hV1 hV2 hZ1 hZ2; subst hres; simp_all)
theorem rtnode_8 (n : Int) (s : ByteArray) (con to : ConT) (k : List KindT) (names : List ByteArray) (l : List TermT) (hs : s.size ≤ 100000000) (hc2 : okS con) (ht2 : okS to) (hns : ∀ x ∈ names, x.size ≤ 100000000) (hnl0 : names.length ≤ 100000000) : Spec Tryz.prog 197 [pp (encT (.mk 8 n s con to k names l))] [] (.bool (nodeR 8 n s con to k names l.length)) [] := by
 have hN := qcb 8 n s con to k names l
 have hT := qdc 8 n s con to k names l hs
 have hLb := qcc names hns
 have hP := qcs 8
 have hH := qc4 8
 have hK := qc3 (.mk k)
 have hV1 := qb0 con hc2
 have hV2 := qb0 to ht2
 have hZ1 := NoCon_spec con
 have hZ2 := NoCon_spec to
 generalize hres : nodeR 8 n s con to k names l.length = res
 rw [nodeR_in 8 n s con to k names l.length (by decide) (by decide), shapeR, kindR, qav, qav, qdt] at hres
 rw [show qad 8 = true from rfl] at hres hH
 simp only [Int.reduceEq, Int.reduceBEq, if_true, if_false, Bool.false_eq_true, ↓reduceIte] at hres
 clear hs hc2 ht2 hns
 simp only [eTm, qb4, qal, ConT.cells] at hN hT hK hV1 hV2 hZ1 hZ2
 generalize numR 8 n l.length = b1 at hN hres
 generalize textT 8 s = b2 at hT hres
 generalize qb7 names = b3 at hLb hres
 generalize rpartsT 8 = p at hP hres
 generalize (sizeK (.mk k) 20000 1).isSome = b5 at hK hres
 generalize qac con = b6 at hV1 hres
 generalize qac to = b7 at hV2 hres
 generalize eqC con zeroC = b8 at hZ1 hres
 generalize eqC to zeroC = b9 at hZ2 hres
 refine wk (rv := [.tmp 2]) ann197 139 Tryz.func197 ?_
 have w1 : IntKind.i64.wrap ((names.length : Int) + 1) = (names.length : Int) + 1 := wId (by omega) (by omega)
 clear hnl0
 generalize hnl : (names.length : Int) = nl at hres w1
 generalize hkl : (k.length : Int) = kl at hres
 generalize hll : (l.length : Int) = ll at hres
 simp only [go_sem, eTm, List.length_map, hnl, hkl, hll, w1, Int.reduceBEq, Int.reduceLT, Int.reduceGT, Int.reduceNeg, Int.reduceLE]
 repeat' ((first | refine cKi (fun _ => ?_) (fun _ => ?_) | refine gKi (fun _ => ?_) (fun _ => ?_) | refine aC hN ?_ | refine aC hT ?_ | refine aC hLb ?_ | refine aC hP ?_ | refine aC hH ?_ | refine aC hK ?_ | refine aC hV1 ?_ | refine aC hV2 ?_ | refine aC hZ1 ?_ | refine aC hZ2 ?_ | refine ⟨by kernel_rfl, ?_⟩ | fail) <;> simp only [go_sem, List.length_map, hnl, hkl, hll, w1, Int.reduceBEq, Int.reduceLT, Int.reduceGT, Int.reduceNeg, Int.reduceLE])
 all_goals (clear hN hT hLb hP hH hK hV1 hV2 hZ1 hZ2; subst hres; simp_all)
theorem rtnode_else (op : Int) (f6 : (op == 6) = false) (f8 : (op == 8) = false) (f10 : (op == 10) = false) (f13 : (op == 13) = false) (f18 : (op == 18) = false) (d1 : decide (op < 1) = false) (d2 : decide (op > 19) = false) (n : Int) (s : ByteArray) (con to : ConT) (k : List KindT) (names : List ByteArray) (l : List TermT) (hs : s.size ≤ 100000000) (hc2 : okS con) (ht2 : okS to) (hns : ∀ x ∈ names, x.size ≤ 100000000) (hnl0 : names.length ≤ 100000000) : Spec Tryz.prog 197 [pp (encT (.mk op n s con to k names l))] [] (.bool (nodeR op n s con to k names l.length)) [] := by
 have hN := qcb op n s con to k names l
 have hT := qdc op n s con to k names l hs
 have hLb := qcc names hns
 have hP := qcs op
 have hH := qc4 op
 have hK := qc3 (.mk k)
 have hV1 := qb0 con hc2
 have hV2 := qb0 to ht2
 have hZ1 := NoCon_spec con
 have hZ2 := NoCon_spec to
 generalize hres : nodeR op n s con to k names l.length = res
 rw [nodeR_in op n s con to k names l.length d1 d2, shapeR, kindR, qav, qav, qdt] at hres
 rw [if_neg (qd2 f10), if_neg (qd2 f13), if_neg (qd2 f18), if_neg (qd2 f6), f8] at hres
 simp only [Bool.false_eq_true, if_false] at hres
 clear hs hc2 ht2 hns
 simp only [eTm, qb4, qal, ConT.cells] at hN hT hK hV1 hV2 hZ1 hZ2
 generalize numR op n l.length = b1 at hN hres
 generalize textT op s = b2 at hT hres
 generalize qb7 names = b3 at hLb hres
 generalize rpartsT op = p at hP hres
 generalize (sizeK (.mk k) 20000 1).isSome = b5 at hK hres
 generalize qac con = b6 at hV1 hres
 generalize qac to = b7 at hV2 hres
 generalize eqC con zeroC = b8 at hZ1 hres
 generalize eqC to zeroC = b9 at hZ2 hres
 generalize qad op = q at hH hres
 refine wk (rv := [.tmp 2]) ann197 139 Tryz.func197 ?_
 have w1 : IntKind.i64.wrap ((names.length : Int) + 1) = (names.length : Int) + 1 := wId (by omega) (by omega)
 clear hnl0
 generalize hnl : (names.length : Int) = nl at hres w1
 generalize hkl : (k.length : Int) = kl at hres
 generalize hll : (l.length : Int) = ll at hres
 simp only [go_sem, eTm, List.length_map, hnl, hkl, hll, w1, f6, f8, f10, f13, f18, d1, d2, bne]
 repeat' ((first | refine cKi (fun _ => ?_) (fun _ => ?_) | refine gKi (fun _ => ?_) (fun _ => ?_) | refine aC hN ?_ | refine aC hT ?_ | refine aC hLb ?_ | refine aC hP ?_ | refine aC hH ?_ | refine aC hK ?_ | refine aC hV1 ?_ | refine aC hV2 ?_ | refine aC hZ1 ?_ | refine aC hZ2 ?_ | refine ⟨by kernel_rfl, ?_⟩ | fail) <;> simp only [go_sem, List.length_map, hnl, hkl, hll, w1, f6, f8, f10, f13, f18, d1, d2, bne])
 all_goals (clear hN hT hLb hP hH hK hV1 hV2 hZ1 hZ2; subst hres; simp_all)
theorem rtnode_out (op n : Int) (s : ByteArray) (con to : ConT) (k : List KindT) (names : List ByteArray) (l : List TermT) (h : op < 1 ∨ op > 19) : Spec Tryz.prog 197 [pp (encT (.mk op n s con to k names l))] [] (.bool (nodeR op n s con to k names l.length)) [] := by
 have hres : nodeR op n s con to k names l.length = false := by
  rw [nodeR]
  rcases h with h | h
  ·rw [decide_eq_true h]; rfl
  ·rw [decide_eq_true h]; simp
 rw [hres]
 refine wk (rv := [.tmp 2]) ann197 139 Tryz.func197 ?_
 simp only [go_sem, eTm, List.length_map]
 rcases h with h | h
 ·simp only [go_sem, decide_eq_true h]
 ·have h1 : decide (op < 1) = false := decide_eq_false (by omega)
  simp only [go_sem, decide_eq_true h, h1]
theorem rtnode_spec (op n : Int) (s : ByteArray) (con to : ConT) (k : List KindT) (names : List ByteArray) (l : List TermT) (h : okT (.mk op n s con to k names l)) : Spec Tryz.prog 197 [pp (encT (.mk op n s con to k names l))] [] (.bool (qbw op n s con to k names l.length)) [] := by
 simp only [okT] at h
 obtain ⟨hs, ⟨_, hc2⟩, ⟨_, ht2⟩, hk, hns, hnl, hll, _⟩ := h
 rw [← node_eq]
 by_cases h0 : op < 1 ∨ op > 19
 ·exact rtnode_out op n s con to k names l h0
 ·by_cases h10 : op = 10
  ·subst h10; exact rtnode_10 n s con to k names l hs hc2 ht2 hns hnl
  ·by_cases h13 : op = 13
   ·subst h13; exact rtnode_13 n s con to k names l hs hc2 ht2 hns hnl
   ·by_cases h18 : op = 18
    ·subst h18; exact rtnode_18 n s con to k names l hs hc2 ht2 hns hnl
    ·by_cases h6 : op = 6
     ·subst h6; exact rtnode_6 n s con to k names l hs hc2 ht2 hns hnl
     ·by_cases h8 : op = 8
      ·subst h8; exact rtnode_8 n s con to k names l hs hc2 ht2 hns hnl
      ·have f : ∀ m : Int, op ≠ m → (op == m) = false := fun m h => by simp [h]
       exact rtnode_else op (f 6 h6) (f 8 h8) (f 10 h10) (f 13 h13) (f 18 h18) (decide_eq_false fun h => h0 (.inl h)) (decide_eq_false fun h => h0 (.inr h)) n s con to k names l hs hc2 ht2 hns hnl
end Go.Abs.Kon
