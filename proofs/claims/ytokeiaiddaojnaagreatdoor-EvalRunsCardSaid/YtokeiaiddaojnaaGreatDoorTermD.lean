/- Terms. -/
import Derived.Test.YtokeiaiddaojnaaGreatDoorTermC
import Derived.Test.YtokeiaiddaojnaaGreatDoorKonG
import Derived.Test.YtokeiaiddaojnaaGreatDoorKonH
set_option linter.unusedSimpArgs false
set_option linter.unusedVariables false
namespace Go.Abs.Kon
open Go Go.Proofs Go.Abs
set_option maxRecDepth 100000
set_option maxHeartbeats 4000000
/-! Sizes -/
mutual
theorem measT_wt : ∀ (t : TermT) (left depth : Int), (measT t left depth).2 = true → (wtT t : Int) ≤ (measT t left depth).1
 | .mk op n s con to k names l, left, depth => by
   rw [measT, wtT]
   split
   · intro h; cases h
   · intro h
     have := measTL_wt l left _ depth h
     have h1 : (0 : Int) ≤ (if hasConF op = true then (sizeF con : Int) else 0) := by split <;> omega
     have h2 : (0 : Int) ≤ (if op = 8 then (sizeF to : Int) else 0) := by split <;> omega
     omega
theorem measTL_wt : ∀ (l : List TermT) (left n depth : Int), (measTL l left n depth).2 = true → n + wtTL l ≤ (measTL l left n depth).1
 | [], left, n, depth => by rw [measTL, wtTL]; intro _; simp
 | x :: r, left, n, depth => by
   rw [measTL, wtTL]
   split
   · intro h; cases h
   · rename_i h
     intro h1
     have h2 := measT_wt x _ _ (by simpa using h)
     have h3 := measTL_wt r _ _ _ h1
     omega
end
theorem valid_wt {t : TermT} (h : validT t = true) : wtT t ≤ 20000 := by
 have h1 := measT_wt t 20000 1 h
 have h2 := (measT_le t 20000 1).2 h
 omega
theorem above_len (l : List Int) (u : Int) : (above l u).length ≤ l.length := List.length_filterMap_le _ _
theorem freeF_len (c : ConT) : (freeF c).length ≤ 20001 := by
 have := asc_len (freeF c) 0 20000 (freeF_asc c) (fun i hi => freeF_n hi)
 omega
mutual
theorem consF_len : ∀ (t : TermT) (uc : Int), (consF t uc).length ≤ 40002 * wtT t
 | .mk op n s con to k names l, uc => by
   rw [consF, wtT, List.length_append, List.length_append]
   have h1 : (if hasConF op = true then above (freeF con) uc else []).length ≤ 20001 := by
     split
     · exact Nat.le_trans (above_len _ _) (freeF_len con)
     · simp
   have h2 : (if op = 8 then above (freeF to) uc else []).length ≤ 20001 := by
     split
     · exact Nat.le_trans (above_len _ _) (freeF_len to)
     · simp
   have h3 := consL_len op l 0 uc
   omega
theorem consL_len (op : Int) : ∀ (l : List TermT) (i : Nat) (uc : Int), (consL op l i uc).length ≤ 40002 * wtTL l
 | [], i, uc => by rw [consL]; simp
 | x :: r, i, uc => by
   rw [consL, wtTL, List.length_append]
   have h1 := consF_len x (uc + insC op i)
   have h2 := consL_len op r (i + 1) uc
   omega
end
mutual
theorem termsF_len : ∀ (t : TermT) (ut : Int), (termsF t ut).length ≤ wtT t
 | .mk op n s con to k names l, ut => by
   rw [termsF, wtT, List.length_append]
   have h1 : (if op = 1 then above [n] ut else []).length ≤ 1 := by
     split
     · exact Nat.le_trans (above_len _ _) (by simp)
     · simp
   have h3 := termsL_len op l 0 ut
   omega
theorem termsL_len (op : Int) : ∀ (l : List TermT) (i : Nat) (ut : Int), (termsL op l i ut).length ≤ wtTL l
 | [], i, ut => by rw [termsL]; simp
 | x :: r, i, ut => by
   rw [termsL, wtTL, List.length_append]
   have h1 := termsF_len x (ut + insT op i)
   have h2 := termsL_len op r (i + 1) ut
   omega
end
theorem insC_nn (op : Int) (i : Nat) : 0 ≤ insC op i := by rw [insC]; (repeat' split) <;> omega
/-! What is rebuilt is such as memory allows -/
/-! The closures -/
/-! Shift -/
theorem sameK_0 (k : List KindT) : sameK (.mk k) (.mk []) = ((k.length : Int) == 0) := by
 cases k with
 | nil => rfl
 | cons x r =>
   rw [sameK, sameKs, List.length_cons]
   exact (beq_eq_false_iff_ne.2 (by omega)).symm
theorem eqL_0 (k : List ByteArray) : eqL strEq k [] = ((k.length : Int) == 0) := by
 cases k with
 | nil => rfl
 | cons x r =>
   rw [eqL, List.length_cons]
   exact (beq_eq_false_iff_ne.2 (by omega)).symm
theorem eqCs_0 (k : List ConT) : eqCs k [] = ((k.length : Int) == 0) := by
 cases k with
 | nil => rfl
 | cons x r =>
   rw [eqCs, List.length_cons]
   exact (beq_eq_false_iff_ne.2 (by omega)).symm
theorem NoCon_spec (c : ConT) : Spec Tryz.prog 151 [pp (encC c)] [] (.bool (eqC c zeroC)) [] := by
 obtain ⟨op, n, s, k, names, l⟩ := c
 rw [zeroC, eqC, sameK_0, eqL_0, eqCs_0, strEq]
 refine wk (rv := [.tmp 2]) ann151 35 Tryz.func151 ?_
 simp only [go_sem, encC_mk, List.length_map]
 repeat' ((first | refine condK_intro (fun _ => ?_) (fun _ => ?_) | refine guardK_intro (fun _ => ?_) (fun _ => ?_)) <;> simp only [go_sem, List.length_map])
 all_goals (simp_all)
def rarityF (n : Int) : Int := if n = 6 ∨ n = 11 ∨ n = 13 ∨ n = 14 then 1 else if n = 1 ∨ n = 2 ∨ n = 3 ∨ n = 4 ∨ n = 5 ∨ n = 7 ∨ n = 8 ∨ n = 9 ∨ n = 10 ∨ n = 12 then 2 else 0
theorem rArity_spec (n : Int) : Spec Tryz.prog 175 [ii n] [] (.int .i64 (rarityF n)) [] := by
 refine wk (rv := [.tmp 2]) ann175 20 Tryz.func175 ?_
 simp only [go_sem]
 repeat' ((first | refine condK_intro (fun _ => ?_) (fun _ => ?_) | refine guardK_intro (fun _ => ?_) (fun _ => ?_)) <;> simp only [go_sem, List.length_map])
 all_goals (simp only [rarityF]; simp_all)
def rpartsT (op : Int) : Int := if op = 1 ∨ op = 2 ∨ op = 3 ∨ op = 19 then 0 else if op = 4 ∨ op = 6 ∨ op = 7 ∨ op = 8 ∨ op = 11 ∨ op = 12 ∨ op = 14 ∨ op = 15 ∨ op = 16 then 1 else if op = 5 ∨ op = 9 ∨ op = 17 then 2 else -1
theorem rtparts_spec (op : Int) : Spec Tryz.prog 148 [ii op] [] (.int .i64 (rpartsT op)) [] := by
 refine wk (rv := [.tmp 2]) ann148 23 Tryz.func148 ?_
 simp only [go_sem]
 repeat' ((first | refine condK_intro (fun _ => ?_) (fun _ => ?_) | refine guardK_intro (fun _ => ?_) (fun _ => ?_)) <;> simp only [go_sem, List.length_map])
 all_goals (simp only [rpartsT]; simp_all)
theorem rtlabels_spec (l : List ByteArray) (hs : ∀ x ∈ l, x.size ≤ 100000000) : Spec Tryz.prog 147 [pp (.slice (l.map .str))] [] (.bool (labelsF l)) [] := by
 have hA := rAscending_spec l
 rw [labelsF]
 generalize ascF l = b2 at hA
 refine wf (rv := [.tmp 2]) ann147 23 Tryz.func147 fun hfit => ?_
 have hlen : l.length ≤ 9223372036854775807 := by
   simp only [argsFit, SV.pv?, SC.pv?, PV.fit, List.length_map, maxLen_eq] at hfit
   exact hfit.1.1
 clear hfit
 generalize hres : (l.all labelF && (decide ((l.length : Int) ≤ 1000) && b2)) = res
 simp only [go_sem]
 refine aLoop_list (α := ByteArray) (β := Nat) (fun rest b => ⟨[(3, ii b), (0, pp (.slice (l.map .str)))], [], []⟩)
   (fun rest b => ∃ pre, l = pre ++ rest ∧ b = pre.length ∧ (rest.all labelF && (decide ((l.length : Int) ≤ 1000) && b2)) = res) ?_ ?_ l 0 _ ?_ ⟨[], rfl, rfl, hres⟩
 · rintro m ⟨pre, g1, g2, g3⟩ K
   simp only [List.append_nil] at g1
   subst g1
   simp only [List.all_nil, Bool.true_and] at g3
   subst g3
   simp only [go_sem, g2, lt_false (Int.le_refl _), List.length_map]
   refine guardK_intro (fun hb => ?_) (fun hb => ?_)
   · simp only [go_sem]
     refine aCall_intro hA ?_
     simp only [go_sem, hb, Bool.true_and]
   · have hb' : decide ((l.length : Int) ≤ 1000) = false := by simpa using hb
     simp only [go_sem, hb', Bool.false_and]
 · rintro x rest m ⟨pre, g1, g2, g3⟩ K hK
   have hx : (l.map PV.str)[m]? = some (.str x) := by simp [g1, g2]
   have hlt : (m : Int) < l.length := by rw [g1, g2]; simp; omega
   have hll : m < l.length := by rw [g1, g2]; simp
   have hL := rIsLabel_spec x (hs x (by simp [g1]))
   have w4 : IntKind.i64.wrap ((m : Int) + 1) = ((m + 1 : Nat) : Int) := by rw [wrap_id (by omega) (by omega)]; simp
   rw [List.all_cons] at g3
   simp only [go_sem, List.length_map, decide_eq_true hlt, Int.toNat_natCast, Int.natCast_nonneg, hx]
   refine aCall_intro hL ?_
   cases hl : labelF x with
   | false =>
     rw [hl, Bool.false_and] at g3
     subst g3
     simp only [go_sem]
   | true =>
     rw [hl, Bool.true_and] at g3
     simp only [go_sem, w4]
     refine hK (m + 1) _ ?_ ⟨pre ++ [x], by simp [g1], by simp [g2], g3⟩
     simp only [go_sem]
 · simp only [go_sem, Int.natCast_zero]
def numR (op n : Int) (len : Nat) : Bool := if op = 1 then decide (n ≥ 0) && decide (n ≤ 20000) else if op = 2 then decide (n ≥ -4503599627370496) && decide (n ≤ 4503599627370496) else if op = 18 then decide (rarityF n > 0) && ((len : Int) == rarityF n) else if op = 19 then decide (n ≥ 1) && decide (n ≤ 1000000) else n == 0
theorem rtnumber_spec (op n : Int) (s : ByteArray) (con to : ConT) (k : List KindT) (names : List ByteArray) (l : List TermT) : Spec Tryz.prog 145 [pp (encT (.mk op n s con to k names l))] [] (.bool (numR op n l.length)) [] := by
 have hA := rArity_spec n
 generalize hres : numR op n l.length = res
 rw [numR] at hres
 generalize rarityF n = ar at hA hres
 refine wk (rv := [.tmp 2]) ann145 53 Tryz.func145 ?_
 simp only [go_sem, encT_mk, List.length_map]
 repeat' ((first | refine condK_intro (fun _ => ?_) (fun _ => ?_) | refine guardK_intro (fun _ => ?_) (fun _ => ?_) | refine aCall_intro hA ?_ | refine ⟨by kernel_rfl, ?_⟩ | fail) <;> simp only [go_sem, List.length_map])
 all_goals (clear hA; subst hres; simp_all <;> omega)
theorem rttext_spec (op n : Int) (s : ByteArray) (con to : ConT) (k : List KindT) (names : List ByteArray) (l : List TermT) (h : s.size ≤ 100000000) : Spec Tryz.prog 146 [pp (encT (.mk op n s con to k names l))] [] (.bool (textT op s)) [] := by
 have hL := rIsLabel_spec s h
 generalize hres : textT op s = res
 rw [textT, strEq] at hres
 generalize labelF s = lb at hL hres
 refine wk (rv := [.tmp 2]) ann146 20 Tryz.func146 ?_
 simp only [go_sem, encT_mk]
 repeat' ((first | refine condK_intro (fun _ => ?_) (fun _ => ?_) | refine guardK_intro (fun _ => ?_) (fun _ => ?_) | refine aCall_intro hL ?_) <;> simp only [go_sem, List.length_map])
 all_goals (clear hL; subst hres; simp_all)
def shapeR (op : Int) (names : List ByteArray) (len : Nat) : Bool :=
 if op = 10 then labelsF names && ((len : Int) == names.length) else
 if op = 13 then labelsF names && (!decide ((names.length : Int) < 1) && ((len : Int) == names.length + 1)) else
 if op = 18 then (names.length : Int) == 0 else ((names.length : Int) == 0) && ((len : Int) == rpartsT op)
def kindR (op : Int) (k : List KindT) : Bool := if op = 6 then kValidF k else (k.length : Int) == 0
def nodeR (op n : Int) (s : ByteArray) (con to : ConT) (k : List KindT) (names : List ByteArray) (len : Nat) : Bool :=
 !decide (op < 1) && (!decide (op > 19) && (numR op n len && (textT op s && (shapeR op names len && (kindR op k && (fitsC con (hasConF op) && fitsC to (op == 8)))))))
theorem kValid_nil : kValidF [] = true := by decide +kernel
theorem kindR_eq (op : Int) (k : List KindT) : kindR op k = (op == 6 && kValidF k || decide (k.length = 0)) := by
 have e4 : ((k.length : Int) == 0) = decide (k.length = 0) := by rw [Bool.eq_iff_iff]; simp
 rw [kindR, e4]
 by_cases h : op = 6
 · have h1 : (op == 6) = true := by simp [h]
   rw [if_pos h, h1, Bool.true_and]
   cases k with
   | nil => rw [kValid_nil]; rfl
   | cons x r => simp
 · have h1 : (op == 6) = false := by simp [h]
   rw [if_neg h, h1, Bool.false_and, Bool.false_or]
theorem labels_names (names : List ByteArray) : labelsF names = (!decide (names.length > 1000) && (ascF names && !names.any (fun s => !labelF s))) := by
 have a6 : names.all labelF = !(names.any fun x => !labelF x) := by simp [List.all_eq_not_any_not]
 have a5 : decide ((names.length : Int) ≤ 1000) = !decide (names.length > 1000) := by rw [Bool.eq_iff_iff]; simp only [Bool.not_eq_true', decide_eq_true_iff, decide_eq_false_iff_not]; omega
 rw [labelsF, a6, a5]
 cases decide (names.length > 1000) <;> cases ascF names <;> cases (names.any fun x => !labelF x) <;> rfl
theorem rarity_eq (n : Int) : (rarityF n > 0 ↔ 1 ≤ n ∧ n ≤ 14) ∧ (1 ≤ n → n ≤ 14 → rarityF n = arityF n) := by
 rw [rarityF, arityF]
 constructor
 · (repeat' split) <;> omega
 · intro h1 h2
   (repeat' split) <;> omega
theorem shape_eq (op n : Int) (names : List ByteArray) (len : Nat) (h1 : 1 ≤ op) (h2 : op ≤ 19) : (numR op n len && shapeR op names len) = (numT op n && (decide ((len : Int) = partsT op n names.length) && namesT op names)) := by
 have d1 : ∀ a b : Int, (a == b) = decide (a = b) := fun a b => by rw [Bool.eq_iff_iff]; simp
 by_cases c1 : op = 10
 · subst c1
   have p : partsT 10 n names.length = names.length := by simp [partsT]
   have q : namesT 10 names = labelsF names := by
     rw [labels_names, namesT, if_neg (by decide)]
     by_cases e : names.length > 1000
     · rw [if_pos (.inr e), decide_eq_true e]; rfl
     · rw [if_neg (by rintro (x | x); exact absurd x.1 (by decide); exact e x), decide_eq_false e]; rfl
   rw [p, q, numR, numT, shapeR]
   simp only [Int.reduceEq, if_false, if_true, d1]
   cases decide (n = 0) <;> cases labelsF names <;> simp
 · by_cases c2 : op = 13
   · subst c2
     have p : partsT 13 n names.length = names.length + 1 := by simp [partsT]
     have q : namesT 13 names = (labelsF names && !decide ((names.length : Int) < 1)) := by
       rw [labels_names, namesT, if_neg (by decide)]
       by_cases e0 : names.length = 0
       · rw [if_pos (.inl ⟨rfl, e0⟩), e0]; simp
       · have e0' : decide ((names.length : Int) < 1) = false := by simp; omega
         rw [e0']
         by_cases e : names.length > 1000
         · rw [if_pos (.inr e), decide_eq_true e]; rfl
         · rw [if_neg (by rintro (x | x); exact e0 x.2; exact e x), decide_eq_false e]; simp
     rw [p, q, numR, numT, shapeR]
     simp only [Int.reduceEq, if_false, if_true, d1]
     cases decide (n = 0) <;> cases labelsF names <;> cases decide ((names.length : Int) < 1) <;> simp
   · have q : namesT op names = ((names.length : Int) == 0) := by
       rw [namesT, if_pos ⟨c1, c2⟩, d1, Bool.eq_iff_iff]; simp
     rw [q]
     by_cases c3 : op = 18
     · subst c3
       have p : partsT 18 n names.length = arityF n := by simp [partsT]
       obtain ⟨r1, r2⟩ := rarity_eq n
       rw [p, numR, numT, shapeR]
       simp only [Int.reduceEq, if_false, if_true, d1]
       by_cases e : 1 ≤ n ∧ n ≤ 14
       · have := r1.2 e
         rw [r2 e.1 e.2] at this ⊢
         rw [decide_eq_true this, decide_eq_true e.1, decide_eq_true e.2]
         simp
       · have h0 : ¬ rarityF n > 0 := fun h => e (r1.1 h)
         rw [decide_eq_false h0]
         by_cases e1 : 1 ≤ n
         · have : ¬ n ≤ 14 := fun h => e ⟨e1, h⟩
           rw [decide_eq_false this]; simp
         · have : ¬ n ≥ 1 := e1
           rw [decide_eq_false this]; simp
     · have p : partsT op n names.length = rpartsT op := by
         rw [partsT, rpartsT]
         (repeat' split) <;> omega
       have e : numR op n len = numT op n := by rw [numR, numT, if_neg c3, if_neg c3]
       rw [p, e, shapeR, if_neg c1, if_neg c2, if_neg c3]
       simp only [d1]
       cases numT op n <;> cases decide ((names.length : Int) = 0) <;> simp
theorem node_eq (op n : Int) (s : ByteArray) (con to : ConT) (k : List KindT) (names : List ByteArray) (len : Nat) : nodeR op n s con to k names len = nodeT op n s con to k names len := by
 rw [nodeR, nodeT, kindR_eq]
 have e1 : decide (1 ≤ op) = !decide (op < 1) := by rw [Bool.eq_iff_iff]; simp only [Bool.not_eq_true', decide_eq_true_iff, decide_eq_false_iff_not]; omega
 have e2 : decide (op ≤ 19) = !decide (op > 19) := by rw [Bool.eq_iff_iff]; simp only [Bool.not_eq_true', decide_eq_true_iff, decide_eq_false_iff_not]; omega
 rw [e1, e2]
 by_cases h1 : op < 1
 · rw [decide_eq_true h1]; rfl
 · by_cases h2 : op > 19
   · rw [decide_eq_true h2]; simp
   · have := shape_eq op n names len (by omega) (by omega)
     rw [decide_eq_false h1, decide_eq_false h2]
     generalize numR op n len = a at this ⊢
     generalize shapeR op names len = b at this ⊢
     generalize numT op n = c at this ⊢
     generalize decide ((len : Int) = partsT op n names.length) = d at this ⊢
     generalize namesT op names = e at this ⊢
     generalize textT op s = f
     cases f
     · simp
     · have : (a && b) = (c && (d && e)) := this
       simp only [Bool.not_false, Bool.true_and]
       rw [← Bool.and_assoc a b, this]
       cases c <;> cases d <;> cases e <;> rfl
theorem nodeR_in (op n : Int) (s : ByteArray) (con to : ConT) (k : List KindT) (names : List ByteArray) (len : Nat) (d1 : decide (op < 1) = false) (d2 : decide (op > 19) = false) : nodeR op n s con to k names len =
   (numR op n len && (textT op s && (shapeR op names len && (kindR op k && (fitsC con (hasConF op) && fitsC to (op == 8)))))) := by rw [nodeR, d1, d2]; rfl
theorem ne_of_beq_false {a b : Int} (h : (a == b) = false) : ¬ a = b := by simpa using h
theorem rtnode_10 (n : Int) (s : ByteArray) (con to : ConT) (k : List KindT) (names : List ByteArray) (l : List TermT) (hs : s.size ≤ 100000000) (hc2 : okS con) (ht2 : okS to) (hns : ∀ x ∈ names, x.size ≤ 100000000) (hnl0 : names.length ≤ 100000000) : Spec Tryz.prog 119 [pp (encT (.mk 10 n s con to k names l))] [] (.bool (nodeR 10 n s con to k names l.length)) [] := by
 have hN := rtnumber_spec 10 n s con to k names l
 have hT := rttext_spec 10 n s con to k names l hs
 have hLb := rtlabels_spec names hns
 have hP := rtparts_spec 10
 have hH := rHasCon_spec 10
 have hK := rkValid_spec (.mk k)
 have hV1 := rValid_spec con hc2
 have hV2 := rValid_spec to ht2
 have hZ1 := NoCon_spec con
 have hZ2 := NoCon_spec to
 generalize hres : nodeR 10 n s con to k names l.length = res
 rw [nodeR_in 10 n s con to k names l.length (by decide) (by decide), shapeR, kindR, fitsC, fitsC, kValidF] at hres
 rw [show hasConF 10 = false from rfl] at hres hH
 simp only [Int.reduceEq, Int.reduceBEq, if_true, if_false, Bool.false_eq_true, ↓reduceIte] at hres
 clear hs hc2 ht2 hns
 simp only [encT_mk, encK_mk, encC_cells, ConT.cells] at hN hT hK hV1 hV2 hZ1 hZ2
 generalize numR 10 n l.length = b1 at hN hres
 generalize textT 10 s = b2 at hT hres
 generalize labelsF names = b3 at hLb hres
 generalize rpartsT 10 = p at hP hres
 generalize (sizeK (.mk k) 20000 1).isSome = b5 at hK hres
 generalize validF con = b6 at hV1 hres
 generalize validF to = b7 at hV2 hres
 generalize eqC con zeroC = b8 at hZ1 hres
 generalize eqC to zeroC = b9 at hZ2 hres
 refine wk (rv := [.tmp 2]) ann119 139 Tryz.func119 ?_
 have w1 : IntKind.i64.wrap ((names.length : Int) + 1) = (names.length : Int) + 1 := wrap_id (by omega) (by omega)
 clear hnl0
 generalize hnl : (names.length : Int) = nl at hres w1
 generalize hkl : (k.length : Int) = kl at hres
 generalize hll : (l.length : Int) = ll at hres
 simp only [go_sem, encT_mk, List.length_map, hnl, hkl, hll, w1, Int.reduceBEq, Int.reduceLT, Int.reduceGT, Int.reduceNeg, Int.reduceLE]
 repeat' ((first | refine condK_intro (fun _ => ?_) (fun _ => ?_) | refine guardK_intro (fun _ => ?_) (fun _ => ?_) | refine aCall_intro hN ?_ | refine aCall_intro hT ?_ | refine aCall_intro hLb ?_ | refine aCall_intro hP ?_ | refine aCall_intro hH ?_ | refine aCall_intro hK ?_ | refine aCall_intro hV1 ?_ | refine aCall_intro hV2 ?_ | refine aCall_intro hZ1 ?_ | refine aCall_intro hZ2 ?_ | refine ⟨by kernel_rfl, ?_⟩ | fail) <;> simp only [go_sem, List.length_map, hnl, hkl, hll, w1, Int.reduceBEq, Int.reduceLT, Int.reduceGT, Int.reduceNeg, Int.reduceLE])
 all_goals (clear hN hT hLb hP hH hK hV1 hV2 hZ1 hZ2; subst hres; simp_all)
theorem rtnode_13 (n : Int) (s : ByteArray) (con to : ConT) (k : List KindT) (names : List ByteArray) (l : List TermT) (hs : s.size ≤ 100000000) (hc2 : okS con) (ht2 : okS to) (hns : ∀ x ∈ names, x.size ≤ 100000000) (hnl0 : names.length ≤ 100000000) : Spec Tryz.prog 119 [pp (encT (.mk 13 n s con to k names l))] [] (.bool (nodeR 13 n s con to k names l.length)) [] := by
 have hN := rtnumber_spec 13 n s con to k names l
 have hT := rttext_spec 13 n s con to k names l hs
 have hLb := rtlabels_spec names hns
 have hP := rtparts_spec 13
 have hH := rHasCon_spec 13
 have hK := rkValid_spec (.mk k)
 have hV1 := rValid_spec con hc2
 have hV2 := rValid_spec to ht2
 have hZ1 := NoCon_spec con
 have hZ2 := NoCon_spec to
 generalize hres : nodeR 13 n s con to k names l.length = res
 rw [nodeR_in 13 n s con to k names l.length (by decide) (by decide), shapeR, kindR, fitsC, fitsC, kValidF] at hres
 rw [show hasConF 13 = false from rfl] at hres hH
 simp only [Int.reduceEq, Int.reduceBEq, if_true, if_false, Bool.false_eq_true, ↓reduceIte] at hres
 clear hs hc2 ht2 hns
 simp only [encT_mk, encK_mk, encC_cells, ConT.cells] at hN hT hK hV1 hV2 hZ1 hZ2
 generalize numR 13 n l.length = b1 at hN hres
 generalize textT 13 s = b2 at hT hres
 generalize labelsF names = b3 at hLb hres
 generalize rpartsT 13 = p at hP hres
 generalize (sizeK (.mk k) 20000 1).isSome = b5 at hK hres
 generalize validF con = b6 at hV1 hres
 generalize validF to = b7 at hV2 hres
 generalize eqC con zeroC = b8 at hZ1 hres
 generalize eqC to zeroC = b9 at hZ2 hres
 refine wk (rv := [.tmp 2]) ann119 139 Tryz.func119 ?_
 have w1 : IntKind.i64.wrap ((names.length : Int) + 1) = (names.length : Int) + 1 := wrap_id (by omega) (by omega)
 clear hnl0
 generalize hnl : (names.length : Int) = nl at hres w1
 generalize hkl : (k.length : Int) = kl at hres
 generalize hll : (l.length : Int) = ll at hres
 simp only [go_sem, encT_mk, List.length_map, hnl, hkl, hll, w1, Int.reduceBEq, Int.reduceLT, Int.reduceGT, Int.reduceNeg, Int.reduceLE]
 repeat' ((first | refine condK_intro (fun _ => ?_) (fun _ => ?_) | refine guardK_intro (fun _ => ?_) (fun _ => ?_) | refine aCall_intro hN ?_ | refine aCall_intro hT ?_ | refine aCall_intro hLb ?_ | refine aCall_intro hP ?_ | refine aCall_intro hH ?_ | refine aCall_intro hK ?_ | refine aCall_intro hV1 ?_ | refine aCall_intro hV2 ?_ | refine aCall_intro hZ1 ?_ | refine aCall_intro hZ2 ?_ | refine ⟨by kernel_rfl, ?_⟩ | fail) <;> simp only [go_sem, List.length_map, hnl, hkl, hll, w1, Int.reduceBEq, Int.reduceLT, Int.reduceGT, Int.reduceNeg, Int.reduceLE])
 all_goals (clear hN hT hLb hP hH hK hV1 hV2 hZ1 hZ2; subst hres; simp_all)
theorem rtnode_18 (n : Int) (s : ByteArray) (con to : ConT) (k : List KindT) (names : List ByteArray) (l : List TermT) (hs : s.size ≤ 100000000) (hc2 : okS con) (ht2 : okS to) (hns : ∀ x ∈ names, x.size ≤ 100000000) (hnl0 : names.length ≤ 100000000) : Spec Tryz.prog 119 [pp (encT (.mk 18 n s con to k names l))] [] (.bool (nodeR 18 n s con to k names l.length)) [] := by
 have hN := rtnumber_spec 18 n s con to k names l
 have hT := rttext_spec 18 n s con to k names l hs
 have hLb := rtlabels_spec names hns
 have hP := rtparts_spec 18
 have hH := rHasCon_spec 18
 have hK := rkValid_spec (.mk k)
 have hV1 := rValid_spec con hc2
 have hV2 := rValid_spec to ht2
 have hZ1 := NoCon_spec con
 have hZ2 := NoCon_spec to
 generalize hres : nodeR 18 n s con to k names l.length = res
 rw [nodeR_in 18 n s con to k names l.length (by decide) (by decide), shapeR, kindR, fitsC, fitsC, kValidF] at hres
 rw [show hasConF 18 = false from rfl] at hres hH
 simp only [Int.reduceEq, Int.reduceBEq, if_true, if_false, Bool.false_eq_true, ↓reduceIte] at hres
 clear hs hc2 ht2 hns
 simp only [encT_mk, encK_mk, encC_cells, ConT.cells] at hN hT hK hV1 hV2 hZ1 hZ2
 generalize numR 18 n l.length = b1 at hN hres
 generalize textT 18 s = b2 at hT hres
 generalize labelsF names = b3 at hLb hres
 generalize rpartsT 18 = p at hP hres
 generalize (sizeK (.mk k) 20000 1).isSome = b5 at hK hres
 generalize validF con = b6 at hV1 hres
 generalize validF to = b7 at hV2 hres
 generalize eqC con zeroC = b8 at hZ1 hres
 generalize eqC to zeroC = b9 at hZ2 hres
 refine wk (rv := [.tmp 2]) ann119 139 Tryz.func119 ?_
 have w1 : IntKind.i64.wrap ((names.length : Int) + 1) = (names.length : Int) + 1 := wrap_id (by omega) (by omega)
 clear hnl0
 generalize hnl : (names.length : Int) = nl at hres w1
 generalize hkl : (k.length : Int) = kl at hres
 generalize hll : (l.length : Int) = ll at hres
 simp only [go_sem, encT_mk, List.length_map, hnl, hkl, hll, w1, Int.reduceBEq, Int.reduceLT, Int.reduceGT, Int.reduceNeg, Int.reduceLE]
 repeat' ((first | refine condK_intro (fun _ => ?_) (fun _ => ?_) | refine guardK_intro (fun _ => ?_) (fun _ => ?_) | refine aCall_intro hN ?_ | refine aCall_intro hT ?_ | refine aCall_intro hLb ?_ | refine aCall_intro hP ?_ | refine aCall_intro hH ?_ | refine aCall_intro hK ?_ | refine aCall_intro hV1 ?_ | refine aCall_intro hV2 ?_ | refine aCall_intro hZ1 ?_ | refine aCall_intro hZ2 ?_ | refine ⟨by kernel_rfl, ?_⟩ | fail) <;> simp only [go_sem, List.length_map, hnl, hkl, hll, w1, Int.reduceBEq, Int.reduceLT, Int.reduceGT, Int.reduceNeg, Int.reduceLE])
 all_goals (clear hN hT hLb hP hH hK hV1 hV2 hZ1 hZ2; subst hres; simp_all)
theorem rtnode_6 (n : Int) (s : ByteArray) (con to : ConT) (k : List KindT) (names : List ByteArray) (l : List TermT) (hs : s.size ≤ 100000000) (hc2 : okS con) (ht2 : okS to) (hns : ∀ x ∈ names, x.size ≤ 100000000) (hnl0 : names.length ≤ 100000000) : Spec Tryz.prog 119 [pp (encT (.mk 6 n s con to k names l))] [] (.bool (nodeR 6 n s con to k names l.length)) [] := by
 have hN := rtnumber_spec 6 n s con to k names l
 have hT := rttext_spec 6 n s con to k names l hs
 have hLb := rtlabels_spec names hns
 have hP := rtparts_spec 6
 have hH := rHasCon_spec 6
 have hK := rkValid_spec (.mk k)
 have hV1 := rValid_spec con hc2
 have hV2 := rValid_spec to ht2
 have hZ1 := NoCon_spec con
 have hZ2 := NoCon_spec to
 generalize hres : nodeR 6 n s con to k names l.length = res
 rw [nodeR_in 6 n s con to k names l.length (by decide) (by decide), shapeR, kindR, fitsC, fitsC, kValidF] at hres
 rw [show hasConF 6 = false from rfl] at hres hH
 simp only [Int.reduceEq, Int.reduceBEq, if_true, if_false, Bool.false_eq_true, ↓reduceIte] at hres
 clear hs hc2 ht2 hns
 simp only [encT_mk, encK_mk, encC_cells, ConT.cells] at hN hT hK hV1 hV2 hZ1 hZ2
 generalize numR 6 n l.length = b1 at hN hres
 generalize textT 6 s = b2 at hT hres
 generalize labelsF names = b3 at hLb hres
 generalize rpartsT 6 = p at hP hres
 generalize (sizeK (.mk k) 20000 1).isSome = b5 at hK hres
 generalize validF con = b6 at hV1 hres
 generalize validF to = b7 at hV2 hres
 generalize eqC con zeroC = b8 at hZ1 hres
 generalize eqC to zeroC = b9 at hZ2 hres
 refine wk (rv := [.tmp 2]) ann119 139 Tryz.func119 ?_
 have w1 : IntKind.i64.wrap ((names.length : Int) + 1) = (names.length : Int) + 1 := wrap_id (by omega) (by omega)
 clear hnl0
 generalize hnl : (names.length : Int) = nl at hres w1
 generalize hkl : (k.length : Int) = kl at hres
 generalize hll : (l.length : Int) = ll at hres
 simp only [go_sem, encT_mk, List.length_map, hnl, hkl, hll, w1, Int.reduceBEq, Int.reduceLT, Int.reduceGT, Int.reduceNeg, Int.reduceLE]
 repeat' ((first | refine condK_intro (fun _ => ?_) (fun _ => ?_) | refine guardK_intro (fun _ => ?_) (fun _ => ?_) | refine aCall_intro hN ?_ | refine aCall_intro hT ?_ | refine aCall_intro hLb ?_ | refine aCall_intro hP ?_ | refine aCall_intro hH ?_ | refine aCall_intro hK ?_ | refine aCall_intro hV1 ?_ | refine aCall_intro hV2 ?_ | refine aCall_intro hZ1 ?_ | refine aCall_intro hZ2 ?_ | refine ⟨by kernel_rfl, ?_⟩ | fail) <;> simp only [go_sem, List.length_map, hnl, hkl, hll, w1, Int.reduceBEq, Int.reduceLT, Int.reduceGT, Int.reduceNeg, Int.reduceLE])
 all_goals (clear hN hT hLb hP hH hK hV1 hV2 hZ1 hZ2; subst hres; simp_all)
theorem rtnode_8 (n : Int) (s : ByteArray) (con to : ConT) (k : List KindT) (names : List ByteArray) (l : List TermT) (hs : s.size ≤ 100000000) (hc2 : okS con) (ht2 : okS to) (hns : ∀ x ∈ names, x.size ≤ 100000000) (hnl0 : names.length ≤ 100000000) : Spec Tryz.prog 119 [pp (encT (.mk 8 n s con to k names l))] [] (.bool (nodeR 8 n s con to k names l.length)) [] := by
 have hN := rtnumber_spec 8 n s con to k names l
 have hT := rttext_spec 8 n s con to k names l hs
 have hLb := rtlabels_spec names hns
 have hP := rtparts_spec 8
 have hH := rHasCon_spec 8
 have hK := rkValid_spec (.mk k)
 have hV1 := rValid_spec con hc2
 have hV2 := rValid_spec to ht2
 have hZ1 := NoCon_spec con
 have hZ2 := NoCon_spec to
 generalize hres : nodeR 8 n s con to k names l.length = res
 rw [nodeR_in 8 n s con to k names l.length (by decide) (by decide), shapeR, kindR, fitsC, fitsC, kValidF] at hres
 rw [show hasConF 8 = true from rfl] at hres hH
 simp only [Int.reduceEq, Int.reduceBEq, if_true, if_false, Bool.false_eq_true, ↓reduceIte] at hres
 clear hs hc2 ht2 hns
 simp only [encT_mk, encK_mk, encC_cells, ConT.cells] at hN hT hK hV1 hV2 hZ1 hZ2
 generalize numR 8 n l.length = b1 at hN hres
 generalize textT 8 s = b2 at hT hres
 generalize labelsF names = b3 at hLb hres
 generalize rpartsT 8 = p at hP hres
 generalize (sizeK (.mk k) 20000 1).isSome = b5 at hK hres
 generalize validF con = b6 at hV1 hres
 generalize validF to = b7 at hV2 hres
 generalize eqC con zeroC = b8 at hZ1 hres
 generalize eqC to zeroC = b9 at hZ2 hres
 refine wk (rv := [.tmp 2]) ann119 139 Tryz.func119 ?_
 have w1 : IntKind.i64.wrap ((names.length : Int) + 1) = (names.length : Int) + 1 := wrap_id (by omega) (by omega)
 clear hnl0
 generalize hnl : (names.length : Int) = nl at hres w1
 generalize hkl : (k.length : Int) = kl at hres
 generalize hll : (l.length : Int) = ll at hres
 simp only [go_sem, encT_mk, List.length_map, hnl, hkl, hll, w1, Int.reduceBEq, Int.reduceLT, Int.reduceGT, Int.reduceNeg, Int.reduceLE]
 repeat' ((first | refine condK_intro (fun _ => ?_) (fun _ => ?_) | refine guardK_intro (fun _ => ?_) (fun _ => ?_) | refine aCall_intro hN ?_ | refine aCall_intro hT ?_ | refine aCall_intro hLb ?_ | refine aCall_intro hP ?_ | refine aCall_intro hH ?_ | refine aCall_intro hK ?_ | refine aCall_intro hV1 ?_ | refine aCall_intro hV2 ?_ | refine aCall_intro hZ1 ?_ | refine aCall_intro hZ2 ?_ | refine ⟨by kernel_rfl, ?_⟩ | fail) <;> simp only [go_sem, List.length_map, hnl, hkl, hll, w1, Int.reduceBEq, Int.reduceLT, Int.reduceGT, Int.reduceNeg, Int.reduceLE])
 all_goals (clear hN hT hLb hP hH hK hV1 hV2 hZ1 hZ2; subst hres; simp_all)
theorem rtnode_else (op : Int) (f6 : (op == 6) = false) (f8 : (op == 8) = false) (f10 : (op == 10) = false) (f13 : (op == 13) = false) (f18 : (op == 18) = false) (d1 : decide (op < 1) = false) (d2 : decide (op > 19) = false) (n : Int) (s : ByteArray) (con to : ConT) (k : List KindT) (names : List ByteArray) (l : List TermT) (hs : s.size ≤ 100000000) (hc2 : okS con) (ht2 : okS to) (hns : ∀ x ∈ names, x.size ≤ 100000000) (hnl0 : names.length ≤ 100000000) : Spec Tryz.prog 119 [pp (encT (.mk op n s con to k names l))] [] (.bool (nodeR op n s con to k names l.length)) [] := by
 have hN := rtnumber_spec op n s con to k names l
 have hT := rttext_spec op n s con to k names l hs
 have hLb := rtlabels_spec names hns
 have hP := rtparts_spec op
 have hH := rHasCon_spec op
 have hK := rkValid_spec (.mk k)
 have hV1 := rValid_spec con hc2
 have hV2 := rValid_spec to ht2
 have hZ1 := NoCon_spec con
 have hZ2 := NoCon_spec to
 generalize hres : nodeR op n s con to k names l.length = res
 rw [nodeR_in op n s con to k names l.length d1 d2, shapeR, kindR, fitsC, fitsC, kValidF] at hres
 rw [if_neg (ne_of_beq_false f10), if_neg (ne_of_beq_false f13), if_neg (ne_of_beq_false f18), if_neg (ne_of_beq_false f6), f8] at hres
 simp only [Bool.false_eq_true, if_false] at hres
 clear hs hc2 ht2 hns
 simp only [encT_mk, encK_mk, encC_cells, ConT.cells] at hN hT hK hV1 hV2 hZ1 hZ2
 generalize numR op n l.length = b1 at hN hres
 generalize textT op s = b2 at hT hres
 generalize labelsF names = b3 at hLb hres
 generalize rpartsT op = p at hP hres
 generalize (sizeK (.mk k) 20000 1).isSome = b5 at hK hres
 generalize validF con = b6 at hV1 hres
 generalize validF to = b7 at hV2 hres
 generalize eqC con zeroC = b8 at hZ1 hres
 generalize eqC to zeroC = b9 at hZ2 hres
 generalize hasConF op = q at hH hres
 refine wk (rv := [.tmp 2]) ann119 139 Tryz.func119 ?_
 have w1 : IntKind.i64.wrap ((names.length : Int) + 1) = (names.length : Int) + 1 := wrap_id (by omega) (by omega)
 clear hnl0
 generalize hnl : (names.length : Int) = nl at hres w1
 generalize hkl : (k.length : Int) = kl at hres
 generalize hll : (l.length : Int) = ll at hres
 simp only [go_sem, encT_mk, List.length_map, hnl, hkl, hll, w1, f6, f8, f10, f13, f18, d1, d2, bne]
 repeat' ((first | refine condK_intro (fun _ => ?_) (fun _ => ?_) | refine guardK_intro (fun _ => ?_) (fun _ => ?_) | refine aCall_intro hN ?_ | refine aCall_intro hT ?_ | refine aCall_intro hLb ?_ | refine aCall_intro hP ?_ | refine aCall_intro hH ?_ | refine aCall_intro hK ?_ | refine aCall_intro hV1 ?_ | refine aCall_intro hV2 ?_ | refine aCall_intro hZ1 ?_ | refine aCall_intro hZ2 ?_ | refine ⟨by kernel_rfl, ?_⟩ | fail) <;> simp only [go_sem, List.length_map, hnl, hkl, hll, w1, f6, f8, f10, f13, f18, d1, d2, bne])
 all_goals (clear hN hT hLb hP hH hK hV1 hV2 hZ1 hZ2; subst hres; simp_all)
theorem rtnode_out (op n : Int) (s : ByteArray) (con to : ConT) (k : List KindT) (names : List ByteArray) (l : List TermT) (h : op < 1 ∨ op > 19) : Spec Tryz.prog 119 [pp (encT (.mk op n s con to k names l))] [] (.bool (nodeR op n s con to k names l.length)) [] := by
 have hres : nodeR op n s con to k names l.length = false := by
   rw [nodeR]
   rcases h with h | h
   · rw [decide_eq_true h]; rfl
   · rw [decide_eq_true h]; simp
 rw [hres]
 refine wk (rv := [.tmp 2]) ann119 139 Tryz.func119 ?_
 simp only [go_sem, encT_mk, List.length_map]
 rcases h with h | h
 · simp only [go_sem, decide_eq_true h]
 · have h1 : decide (op < 1) = false := decide_eq_false (by omega)
   simp only [go_sem, decide_eq_true h, h1]
theorem rtnode_spec (op n : Int) (s : ByteArray) (con to : ConT) (k : List KindT) (names : List ByteArray) (l : List TermT) (h : okT (.mk op n s con to k names l)) : Spec Tryz.prog 119 [pp (encT (.mk op n s con to k names l))] [] (.bool (nodeT op n s con to k names l.length)) [] := by
 simp only [okT] at h
 obtain ⟨hs, ⟨_, hc2⟩, ⟨_, ht2⟩, hk, hns, hnl, hll, _⟩ := h
 rw [← node_eq]
 by_cases h0 : op < 1 ∨ op > 19
 · exact rtnode_out op n s con to k names l h0
 · by_cases h10 : op = 10
   · subst h10; exact rtnode_10 n s con to k names l hs hc2 ht2 hns hnl
   · by_cases h13 : op = 13
     · subst h13; exact rtnode_13 n s con to k names l hs hc2 ht2 hns hnl
     · by_cases h18 : op = 18
       · subst h18; exact rtnode_18 n s con to k names l hs hc2 ht2 hns hnl
       · by_cases h6 : op = 6
         · subst h6; exact rtnode_6 n s con to k names l hs hc2 ht2 hns hnl
         · by_cases h8 : op = 8
           · subst h8; exact rtnode_8 n s con to k names l hs hc2 ht2 hns hnl
           · have f : ∀ m : Int, op ≠ m → (op == m) = false := fun m h => by simp [h]
             exact rtnode_else op (f 6 h6) (f 8 h8) (f 10 h10) (f 13 h13) (f 18 h18) (decide_eq_false fun h => h0 (.inl h)) (decide_eq_false fun h => h0 (.inr h)) n s con to k names l hs hc2 ht2 hns hnl
mutual
theorem cntT_rng : ∀ (t : TermT) (left depth : Int), okT t → left ≤ 1000000000 → -2000000002 ≤ cntT t left depth ∧ cntT t left depth ≤ 1000000000
 | .mk op n s con to k names l, left, depth, hok, h => by
   simp only [okT] at hok
   rw [cntT]
   split
   · omega
   · rename_i hc
     have h1 : ¬ left < 1 := fun e => hc (.inl e)
     have c1 := hok.2.1.1
     have c2 := hok.2.2.1.1
     exact cntTL_rng l _ depth hok.2.2.2.2.2.2.2 (by split <;> split <;> omega) (by split <;> split <;> omega)
theorem cntTL_rng : ∀ (l : List TermT) (left depth : Int), okTs l → -2000000002 ≤ left → left ≤ 1000000000 → -2000000002 ≤ cntTL l left depth ∧ cntTL l left depth ≤ 1000000000
 | [], left, depth, _, h1, h2 => by rw [cntTL]; omega
 | x :: r, left, depth, hok, h1, h2 => by
   simp only [okTs] at hok
   rw [cntTL]
   split
   · omega
   · have := cntT_rng x left (depth - 1) hok.1 h2
     exact cntTL_rng r _ depth hok.2 this.1 this.2
end
theorem cntTL_neg {l : List TermT} {left depth : Int} (h : left < 0) : cntTL l left depth = left := by
 cases l with
 | nil => rw [cntTL]
 | cons x r => rw [cntTL, if_pos h]
theorem rtcount_spec (t : TermT) : okT t → ∀ left depth : Int, -2000000002 ≤ left → left ≤ 1000000000 → 0 ≤ depth → depth ≤ 1000 → Spec Tryz.prog 77 [pp (encT t), ii left, ii depth] [] (.int .i64 (cntT t left depth)) [] := by
 revert t
 refine TermT.ind1 fun op n s con to k names l ih => ?_
 intro hok left depth h1 h2 h3 h4
 have hN := rtnode_spec op n s con to k names l hok
 have hH := rHasCon_spec op
 simp only [okT] at hok
 obtain ⟨_, ⟨hc1, _⟩, ⟨ht1, _⟩, _, _, _, hll, hokl⟩ := hok
 have hS1 := rSize_spec con hc1
 have hS2 := rSize_spec to ht1
 generalize hres : cntT (.mk op n s con to k names l) left depth = res
 rw [cntT] at hres
 generalize nodeT op n s con to k names l.length = nd at hN hres
 by_cases hout : left < 1 ∨ depth < 1 ∨ nd = false
 · rw [if_pos hout] at hres
   subst hres
   refine wk (rv := [.tmp 6]) ann77 58 Tryz.func77 ?_
   simp only [go_sem, encT_sz]
   repeat' (first | (refine condK_intro (fun _ => ?_) (fun _ => ?_) <;> simp only [go_sem, encT_sz]) | (refine guardK_intro (fun _ => ?_) (fun _ => ?_) <;> simp only [go_sem, encT_sz]) | (refine aCall_intro hN ?_; simp only [go_sem]))
   all_goals (exfalso; simp_all <;> omega)
 · rw [if_neg hout] at hres
   have d1 : decide (left < 1) = false := decide_eq_false fun e => hout (.inl e)
   have d2 : decide (depth < 1) = false := decide_eq_false fun e => hout (.inr (.inl e))
   have d3 : nd = true := by
     cases nd with
     | true => rfl
     | false => exact absurd (.inr (.inr rfl)) hout
   subst d3
   have hl1 : 1 ≤ left := by have := of_decide_eq_false d1; omega
   have hd1 : 1 ≤ depth := by have := of_decide_eq_false d2; omega
   clear hout
   have e8 : (op = 8) ↔ (op == 8) = true := by simp
   simp only [e8] at hres
   have w0 : IntKind.i64.wrap (left - 1) = left - 1 := wrap_id (by omega) (by omega)
   have w1 : IntKind.i64.wrap (left - 1 - (sizeF con : Int)) = left - 1 - (sizeF con : Int) := wrap_id (by omega) (by omega)
   have w2 : IntKind.i64.wrap (left - 1 - (sizeF con : Int) - (sizeF to : Int)) = left - 1 - (sizeF con : Int) - (sizeF to : Int) := wrap_id (by omega) (by omega)
   have w3 : IntKind.i64.wrap (left - 1 - (sizeF to : Int)) = left - 1 - (sizeF to : Int) := wrap_id (by omega) (by omega)
   have w5 : IntKind.i64.wrap (depth - 1) = depth - 1 := wrap_id (by omega) (by omega)
   have q8h : (op == 8) = true → hasConF op = true := fun e => by rw [eq_of_beq e]; decide
   simp only [encT_mk, encC_cells, ConT.cells] at hN hS1 hS2
   generalize hasConF op = q at hH hres q8h
   generalize h8 : (op == 8) = q8 at hres q8h
   obtain ⟨n0, hn0⟩ : ∃ n0 : Int, n0 = left - 1 - (if q = true then (sizeF con : Int) else 0) - (if q8 = true then (sizeF to : Int) else 0) := ⟨_, rfl⟩
   rw [← hn0] at hres
   have hcase : (q = true ∧ q8 = true) ∨ (q = true ∧ q8 = false) ∨ (q = false ∧ q8 = false) := by
     cases q8
     · cases q
       · exact .inr (.inr ⟨rfl, rfl⟩)
       · exact .inr (.inl ⟨rfl, rfl⟩)
     · exact .inl ⟨q8h rfl, rfl⟩
   clear e8 q8h
   have r1 : -2000000002 ≤ n0 := by rw [hn0]; split <;> split <;> omega
   have r2 : n0 ≤ 1000000000 := by rw [hn0]; split <;> split <;> omega
   generalize sizeF con = sc at *
   generalize sizeF to = st at *
   refine wk (rv := [.tmp 6]) ann77 58 Tryz.func77 ?_
   rcases hcase with ⟨rfl, rfl⟩ | ⟨rfl, rfl⟩ | ⟨rfl, rfl⟩
   all_goals
     simp only [Bool.false_eq_true, if_true, if_false, Int.sub_zero] at hn0
     simp only [go_sem, encT_mk, d1, d2]
     refine aCall_intro hN ?_
     simp only [go_sem, w0]
     refine aCall_intro hH ?_
     simp only [go_sem, h8]
     try (refine aCall_intro hS1 ?_; simp only [go_sem, h8, w1])
     try (refine aCall_intro hS2 ?_; simp only [go_sem, h8, w2, w3])
     simp only [← hn0]
     clear hN hH hS1 hS2 h8 w0 w1 w2 w3 hn0 d1 d2
     refine aLoop_list (α := TermT) (β := Nat × Int) (fun rest b => ⟨[(7, ii b.1), (2, ii depth), (1, ii b.2), (3, pp (.ep (encT (.mk op n s con to k names l)) 0))], [], []⟩)
       (fun rest b => ∃ pre, l = pre ++ rest ∧ b.1 = pre.length ∧ -2000000002 ≤ b.2 ∧ b.2 ≤ 1000000000 ∧ cntTL rest b.2 depth = res) ?_ ?_ l (0, n0) _ ?_ ⟨[], rfl, rfl, r1, r2, hres⟩
     · rintro ⟨m, v⟩ ⟨pre, g1, g2, g3, g4, g5⟩ K
       simp only [List.append_nil] at g1 g2
       subst g1
       rw [cntTL] at g5
       subst g5
       simp only [go_sem, encT_mk, g2, lt_false (Int.le_refl _), List.length_map]
     · rintro x rest ⟨m, v⟩ ⟨pre, g1, g2, g3, g4, g5⟩ K hK
       simp only at g2 g3 g4 g5
       have hx : (l.map encT)[m]? = some (encT x) := by simp [g1, g2]
       have hlt : (m : Int) < l.length := by rw [g1, g2]; simp; omega
       have hll2 : m < l.length := by rw [g1, g2]; simp
       have hm : x ∈ l := by simp [g1]
       have w4 : IntKind.i64.wrap ((m : Int) + 1) = ((m + 1 : Nat) : Int) := by rw [wrap_id (by omega) (by omega)]; simp
       by_cases hv : v < 0
       · rw [cntTL_neg hv] at g5
         subst g5
         have hv' : decide (v ≥ 0) = false := decide_eq_false (by omega)
         simp only [go_sem, encT_mk, List.length_map, decide_eq_true hlt, hv']
       · have hv' : decide (v ≥ 0) = true := decide_eq_true (by omega)
         rw [cntTL, if_neg hv] at g5
         have hI := ih x hm (okTs_mem.1 hokl x hm) v (depth - 1) (by omega) (by omega) (by omega) (by omega)
         have hr := cntT_rng x v (depth - 1) (okTs_mem.1 hokl x hm) g4
         generalize cntT x v (depth - 1) = y at hI hr g5
         simp only [go_sem, encT_mk, List.length_map, decide_eq_true hlt, hv', Int.toNat_natCast, Int.natCast_nonneg, hx, encT_sz, w5]
         refine aCall_intro hI ?_
         simp only [go_sem, encT_mk, w4]
         refine hK (m + 1, y) _ ?_ ⟨pre ++ [x], by simp [g1], by simp [g2], hr.1, hr.2, g5⟩
         simp only [go_sem, encT_mk]
     · simp only [go_sem, encT_mk, Int.natCast_zero]
theorem rtValid_spec (t : TermT) (h : okT t) : Spec Tryz.prog 36 [pp (encT t)] [] (.bool (validT t)) [] := by
 have hC := rtcount_spec t h 20000 400 (by decide) (by decide) (by decide) (by decide)
 rw [validT_cnt]
 generalize cntT t 20000 400 = r at hC
 refine wk (rv := [.tmp 2]) ann36 6 Tryz.func36 ?_
 simp only [go_sem, encT_sz]
 refine aCall_intro hC ?_
 simp only [go_sem]
/-! The law's own -/
def FreeT (t : TermT) : List Int × List Int × Int := if validT t = true then (sortU (consF t 0), sortU (termsF t 0), 0) else ([], [], 1)
theorem tFreeX_spec (t : TermT) (hok : okT t) (hwc : wcT t) : Spec Tryz.prog 67 [pp (encT t)] [] (.tuple [.slice (ints (FreeT t).1), .slice (ints (FreeT t).2.1), .int .i64 (FreeT t).2.2]) [] := by
 have hV := tValid_spec t hok
 rw [FreeT]
 cases hv : validT t with
 | false =>
   rw [hv] at hV
   rw [if_neg (by decide)]
   refine wk (rv := [.tmp 2, .tmp 3, .tmp 4]) ann67 15 Tryz.func67 ?_
   simp only [go_sem, encT_sz]
   refine aCall_intro hV ?_
   simp only [go_sem]
   try rfl
 | true =>
   rw [hv] at hV
   obtain ⟨hwf, hd⟩ := valid_wf hv
   have hwt := valid_wt hv
   have hl1 := consF_len t 0
   have hl2 := termsF_len t 0
   have hF := free_spec t hwf hok hwc (by omega) (by omega) (by omega)
   rw [if_pos rfl]
   generalize sortU (consF t 0) = la at hF
   generalize sortU (termsF t 0) = lb at hF
   refine wk (rv := [.tmp 2, .tmp 3, .tmp 4]) ann67 15 Tryz.func67 ?_
   simp only [go_sem, encT_sz]
   refine aCall_intro hV ?_
   simp only [go_sem, encT_sz]
   refine aCall_intro hF ?_
   simp only [go_sem]
end Go.Abs.Kon
