/- The reference's shifting and free variables. -/
import Derived.Test.YthedhplpgfpodaaGreatDoorTermF
import Derived.Test.YthedhplpgfpodaaGreatDoorKonH
import Derived.Test.YthedhplpgfpodaaGreatDoorTermB
import Derived.Test.YthedhplpgfpodaaGreatDoorTermC
set_option linter.unusedSimpArgs false
set_option linter.unusedVariables false
namespace Go.Abs.Kon
open Go Go.Proofs Go.Abs
set_option maxRecDepth 100000
set_option maxHeartbeats 4000000
def accQ : Bool → List PV → SC
  | true, l => acc 54 .one l
  | false, l => acc 80 .one l
theorem accQ_t (l : List PV) : accQ true l = acc 54 .one l := rfl
theorem accQ_f (l : List PV) : accQ false l = acc 80 .one l := rfl
theorem rAdd_spec (l : List Int) (n : Int) (hl : l.length ≤ 1000000000) : Spec Tryz.prog 307 [pp (.slice (ints l)), ii n] [] (.slice (ints (addL n l false))) [] := by
  generalize hres : addL n l false = res
  refine wk (rv := [.tmp 4]) ann307 48 Tryz.func307 ?_
  simp only [go_sem]
  refine aLoop_list (α := Int) (β := Nat × (Bool × List Int) × Bool) (fun rest b => ⟨[(7, ii b.1), (0, pp (.slice (ints l))), (1, ii n), (5, .one (accQ b.2.1.1 (ints b.2.1.2))), (6, bb b.2.2)], [], []⟩)
    (fun rest b => ∃ pre, l = pre ++ rest ∧ b.1 = pre.length ∧ b.2.1.2.length ≤ 2 * pre.length ∧ b.2.1.2 ++ addL n rest b.2.2 = res) ?_ ?_ l (0, (true, []), false) _ ?_ ⟨[], rfl, rfl, Nat.le_refl _, by rw [List.nil_append]; exact hres⟩
  · rintro ⟨m, ⟨t, cur⟩, d⟩ ⟨pre, g1, g2, g3, g4⟩ K
    cases t
    all_goals
      simp only [List.append_nil] at g1 g2 g3
      subst g1
      rw [addL] at g4
      try simp only at g3
      have hb1 : (cur.length + 1) * 8 ≤ 140737488355328 := by omega
      have hb2 : cur.length + 1 ≤ maxLen := by rw [maxLen_eq]; omega
      cases d with
      | true =>
        simp only [if_true, List.append_nil] at g4
        subst g4
        cases cur <;> simp only [go_sem, g2, lt_false (Int.le_refl _), List.length_map, accQ_t, accQ_f, acc, List.map_nil, List.map_cons]
      | false =>
        simp only [Bool.false_eq_true, if_false] at g4
        subst g4
        cases cur with
        | nil => simp only [go_sem, g2, lt_false (Int.le_refl _), List.length_map, accQ_t, accQ_f, acc, List.map_nil, List.map_cons, List.nil_append, one_le_maxLen]
        | cons c0 cr =>
          simp only [List.length_cons] at hb1 hb2
          simp only [go_sem, g2, lt_false (Int.le_refl _), List.length_map, accQ_t, accQ_f, acc, List.map_cons, List.map_append, List.map_nil, List.cons_append, hb1, hb2]
  · rintro x rest ⟨m, ⟨t, cur⟩, d⟩ ⟨pre, g1, g2, g3, g4⟩ K hK
    simp only at g2 g3 g4
    have hx : (ints l)[m]? = some (.int .i64 x) := by simp [g1, g2]
    have hlt : (m : Int) < l.length := by rw [g1, g2]; simp; omega
    have hll : m < l.length := by rw [g1, g2]; simp
    have w4 : IntKind.i64.wrap ((m : Int) + 1) = ((m + 1 : Nat) : Int) := by rw [wrap_id (by omega) (by omega)]; simp
    have hb1 : (cur.length + 1) * 8 ≤ 140737488355328 := by omega
    have hb2 : cur.length + 1 ≤ maxLen := by rw [maxLen_eq]; omega
    have hb3 : (cur.length + 1 + 1) * 8 ≤ 140737488355328 := by omega
    have hb4 : cur.length + 1 + 1 ≤ maxLen := by rw [maxLen_eq]; omega
    have h2le : 2 ≤ maxLen := by rw [maxLen_eq]; decide
    rw [addL] at g4
    have hK' := fun (t' : Bool) (c' : List Int) (d' : Bool) (hl : c'.length ≤ cur.length + 2) (e : c' ++ addL n rest d' = res) s' hs => hK (m + 1, (t', c'), d') s' hs ⟨pre ++ [x], by simp [g1], by simp [g2], by simp only [List.length_append, List.length_singleton]; omega, e⟩
    clear hK
    cases t
    all_goals
      by_cases hn : x = n
      · have hne : (x != n) = false := by simp [hn]
        have hge : decide (x ≥ n) = true := decide_eq_true (by omega)
        rw [show (if x ≠ n then [x] else []) = [] from if_neg (fun h => h hn), List.nil_append, hge, Bool.or_true] at g4
        cases d with
        | true =>
          rw [if_neg (by rintro ⟨e, _⟩; cases e), List.nil_append] at g4
          cases cur <;> (
            simp only [go_sem, decide_eq_true hlt, Int.toNat_natCast, Int.natCast_nonneg, hx, hne, hge, accQ_t, accQ_f, acc, List.map_nil, List.map_cons, List.length_map, w4]
            first
              | (refine hK' true _ true (by omega) g4 _ ?_; simp only [go_sem, accQ_t, accQ_f, acc, List.map_nil, List.map_cons]; done)
              | (refine hK' false _ true (by omega) g4 _ ?_; simp only [go_sem, accQ_t, accQ_f, acc, List.map_nil, List.map_cons]))
        | false =>
          rw [if_pos ⟨rfl, by omega⟩] at g4
          cases cur with
          | nil =>
            simp only [go_sem, decide_eq_true hlt, Int.toNat_natCast, Int.natCast_nonneg, hx, hne, hge, accQ_t, accQ_f, acc, List.map_nil, List.map_cons, List.length_map, w4, one_le_maxLen]
            refine hK' true ([] ++ [n]) true (by simp) (by simpa using g4) _ ?_
            simp only [go_sem, accQ_t, accQ_f, acc, List.map_nil, List.map_cons, List.nil_append]
          | cons c0 cr =>
            simp only [List.length_cons] at hb1 hb2
            simp only [go_sem, decide_eq_true hlt, Int.toNat_natCast, Int.natCast_nonneg, hx, hne, hge, accQ_t, accQ_f, acc, List.map_nil, List.map_cons, List.length_map, w4, hb1, hb2]
            refine hK' true (c0 :: cr ++ [n]) true (by simp) (by simpa using g4) _ ?_
            simp only [go_sem, accQ_t, accQ_f, acc, List.map_nil, List.map_cons, List.map_append, List.cons_append]
      · have hne : (x != n) = true := by simp [hn]
        rw [if_pos hn] at g4
        by_cases hge : x ≥ n
        · have hge' : decide (x ≥ n) = true := decide_eq_true hge
          rw [hge', Bool.or_true] at g4
          cases d with
          | true =>
            rw [if_neg (by rintro ⟨e, _⟩; cases e), List.nil_append] at g4
            cases cur with
            | nil =>
              simp only [go_sem, decide_eq_true hlt, Int.toNat_natCast, Int.natCast_nonneg, hx, hne, hge', accQ_t, accQ_f, acc, List.map_nil, List.map_cons, List.length_map, w4, one_le_maxLen]
              refine hK' false ([] ++ [x]) true (by simp) (by simpa using g4) _ ?_
              simp only [go_sem, accQ_t, accQ_f, acc, List.map_nil, List.map_cons, List.nil_append]
            | cons c0 cr =>
              simp only [List.length_cons] at hb1 hb2
              simp only [go_sem, decide_eq_true hlt, Int.toNat_natCast, Int.natCast_nonneg, hx, hne, hge', accQ_t, accQ_f, acc, List.map_nil, List.map_cons, List.length_map, w4, hb1, hb2]
              refine hK' false (c0 :: cr ++ [x]) true (by simp) (by simpa using g4) _ ?_
              simp only [go_sem, accQ_t, accQ_f, acc, List.map_nil, List.map_cons, List.map_append, List.cons_append]
          | false =>
            rw [if_pos ⟨rfl, by omega⟩] at g4
            cases cur with
            | nil =>
              simp only [go_sem, decide_eq_true hlt, Int.toNat_natCast, Int.natCast_nonneg, hx, hne, hge', accQ_t, accQ_f, acc, List.map_nil, List.map_cons, List.length_map, w4, one_le_maxLen, h2le]
              refine hK' false ([] ++ [n] ++ [x]) true (by simp) (by simpa using g4) _ ?_
              simp only [go_sem, accQ_t, accQ_f, acc, List.map_nil, List.map_cons, List.nil_append, List.cons_append]
            | cons c0 cr =>
              simp only [List.length_cons] at hb1 hb2 hb3 hb4
              simp only [go_sem, decide_eq_true hlt, Int.toNat_natCast, Int.natCast_nonneg, hx, hne, hge', accQ_t, accQ_f, acc, List.map_nil, List.map_cons, List.length_map, List.length_append, w4, hb1, hb2, hb3, hb4]
              refine hK' false (c0 :: cr ++ [n] ++ [x]) true (by simp) (by simpa using g4) _ ?_
              simp only [go_sem, accQ_t, accQ_f, acc, List.map_nil, List.map_cons, List.map_append, List.cons_append]
        · have hge' : decide (x ≥ n) = false := decide_eq_false hge
          rw [hge', Bool.or_false, if_neg (fun e => hge e.2), List.nil_append] at g4
          cases d <;> (cases cur with
            | nil =>
              simp only [go_sem, decide_eq_true hlt, Int.toNat_natCast, Int.natCast_nonneg, hx, hne, hge', accQ_t, accQ_f, acc, List.map_nil, List.map_cons, List.length_map, w4, one_le_maxLen]
              refine hK' false ([] ++ [x]) _ (by simp) (by simpa using g4) _ ?_
              simp only [go_sem, accQ_t, accQ_f, acc, List.map_nil, List.map_cons, List.nil_append]
            | cons c0 cr =>
              simp only [List.length_cons] at hb1 hb2
              simp only [go_sem, decide_eq_true hlt, Int.toNat_natCast, Int.natCast_nonneg, hx, hne, hge', accQ_t, accQ_f, acc, List.map_nil, List.map_cons, List.length_map, w4, hb1, hb2]
              refine hK' false (c0 :: cr ++ [x]) _ (by simp) (by simpa using g4) _ ?_
              simp only [go_sem, accQ_t, accQ_f, acc, List.map_nil, List.map_cons, List.map_append, List.cons_append])
  · simp only [go_sem, Int.natCast_zero, accQ_t, accQ_f, acc, List.map_nil]
theorem insU_len (n : Int) : ∀ l : List Int, (insU n l).length ≤ l.length + 1
  | [] => by rw [insU]; simp
  | x :: r => by
    rw [insU]
    split
    · simp
    · split
      · simp
      · have := insU_len n r
        rw [List.length_cons, List.length_cons]; omega
theorem insAll_len (l : List Int) : ∀ acc : List Int, (insAll acc l).length ≤ acc.length + l.length := by
  induction l with
  | nil => intro acc; simp [insAll]
  | cons x r ih =>
    intro acc
    have h1 := ih (insU x acc)
    have h2 := insU_len x acc
    simp only [insAll, List.foldl_cons, List.length_cons] at h1 ⊢
    omega
theorem insAll_asc (l acc : List Int) (h : acc.Pairwise (· < ·)) : (insAll acc l).Pairwise (· < ·) := foldU_asc l acc h
theorem insAll_append (a b c : List Int) : insAll a (b ++ c) = insAll (insAll a b) c := List.foldl_append
theorem rfree_spec (c : ConT) : ∀ (acc : List Int) (d : Int), formedF c = true → acc.Pairwise (· < ·) → 0 ≤ d → d + depthF c ≤ 100000000 → acc.length + wtF c ≤ 900000000 →
    Spec Tryz.prog 287 [pp (.slice (ints acc)), pp (encC c), ii d] [] (.slice (ints (insAll acc (rfreeA c d)))) [] := by
  revert c
  refine ConT.ind1 fun op n s k names l ih => ?_
  intro acc d hf hasc h1 h2 h3
  rw [depthF] at h2
  rw [wtF] at h3
  have hn := formed_n hf
  replace hn : 0 ≤ n ∧ n ≤ 20000 := hn
  have hd := deep_spec op n s k names l d h1 (by omega)
  by_cases hop : op = 1
  · subst hop
    have hl := leaf_nil hf (.inl rfl)
    subst hl
    rw [rfreeA_var]
    by_cases hge : n ≥ d
    · rw [if_pos hge]
      have hA := rAdd_spec acc (n - d) (by omega)
      rw [addL_insU _ _ hasc] at hA
      have w1 : IntKind.i64.wrap (n - d) = n - d := wrap_id (by omega) (by omega)
      rw [show insAll acc [n - d] = insU (n - d) acc from rfl]
      refine wf (rv := [.tmp 6]) ann287 41 Tryz.func287 fun hfit => ?_
      clear hfit ih hd
      simp only [go_sem, encC_mk, decide_eq_true hge, w1]
      refine aCall_intro hA ?_
      simp only [go_sem]
    · rw [if_neg hge]
      rw [show insAll acc [] = acc from rfl]
      refine wf (rv := [.tmp 6]) ann287 41 Tryz.func287 fun hfit => ?_
      clear hfit ih hd
      simp only [go_sem, encC_mk, decide_eq_false hge, List.map_nil]
      refine ⟨1, ?_⟩
      rw [aLoop_succ]
      simp only [go_sem, List.map_nil, List.length_nil, Int.natCast_zero, lt_false (Int.le_refl _)]
  · have e1 : (op == 1) = false := by simp [hop]
    have hfm : formedL l = true := by rw [formedF, Bool.and_eq_true] at hf; exact hf.2
    rw [formedL_all] at hfm
    rw [rfreeA_node hf hop]
    have hdd : 0 ≤ deepF op d ∧ deepF op d ≤ d + 1 := by rw [deepF]; split <;> omega
    generalize deepF op d = dd at hd hdd
    generalize hres : insAll acc (rfreeAL l dd) = res
    have hwl := wtL_len l
    refine wk (rv := [.tmp 6]) ann287 41 Tryz.func287 ?_
    simp only [go_sem, encC_mk, e1]
    refine aLoop_list (α := ConT) (β := Nat × List Int) (fun rest b => ⟨[(7, ii b.1), (2, ii d), (4, pp (.ep (rawC op n s k names l) 0)), (0, pp (.slice (ints b.2)))], [], []⟩)
      (fun rest b => ∃ pre, l = pre ++ rest ∧ b.1 = pre.length ∧ b.2.Pairwise (· < ·) ∧ b.2.length + wtL rest ≤ 900000000 ∧ insAll b.2 (rfreeAL rest dd) = res) ?_ ?_ l (0, acc) _ ?_ ⟨[], rfl, rfl, hasc, by simp only; omega, hres⟩
    · rintro ⟨i, cur⟩ ⟨pre, g1, g2, g3, g5, g4⟩ K
      simp only [List.append_nil] at g1 g2
      subst g1
      rw [show rfreeAL [] dd = [] from by rw [rfreeAL, leavesL]; rfl] at g4
      simp only [insAll, List.foldl_nil] at g4
      subst g4
      simp only [go_sem, g2, lt_false (Int.le_refl _), List.length_map]
    · rintro x rest ⟨i, cur⟩ ⟨pre, g1, g2, g3, g5, g4⟩ K hK
      simp only at g2 g3 g4 g5
      have hx : (l.map encC)[i]? = some (encC x) := by simp [g1, g2]
      have hlt : (i : Int) < l.length := by rw [g1, g2]; simp; omega
      have hll : i < l.length := by rw [g1, g2]; simp
      have hm : x ∈ l := by simp [g1]
      have hml : l.length ≤ 900000000 := by omega
      have w4 : IntKind.i64.wrap ((i : Int) + 1) = ((i + 1 : Nat) : Int) := by rw [wrap_id (by omega) (by omega)]; simp
      have hdx := depthF_mem hm
      have hfx := List.all_eq_true.1 hfm x hm
      rw [wtL] at g5
      have hI := ih x hm cur dd hfx g3 (by omega) (by omega) (by omega)
      have hln := rfreeA_len x dd hfx
      have hln2 := insAll_len (rfreeA x dd) cur
      rw [rfreeAL_cons, insAll_append] at g4
      have hasc2 := insAll_asc (rfreeA x dd) cur g3
      have hK' := fun s' hs => hK (i + 1, insAll cur (rfreeA x dd)) s' hs ⟨pre ++ [x], by simp [g1], by simp [g2], hasc2, by simp only; omega, g4⟩
      clear hK
      generalize insAll cur (rfreeA x dd) = cur2 at hI hK'
      simp only [go_sem, decide_eq_true hlt, Int.toNat_natCast, Int.natCast_nonneg, hx, List.length_map, encC_sz]
      refine aCall_intro hd ?_
      simp only [go_sem]
      refine aCall_intro hI ?_
      simp only [go_sem, w4]
      refine hK' _ ?_
      simp only [go_sem]
    · simp only [go_sem, Int.natCast_zero]
theorem rFree_spec (c : ConT) (hf : formedF c = true) (h1 : depthF c ≤ 100000000) (h2 : wtF c ≤ 900000000) : Spec Tryz.prog 254 [pp (encC c)] [] (.slice (ints (sortU (freeL c)))) [] := by
  have hF := rfree_spec c [] 0 hf List.Pairwise.nil (by decide) (by omega) (by simpa using h2)
  rw [show insAll [] (rfreeA c 0) = sortU (freeL c) from by rw [rfreeA_0]; rfl] at hF
  generalize sortU (freeL c) = res at hF
  simp only [ints, List.map_nil] at hF
  refine wk (rv := [.tmp 2]) ann254 5 Tryz.func254 ?_
  simp only [go_sem, encC_sz]
  refine aCall_intro hF ?_
  simp only [go_sem]
end Go.Abs.Kon
