/- Constants: the reference's lists. -/
import Derived.Test.YtjfegcnjmpedhaaGreatDoorConsB
import Derived.Test.YtjfegcnjmpedhaaGreatDoorConsC
set_option linter.unusedSimpArgs false
set_option linter.unusedVariables false
namespace Go.Abs.Kon
open Go Go.Proofs Go.Abs
set_option maxRecDepth 100000
set_option maxHeartbeats 40000000

theorem less_nm (x : CsT) (s : ByteArray) (k : List KindT) : Op.bytesLess x.1.toList s.toList = decide (nmX x < nmX (s, k)) := by
  rw [bytesLess_eq, Lib.toList_data, Lib.toList_data]; rfl
theorem eq_nm (x : CsT) (s : ByteArray) : (x.1.toList == s.toList) = strEq x.1 s := rfl

theorem bd2 {n : Nat} (h : n ≤ 999999998) : (n + 1 + 1) * 40 ≤ 140737488355328 := by omega
theorem bd2' {n : Nat} (h : n ≤ 999999998) : n + 1 + 1 ≤ maxLen := by rw [maxLen_eq]; omega
theorem bd3 {n : Nat} (h : n ≤ 999999998) : (n + 1 + 1 + 1) * 40 ≤ 140737488355328 := by omega
theorem bd3' {n : Nat} (h : n ≤ 999999998) : n + 1 + 1 + 1 ≤ maxLen := by rw [maxLen_eq]; omega
theorem rstep_len : ∀ (l : List CsT) (x : CsT), (rstepX l x).length ≤ l.length + 1
  | [], x => by simp [rstepX]
  | y :: r, x => by
    rw [rstepX]
    split
    · simpa using rstep_len r x
    · have := List.length_filter_le (fun z => !eqX z x) (y :: r)
      simpa using this
theorem rfold_len : ∀ (S l : List CsT), (S.foldl rstepX l).length ≤ l.length + S.length
  | [], l => by simp
  | x :: S, l => by
    have h1 := rfold_len S (rstepX l x)
    have h2 := rstep_len l x
    rw [List.foldl_cons, List.length_cons]
    omega

mutual
def rcsF : ConT → List CsT
  | .mk op _ s k _ l => if op = 2 then [(s, k)] else rcsL l
def rcsL : List ConT → List CsT
  | [] => []
  | x :: r => rcsF x ++ rcsL r
end
mutual
theorem rcs_eq : ∀ (c : ConT) (b : Int), formedF c = true → rcsF c = cstsF c b
  | .mk op n s k names l, b, h => by
    have hl : formedL l = true := by rw [formedF, Bool.and_eq_true] at h; exact h.2
    rw [rcsF]
    by_cases h2 : op = 2
    · subst h2
      rw [if_pos rfl, csts_const]
    · rw [if_neg h2]
      by_cases h1 : op = 1
      · have := leaf_nil h (.inl h1)
        subst this h1
        rw [csts_var, rcsL]
      · rw [csts_node (fun h => h.elim h1 h2), rcsL_eq l _ hl]
theorem rcsL_eq : ∀ (l : List ConT) (b : Int), formedL l = true → rcsL l = cstsL l b
  | [], b, _ => by rw [rcsL, cstsL_nil]
  | x :: r, b, h => by
    rw [formedL, Bool.and_eq_true] at h
    rw [rcsL, cstsL_cons, rcs_eq x b h.1, rcsL_eq r b h.2]
end
mutual
theorem rcs_len : ∀ c : ConT, (rcsF c).length ≤ wtF c
  | .mk op n s k names l => by
    have := rcsL_len l
    rw [rcsF, wtF]
    split
    · simp; omega
    · omega
theorem rcsL_len : ∀ l : List ConT, (rcsL l).length ≤ wtL l
  | [] => by rw [rcsL]; simp
  | x :: r => by
    rw [rcsL, wtL, List.length_append]
    have := rcs_len x
    have := rcsL_len r
    omega
end
theorem rCons_spec (c : ConT) : ∀ l : List CsT, l.length + wtF c ≤ 1000000000 →
    Spec Tryz.prog 68 [pp (.slice (l.map encX)), pp (encC c)] [] (.slice (((rcsF c).foldl rstepX l).map encX)) [] := by
  revert c
  refine ConT.ind1 fun op n s k names cl ih => ?_
  intro l h5
  rw [wtF] at h5
  have hwl := wtL_len cl
  by_cases ho : op = 2
  · subst ho
    rw [rcsF, if_pos rfl, List.foldl_cons, List.foldl_nil]
    generalize hres : rstepX l (s, k) = res
    refine wk (rv := [.tmp 4]) ann68 90 Tryz.func68 ?_
    have e22 : ((2 : Int) == 2) = true := rfl
    simp only [go_sem, encC_mk, e22]
    refine aLoop_list (α := CsT) (β := List CsT × Bool × Nat × Nat) (fun rest b => ⟨[(7, ii b.2.2.2), (0, pp (.slice (l.map encX))), (3, pp (.ep (.agg [.int .i64 2, .int .i64 n, .str s, .slice (k.map encK), .slice (names.map .str), .slice (cl.map encC)]) 0)), (5, .one (acc b.2.2.1 (.agg 2) (b.1.map encX))), (6, pp (.bool b.2.1))], [], []⟩)
      (fun rest b => ∃ pre, l = pre ++ rest ∧ b.2.2.2 = pre.length ∧ b.1.length ≤ pre.length + 1 ∧ (if b.2.1 then b.1 ++ rest.filter (fun z => !eqX z (s, k)) else b.1 ++ rstepX rest (s, k)) = res ∧ (b.2.1 = false → b.1.length ≤ pre.length) ∧ (b.2.2.1 = 126 ∨ (b.2.2.1 = 74 ∧ b.2.1 = true))) ?_ ?_ l ([], false, 126, 0) _ ?_ ⟨[], rfl, rfl, Nat.zero_le _, hres, fun _ => Nat.le_refl _, .inl rfl⟩
    · rintro ⟨out, dn, tk, m⟩ ⟨pre, g1, g2, g3, g4, g5, g6⟩ K
      simp only [List.append_nil] at g1 g2 g3 g4 g5 g6
      have e6 : (tk % 2 = 1) = False := by rcases g6 with h | ⟨h, _⟩ <;> simp [h]
      have eA : (127 = tk) = False := by rcases g6 with h | ⟨h, _⟩ <;> simp [h]
      have eB : (tk == 124) = false := by rcases g6 with h | ⟨h, _⟩ <;> simp [h]
      have eC : (147 = tk) = False := by rcases g6 with h | ⟨h, _⟩ <;> simp [h]
      have eD : (tk == 144) = false := by rcases g6 with h | ⟨h, _⟩ <;> simp [h]
      subst g1
      simp only [go_sem, g2, List.length_map, lt_false (Int.le_refl _)]
      cases dn with
      | true =>
        simp only [if_true, List.filter_nil, List.append_nil] at g4
        subst g4
        cases out with
        | nil => simp only [go_sem, acc]
        | cons z zs => simp only [go_sem, acc, e6, eC, eD]
      | false =>
        simp only [Bool.false_eq_true, if_false, rstepX] at g4
        have g5 := g5 rfl
        subst g4
        cases out with
        | nil =>
          simp only [go_sem, acc, one_le_maxLen, encX_eq]
        | cons z zs =>
          have hb1 : (zs.length + 1 + 1) * 40 ≤ 140737488355328 := by simp at g5; omega
          have hb2 : zs.length + 1 + 1 ≤ maxLen := by rw [maxLen_eq]; simp at g5; omega
          simp only [go_sem, acc, List.length_map, hb1, hb2, List.map_append, encX_eq, e6, eC, eD]
    · rintro y rest ⟨out, dn, tk, m⟩ ⟨pre, g1, g2, g3, g4, g5, g6⟩ K hK
      simp only at g2 g3 g4 g5 g6
      have e6 : (tk % 2 = 1) = False := by rcases g6 with h | ⟨h, _⟩ <;> simp [h]
      have eA : (127 = tk) = False := by rcases g6 with h | ⟨h, _⟩ <;> simp [h]
      have eB : (tk == 124) = false := by rcases g6 with h | ⟨h, _⟩ <;> simp [h]
      have eC : (147 = tk) = False := by rcases g6 with h | ⟨h, _⟩ <;> simp [h]
      have eD : (tk == 144) = false := by rcases g6 with h | ⟨h, _⟩ <;> simp [h]
      have hx : (l.map encX)[m]? = some (.agg [.str y.1, .slice (y.2.map encK)]) := by simp [g1, g2, encX]
      have hlt : (m : Int) < l.length := by rw [g1, g2]; simp; omega
      have hll : l.length = m + (rest.length + 1) := by rw [g1, g2]; simp
      have w4 : IntKind.i64.wrap ((m : Int) + 1) = ((m + 1 : Nat) : Int) := by rw [wrap_id (by omega) (by omega)]; simp
      have hSK := rSameK_spec (.mk y.2) (.mk k)
      simp only [encK_mk] at hSK
      have hls := less_nm y s k
      have heq := eq_nm y s
      have hE : eqX y (s, k) = (strEq y.1 s && sameK (.mk y.2) (.mk k)) := rfl
      have hb0 : out.length ≤ 999999999 := by omega
      have two_le : 2 ≤ maxLen := by rw [maxLen_eq]; decide
      have kn : sameK (.mk y.2) (.mk k) = true ∨ sameK (.mk y.2) (.mk k) = false := by cases sameK (.mk y.2) (.mk k) <;> simp
      have sn : strEq y.1 s = true ∨ strEq y.1 s = false := by cases strEq y.1 s <;> simp
      cases dn with
      | true =>
        simp only [if_true, List.filter_cons] at g4
        rcases sn with hs | hs
        · rcases kn with hk | hk
          · rw [show eqX y (s, k) = true by rw [hE, hs, hk]; rfl] at g4
            simp only [Bool.not_true, Bool.false_eq_true, if_false] at g4
            cases out with
            | nil =>
              simp only [go_sem, acc, List.length_map, decide_eq_true hlt, Int.toNat_natCast, Int.natCast_nonneg, hx, heq, w4, e6, eA, eB, hs]
              refine aCall_intro hSK ?_
              simp only [go_sem, acc, List.length_map, decide_eq_true hlt, Int.toNat_natCast, Int.natCast_nonneg, hx, heq, w4, e6, eA, eB, hs, hk]
              first
                | refine ⟨by kernel_rfl, hK ([], true, tk, m + 1) _ ?_ ⟨pre ++ [y], by simp [g1], by simp [g2], by simp at g3 g5 ⊢ <;> omega, by simpa using g4, by simp, g6⟩⟩
                | refine hK ([], true, tk, m + 1) _ ?_ ⟨pre ++ [y], by simp [g1], by simp [g2], by simp at g3 g5 ⊢ <;> omega, by simpa using g4, by simp, g6⟩
              simp only [go_sem, acc, List.map_cons, e6]
            | cons z zs =>
              simp only [go_sem, acc, List.length_map, decide_eq_true hlt, Int.toNat_natCast, Int.natCast_nonneg, hx, heq, w4, e6, eA, eB, hs]
              refine aCall_intro hSK ?_
              simp only [go_sem, acc, List.length_map, decide_eq_true hlt, Int.toNat_natCast, Int.natCast_nonneg, hx, heq, w4, e6, eA, eB, hs, hk]
              first
                | refine ⟨by kernel_rfl, hK (z :: zs, true, tk, m + 1) _ ?_ ⟨pre ++ [y], by simp [g1], by simp [g2], by simp at g3 g5 ⊢ <;> omega, by simpa using g4, by simp, g6⟩⟩
                | refine hK (z :: zs, true, tk, m + 1) _ ?_ ⟨pre ++ [y], by simp [g1], by simp [g2], by simp at g3 g5 ⊢ <;> omega, by simpa using g4, by simp, g6⟩
              simp only [go_sem, acc, List.map_cons, e6]
          · rw [show eqX y (s, k) = false by rw [hE, hs, hk]; rfl] at g4
            simp only [Bool.not_false, if_true] at g4
            cases out with
            | nil =>
              simp only [go_sem, acc, List.length_map, decide_eq_true hlt, Int.toNat_natCast, Int.natCast_nonneg, hx, heq, w4, e6, eA, eB, hs, one_le_maxLen]
              refine aCall_intro hSK ?_
              simp only [go_sem, acc, List.length_map, decide_eq_true hlt, Int.toNat_natCast, Int.natCast_nonneg, hx, heq, w4, e6, eA, eB, hs, hk, one_le_maxLen]
              first
                | refine ⟨by kernel_rfl, hK ([y], true, 126, m + 1) _ ?_ ⟨pre ++ [y], by simp [g1], by simp [g2], by simp at g3 g5 ⊢ <;> omega, by simpa using g4, by simp, .inl rfl⟩⟩
                | refine hK ([y], true, 126, m + 1) _ ?_ ⟨pre ++ [y], by simp [g1], by simp [g2], by simp at g3 g5 ⊢ <;> omega, by simpa using g4, by simp, .inl rfl⟩
              simp only [go_sem, acc, encX_eq, List.map_append, List.cons_append, List.nil_append]
            | cons z zs =>
              have hq : zs.length ≤ 999999998 := by simp at hb0; omega
              have hz0a := bd2 hq
              have hz0b := bd2' hq
              simp only [go_sem, acc, List.length_map, decide_eq_true hlt, Int.toNat_natCast, Int.natCast_nonneg, hx, heq, w4, e6, eA, eB, hs, hz0a, hz0b]
              refine aCall_intro hSK ?_
              simp only [go_sem, acc, List.length_map, decide_eq_true hlt, Int.toNat_natCast, Int.natCast_nonneg, hx, heq, w4, e6, eA, eB, hs, hk, hz0a, hz0b]
              first
                | refine ⟨by kernel_rfl, hK ((z :: zs ++ [y]), true, 126, m + 1) _ ?_ ⟨pre ++ [y], by simp [g1], by simp [g2], by simp at g3 g5 ⊢ <;> omega, by simpa using g4, by simp, .inl rfl⟩⟩
                | refine hK ((z :: zs ++ [y]), true, 126, m + 1) _ ?_ ⟨pre ++ [y], by simp [g1], by simp [g2], by simp at g3 g5 ⊢ <;> omega, by simpa using g4, by simp, .inl rfl⟩
              simp only [go_sem, acc, encX_eq, List.map_append, List.cons_append, List.nil_append]
        · rw [show eqX y (s, k) = false by rw [hE, hs]; rfl] at g4
          simp only [Bool.not_false, if_true] at g4
          cases out with
          | nil =>
            simp only [go_sem, acc, List.length_map, decide_eq_true hlt, Int.toNat_natCast, Int.natCast_nonneg, hx, heq, w4, e6, eA, eB, hs, one_le_maxLen]
            first
              | refine ⟨by kernel_rfl, hK ([y], true, 126, m + 1) _ ?_ ⟨pre ++ [y], by simp [g1], by simp [g2], by simp at g3 g5 ⊢ <;> omega, by simpa using g4, by simp, .inl rfl⟩⟩
              | refine hK ([y], true, 126, m + 1) _ ?_ ⟨pre ++ [y], by simp [g1], by simp [g2], by simp at g3 g5 ⊢ <;> omega, by simpa using g4, by simp, .inl rfl⟩
            simp only [go_sem, acc, encX_eq, List.map_append, List.cons_append, List.nil_append]
          | cons z zs =>
            have hq : zs.length ≤ 999999998 := by simp at hb0; omega
            have hz0a := bd2 hq
            have hz0b := bd2' hq
            simp only [go_sem, acc, List.length_map, decide_eq_true hlt, Int.toNat_natCast, Int.natCast_nonneg, hx, heq, w4, e6, eA, eB, hs, hz0a, hz0b]
            first
              | refine ⟨by kernel_rfl, hK ((z :: zs ++ [y]), true, 126, m + 1) _ ?_ ⟨pre ++ [y], by simp [g1], by simp [g2], by simp at g3 g5 ⊢ <;> omega, by simpa using g4, by simp, .inl rfl⟩⟩
              | refine hK ((z :: zs ++ [y]), true, 126, m + 1) _ ?_ ⟨pre ++ [y], by simp [g1], by simp [g2], by simp at g3 g5 ⊢ <;> omega, by simpa using g4, by simp, .inl rfl⟩
            simp only [go_sem, acc, encX_eq, List.map_append, List.cons_append, List.nil_append]
      | false =>
        have g5 := g5 rfl
        obtain rfl : tk = 126 := g6.resolve_right fun h => by cases h.2
        clear e6 eA eB eC eD
        have e6 : True := trivial
        have eA := e6
        have eB := e6
        simp only [Bool.false_eq_true, if_false, rstepX] at g4
        by_cases hl2 : nmX y < nmX (s, k)
        · rw [if_pos hl2] at g4
          rw [decide_eq_true hl2] at hls
          have hs : strEq y.1 s = false := strEq_false.2 fun e => by
            have e' : nmX y = nmX (s, k) := e
            rw [e'] at hl2
            exact List.lt_irrefl _ hl2
          cases out with
          | nil =>
            simp only [go_sem, acc, List.length_map, decide_eq_true hlt, Int.toNat_natCast, Int.natCast_nonneg, hx, heq, w4, e6, eA, eB, hls, hs, one_le_maxLen]
            first
              | refine ⟨by kernel_rfl, hK ([y], false, 126, m + 1) _ ?_ ⟨pre ++ [y], by simp [g1], by simp [g2], by simp at g3 g5 ⊢ <;> omega, by simpa using g4, by simp at g3 g5 ⊢ <;> omega, .inl rfl⟩⟩
              | refine hK ([y], false, 126, m + 1) _ ?_ ⟨pre ++ [y], by simp [g1], by simp [g2], by simp at g3 g5 ⊢ <;> omega, by simpa using g4, by simp at g3 g5 ⊢ <;> omega, .inl rfl⟩
            simp only [go_sem, acc, encX_eq, List.map_append, List.cons_append, List.nil_append]
          | cons z zs =>
            have hq : zs.length ≤ 999999998 := by simp at hb0; omega
            have hz0a := bd2 hq
            have hz0b := bd2' hq
            simp only [go_sem, acc, List.length_map, decide_eq_true hlt, Int.toNat_natCast, Int.natCast_nonneg, hx, heq, w4, e6, eA, eB, hls, hs, hz0a, hz0b]
            first
              | refine ⟨by kernel_rfl, hK ((z :: zs ++ [y]), false, 126, m + 1) _ ?_ ⟨pre ++ [y], by simp [g1], by simp [g2], by simp at g3 g5 ⊢ <;> omega, by simpa using g4, by simp at g3 g5 ⊢ <;> omega, .inl rfl⟩⟩
              | refine hK ((z :: zs ++ [y]), false, 126, m + 1) _ ?_ ⟨pre ++ [y], by simp [g1], by simp [g2], by simp at g3 g5 ⊢ <;> omega, by simpa using g4, by simp at g3 g5 ⊢ <;> omega, .inl rfl⟩
            simp only [go_sem, acc, encX_eq, List.map_append, List.cons_append, List.nil_append]
        · rw [if_neg hl2, List.filter_cons] at g4
          rw [decide_eq_false hl2] at hls
          rcases sn with hs | hs
          · rcases kn with hk | hk
            · rw [show eqX y (s, k) = true by rw [hE, hs, hk]; rfl] at g4
              simp only [Bool.not_true, Bool.false_eq_true, if_false] at g4
              cases out with
              | nil =>
                simp only [go_sem, acc, List.length_map, decide_eq_true hlt, Int.toNat_natCast, Int.natCast_nonneg, hx, heq, w4, e6, eA, eB, hls, hs, one_le_maxLen]
                refine aCall_intro hSK ?_
                simp only [go_sem, acc, List.length_map, decide_eq_true hlt, Int.toNat_natCast, Int.natCast_nonneg, hx, heq, w4, e6, eA, eB, hs, hk, one_le_maxLen]
                first
                  | refine ⟨by kernel_rfl, hK ([(s, k)], true, 74, m + 1) _ ?_ ⟨pre ++ [y], by simp [g1], by simp [g2], by simp at g3 g5 ⊢ <;> omega, by simpa using g4, by simp, .inr ⟨rfl, rfl⟩⟩⟩
                  | refine hK ([(s, k)], true, 74, m + 1) _ ?_ ⟨pre ++ [y], by simp [g1], by simp [g2], by simp at g3 g5 ⊢ <;> omega, by simpa using g4, by simp, .inr ⟨rfl, rfl⟩⟩
                simp only [go_sem, acc, encX_eq, List.map_append, List.cons_append, List.nil_append]
              | cons z zs =>
                have hq : zs.length ≤ 999999998 := by simp at hb0; omega
                have hz0a := bd2 hq
                have hz0b := bd2' hq
                simp only [go_sem, acc, List.length_map, decide_eq_true hlt, Int.toNat_natCast, Int.natCast_nonneg, hx, heq, w4, e6, eA, eB, hls, hs, hz0a, hz0b]
                refine aCall_intro hSK ?_
                simp only [go_sem, acc, List.length_map, decide_eq_true hlt, Int.toNat_natCast, Int.natCast_nonneg, hx, heq, w4, e6, eA, eB, hs, hk, hz0a, hz0b]
                first
                  | refine ⟨by kernel_rfl, hK ((z :: zs ++ [(s, k)]), true, 74, m + 1) _ ?_ ⟨pre ++ [y], by simp [g1], by simp [g2], by simp at g3 g5 ⊢ <;> omega, by simpa using g4, by simp, .inr ⟨rfl, rfl⟩⟩⟩
                  | refine hK ((z :: zs ++ [(s, k)]), true, 74, m + 1) _ ?_ ⟨pre ++ [y], by simp [g1], by simp [g2], by simp at g3 g5 ⊢ <;> omega, by simpa using g4, by simp, .inr ⟨rfl, rfl⟩⟩
                simp only [go_sem, acc, encX_eq, List.map_append, List.cons_append, List.nil_append]
            · rw [show eqX y (s, k) = false by rw [hE, hs, hk]; rfl] at g4
              simp only [Bool.not_false, if_true] at g4
              cases out with
              | nil =>
                simp only [go_sem, acc, List.length_map, decide_eq_true hlt, Int.toNat_natCast, Int.natCast_nonneg, hx, heq, w4, e6, eA, eB, hls, hs, one_le_maxLen]
                refine aCall_intro hSK ?_
                simp only [go_sem, acc, List.length_map, decide_eq_true hlt, Int.toNat_natCast, Int.natCast_nonneg, hx, heq, w4, e6, eA, eB, hs, hk, one_le_maxLen, two_le]
                first
                  | refine ⟨by kernel_rfl, hK ([(s, k), y], true, 126, m + 1) _ ?_ ⟨pre ++ [y], by simp [g1], by simp [g2], by simp at g3 g5 ⊢ <;> omega, by simpa using g4, by simp, .inl rfl⟩⟩
                  | refine hK ([(s, k), y], true, 126, m + 1) _ ?_ ⟨pre ++ [y], by simp [g1], by simp [g2], by simp at g3 g5 ⊢ <;> omega, by simpa using g4, by simp, .inl rfl⟩
                simp only [go_sem, acc, encX_eq, List.map_append, List.cons_append, List.nil_append]
              | cons z zs =>
                have hq : zs.length ≤ 999999998 := by simp at hb0; omega
                have hz0a := bd2 hq
                have hz0b := bd2' hq
                have hz1a := bd3 hq
                have hz1b := bd3' hq
                simp only [go_sem, acc, List.length_map, decide_eq_true hlt, Int.toNat_natCast, Int.natCast_nonneg, hx, heq, w4, e6, eA, eB, hls, hs, hz0a, hz0b]
                refine aCall_intro hSK ?_
                simp only [go_sem, acc, List.length_map, decide_eq_true hlt, Int.toNat_natCast, Int.natCast_nonneg, hx, heq, w4, e6, eA, eB, hs, hk, hz1a, hz1b, List.length_append, List.length_cons, List.length_nil]
                first
                  | refine ⟨by kernel_rfl, hK ((z :: zs ++ [(s, k)] ++ [y]), true, 126, m + 1) _ ?_ ⟨pre ++ [y], by simp [g1], by simp [g2], by simp at g3 g5 ⊢ <;> omega, by simpa using g4, by simp, .inl rfl⟩⟩
                  | refine hK ((z :: zs ++ [(s, k)] ++ [y]), true, 126, m + 1) _ ?_ ⟨pre ++ [y], by simp [g1], by simp [g2], by simp at g3 g5 ⊢ <;> omega, by simpa using g4, by simp, .inl rfl⟩
                simp only [go_sem, acc, encX_eq, List.map_append, List.cons_append, List.nil_append]
          · rw [show eqX y (s, k) = false by rw [hE, hs]; rfl] at g4
            simp only [Bool.not_false, if_true] at g4
            cases out with
            | nil =>
              simp only [go_sem, acc, List.length_map, decide_eq_true hlt, Int.toNat_natCast, Int.natCast_nonneg, hx, heq, w4, e6, eA, eB, hls, hs, one_le_maxLen, two_le]
              first
                | refine ⟨by kernel_rfl, hK ([(s, k), y], true, 126, m + 1) _ ?_ ⟨pre ++ [y], by simp [g1], by simp [g2], by simp at g3 g5 ⊢ <;> omega, by simpa using g4, by simp, .inl rfl⟩⟩
                | refine hK ([(s, k), y], true, 126, m + 1) _ ?_ ⟨pre ++ [y], by simp [g1], by simp [g2], by simp at g3 g5 ⊢ <;> omega, by simpa using g4, by simp, .inl rfl⟩
              simp only [go_sem, acc, encX_eq, List.map_append, List.cons_append, List.nil_append]
            | cons z zs =>
              have hq : zs.length ≤ 999999998 := by simp at hb0; omega
              have hz0a := bd2 hq
              have hz0b := bd2' hq
              have hz1a := bd3 hq
              have hz1b := bd3' hq
              simp only [go_sem, acc, List.length_map, decide_eq_true hlt, Int.toNat_natCast, Int.natCast_nonneg, hx, heq, w4, e6, eA, eB, hls, hz0a, hz0b]
              simp only [go_sem, acc, List.length_map, decide_eq_true hlt, Int.toNat_natCast, Int.natCast_nonneg, hx, heq, w4, e6, eA, eB, hs, hz1a, hz1b, List.length_append, List.length_cons, List.length_nil]
              first
                | refine ⟨by kernel_rfl, hK ((z :: zs ++ [(s, k)] ++ [y]), true, 126, m + 1) _ ?_ ⟨pre ++ [y], by simp [g1], by simp [g2], by simp at g3 g5 ⊢ <;> omega, by simpa using g4, by simp, .inl rfl⟩⟩
                | refine hK ((z :: zs ++ [(s, k)] ++ [y]), true, 126, m + 1) _ ?_ ⟨pre ++ [y], by simp [g1], by simp [g2], by simp at g3 g5 ⊢ <;> omega, by simpa using g4, by simp, .inl rfl⟩
              simp only [go_sem, acc, encX_eq, List.map_append, List.cons_append, List.nil_append]
    · simp only [go_sem, acc, Int.natCast_zero]
  · have hn2 : (op == 2) = false := by simpa using ho
    rw [rcsF, if_neg ho]
    generalize hres : (rcsL cl).foldl rstepX l = res
    refine wk (rv := [.tmp 4]) ann68 90 Tryz.func68 ?_
    simp only [go_sem, encC_mk, hn2]
    refine aLoop_list (α := ConT) (β := List CsT × Nat) (fun rest b => ⟨[(8, ii b.2), (3, pp (.ep (.agg [.int .i64 op, .int .i64 n, .str s, .slice (k.map encK), .slice (names.map .str), .slice (cl.map encC)]) 0)), (0, pp (.slice (b.1.map encX)))], [], []⟩)
      (fun rest b => ∃ pre, cl = pre ++ rest ∧ b.2 = pre.length ∧ b.1.length + wtL rest ≤ 1000000000 ∧ (rcsL rest).foldl rstepX b.1 = res) ?_ ?_ cl (l, 0) _ ?_ ⟨[], rfl, rfl, by show l.length + wtL cl ≤ 1000000000; omega, hres⟩
    · rintro ⟨cur, m⟩ ⟨pre, g1, g2, g3, g4⟩ K
      simp only [List.append_nil] at g1 g2 g3 g4
      subst g1
      rw [rcsL, List.foldl_nil] at g4
      subst g4
      simp only [go_sem, g2, List.length_map, lt_false (Int.le_refl _)]
    · rintro x rest ⟨cur, m⟩ ⟨pre, g1, g2, g3, g4⟩ K hK
      simp only at g2 g3 g4
      have hx : (cl.map encC)[m]? = some (encC x) := by simp [g1, g2]
      have hlt : (m : Int) < cl.length := by rw [g1, g2]; simp; omega
      have hll : cl.length = m + (rest.length + 1) := by rw [g1, g2]; simp
      have hm : x ∈ cl := by simp [g1]
      rw [wtL] at g3
      have hI := ih x hm cur (by omega)
      have w4 : IntKind.i64.wrap ((m : Int) + 1) = ((m + 1 : Nat) : Int) := by rw [wrap_id (by omega) (by omega)]; simp
      rw [rcsL, List.foldl_append] at g4
      have hlen := rfold_len (rcsF x) cur
      have hcl := rcs_len x
      simp only [go_sem, List.length_map, decide_eq_true hlt, Int.toNat_natCast, Int.natCast_nonneg, hx, encC_sz]
      refine aCall_intro hI ?_
      simp only [go_sem, encC_sz, w4]
      refine hK ((rcsF x).foldl rstepX cur, m + 1) _ ?_ ⟨pre ++ [x], by simp [g1], by simp [g2], by simp only; omega, g4⟩
      simp only [go_sem]
    · simp only [go_sem, Int.natCast_zero]
def distF (l : List CsT) : PV := if dupX l then .tuple [.slice [], .bool false] else .tuple [.slice (l.map encX), .bool true]
theorem Distinct_spec (l : List CsT) : Spec Tryz.prog 67 [pp (.slice (l.map encX))] [] (distF l) [] := by
  rw [distF]
  generalize hres : dupX l = res
  refine wf (rv := [.tmp 2, .tmp 3]) ann67 24 Tryz.func67 fun hfit => ?_
  have hlen : l.length ≤ 9223372036854775807 := by
    simp only [argsFit, SV.pv?, SC.pv?, PV.fit, maxLen_eq, List.length_map] at hfit
    exact hfit.1.1
  clear hfit
  have hcase : l = [] ∨ ∃ a r, l = a :: r := by cases l <;> simp
  simp only [go_sem]
  rcases hcase with hl | ⟨a, r, hl⟩
  · refine ⟨1, ?_⟩
    rw [aLoop_succ]
    rw [hl] at hres
    obtain rfl : res = false := hres.symm.trans rfl
    have d1 : decide ((1 : Int) < ((0 : Nat) : Int)) = false := by decide
    simp only [go_sem, hl, List.length_map, List.length_nil, d1]
  · refine aLoop_list (α := CsT) (β := List CsT × CsT) (fun rest b => ⟨[(4, ii ((b.1.length + 1 : Nat) : Int)), (0, pp (.slice (l.map encX)))], [], []⟩) (fun rest b => l = b.1 ++ b.2 :: rest ∧ dupX (b.2 :: rest) = res) ?_ ?_ r ([], a) _ ?_ ⟨hl, by rw [← hl]; exact hres⟩
    · rintro ⟨pre, last⟩ ⟨h4, h5⟩ K
      simp only at h4 h5
      have hll : l.length = pre.length + 1 := by rw [h4]; simp
      obtain rfl : res = false := h5.symm.trans rfl
      simp only [go_sem, List.length_map, hll, lt_false (Int.le_refl _)]
    · rintro x rest ⟨pre, last⟩ ⟨h4, h5⟩ K hK
      simp only at h4 h5
      have hll : l.length = pre.length + (rest.length + 2) := by rw [h4]; simp
      have hx : (l.map encX)[pre.length + 1]? = some (.agg [.str x.1, .slice (x.2.map encK)]) := by rw [h4]; simp [encX]
      have hy : (l.map encX)[pre.length]? = some (.agg [.str last.1, .slice (last.2.map encK)]) := by rw [h4]; simp [encX]
      have hlt : (((pre.length + 1 : Nat)) : Int) < (l.length : Int) := by rw [hll]; omega
      have w1 : IntKind.i64.wrap (((pre.length + 1 : Nat) : Int) - 1) = (pre.length : Int) := by rw [wrap_id (by omega) (by omega)]; omega
      have w4 : IntKind.i64.wrap (((pre.length + 1 : Nat) : Int) + 1) = (((pre ++ [last]).length + 1 : Nat) : Int) := by rw [wrap_id (by omega) (by omega)]; simp
      have heq := eq_nm last x.1
      rw [dupX] at h5
      cases hs : strEq last.1 x.1 with
      | true =>
        rw [hs, Bool.true_or] at h5
        subst h5
        simp only [go_sem, List.length_map, decide_eq_true hlt, Int.toNat_natCast, Int.natCast_nonneg, hx, hy, w1, heq, hs]
      | false =>
        rw [hs, Bool.false_or] at h5
        simp only [go_sem, List.length_map, decide_eq_true hlt, Int.toNat_natCast, Int.natCast_nonneg, hx, hy, w1, heq, hs, w4]
        refine hK (pre ++ [last], x) _ ?_ ⟨by simp [h4], h5⟩
        simp only [go_sem]
    · simp only [go_sem, List.length_nil]; rfl
theorem rConsts_spec (c : ConT) (h2 : wtF c ≤ 1000000000) : Spec Tryz.prog 16 [pp (encC c)] [] (distF ((rcsF c).foldl rstepX [])) [] := by
  have hC := rCons_spec c [] (by simpa using h2)
  have hD := Distinct_spec ((rcsF c).foldl rstepX [])
  generalize (rcsF c).foldl rstepX [] = l at hC hD ⊢
  rw [distF] at hD ⊢
  cases hd : dupX l with
  | true =>
    rw [hd] at hD
    simp only [if_true] at hD ⊢
    refine wk (rv := [.tmp 2, .tmp 3]) ann16 9 Tryz.func16 ?_
    simp only [go_sem, encC_sz]
    refine aCall_intro hC ?_
    simp only [go_sem]
    refine aCall_intro hD ?_
    simp only [go_sem]
  | false =>
    rw [hd] at hD
    simp only [Bool.false_eq_true, if_false] at hD ⊢
    refine wk (rv := [.tmp 2, .tmp 3]) ann16 9 Tryz.func16 ?_
    simp only [go_sem, encC_sz]
    refine aCall_intro hC ?_
    simp only [go_sem]
    refine aCall_intro hD ?_
    simp only [go_sem]
theorem SameConsts_spec (l : List CsT) : Spec Tryz.prog 17 [pp (.slice (l.map encX)), pp (.slice (l.map encX))] [] (.bool true) [] := by
  refine wf (rv := [.tmp 4]) ann17 42 Tryz.func17 fun hfit => ?_
  have hlen : l.length ≤ 9223372036854775807 := by
    simp only [argsFit, SV.pv?, SC.pv?, PV.fit, maxLen_eq, List.length_map] at hfit
    exact hfit.1.1
  clear hfit
  have e0 : ((l.length : Int) != l.length) = false := by simp
  simp only [go_sem, List.length_map, e0]
  refine aLoop_list (α := CsT) (β := Nat) (fun rest m => ⟨[(5, ii m), (1, pp (.slice (l.map encX))), (0, pp (.slice (l.map encX)))], [], []⟩) (fun rest m => ∃ pre, l = pre ++ rest ∧ m = pre.length) ?_ ?_ l 0 _ ?_ ⟨[], rfl, rfl⟩
  · rintro m ⟨pre, g1, g2⟩ K
    simp only [List.append_nil] at g1
    subst g1
    simp only [go_sem, g2, List.length_map, lt_false (Int.le_refl _)]
  · rintro x rest m ⟨pre, g1, g2⟩ K hK
    have hx : (l.map encX)[m]? = some (.agg [.str x.1, .slice (x.2.map encK)]) := by simp [g1, g2, encX]
    have hlt : (m : Int) < l.length := by rw [g1, g2]; simp; omega
    have hll : l.length = m + (rest.length + 1) := by rw [g1, g2]; simp
    have w4 : IntKind.i64.wrap ((m : Int) + 1) = ((m + 1 : Nat) : Int) := by rw [wrap_id (by omega) (by omega)]; simp
    have hSK := rSameK_spec (.mk x.2) (.mk x.2)
    rw [sameK_refl] at hSK
    simp only [encK_mk] at hSK
    have hs : (x.1.toList == x.1.toList) = true := by simp
    simp only [go_sem, List.length_map, decide_eq_true hlt, Int.toNat_natCast, Int.natCast_nonneg, hx, hs]
    refine aCall_intro hSK ?_
    simp only [go_sem, w4]
    first
      | refine ⟨by kernel_rfl, hK (m + 1) _ ?_ ⟨pre ++ [x], by simp [g1], by simp [g2]⟩⟩
      | refine hK (m + 1) _ ?_ ⟨pre ++ [x], by simp [g1], by simp [g2]⟩
    simp only [go_sem]
  · simp only [go_sem, Int.natCast_zero]
end Go.Abs.Kon
