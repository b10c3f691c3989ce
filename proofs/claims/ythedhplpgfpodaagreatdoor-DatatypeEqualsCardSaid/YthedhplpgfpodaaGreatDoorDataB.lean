/- Data types: normal forms. -/
import Derived.Test.YthedhplpgfpodaaGreatDoorTermI
import Derived.Test.YthedhplpgfpodaaGreatDoorFacts
set_option linter.unusedSimpArgs false
set_option linter.unusedVariables false
namespace Go.Abs.Kon
open Go Go.Proofs Go.Abs
set_option maxRecDepth 100000
set_option maxHeartbeats 4000000

mutual
def occF : ConT → Int → Bool
  | .mk op m _ _ _ l, n => if op = 1 then m == n else occL l (if isBinder op = true then n + 1 else n)
def occL : List ConT → Int → Bool
  | [], _ => false
  | x :: r, n => occF x n || occL r n
end
theorem occL_any : ∀ (l : List ConT) (n : Int), occL l n = l.any fun x => occF x n
  | [], n => by rw [occL]; rfl
  | x :: r, n => by rw [occL, occL_any r, List.any_cons]
theorem nbinder_spec (op : Int) : Spec Tryz.prog 304 [ii op] [] (.bool (isBinder op)) [] := by
  rw [isBinder]
  by_cases h1 : op = 9
  · subst h1
    refine wk (rv := [.tmp 2]) ann304 17 Tryz.func304 ?_
    simp only [go_sem, Int.reduceBEq, Bool.true_or]
  have e1 : (op == 9) = false := by simpa using h1
  by_cases h2 : op = 10
  · subst h2
    refine wk (rv := [.tmp 2]) ann304 17 Tryz.func304 ?_
    simp only [go_sem, Int.reduceBEq, Bool.true_or, Bool.or_true]
  have e2 : (op == 10) = false := by simpa using h2
  by_cases h3 : op = 11
  · subst h3
    refine wk (rv := [.tmp 2]) ann304 17 Tryz.func304 ?_
    simp only [go_sem, Int.reduceBEq, Bool.true_or, Bool.or_true]
  have e3 : (op == 11) = false := by simpa using h3
  refine wk (rv := [.tmp 2]) ann304 17 Tryz.func304 ?_
  simp only [go_sem, e1, e2, e3, Bool.false_or]
theorem occurs_spec (c : ConT) : ∀ n : Int, 0 ≤ n → n + depthF c ≤ 100000000 → Spec Tryz.prog 282 [pp (encC c), ii n] [] (.bool (occF c n)) [] := by
  revert c
  refine ConT.ind1 fun op m s k names l ih => ?_
  intro n h0 h1
  have hB := nbinder_spec op
  rw [depthF] at h1
  have key : ∀ n' : Int, 0 ≤ n' → n' + depthL l ≤ 100000000 → Spec Tryz.prog 43 [pp (.slice (l.map encC)), pp (.fn 305 [.ep (.int .i64 n') 0])] [] (.bool (occL l n')) [] := by
    intro n' g0 g1
    rw [occL_any]
    refine ContainsFuncC encC l 305 [.ep (.int .i64 n') 0] (fun x => occF x n') (fun e _ => encC_sz e) fun x hx => ?_
    have hX := ih x hx n' g0 (by have := depthF_mem hx; omega)
    show Spec Tryz.prog 305 [pp (encC x), pp (.ep (.int .i64 n') 0)] [] _ []
    refine wk (rv := [.tmp 3]) ann305 7 Tryz.func305 ?_
    simp only [go_sem]
    refine aCall_intro hX ?_
    simp only [go_sem]
  rw [encC_mk, occF]
  by_cases h : op = 1
  · subst h
    rw [if_pos rfl]
    refine wk (rv := [.tmp 4]) ann282 21 Tryz.func282 ?_
    simp only [go_sem, Int.reduceBEq]
  rw [if_neg h]
  have e1 : (op == 1) = false := by simpa using h
  cases hb : isBinder op with
  | true =>
    rw [hb] at hB
    rw [if_pos rfl]
    have hK := key (n + 1) (by omega) (by omega)
    have w1 : IntKind.i64.wrap (n + 1) = n + 1 := wrap_id (by omega) (by omega)
    refine wk (rv := [.tmp 4]) ann282 21 Tryz.func282 ?_
    simp only [go_sem, e1]
    refine aCall_intro hB ?_
    simp only [go_sem, w1]
    refine aCall_intro hK ?_
    simp only [go_sem]
  | false =>
    rw [hb] at hB
    rw [if_neg (by decide)]
    have hK := key n (by omega) (by omega)
    refine wk (rv := [.tmp 4]) ann282 21 Tryz.func282 ?_
    simp only [go_sem, e1]
    refine aCall_intro hB ?_
    simp only [go_sem]
    refine aCall_intro hK ?_
    simp only [go_sem]

theorem formed_const {m : Int} {s : ByteArray} {k : List KindT} {names : List ByteArray} {l : List ConT} (h : formedF (.mk 2 m s k names l) = true) : l = [] := by
  rw [formedF, Bool.and_eq_true, nodeF, Bool.and_eq_true] at h
  have h1 := of_decide_eq_true h.1.1
  have e : partsF 2 names.length = 0 := rfl
  rw [e] at h1
  exact List.eq_nil_of_length_eq_zero (by omega)
mutual
theorem occ_leaves : ∀ (c : ConT) (b : Int), formedF c = true → (occF c b = true ↔ ∃ x b', (x, b') ∈ leaves c b ∧ x.op = 1 ∧ x.n = b')
  | .mk op m s k names l, b, h => by
    rw [occF, leaves]
    by_cases h1 : op = 1
    · subst h1
      rw [if_pos rfl, if_pos (.inl rfl)]
      constructor
      · intro e
        exact ⟨_, b, List.mem_singleton.2 rfl, rfl, show m = b by simpa using e⟩
      · rintro ⟨x, b', g1, g2, g3⟩
        obtain ⟨rfl, rfl⟩ := Prod.mk.inj (List.mem_singleton.1 g1)
        have g4 : m = b' := g3
        simpa using g4
    · rw [if_neg h1]
      by_cases h2 : op = 2
      · subst h2
        obtain rfl := formed_const h
        rw [if_pos (show (2 : Int) = 1 ∨ (2 : Int) = 2 from .inr rfl), occL]
        constructor
        · intro e; cases e
        · rintro ⟨x, b', g1, g2, g3⟩
          obtain ⟨rfl, rfl⟩ := Prod.mk.inj (List.mem_singleton.1 g1)
          cases g2
      · rw [if_neg (show ¬ (op = 1 ∨ op = 2) by rintro (e | e); exact h1 e; exact h2 e)]
        rw [formedF, Bool.and_eq_true] at h
        exact occL_leaves l _ h.2
theorem occL_leaves : ∀ (l : List ConT) (b : Int), formedL l = true → (occL l b = true ↔ ∃ x b', (x, b') ∈ leavesL l b ∧ x.op = 1 ∧ x.n = b')
  | [], b, _ => by rw [occL, leavesL]; simp
  | y :: r, b, h => by
    rw [formedL, Bool.and_eq_true] at h
    rw [occL, leavesL, Bool.or_eq_true, occ_leaves y b h.1, occL_leaves r b h.2]
    simp only [List.mem_append]
    constructor
    · rintro (⟨x, b', g1, g2⟩ | ⟨x, b', g1, g2⟩)
      · exact ⟨x, b', .inl g1, g2⟩
      · exact ⟨x, b', .inr g1, g2⟩
    · rintro ⟨x, b', g1 | g1, g2⟩
      · exact .inl ⟨x, b', g1, g2⟩
      · exact .inr ⟨x, b', g1, g2⟩
end
theorem occ_free {c : ConT} (h : formedF c = true) : (sortU (freeL c)).any (· == 0) = occF c 0 := by
  rw [Bool.eq_iff_iff, List.any_eq_true, occ_leaves c 0 h]
  constructor
  · rintro ⟨i, hi, e⟩
    obtain rfl : i = 0 := by simpa using e
    rw [sortU_mem, freeL, List.mem_filterMap] at hi
    obtain ⟨⟨x, b'⟩, g1, g2⟩ := hi
    simp only at g2
    split at g2
    · rename_i g3
      refine ⟨x, b', g1, g3.1, ?_⟩
      have := Option.some.inj g2
      omega
    · cases g2
  · rintro ⟨x, b', g1, g2, g3⟩
    refine ⟨0, ?_, rfl⟩
    rw [sortU_mem, freeL, List.mem_filterMap]
    refine ⟨(x, b'), g1, ?_⟩
    simp only
    rw [if_pos ⟨g2, by omega⟩]
    congr 1
    omega
theorem roccurs_spec (c : ConT) (hf : formedF c = true) (h1 : depthF c ≤ 100000000) (h2 : wtF c ≤ 900000000) : Spec Tryz.prog 279 [pp (encC c), ii 0] [] (.bool (occF c 0)) [] := by
  have hF := rFree_spec c hf h1 h2
  have hL : (sortU (freeL c)).length ≤ 9223372036854775807 := by
    have g1 : (sortU (freeL c)).length ≤ 0 + (freeL c).length := insAll_len (freeL c) []
    have g2 := rfreeA_len c 0 hf
    rw [rfreeA_0] at g2
    omega
  rw [← occ_free hf]
  generalize sortU (freeL c) = L at hF hL ⊢
  generalize hr : L.any (· == 0) = res
  refine wk (rv := [.tmp 4]) ann279 21 Tryz.func279 ?_
  simp only [go_sem]
  refine aCall_intro hF ?_
  have hlen : (ints L).length = L.length := by rw [ints, List.length_map]
  simp only [go_sem, ints]
  refine aLoop_list (α := Int) (β := List Int) (fun rest pre => ⟨[(6, ii pre.length), (1, ii 0), (5, pp (.slice (L.map (.int .i64))))], [], []⟩) (fun rest pre => L = pre ++ rest ∧ rest.any (· == 0) = res ∧ L.length ≤ 9223372036854775807) ?_ ?_ L [] _ ?_ ⟨rfl, hr, hL⟩
  · rintro pre ⟨h4, h5, _⟩ K
    rw [List.append_nil] at h4
    rw [List.any_nil] at h5
    subst h5
    simp only [go_sem, h4, List.length_map, lt_false (Int.le_refl _)]
  · rintro x rest pre ⟨h4, h5, h6⟩ K hK
    have hx : (L.map (PV.int .i64))[pre.length]? = some (.int .i64 x) := by simp [h4]
    have hlt : (pre.length : Int) < L.length := by rw [h4]; simp; omega
    have w4 : IntKind.i64.wrap ((pre.length : Int) + 1) = ((pre ++ [x]).length : Int) := by rw [wrap_id (by omega) (by omega)]; simp
    rw [List.any_cons] at h5
    simp only [go_sem, decide_eq_true hlt, List.length_map, Int.toNat_natCast, Int.natCast_nonneg, hx]
    refine condK_intro (fun hb => ?_) (fun hb => ?_)
    · rw [hb, Bool.true_or] at h5
      subst h5
      simp only [go_sem]
    · rw [hb, Bool.false_or] at h5
      simp only [go_sem, w4]
      refine hK (pre ++ [x]) _ ?_ ⟨by simp [h4], h5, h6⟩
      simp only [go_sem]
  · simp only [go_sem, List.length_nil, Int.natCast_zero]

def etaF (c : ConT) : Bool :=
  match c.l with
  | [x] => (match x.l with
    | [f, a] => c.op == 11 && (x.op == 12 && (a.op == 1 && (a.n == 0 && !occF f 0)))
    | _ => false)
  | _ => false
def betaF (op : Int) (l : List ConT) : Bool :=
  match l with
  | x :: _ => op == 12 && x.op == 11
  | [] => false
mutual
def normF : ConT → Bool
  | .mk op n s k names l => if betaF op l = true then false else if etaF (.mk op n s k names l) = true then false else normL l
def normL : List ConT → Bool
  | [] => true
  | x :: r => normF x && normL r
end
theorem normL_any : ∀ l : List ConT, normL l = !(l.any fun x => !normF x)
  | [] => by rw [normL]; rfl
  | x :: r => by rw [normL, normL_any r, List.any_cons]; cases normF x <;> rfl
theorem formed_len {op n : Int} {s : ByteArray} {k : List KindT} {names : List ByteArray} {l : List ConT} (h : formedF (.mk op n s k names l) = true) : (l.length : Int) = partsF op names.length := by
  rw [formedF, Bool.and_eq_true, nodeF, Bool.and_eq_true] at h
  exact of_decide_eq_true h.1.1
theorem formed_11 {n : Int} {s : ByteArray} {k : List KindT} {names : List ByteArray} {l : List ConT} (h : formedF (.mk 11 n s k names l) = true) : ∃ x, l = [x] := by
  have := formed_len h
  have e : partsF 11 names.length = 1 := rfl
  rw [e] at this
  exact List.length_eq_one_iff.1 (by omega)
theorem formed_12 {n : Int} {s : ByteArray} {k : List KindT} {names : List ByteArray} {l : List ConT} (h : formedF (.mk 12 n s k names l) = true) : ∃ f a, l = [f, a] := by
  have := formed_len h
  have e : partsF 12 names.length = 2 := rfl
  rw [e] at this
  rcases l with _ | ⟨f, l⟩
  · simp at this
  rcases l with _ | ⟨a, l⟩
  · simp at this
  rcases l with _ | ⟨b, l⟩
  · exact ⟨f, a, rfl⟩
  · simp only [List.length_cons] at this; omega
theorem formed_l {op n : Int} {s : ByteArray} {k : List KindT} {names : List ByteArray} {l : List ConT} (h : formedF (.mk op n s k names l) = true) : ∀ x ∈ l, formedF x = true := by
  rw [formedF, Bool.and_eq_true, formedL_all] at h
  exact List.all_eq_true.1 h.2
theorem eta_spec (c : ConT) (h : formedF c = true) (hd : depthF c ≤ 100000000) : Spec Tryz.prog 238 [pp (encC c)] [] (.bool (etaF c)) [] := by
  obtain ⟨op, n, s, k, names, l⟩ := c
  by_cases e : op = 11
  · subst e
    obtain ⟨x, rfl⟩ := formed_11 h
    have hx := formed_l h x (by simp)
    obtain ⟨op1, n1, s1, k1, names1, l1⟩ := x
    by_cases e1 : op1 = 12
    · subst e1
      obtain ⟨f, a, rfl⟩ := formed_12 hx
      obtain ⟨opa, na, sa, ka, namesa, la⟩ := a
      have hO := occurs_spec f 0 (by decide) (by
        simp only [depthF, depthL] at hd
        omega)
      have er : etaF (.mk 11 n s k names [.mk 12 n1 s1 k1 names1 [f, .mk opa na sa ka namesa la]]) = (opa == 1 && (na == 0 && !occF f 0)) := rfl
      rw [er, encC_mk, List.map_cons, List.map_nil, encC_mk, List.map_cons, List.map_cons, List.map_nil, encC_mk]
      by_cases c1 : opa = 1
      · subst c1
        by_cases c2 : na = 0
        · subst c2
          refine wk (rv := [.tmp 2]) ann238 43 Tryz.func238 ?_
          simp only [go_sem, Int.reduceBNe, Int.reduceBEq, Int.reduceToNat, Int.natCast_zero]
          iterate 3 (try (refine ⟨by kernel_rfl, ?_⟩; try simp only [go_sem, Int.reduceBNe, Int.reduceBEq, Int.reduceToNat, Int.natCast_zero]))
          refine aCall_intro hO ?_
          simp only [go_sem, Bool.true_and]
        · have f2 : (na == 0) = false := by simpa using c2
          refine wk (rv := [.tmp 2]) ann238 43 Tryz.func238 ?_
          simp only [go_sem, Int.reduceBNe, Int.reduceBEq, f2, Bool.true_and, Bool.false_and]
          iterate 3 (try (refine ⟨by kernel_rfl, ?_⟩; try simp only [go_sem, Int.reduceBNe, Int.reduceBEq, f2, Bool.true_and, Bool.false_and]))
          all_goals kernel_rfl
      · have f1 : (opa == 1) = false := by simpa using c1
        refine wk (rv := [.tmp 2]) ann238 43 Tryz.func238 ?_
        simp only [go_sem, Int.reduceBNe, Int.reduceBEq, f1, Bool.false_and]
        iterate 3 (try (refine ⟨by kernel_rfl, ?_⟩; try simp only [go_sem, Int.reduceBNe, Int.reduceBEq, f1, Bool.false_and]))
        all_goals kernel_rfl
    · have f1 : (op1 != 12) = true := by simpa using e1
      have er : etaF (.mk 11 n s k names [.mk op1 n1 s1 k1 names1 l1]) = false := by
        rw [etaF]
        simp only [ConT.l, ConT.op]
        split
        · have : (op1 == 12) = false := by simpa using e1
          simp [this]
        · rfl
      rw [er, encC_mk, List.map_cons, List.map_nil, encC_mk]
      refine wk (rv := [.tmp 2]) ann238 43 Tryz.func238 ?_
      simp only [go_sem, Int.reduceBNe, f1]
  · have f1 : (op != 11) = true := by simpa using e
    have er : etaF (.mk op n s k names l) = false := by
      have : (op == 11) = false := by simpa using e
      rw [etaF]
      simp only [ConT.l, ConT.op]
      split
      · split
        · simp [this]
        · rfl
      · rfl
    rw [er, encC_mk]
    refine wk (rv := [.tmp 2]) ann238 43 Tryz.func238 ?_
    simp only [go_sem, f1]
theorem reta_spec (c : ConT) (h : formedF c = true) (hd : depthF c ≤ 100000000) (hw : wtF c ≤ 900000000) : Spec Tryz.prog 229 [pp (encC c)] [] (.bool (etaF c)) [] := by
  obtain ⟨op, n, s, k, names, l⟩ := c
  by_cases e : op = 11
  · subst e
    obtain ⟨x, rfl⟩ := formed_11 h
    have hx := formed_l h x (by simp)
    obtain ⟨op1, n1, s1, k1, names1, l1⟩ := x
    by_cases e1 : op1 = 12
    · subst e1
      obtain ⟨f, a, rfl⟩ := formed_12 hx
      have hf := formed_l hx f (by simp)
      obtain ⟨opa, na, sa, ka, namesa, la⟩ := a
      have hO := roccurs_spec f hf (by
        simp only [depthF, depthL] at hd
        omega) (by
        simp only [wtF, wtL] at hw
        omega)
      have er : etaF (.mk 11 n s k names [.mk 12 n1 s1 k1 names1 [f, .mk opa na sa ka namesa la]]) = (opa == 1 && (na == 0 && !occF f 0)) := rfl
      rw [er, encC_mk, List.map_cons, List.map_nil, encC_mk, List.map_cons, List.map_cons, List.map_nil, encC_mk]
      by_cases c1 : opa = 1
      · subst c1
        by_cases c2 : na = 0
        · subst c2
          refine wk (rv := [.tmp 2]) ann229 41 Tryz.func229 ?_
          simp only [go_sem, Int.reduceBNe, Int.reduceBEq, Int.reduceToNat, Int.natCast_zero]
          iterate 3 (try (refine ⟨by kernel_rfl, ?_⟩; try simp only [go_sem, Int.reduceBNe, Int.reduceBEq, Int.reduceToNat, Int.natCast_zero]))
          refine aCall_intro hO ?_
          simp only [go_sem, Bool.true_and]
        · have f2 : (na == 0) = false := by simpa using c2
          refine wk (rv := [.tmp 2]) ann229 41 Tryz.func229 ?_
          simp only [go_sem, Int.reduceBNe, Int.reduceBEq, f2, Bool.true_and, Bool.false_and]
          iterate 3 (try (refine ⟨by kernel_rfl, ?_⟩; try simp only [go_sem, Int.reduceBNe, Int.reduceBEq, f2, Bool.true_and, Bool.false_and]))
          all_goals kernel_rfl
      · have f1 : (opa == 1) = false := by simpa using c1
        refine wk (rv := [.tmp 2]) ann229 41 Tryz.func229 ?_
        simp only [go_sem, Int.reduceBNe, Int.reduceBEq, f1, Bool.false_and]
        iterate 3 (try (refine ⟨by kernel_rfl, ?_⟩; try simp only [go_sem, Int.reduceBNe, Int.reduceBEq, f1, Bool.false_and]))
        all_goals kernel_rfl
    · have f1 : (op1 != 12) = true := by simpa using e1
      have er : etaF (.mk 11 n s k names [.mk op1 n1 s1 k1 names1 l1]) = false := by
        rw [etaF]
        simp only [ConT.l, ConT.op]
        split
        · have : (op1 == 12) = false := by simpa using e1
          simp [this]
        · rfl
      rw [er, encC_mk, List.map_cons, List.map_nil, encC_mk]
      refine wk (rv := [.tmp 2]) ann229 41 Tryz.func229 ?_
      simp only [go_sem, Int.reduceBNe, f1]
  · have f1 : (op != 11) = true := by simpa using e
    have er : etaF (.mk op n s k names l) = false := by
      have : (op == 11) = false := by simpa using e
      rw [etaF]
      simp only [ConT.l, ConT.op]
      split
      · split
        · simp [this]
        · rfl
      · rfl
    rw [er, encC_mk]
    refine wk (rv := [.tmp 2]) ann229 41 Tryz.func229 ?_
    simp only [go_sem, f1]
end Go.Abs.Kon
