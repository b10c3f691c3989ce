/- The law TyconBuilds returns true for any constructor and any list of constructors. -/
import Derived.Test.YthbfnaaminlopaaGreatDoorVBuildsC
set_option linter.unusedSimpArgs false
set_option linter.unusedVariables false
namespace Go.Abs.Kon
open Go Go.Proofs Go.Abs
set_option maxRecDepth 100000
set_option maxHeartbeats 8000000

theorem apps_answer (c : ConT) (l : List ConT) (h1 : validF c = true) (h2 : l.all validF = true) (h3 : ¬ l.length > 1000) : answerF (appsF c l).1 (appsF c l).2 (l.foldl appC c) = true := by
  rw [appsF, if_neg (by rw [h1, h2]; simp), if_neg h3, answerF]
  by_cases hb : sizeF c + l.length + sumS l > 20000
  · have hi : validF (l.foldl appC c) = false := by
      rw [validF, size_apps]
      simp only [Bool.and_eq_false_iff, decide_eq_false_iff_not]
      left; omega
    rw [if_pos hb, hi]
    simp only [eqC_refl]; rfl
  · rw [if_neg hb]
    cases hv : validF (l.foldl appC c) with
    | true => simp only [if_true, eqC_refl]; rfl
    | false => simp only [Bool.false_eq_true, if_false, eqC_refl]; rfl
theorem tuple_answer (l : List ConT) (h2 : l.all validF = true) (h3 : ¬ (l.length = 1 ∨ l.length > 9)) : answerF (tupleR l).1 (tupleR l).2 (tupleF l) = true := by
  rw [tupleR, if_neg (by rw [h2]; simp), if_neg h3, answerF]
  cases hv : validF (tupleF l) with
  | true => simp only [if_true, eqC_refl]; rfl
  | false => simp only [Bool.false_eq_true, if_false, eqC_refl]; rfl

theorem appsF_bad {c : ConT} {l : List ConT} (h : validF c = false ∨ l.all validF = false) : appsF c l = (zeroC, 1) := by rw [appsF, if_pos h]
theorem appsF_long {c : ConT} {l : List ConT} (h1 : validF c = true) (h2 : l.all validF = true) (h3 : l.length > 1000) : appsF c l = (zeroC, 5) := by rw [appsF, if_neg (by rw [h1, h2]; simp), if_pos h3]
theorem tupleR_bad {l : List ConT} (h : l.all validF = false) : tupleR l = (zeroC, 1) := by rw [tupleR, if_pos h]
theorem tupleR_len {l : List ConT} (h2 : l.all validF = true) (h : l.length = 1 ∨ l.length > 9) : tupleR l = (zeroC, 2) := by rw [tupleR, if_neg (by rw [h2]; simp), if_pos h]
theorem eqL_refl' : ∀ l : List ConT, eqL eqC l l = true
  | [] => rfl
  | x :: r => by rw [eqL, eqC_refl, eqL_refl' r]; rfl

theorem TyconBuilds_spec (c : ConT) (l : List ConT) : Spec Tryz.prog 7 [pp (encC c), pp (.slice (l.map encC))] [] (.bool true) [] := by
  have hAw := awake_spec
  have hSm := small_spec [c]
  have hSl := small_spec l
  simp only [List.map_cons, List.map_nil] at hSm
  have hany : (!([c].any bigP)) = !bigP c := by simp
  rw [hany] at hSm
  clear hany
  have hU := Unit_spec
  have hrU := rUnit_spec
  have hSU := rSame_spec unitC unitC
  rw [eqC_refl] at hSU
  have hB := Bool_spec
  have hrB := rBool_spec
  have hSB := rSame_spec boolC boolC
  rw [eqC_refl] at hSB
  have hNo := none_spec zeroC
  rw [eqC_refl] at hNo
  have e00 : ((0 : Int) == 0) = true := rfl
  have n00 : ((0 : Int) != 0) = false := rfl
  have c00 : (((0 : Nat) : Int) != 0) = false := rfl
  have e11 : ((1 : Int) == 1) = true := rfl
  have n11 : ((1 : Int) != 1) = false := rfl
  have e22 : ((2 : Int) == 2) = true := rfl
  have n22 : ((2 : Int) != 2) = false := rfl
  have e55 : ((5 : Int) == 5) = true := rfl
  have n55 : ((5 : Int) != 5) = false := rfl
  refine Spec.walk (rv := [.tmp 4]) ann7 169 Tryz.func7 mixed rfl rfl (by kernel_rfl) rfl rfl fun hfit => ?_
  clear hfit
  simp only [go_sem, reduceCtorEq, ↓reduceIte, Nat.reduceEqDiff, Nat.reduceAdd, Nat.reduceMul, Nat.reduceSub, Nat.reduceLeDiff, Nat.reduceBEq, Int.reduceToNat, Int.reduceLE, Int.reduceLT]
  refine aCall_intro hAw ?_
  simp only [go_sem, reduceCtorEq, ↓reduceIte, Nat.reduceEqDiff, Nat.reduceAdd, Nat.reduceMul, Nat.reduceSub, Nat.reduceLeDiff, Nat.reduceBEq, Int.reduceToNat, Int.reduceLE, Int.reduceLT, encC_sz]
  refine aCall_intro hSm ?_
  simp only [go_sem, reduceCtorEq, ↓reduceIte, Nat.reduceEqDiff, Nat.reduceAdd, Nat.reduceMul, Nat.reduceSub, Nat.reduceLeDiff, Nat.reduceBEq, Int.reduceToNat, Int.reduceLE, Int.reduceLT, encC_sz]
  cases hc : bigP c with
  | true =>
    simp only [go_sem, reduceCtorEq, ↓reduceIte, Nat.reduceEqDiff, Nat.reduceAdd, Nat.reduceMul, Nat.reduceSub, Nat.reduceLeDiff, Nat.reduceBEq, Int.reduceToNat, Int.reduceLE, Int.reduceLT]
    refine aCall_intro hAw ?_
    simp only [go_sem, reduceCtorEq, ↓reduceIte, Nat.reduceEqDiff, Nat.reduceAdd, Nat.reduceMul, Nat.reduceSub, Nat.reduceLeDiff, Nat.reduceBEq, Int.reduceToNat, Int.reduceLE, Int.reduceLT]
  | false =>
  by_cases h12 : (l.length : Int) > 12 ∧ (l.length : Int) ≤ 1000
  · simp only [go_sem, reduceCtorEq, ↓reduceIte, Nat.reduceEqDiff, Nat.reduceAdd, Nat.reduceMul, Nat.reduceSub, Nat.reduceLeDiff, Nat.reduceBEq, Int.reduceToNat, Int.reduceLE, Int.reduceLT, List.length_map, decide_eq_true h12.1, decide_eq_true h12.2]
    refine aCall_intro hAw ?_
    simp only [go_sem, reduceCtorEq, ↓reduceIte, Nat.reduceEqDiff, Nat.reduceAdd, Nat.reduceMul, Nat.reduceSub, Nat.reduceLeDiff, Nat.reduceBEq, Int.reduceToNat, Int.reduceLE, Int.reduceLT]
  by_cases h1010 : (l.length : Int) > 1010
  · have h1000 : ¬ (l.length : Int) ≤ 1000 := by omega
    have h12' : (l.length : Int) > 12 := by omega
    simp only [go_sem, reduceCtorEq, ↓reduceIte, Nat.reduceEqDiff, Nat.reduceAdd, Nat.reduceMul, Nat.reduceSub, Nat.reduceLeDiff, Nat.reduceBEq, Int.reduceToNat, Int.reduceLE, Int.reduceLT, List.length_map, decide_eq_true h12', decide_eq_false h1000, decide_eq_true h1010]
    refine aCall_intro hAw ?_
    simp only [go_sem, reduceCtorEq, ↓reduceIte, Nat.reduceEqDiff, Nat.reduceAdd, Nat.reduceMul, Nat.reduceSub, Nat.reduceLeDiff, Nat.reduceBEq, Int.reduceToNat, Int.reduceLE, Int.reduceLT]
  obtain ⟨hcw, hcs⟩ := small_of hc
  have hlt : l.any bigP = false → ∀ x ∈ l, wtF x < 400 ∧ okS x := by
    intro h x hx
    refine small_of ?_
    cases hb : bigP x with
    | false => rfl
    | true => have := List.any_eq_true.2 ⟨x, hx, hb⟩; rw [h] at this; cases this
  have hSp := Spine_spec c (by omega) hcs
  have hV := rValid_spec c hcs
  have d1010 : decide ((l.length : Int) > 1010) = false := decide_eq_false h1010
  by_cases hlong : (l.length : Int) > 1000
  · have d12 : decide ((l.length : Int) > 12) = true := decide_eq_true (by omega)
    have dle : decide ((l.length : Int) ≤ 1000) = false := decide_eq_false (by omega)
    have d1000 : decide ((l.length : Int) > 1000) = true := decide_eq_true hlong
    have d1 : ((l.length : Int) == 1) = false := by rw [beq_eq_false_iff_ne]; omega
    have d9 : decide ((l.length : Int) > 9) = true := decide_eq_true (by omega)
    simp only [go_sem, reduceCtorEq, ↓reduceIte, Nat.reduceEqDiff, Nat.reduceAdd, Nat.reduceMul, Nat.reduceSub, Nat.reduceLeDiff, Nat.reduceBEq, Int.reduceToNat, Int.reduceLE, Int.reduceLT, List.length_map, d12, dle, d1010]
    refine aCall_intro hSl ?_
    cases hl : l.any bigP with
    | true =>
      simp only [go_sem, reduceCtorEq, ↓reduceIte, Nat.reduceEqDiff, Nat.reduceAdd, Nat.reduceMul, Nat.reduceSub, Nat.reduceLeDiff, Nat.reduceBEq, Int.reduceToNat, Int.reduceLE, Int.reduceLT]
      refine aCall_intro hAw ?_
      simp only [go_sem, reduceCtorEq, ↓reduceIte, Nat.reduceEqDiff, Nat.reduceAdd, Nat.reduceMul, Nat.reduceSub, Nat.reduceLeDiff, Nat.reduceBEq, Int.reduceToNat, Int.reduceLE, Int.reduceLT]
    | false =>
    have hlt := hlt hl
    have hVl := rValidAll_spec l fun x hx => (hlt x hx).2
    have hAp := Apps_spec c l (by omega) hcs (fun x hx => ⟨by have := (hlt x hx).1; omega, (hlt x hx).2⟩) (by omega)
    have hTu := Tuple_spec l (fun x hx => ⟨by have := (hlt x hx).1; omega, (hlt x hx).2⟩) (by omega)
    simp only [go_sem, reduceCtorEq, ↓reduceIte, Nat.reduceEqDiff, Nat.reduceAdd, Nat.reduceMul, Nat.reduceSub, Nat.reduceLeDiff, Nat.reduceBEq, Int.reduceToNat, Int.reduceLE, Int.reduceLT, encC_sz]
    cases hv : validF c with
    | false =>
      rw [spineR, if_neg (by rw [hv]; simp)] at hSp
      rw [appsF_bad (.inl hv)] at hAp
      rw [hv] at hV
      cases ha : l.all validF with
      | false =>
        rw [tupleR_bad ha] at hTu
        rw [ha] at hVl
        refine aCall_intro hAp ?_
        try simp only [go_sem, reduceCtorEq, ↓reduceIte, Nat.reduceEqDiff, Nat.reduceAdd, Nat.reduceMul, Nat.reduceSub, Nat.reduceLeDiff, Nat.reduceBEq, Int.reduceToNat, Int.reduceLE, Int.reduceLT, encC_sz, List.length_map, d1010, e00, n00, c00, e11, n11, e22, n22, e55, n55, d12, d1000, dle, d1, d9]
        refine aCall_intro hSp ?_
        try simp only [go_sem, reduceCtorEq, ↓reduceIte, Nat.reduceEqDiff, Nat.reduceAdd, Nat.reduceMul, Nat.reduceSub, Nat.reduceLeDiff, Nat.reduceBEq, Int.reduceToNat, Int.reduceLE, Int.reduceLT, encC_sz, List.length_map, d1010, e00, n00, c00, e11, n11, e22, n22, e55, n55, d12, d1000, dle, d1, d9]
        refine aCall_intro hTu ?_
        try simp only [go_sem, reduceCtorEq, ↓reduceIte, Nat.reduceEqDiff, Nat.reduceAdd, Nat.reduceMul, Nat.reduceSub, Nat.reduceLeDiff, Nat.reduceBEq, Int.reduceToNat, Int.reduceLE, Int.reduceLT, encC_sz, List.length_map, d1010, e00, n00, c00, e11, n11, e22, n22, e55, n55, d12, d1000, dle, d1, d9]
        refine aCall_intro hU ?_
        try simp only [go_sem, reduceCtorEq, ↓reduceIte, Nat.reduceEqDiff, Nat.reduceAdd, Nat.reduceMul, Nat.reduceSub, Nat.reduceLeDiff, Nat.reduceBEq, Int.reduceToNat, Int.reduceLE, Int.reduceLT, encC_sz, List.length_map, d1010, e00, n00, c00, e11, n11, e22, n22, e55, n55, d12, d1000, dle, d1, d9]
        refine aCall_intro hrU ?_
        try simp only [go_sem, reduceCtorEq, ↓reduceIte, Nat.reduceEqDiff, Nat.reduceAdd, Nat.reduceMul, Nat.reduceSub, Nat.reduceLeDiff, Nat.reduceBEq, Int.reduceToNat, Int.reduceLE, Int.reduceLT, encC_sz, List.length_map, d1010, e00, n00, c00, e11, n11, e22, n22, e55, n55, d12, d1000, dle, d1, d9]
        refine aCall_intro hSU ?_
        try simp only [go_sem, reduceCtorEq, ↓reduceIte, Nat.reduceEqDiff, Nat.reduceAdd, Nat.reduceMul, Nat.reduceSub, Nat.reduceLeDiff, Nat.reduceBEq, Int.reduceToNat, Int.reduceLE, Int.reduceLT, encC_sz, List.length_map, d1010, e00, n00, c00, e11, n11, e22, n22, e55, n55, d12, d1000, dle, d1, d9]
        refine aCall_intro hB ?_
        try simp only [go_sem, reduceCtorEq, ↓reduceIte, Nat.reduceEqDiff, Nat.reduceAdd, Nat.reduceMul, Nat.reduceSub, Nat.reduceLeDiff, Nat.reduceBEq, Int.reduceToNat, Int.reduceLE, Int.reduceLT, encC_sz, List.length_map, d1010, e00, n00, c00, e11, n11, e22, n22, e55, n55, d12, d1000, dle, d1, d9]
        refine aCall_intro hrB ?_
        try simp only [go_sem, reduceCtorEq, ↓reduceIte, Nat.reduceEqDiff, Nat.reduceAdd, Nat.reduceMul, Nat.reduceSub, Nat.reduceLeDiff, Nat.reduceBEq, Int.reduceToNat, Int.reduceLE, Int.reduceLT, encC_sz, List.length_map, d1010, e00, n00, c00, e11, n11, e22, n22, e55, n55, d12, d1000, dle, d1, d9]
        refine aCall_intro hSB ?_
        try simp only [go_sem, reduceCtorEq, ↓reduceIte, Nat.reduceEqDiff, Nat.reduceAdd, Nat.reduceMul, Nat.reduceSub, Nat.reduceLeDiff, Nat.reduceBEq, Int.reduceToNat, Int.reduceLE, Int.reduceLT, encC_sz, List.length_map, d1010, e00, n00, c00, e11, n11, e22, n22, e55, n55, d12, d1000, dle, d1, d9]
        refine aCall_intro hV ?_
        try simp only [go_sem, reduceCtorEq, ↓reduceIte, Nat.reduceEqDiff, Nat.reduceAdd, Nat.reduceMul, Nat.reduceSub, Nat.reduceLeDiff, Nat.reduceBEq, Int.reduceToNat, Int.reduceLE, Int.reduceLT, encC_sz, List.length_map, d1010, e00, n00, c00, e11, n11, e22, n22, e55, n55, d12, d1000, dle, d1, d9]
        refine aCall_intro hNo ?_
        try simp only [go_sem, reduceCtorEq, ↓reduceIte, Nat.reduceEqDiff, Nat.reduceAdd, Nat.reduceMul, Nat.reduceSub, Nat.reduceLeDiff, Nat.reduceBEq, Int.reduceToNat, Int.reduceLE, Int.reduceLT, encC_sz, List.length_map, d1010, e00, n00, c00, e11, n11, e22, n22, e55, n55, d12, d1000, dle, d1, d9]
        refine aCall_intro hVl ?_
        try simp only [go_sem, reduceCtorEq, ↓reduceIte, Nat.reduceEqDiff, Nat.reduceAdd, Nat.reduceMul, Nat.reduceSub, Nat.reduceLeDiff, Nat.reduceBEq, Int.reduceToNat, Int.reduceLE, Int.reduceLT, encC_sz, List.length_map, d1010, e00, n00, c00, e11, n11, e22, n22, e55, n55, d12, d1000, dle, d1, d9]
        refine aCall_intro hNo ?_
        try simp only [go_sem, reduceCtorEq, ↓reduceIte, Nat.reduceEqDiff, Nat.reduceAdd, Nat.reduceMul, Nat.reduceSub, Nat.reduceLeDiff, Nat.reduceBEq, Int.reduceToNat, Int.reduceLE, Int.reduceLT, encC_sz, List.length_map, d1010, e00, n00, c00, e11, n11, e22, n22, e55, n55, d12, d1000, dle, d1, d9]
        refine aCall_intro hNo ?_
        try simp only [go_sem, reduceCtorEq, ↓reduceIte, Nat.reduceEqDiff, Nat.reduceAdd, Nat.reduceMul, Nat.reduceSub, Nat.reduceLeDiff, Nat.reduceBEq, Int.reduceToNat, Int.reduceLE, Int.reduceLT, encC_sz, List.length_map, d1010, e00, n00, c00, e11, n11, e22, n22, e55, n55, d12, d1000, dle, d1, d9]
      | true =>
        rw [ha] at hVl
        rw [tupleR_len ha (.inr (by omega))] at hTu
        refine aCall_intro hAp ?_
        try simp only [go_sem, reduceCtorEq, ↓reduceIte, Nat.reduceEqDiff, Nat.reduceAdd, Nat.reduceMul, Nat.reduceSub, Nat.reduceLeDiff, Nat.reduceBEq, Int.reduceToNat, Int.reduceLE, Int.reduceLT, encC_sz, List.length_map, d1010, e00, n00, c00, e11, n11, e22, n22, e55, n55, d12, d1000, dle, d1, d9]
        refine aCall_intro hSp ?_
        try simp only [go_sem, reduceCtorEq, ↓reduceIte, Nat.reduceEqDiff, Nat.reduceAdd, Nat.reduceMul, Nat.reduceSub, Nat.reduceLeDiff, Nat.reduceBEq, Int.reduceToNat, Int.reduceLE, Int.reduceLT, encC_sz, List.length_map, d1010, e00, n00, c00, e11, n11, e22, n22, e55, n55, d12, d1000, dle, d1, d9]
        refine aCall_intro hTu ?_
        try simp only [go_sem, reduceCtorEq, ↓reduceIte, Nat.reduceEqDiff, Nat.reduceAdd, Nat.reduceMul, Nat.reduceSub, Nat.reduceLeDiff, Nat.reduceBEq, Int.reduceToNat, Int.reduceLE, Int.reduceLT, encC_sz, List.length_map, d1010, e00, n00, c00, e11, n11, e22, n22, e55, n55, d12, d1000, dle, d1, d9]
        refine aCall_intro hU ?_
        try simp only [go_sem, reduceCtorEq, ↓reduceIte, Nat.reduceEqDiff, Nat.reduceAdd, Nat.reduceMul, Nat.reduceSub, Nat.reduceLeDiff, Nat.reduceBEq, Int.reduceToNat, Int.reduceLE, Int.reduceLT, encC_sz, List.length_map, d1010, e00, n00, c00, e11, n11, e22, n22, e55, n55, d12, d1000, dle, d1, d9]
        refine aCall_intro hrU ?_
        try simp only [go_sem, reduceCtorEq, ↓reduceIte, Nat.reduceEqDiff, Nat.reduceAdd, Nat.reduceMul, Nat.reduceSub, Nat.reduceLeDiff, Nat.reduceBEq, Int.reduceToNat, Int.reduceLE, Int.reduceLT, encC_sz, List.length_map, d1010, e00, n00, c00, e11, n11, e22, n22, e55, n55, d12, d1000, dle, d1, d9]
        refine aCall_intro hSU ?_
        try simp only [go_sem, reduceCtorEq, ↓reduceIte, Nat.reduceEqDiff, Nat.reduceAdd, Nat.reduceMul, Nat.reduceSub, Nat.reduceLeDiff, Nat.reduceBEq, Int.reduceToNat, Int.reduceLE, Int.reduceLT, encC_sz, List.length_map, d1010, e00, n00, c00, e11, n11, e22, n22, e55, n55, d12, d1000, dle, d1, d9]
        refine aCall_intro hB ?_
        try simp only [go_sem, reduceCtorEq, ↓reduceIte, Nat.reduceEqDiff, Nat.reduceAdd, Nat.reduceMul, Nat.reduceSub, Nat.reduceLeDiff, Nat.reduceBEq, Int.reduceToNat, Int.reduceLE, Int.reduceLT, encC_sz, List.length_map, d1010, e00, n00, c00, e11, n11, e22, n22, e55, n55, d12, d1000, dle, d1, d9]
        refine aCall_intro hrB ?_
        try simp only [go_sem, reduceCtorEq, ↓reduceIte, Nat.reduceEqDiff, Nat.reduceAdd, Nat.reduceMul, Nat.reduceSub, Nat.reduceLeDiff, Nat.reduceBEq, Int.reduceToNat, Int.reduceLE, Int.reduceLT, encC_sz, List.length_map, d1010, e00, n00, c00, e11, n11, e22, n22, e55, n55, d12, d1000, dle, d1, d9]
        refine aCall_intro hSB ?_
        try simp only [go_sem, reduceCtorEq, ↓reduceIte, Nat.reduceEqDiff, Nat.reduceAdd, Nat.reduceMul, Nat.reduceSub, Nat.reduceLeDiff, Nat.reduceBEq, Int.reduceToNat, Int.reduceLE, Int.reduceLT, encC_sz, List.length_map, d1010, e00, n00, c00, e11, n11, e22, n22, e55, n55, d12, d1000, dle, d1, d9]
        refine aCall_intro hV ?_
        try simp only [go_sem, reduceCtorEq, ↓reduceIte, Nat.reduceEqDiff, Nat.reduceAdd, Nat.reduceMul, Nat.reduceSub, Nat.reduceLeDiff, Nat.reduceBEq, Int.reduceToNat, Int.reduceLE, Int.reduceLT, encC_sz, List.length_map, d1010, e00, n00, c00, e11, n11, e22, n22, e55, n55, d12, d1000, dle, d1, d9]
        refine aCall_intro hNo ?_
        try simp only [go_sem, reduceCtorEq, ↓reduceIte, Nat.reduceEqDiff, Nat.reduceAdd, Nat.reduceMul, Nat.reduceSub, Nat.reduceLeDiff, Nat.reduceBEq, Int.reduceToNat, Int.reduceLE, Int.reduceLT, encC_sz, List.length_map, d1010, e00, n00, c00, e11, n11, e22, n22, e55, n55, d12, d1000, dle, d1, d9]
        refine aCall_intro hVl ?_
        try simp only [go_sem, reduceCtorEq, ↓reduceIte, Nat.reduceEqDiff, Nat.reduceAdd, Nat.reduceMul, Nat.reduceSub, Nat.reduceLeDiff, Nat.reduceBEq, Int.reduceToNat, Int.reduceLE, Int.reduceLT, encC_sz, List.length_map, d1010, e00, n00, c00, e11, n11, e22, n22, e55, n55, d12, d1000, dle, d1, d9]
        refine aCall_intro hV ?_
        try simp only [go_sem, reduceCtorEq, ↓reduceIte, Nat.reduceEqDiff, Nat.reduceAdd, Nat.reduceMul, Nat.reduceSub, Nat.reduceLeDiff, Nat.reduceBEq, Int.reduceToNat, Int.reduceLE, Int.reduceLT, encC_sz, List.length_map, d1010, e00, n00, c00, e11, n11, e22, n22, e55, n55, d12, d1000, dle, d1, d9]
        refine aCall_intro hNo ?_
        try simp only [go_sem, reduceCtorEq, ↓reduceIte, Nat.reduceEqDiff, Nat.reduceAdd, Nat.reduceMul, Nat.reduceSub, Nat.reduceLeDiff, Nat.reduceBEq, Int.reduceToNat, Int.reduceLE, Int.reduceLT, encC_sz, List.length_map, d1010, e00, n00, c00, e11, n11, e22, n22, e55, n55, d12, d1000, dle, d1, d9]
        refine aCall_intro hNo ?_
        try simp only [go_sem, reduceCtorEq, ↓reduceIte, Nat.reduceEqDiff, Nat.reduceAdd, Nat.reduceMul, Nat.reduceSub, Nat.reduceLeDiff, Nat.reduceBEq, Int.reduceToNat, Int.reduceLE, Int.reduceLT, encC_sz, List.length_map, d1010, e00, n00, c00, e11, n11, e22, n22, e55, n55, d12, d1000, dle, d1, d9]
    | true =>
      rw [spineR, if_pos hv] at hSp
      rw [hv] at hV
      have hrS := (rSpine_spec c (validF_formed hv) (by omega)).1
      have hlen := (rSpine_spec c (validF_formed hv) (by omega)).2
      have hSH := rSame_spec (spineF c).1 (spineF c).1
      rw [eqC_refl] at hSH
      have hSA := SameAll_spec (spineF c).2 (spineF c).2 (by omega)
      rw [eqL_refl'] at hSA
      clear hlen
      cases ha : l.all validF with
      | false =>
        rw [appsF_bad (.inr ha)] at hAp
        rw [tupleR_bad ha] at hTu
        rw [ha] at hVl
        refine aCall_intro hAp ?_
        try simp only [go_sem, reduceCtorEq, ↓reduceIte, Nat.reduceEqDiff, Nat.reduceAdd, Nat.reduceMul, Nat.reduceSub, Nat.reduceLeDiff, Nat.reduceBEq, Int.reduceToNat, Int.reduceLE, Int.reduceLT, encC_sz, List.length_map, d1010, e00, n00, c00, e11, n11, e22, n22, e55, n55, d12, d1000, dle, d1, d9]
        refine aCall_intro hSp ?_
        try simp only [go_sem, reduceCtorEq, ↓reduceIte, Nat.reduceEqDiff, Nat.reduceAdd, Nat.reduceMul, Nat.reduceSub, Nat.reduceLeDiff, Nat.reduceBEq, Int.reduceToNat, Int.reduceLE, Int.reduceLT, encC_sz, List.length_map, d1010, e00, n00, c00, e11, n11, e22, n22, e55, n55, d12, d1000, dle, d1, d9]
        refine aCall_intro hTu ?_
        try simp only [go_sem, reduceCtorEq, ↓reduceIte, Nat.reduceEqDiff, Nat.reduceAdd, Nat.reduceMul, Nat.reduceSub, Nat.reduceLeDiff, Nat.reduceBEq, Int.reduceToNat, Int.reduceLE, Int.reduceLT, encC_sz, List.length_map, d1010, e00, n00, c00, e11, n11, e22, n22, e55, n55, d12, d1000, dle, d1, d9]
        refine aCall_intro hU ?_
        try simp only [go_sem, reduceCtorEq, ↓reduceIte, Nat.reduceEqDiff, Nat.reduceAdd, Nat.reduceMul, Nat.reduceSub, Nat.reduceLeDiff, Nat.reduceBEq, Int.reduceToNat, Int.reduceLE, Int.reduceLT, encC_sz, List.length_map, d1010, e00, n00, c00, e11, n11, e22, n22, e55, n55, d12, d1000, dle, d1, d9]
        refine aCall_intro hrU ?_
        try simp only [go_sem, reduceCtorEq, ↓reduceIte, Nat.reduceEqDiff, Nat.reduceAdd, Nat.reduceMul, Nat.reduceSub, Nat.reduceLeDiff, Nat.reduceBEq, Int.reduceToNat, Int.reduceLE, Int.reduceLT, encC_sz, List.length_map, d1010, e00, n00, c00, e11, n11, e22, n22, e55, n55, d12, d1000, dle, d1, d9]
        refine aCall_intro hSU ?_
        try simp only [go_sem, reduceCtorEq, ↓reduceIte, Nat.reduceEqDiff, Nat.reduceAdd, Nat.reduceMul, Nat.reduceSub, Nat.reduceLeDiff, Nat.reduceBEq, Int.reduceToNat, Int.reduceLE, Int.reduceLT, encC_sz, List.length_map, d1010, e00, n00, c00, e11, n11, e22, n22, e55, n55, d12, d1000, dle, d1, d9]
        refine aCall_intro hB ?_
        try simp only [go_sem, reduceCtorEq, ↓reduceIte, Nat.reduceEqDiff, Nat.reduceAdd, Nat.reduceMul, Nat.reduceSub, Nat.reduceLeDiff, Nat.reduceBEq, Int.reduceToNat, Int.reduceLE, Int.reduceLT, encC_sz, List.length_map, d1010, e00, n00, c00, e11, n11, e22, n22, e55, n55, d12, d1000, dle, d1, d9]
        refine aCall_intro hrB ?_
        try simp only [go_sem, reduceCtorEq, ↓reduceIte, Nat.reduceEqDiff, Nat.reduceAdd, Nat.reduceMul, Nat.reduceSub, Nat.reduceLeDiff, Nat.reduceBEq, Int.reduceToNat, Int.reduceLE, Int.reduceLT, encC_sz, List.length_map, d1010, e00, n00, c00, e11, n11, e22, n22, e55, n55, d12, d1000, dle, d1, d9]
        refine aCall_intro hSB ?_
        try simp only [go_sem, reduceCtorEq, ↓reduceIte, Nat.reduceEqDiff, Nat.reduceAdd, Nat.reduceMul, Nat.reduceSub, Nat.reduceLeDiff, Nat.reduceBEq, Int.reduceToNat, Int.reduceLE, Int.reduceLT, encC_sz, List.length_map, d1010, e00, n00, c00, e11, n11, e22, n22, e55, n55, d12, d1000, dle, d1, d9]
        refine aCall_intro hV ?_
        try simp only [go_sem, reduceCtorEq, ↓reduceIte, Nat.reduceEqDiff, Nat.reduceAdd, Nat.reduceMul, Nat.reduceSub, Nat.reduceLeDiff, Nat.reduceBEq, Int.reduceToNat, Int.reduceLE, Int.reduceLT, encC_sz, List.length_map, d1010, e00, n00, c00, e11, n11, e22, n22, e55, n55, d12, d1000, dle, d1, d9]
        refine aCall_intro hrS ?_
        try simp only [go_sem, reduceCtorEq, ↓reduceIte, Nat.reduceEqDiff, Nat.reduceAdd, Nat.reduceMul, Nat.reduceSub, Nat.reduceLeDiff, Nat.reduceBEq, Int.reduceToNat, Int.reduceLE, Int.reduceLT, encC_sz, List.length_map, d1010, e00, n00, c00, e11, n11, e22, n22, e55, n55, d12, d1000, dle, d1, d9]
        refine aCall_intro hSH ?_
        try simp only [go_sem, reduceCtorEq, ↓reduceIte, Nat.reduceEqDiff, Nat.reduceAdd, Nat.reduceMul, Nat.reduceSub, Nat.reduceLeDiff, Nat.reduceBEq, Int.reduceToNat, Int.reduceLE, Int.reduceLT, encC_sz, List.length_map, d1010, e00, n00, c00, e11, n11, e22, n22, e55, n55, d12, d1000, dle, d1, d9]
        refine aCall_intro hSA ?_
        try simp only [go_sem, reduceCtorEq, ↓reduceIte, Nat.reduceEqDiff, Nat.reduceAdd, Nat.reduceMul, Nat.reduceSub, Nat.reduceLeDiff, Nat.reduceBEq, Int.reduceToNat, Int.reduceLE, Int.reduceLT, encC_sz, List.length_map, d1010, e00, n00, c00, e11, n11, e22, n22, e55, n55, d12, d1000, dle, d1, d9]
        refine aCall_intro hVl ?_
        try simp only [go_sem, reduceCtorEq, ↓reduceIte, Nat.reduceEqDiff, Nat.reduceAdd, Nat.reduceMul, Nat.reduceSub, Nat.reduceLeDiff, Nat.reduceBEq, Int.reduceToNat, Int.reduceLE, Int.reduceLT, encC_sz, List.length_map, d1010, e00, n00, c00, e11, n11, e22, n22, e55, n55, d12, d1000, dle, d1, d9]
        refine aCall_intro hNo ?_
        try simp only [go_sem, reduceCtorEq, ↓reduceIte, Nat.reduceEqDiff, Nat.reduceAdd, Nat.reduceMul, Nat.reduceSub, Nat.reduceLeDiff, Nat.reduceBEq, Int.reduceToNat, Int.reduceLE, Int.reduceLT, encC_sz, List.length_map, d1010, e00, n00, c00, e11, n11, e22, n22, e55, n55, d12, d1000, dle, d1, d9]
        refine aCall_intro hNo ?_
        try simp only [go_sem, reduceCtorEq, ↓reduceIte, Nat.reduceEqDiff, Nat.reduceAdd, Nat.reduceMul, Nat.reduceSub, Nat.reduceLeDiff, Nat.reduceBEq, Int.reduceToNat, Int.reduceLE, Int.reduceLT, encC_sz, List.length_map, d1010, e00, n00, c00, e11, n11, e22, n22, e55, n55, d12, d1000, dle, d1, d9]
      | true =>
        rw [ha] at hVl
        rw [tupleR_len ha (.inr (by omega))] at hTu
        rw [appsF_long hv ha (by omega)] at hAp
        refine aCall_intro hAp ?_
        try simp only [go_sem, reduceCtorEq, ↓reduceIte, Nat.reduceEqDiff, Nat.reduceAdd, Nat.reduceMul, Nat.reduceSub, Nat.reduceLeDiff, Nat.reduceBEq, Int.reduceToNat, Int.reduceLE, Int.reduceLT, encC_sz, List.length_map, d1010, e00, n00, c00, e11, n11, e22, n22, e55, n55, d12, d1000, dle, d1, d9]
        refine aCall_intro hSp ?_
        try simp only [go_sem, reduceCtorEq, ↓reduceIte, Nat.reduceEqDiff, Nat.reduceAdd, Nat.reduceMul, Nat.reduceSub, Nat.reduceLeDiff, Nat.reduceBEq, Int.reduceToNat, Int.reduceLE, Int.reduceLT, encC_sz, List.length_map, d1010, e00, n00, c00, e11, n11, e22, n22, e55, n55, d12, d1000, dle, d1, d9]
        refine aCall_intro hTu ?_
        try simp only [go_sem, reduceCtorEq, ↓reduceIte, Nat.reduceEqDiff, Nat.reduceAdd, Nat.reduceMul, Nat.reduceSub, Nat.reduceLeDiff, Nat.reduceBEq, Int.reduceToNat, Int.reduceLE, Int.reduceLT, encC_sz, List.length_map, d1010, e00, n00, c00, e11, n11, e22, n22, e55, n55, d12, d1000, dle, d1, d9]
        refine aCall_intro hU ?_
        try simp only [go_sem, reduceCtorEq, ↓reduceIte, Nat.reduceEqDiff, Nat.reduceAdd, Nat.reduceMul, Nat.reduceSub, Nat.reduceLeDiff, Nat.reduceBEq, Int.reduceToNat, Int.reduceLE, Int.reduceLT, encC_sz, List.length_map, d1010, e00, n00, c00, e11, n11, e22, n22, e55, n55, d12, d1000, dle, d1, d9]
        refine aCall_intro hrU ?_
        try simp only [go_sem, reduceCtorEq, ↓reduceIte, Nat.reduceEqDiff, Nat.reduceAdd, Nat.reduceMul, Nat.reduceSub, Nat.reduceLeDiff, Nat.reduceBEq, Int.reduceToNat, Int.reduceLE, Int.reduceLT, encC_sz, List.length_map, d1010, e00, n00, c00, e11, n11, e22, n22, e55, n55, d12, d1000, dle, d1, d9]
        refine aCall_intro hSU ?_
        try simp only [go_sem, reduceCtorEq, ↓reduceIte, Nat.reduceEqDiff, Nat.reduceAdd, Nat.reduceMul, Nat.reduceSub, Nat.reduceLeDiff, Nat.reduceBEq, Int.reduceToNat, Int.reduceLE, Int.reduceLT, encC_sz, List.length_map, d1010, e00, n00, c00, e11, n11, e22, n22, e55, n55, d12, d1000, dle, d1, d9]
        refine aCall_intro hB ?_
        try simp only [go_sem, reduceCtorEq, ↓reduceIte, Nat.reduceEqDiff, Nat.reduceAdd, Nat.reduceMul, Nat.reduceSub, Nat.reduceLeDiff, Nat.reduceBEq, Int.reduceToNat, Int.reduceLE, Int.reduceLT, encC_sz, List.length_map, d1010, e00, n00, c00, e11, n11, e22, n22, e55, n55, d12, d1000, dle, d1, d9]
        refine aCall_intro hrB ?_
        try simp only [go_sem, reduceCtorEq, ↓reduceIte, Nat.reduceEqDiff, Nat.reduceAdd, Nat.reduceMul, Nat.reduceSub, Nat.reduceLeDiff, Nat.reduceBEq, Int.reduceToNat, Int.reduceLE, Int.reduceLT, encC_sz, List.length_map, d1010, e00, n00, c00, e11, n11, e22, n22, e55, n55, d12, d1000, dle, d1, d9]
        refine aCall_intro hSB ?_
        try simp only [go_sem, reduceCtorEq, ↓reduceIte, Nat.reduceEqDiff, Nat.reduceAdd, Nat.reduceMul, Nat.reduceSub, Nat.reduceLeDiff, Nat.reduceBEq, Int.reduceToNat, Int.reduceLE, Int.reduceLT, encC_sz, List.length_map, d1010, e00, n00, c00, e11, n11, e22, n22, e55, n55, d12, d1000, dle, d1, d9]
        refine aCall_intro hV ?_
        try simp only [go_sem, reduceCtorEq, ↓reduceIte, Nat.reduceEqDiff, Nat.reduceAdd, Nat.reduceMul, Nat.reduceSub, Nat.reduceLeDiff, Nat.reduceBEq, Int.reduceToNat, Int.reduceLE, Int.reduceLT, encC_sz, List.length_map, d1010, e00, n00, c00, e11, n11, e22, n22, e55, n55, d12, d1000, dle, d1, d9]
        refine aCall_intro hrS ?_
        try simp only [go_sem, reduceCtorEq, ↓reduceIte, Nat.reduceEqDiff, Nat.reduceAdd, Nat.reduceMul, Nat.reduceSub, Nat.reduceLeDiff, Nat.reduceBEq, Int.reduceToNat, Int.reduceLE, Int.reduceLT, encC_sz, List.length_map, d1010, e00, n00, c00, e11, n11, e22, n22, e55, n55, d12, d1000, dle, d1, d9]
        refine aCall_intro hSH ?_
        try simp only [go_sem, reduceCtorEq, ↓reduceIte, Nat.reduceEqDiff, Nat.reduceAdd, Nat.reduceMul, Nat.reduceSub, Nat.reduceLeDiff, Nat.reduceBEq, Int.reduceToNat, Int.reduceLE, Int.reduceLT, encC_sz, List.length_map, d1010, e00, n00, c00, e11, n11, e22, n22, e55, n55, d12, d1000, dle, d1, d9]
        refine aCall_intro hSA ?_
        try simp only [go_sem, reduceCtorEq, ↓reduceIte, Nat.reduceEqDiff, Nat.reduceAdd, Nat.reduceMul, Nat.reduceSub, Nat.reduceLeDiff, Nat.reduceBEq, Int.reduceToNat, Int.reduceLE, Int.reduceLT, encC_sz, List.length_map, d1010, e00, n00, c00, e11, n11, e22, n22, e55, n55, d12, d1000, dle, d1, d9]
        refine aCall_intro hVl ?_
        try simp only [go_sem, reduceCtorEq, ↓reduceIte, Nat.reduceEqDiff, Nat.reduceAdd, Nat.reduceMul, Nat.reduceSub, Nat.reduceLeDiff, Nat.reduceBEq, Int.reduceToNat, Int.reduceLE, Int.reduceLT, encC_sz, List.length_map, d1010, e00, n00, c00, e11, n11, e22, n22, e55, n55, d12, d1000, dle, d1, d9]
        refine aCall_intro hV ?_
        try simp only [go_sem, reduceCtorEq, ↓reduceIte, Nat.reduceEqDiff, Nat.reduceAdd, Nat.reduceMul, Nat.reduceSub, Nat.reduceLeDiff, Nat.reduceBEq, Int.reduceToNat, Int.reduceLE, Int.reduceLT, encC_sz, List.length_map, d1010, e00, n00, c00, e11, n11, e22, n22, e55, n55, d12, d1000, dle, d1, d9]
        refine aCall_intro hNo ?_
        try simp only [go_sem, reduceCtorEq, ↓reduceIte, Nat.reduceEqDiff, Nat.reduceAdd, Nat.reduceMul, Nat.reduceSub, Nat.reduceLeDiff, Nat.reduceBEq, Int.reduceToNat, Int.reduceLE, Int.reduceLT, encC_sz, List.length_map, d1010, e00, n00, c00, e11, n11, e22, n22, e55, n55, d12, d1000, dle, d1, d9]
        refine aCall_intro hNo ?_
        try simp only [go_sem, reduceCtorEq, ↓reduceIte, Nat.reduceEqDiff, Nat.reduceAdd, Nat.reduceMul, Nat.reduceSub, Nat.reduceLeDiff, Nat.reduceBEq, Int.reduceToNat, Int.reduceLE, Int.reduceLT, encC_sz, List.length_map, d1010, e00, n00, c00, e11, n11, e22, n22, e55, n55, d12, d1000, dle, d1, d9]
  · have d12 : decide ((l.length : Int) > 12) = false := decide_eq_false (by omega)
    have dle : decide ((l.length : Int) ≤ 1000) = true := decide_eq_true (by omega)
    have d1000 : decide ((l.length : Int) > 1000) = false := decide_eq_false hlong
    simp only [go_sem, reduceCtorEq, ↓reduceIte, Nat.reduceEqDiff, Nat.reduceAdd, Nat.reduceMul, Nat.reduceSub, Nat.reduceLeDiff, Nat.reduceBEq, Int.reduceToNat, Int.reduceLE, Int.reduceLT, List.length_map, d12, dle, d1010]
    refine aCall_intro hSl ?_
    cases hl : l.any bigP with
    | true =>
      simp only [go_sem, reduceCtorEq, ↓reduceIte, Nat.reduceEqDiff, Nat.reduceAdd, Nat.reduceMul, Nat.reduceSub, Nat.reduceLeDiff, Nat.reduceBEq, Int.reduceToNat, Int.reduceLE, Int.reduceLT]
      refine aCall_intro hAw ?_
      simp only [go_sem, reduceCtorEq, ↓reduceIte, Nat.reduceEqDiff, Nat.reduceAdd, Nat.reduceMul, Nat.reduceSub, Nat.reduceLeDiff, Nat.reduceBEq, Int.reduceToNat, Int.reduceLE, Int.reduceLT]
    | false =>
    have hlt := hlt hl
    have hVl := rValidAll_spec l fun x hx => (hlt x hx).2
    have hAp := Apps_spec c l (by omega) hcs (fun x hx => ⟨by have := (hlt x hx).1; omega, (hlt x hx).2⟩) (by omega)
    have hTu := Tuple_spec l (fun x hx => ⟨by have := (hlt x hx).1; omega, (hlt x hx).2⟩) (by omega)
    simp only [go_sem, reduceCtorEq, ↓reduceIte, Nat.reduceEqDiff, Nat.reduceAdd, Nat.reduceMul, Nat.reduceSub, Nat.reduceLeDiff, Nat.reduceBEq, Int.reduceToNat, Int.reduceLE, Int.reduceLT, encC_sz]
    cases hv : validF c with
    | false =>
      rw [spineR, if_neg (by rw [hv]; simp)] at hSp
      rw [appsF_bad (.inl hv)] at hAp
      rw [hv] at hV
      cases ha : l.all validF with
      | false =>
        rw [tupleR_bad ha] at hTu
        rw [ha] at hVl
        refine aCall_intro hAp ?_
        try simp only [go_sem, reduceCtorEq, ↓reduceIte, Nat.reduceEqDiff, Nat.reduceAdd, Nat.reduceMul, Nat.reduceSub, Nat.reduceLeDiff, Nat.reduceBEq, Int.reduceToNat, Int.reduceLE, Int.reduceLT, encC_sz, List.length_map, d1010, e00, n00, c00, e11, n11, e22, n22, e55, n55, d12, d1000, dle]
        refine aCall_intro hSp ?_
        try simp only [go_sem, reduceCtorEq, ↓reduceIte, Nat.reduceEqDiff, Nat.reduceAdd, Nat.reduceMul, Nat.reduceSub, Nat.reduceLeDiff, Nat.reduceBEq, Int.reduceToNat, Int.reduceLE, Int.reduceLT, encC_sz, List.length_map, d1010, e00, n00, c00, e11, n11, e22, n22, e55, n55, d12, d1000, dle]
        refine aCall_intro hTu ?_
        try simp only [go_sem, reduceCtorEq, ↓reduceIte, Nat.reduceEqDiff, Nat.reduceAdd, Nat.reduceMul, Nat.reduceSub, Nat.reduceLeDiff, Nat.reduceBEq, Int.reduceToNat, Int.reduceLE, Int.reduceLT, encC_sz, List.length_map, d1010, e00, n00, c00, e11, n11, e22, n22, e55, n55, d12, d1000, dle]
        refine aCall_intro hU ?_
        try simp only [go_sem, reduceCtorEq, ↓reduceIte, Nat.reduceEqDiff, Nat.reduceAdd, Nat.reduceMul, Nat.reduceSub, Nat.reduceLeDiff, Nat.reduceBEq, Int.reduceToNat, Int.reduceLE, Int.reduceLT, encC_sz, List.length_map, d1010, e00, n00, c00, e11, n11, e22, n22, e55, n55, d12, d1000, dle]
        refine aCall_intro hrU ?_
        try simp only [go_sem, reduceCtorEq, ↓reduceIte, Nat.reduceEqDiff, Nat.reduceAdd, Nat.reduceMul, Nat.reduceSub, Nat.reduceLeDiff, Nat.reduceBEq, Int.reduceToNat, Int.reduceLE, Int.reduceLT, encC_sz, List.length_map, d1010, e00, n00, c00, e11, n11, e22, n22, e55, n55, d12, d1000, dle]
        refine aCall_intro hSU ?_
        try simp only [go_sem, reduceCtorEq, ↓reduceIte, Nat.reduceEqDiff, Nat.reduceAdd, Nat.reduceMul, Nat.reduceSub, Nat.reduceLeDiff, Nat.reduceBEq, Int.reduceToNat, Int.reduceLE, Int.reduceLT, encC_sz, List.length_map, d1010, e00, n00, c00, e11, n11, e22, n22, e55, n55, d12, d1000, dle]
        refine aCall_intro hB ?_
        try simp only [go_sem, reduceCtorEq, ↓reduceIte, Nat.reduceEqDiff, Nat.reduceAdd, Nat.reduceMul, Nat.reduceSub, Nat.reduceLeDiff, Nat.reduceBEq, Int.reduceToNat, Int.reduceLE, Int.reduceLT, encC_sz, List.length_map, d1010, e00, n00, c00, e11, n11, e22, n22, e55, n55, d12, d1000, dle]
        refine aCall_intro hrB ?_
        try simp only [go_sem, reduceCtorEq, ↓reduceIte, Nat.reduceEqDiff, Nat.reduceAdd, Nat.reduceMul, Nat.reduceSub, Nat.reduceLeDiff, Nat.reduceBEq, Int.reduceToNat, Int.reduceLE, Int.reduceLT, encC_sz, List.length_map, d1010, e00, n00, c00, e11, n11, e22, n22, e55, n55, d12, d1000, dle]
        refine aCall_intro hSB ?_
        try simp only [go_sem, reduceCtorEq, ↓reduceIte, Nat.reduceEqDiff, Nat.reduceAdd, Nat.reduceMul, Nat.reduceSub, Nat.reduceLeDiff, Nat.reduceBEq, Int.reduceToNat, Int.reduceLE, Int.reduceLT, encC_sz, List.length_map, d1010, e00, n00, c00, e11, n11, e22, n22, e55, n55, d12, d1000, dle]
        refine aCall_intro hV ?_
        try simp only [go_sem, reduceCtorEq, ↓reduceIte, Nat.reduceEqDiff, Nat.reduceAdd, Nat.reduceMul, Nat.reduceSub, Nat.reduceLeDiff, Nat.reduceBEq, Int.reduceToNat, Int.reduceLE, Int.reduceLT, encC_sz, List.length_map, d1010, e00, n00, c00, e11, n11, e22, n22, e55, n55, d12, d1000, dle]
        refine aCall_intro hNo ?_
        try simp only [go_sem, reduceCtorEq, ↓reduceIte, Nat.reduceEqDiff, Nat.reduceAdd, Nat.reduceMul, Nat.reduceSub, Nat.reduceLeDiff, Nat.reduceBEq, Int.reduceToNat, Int.reduceLE, Int.reduceLT, encC_sz, List.length_map, d1010, e00, n00, c00, e11, n11, e22, n22, e55, n55, d12, d1000, dle]
        refine aCall_intro hVl ?_
        try simp only [go_sem, reduceCtorEq, ↓reduceIte, Nat.reduceEqDiff, Nat.reduceAdd, Nat.reduceMul, Nat.reduceSub, Nat.reduceLeDiff, Nat.reduceBEq, Int.reduceToNat, Int.reduceLE, Int.reduceLT, encC_sz, List.length_map, d1010, e00, n00, c00, e11, n11, e22, n22, e55, n55, d12, d1000, dle]
        refine aCall_intro hNo ?_
        try simp only [go_sem, reduceCtorEq, ↓reduceIte, Nat.reduceEqDiff, Nat.reduceAdd, Nat.reduceMul, Nat.reduceSub, Nat.reduceLeDiff, Nat.reduceBEq, Int.reduceToNat, Int.reduceLE, Int.reduceLT, encC_sz, List.length_map, d1010, e00, n00, c00, e11, n11, e22, n22, e55, n55, d12, d1000, dle]
        refine aCall_intro hNo ?_
        try simp only [go_sem, reduceCtorEq, ↓reduceIte, Nat.reduceEqDiff, Nat.reduceAdd, Nat.reduceMul, Nat.reduceSub, Nat.reduceLeDiff, Nat.reduceBEq, Int.reduceToNat, Int.reduceLE, Int.reduceLT, encC_sz, List.length_map, d1010, e00, n00, c00, e11, n11, e22, n22, e55, n55, d12, d1000, dle]
      | true =>
        rw [ha] at hVl
        by_cases hn : l.length = 1 ∨ l.length > 9
        · rw [tupleR_len ha hn] at hTu
          by_cases hn1 : l.length = 1
          · have d1 : ((l.length : Int) == 1) = true := by rw [beq_iff_eq]; omega
            have d9 : decide ((l.length : Int) > 9) = false := decide_eq_false (by omega)
            refine aCall_intro hAp ?_
            try simp only [go_sem, reduceCtorEq, ↓reduceIte, Nat.reduceEqDiff, Nat.reduceAdd, Nat.reduceMul, Nat.reduceSub, Nat.reduceLeDiff, Nat.reduceBEq, Int.reduceToNat, Int.reduceLE, Int.reduceLT, encC_sz, List.length_map, d1010, e00, n00, c00, e11, n11, e22, n22, e55, n55, d12, d1000, dle, d1, d9]
            refine aCall_intro hSp ?_
            try simp only [go_sem, reduceCtorEq, ↓reduceIte, Nat.reduceEqDiff, Nat.reduceAdd, Nat.reduceMul, Nat.reduceSub, Nat.reduceLeDiff, Nat.reduceBEq, Int.reduceToNat, Int.reduceLE, Int.reduceLT, encC_sz, List.length_map, d1010, e00, n00, c00, e11, n11, e22, n22, e55, n55, d12, d1000, dle, d1, d9]
            refine aCall_intro hTu ?_
            try simp only [go_sem, reduceCtorEq, ↓reduceIte, Nat.reduceEqDiff, Nat.reduceAdd, Nat.reduceMul, Nat.reduceSub, Nat.reduceLeDiff, Nat.reduceBEq, Int.reduceToNat, Int.reduceLE, Int.reduceLT, encC_sz, List.length_map, d1010, e00, n00, c00, e11, n11, e22, n22, e55, n55, d12, d1000, dle, d1, d9]
            refine aCall_intro hU ?_
            try simp only [go_sem, reduceCtorEq, ↓reduceIte, Nat.reduceEqDiff, Nat.reduceAdd, Nat.reduceMul, Nat.reduceSub, Nat.reduceLeDiff, Nat.reduceBEq, Int.reduceToNat, Int.reduceLE, Int.reduceLT, encC_sz, List.length_map, d1010, e00, n00, c00, e11, n11, e22, n22, e55, n55, d12, d1000, dle, d1, d9]
            refine aCall_intro hrU ?_
            try simp only [go_sem, reduceCtorEq, ↓reduceIte, Nat.reduceEqDiff, Nat.reduceAdd, Nat.reduceMul, Nat.reduceSub, Nat.reduceLeDiff, Nat.reduceBEq, Int.reduceToNat, Int.reduceLE, Int.reduceLT, encC_sz, List.length_map, d1010, e00, n00, c00, e11, n11, e22, n22, e55, n55, d12, d1000, dle, d1, d9]
            refine aCall_intro hSU ?_
            try simp only [go_sem, reduceCtorEq, ↓reduceIte, Nat.reduceEqDiff, Nat.reduceAdd, Nat.reduceMul, Nat.reduceSub, Nat.reduceLeDiff, Nat.reduceBEq, Int.reduceToNat, Int.reduceLE, Int.reduceLT, encC_sz, List.length_map, d1010, e00, n00, c00, e11, n11, e22, n22, e55, n55, d12, d1000, dle, d1, d9]
            refine aCall_intro hB ?_
            try simp only [go_sem, reduceCtorEq, ↓reduceIte, Nat.reduceEqDiff, Nat.reduceAdd, Nat.reduceMul, Nat.reduceSub, Nat.reduceLeDiff, Nat.reduceBEq, Int.reduceToNat, Int.reduceLE, Int.reduceLT, encC_sz, List.length_map, d1010, e00, n00, c00, e11, n11, e22, n22, e55, n55, d12, d1000, dle, d1, d9]
            refine aCall_intro hrB ?_
            try simp only [go_sem, reduceCtorEq, ↓reduceIte, Nat.reduceEqDiff, Nat.reduceAdd, Nat.reduceMul, Nat.reduceSub, Nat.reduceLeDiff, Nat.reduceBEq, Int.reduceToNat, Int.reduceLE, Int.reduceLT, encC_sz, List.length_map, d1010, e00, n00, c00, e11, n11, e22, n22, e55, n55, d12, d1000, dle, d1, d9]
            refine aCall_intro hSB ?_
            try simp only [go_sem, reduceCtorEq, ↓reduceIte, Nat.reduceEqDiff, Nat.reduceAdd, Nat.reduceMul, Nat.reduceSub, Nat.reduceLeDiff, Nat.reduceBEq, Int.reduceToNat, Int.reduceLE, Int.reduceLT, encC_sz, List.length_map, d1010, e00, n00, c00, e11, n11, e22, n22, e55, n55, d12, d1000, dle, d1, d9]
            refine aCall_intro hV ?_
            try simp only [go_sem, reduceCtorEq, ↓reduceIte, Nat.reduceEqDiff, Nat.reduceAdd, Nat.reduceMul, Nat.reduceSub, Nat.reduceLeDiff, Nat.reduceBEq, Int.reduceToNat, Int.reduceLE, Int.reduceLT, encC_sz, List.length_map, d1010, e00, n00, c00, e11, n11, e22, n22, e55, n55, d12, d1000, dle, d1, d9]
            refine aCall_intro hNo ?_
            try simp only [go_sem, reduceCtorEq, ↓reduceIte, Nat.reduceEqDiff, Nat.reduceAdd, Nat.reduceMul, Nat.reduceSub, Nat.reduceLeDiff, Nat.reduceBEq, Int.reduceToNat, Int.reduceLE, Int.reduceLT, encC_sz, List.length_map, d1010, e00, n00, c00, e11, n11, e22, n22, e55, n55, d12, d1000, dle, d1, d9]
            refine aCall_intro hVl ?_
            try simp only [go_sem, reduceCtorEq, ↓reduceIte, Nat.reduceEqDiff, Nat.reduceAdd, Nat.reduceMul, Nat.reduceSub, Nat.reduceLeDiff, Nat.reduceBEq, Int.reduceToNat, Int.reduceLE, Int.reduceLT, encC_sz, List.length_map, d1010, e00, n00, c00, e11, n11, e22, n22, e55, n55, d12, d1000, dle, d1, d9]
            refine aCall_intro hV ?_
            try simp only [go_sem, reduceCtorEq, ↓reduceIte, Nat.reduceEqDiff, Nat.reduceAdd, Nat.reduceMul, Nat.reduceSub, Nat.reduceLeDiff, Nat.reduceBEq, Int.reduceToNat, Int.reduceLE, Int.reduceLT, encC_sz, List.length_map, d1010, e00, n00, c00, e11, n11, e22, n22, e55, n55, d12, d1000, dle, d1, d9]
            refine aCall_intro hNo ?_
            try simp only [go_sem, reduceCtorEq, ↓reduceIte, Nat.reduceEqDiff, Nat.reduceAdd, Nat.reduceMul, Nat.reduceSub, Nat.reduceLeDiff, Nat.reduceBEq, Int.reduceToNat, Int.reduceLE, Int.reduceLT, encC_sz, List.length_map, d1010, e00, n00, c00, e11, n11, e22, n22, e55, n55, d12, d1000, dle, d1, d9]
            refine aCall_intro hNo ?_
            try simp only [go_sem, reduceCtorEq, ↓reduceIte, Nat.reduceEqDiff, Nat.reduceAdd, Nat.reduceMul, Nat.reduceSub, Nat.reduceLeDiff, Nat.reduceBEq, Int.reduceToNat, Int.reduceLE, Int.reduceLT, encC_sz, List.length_map, d1010, e00, n00, c00, e11, n11, e22, n22, e55, n55, d12, d1000, dle, d1, d9]
          · have d1 : ((l.length : Int) == 1) = false := by rw [beq_eq_false_iff_ne]; omega
            have d9 : decide ((l.length : Int) > 9) = true := decide_eq_true (by omega)
            refine aCall_intro hAp ?_
            try simp only [go_sem, reduceCtorEq, ↓reduceIte, Nat.reduceEqDiff, Nat.reduceAdd, Nat.reduceMul, Nat.reduceSub, Nat.reduceLeDiff, Nat.reduceBEq, Int.reduceToNat, Int.reduceLE, Int.reduceLT, encC_sz, List.length_map, d1010, e00, n00, c00, e11, n11, e22, n22, e55, n55, d12, d1000, dle, d1, d9]
            refine aCall_intro hSp ?_
            try simp only [go_sem, reduceCtorEq, ↓reduceIte, Nat.reduceEqDiff, Nat.reduceAdd, Nat.reduceMul, Nat.reduceSub, Nat.reduceLeDiff, Nat.reduceBEq, Int.reduceToNat, Int.reduceLE, Int.reduceLT, encC_sz, List.length_map, d1010, e00, n00, c00, e11, n11, e22, n22, e55, n55, d12, d1000, dle, d1, d9]
            refine aCall_intro hTu ?_
            try simp only [go_sem, reduceCtorEq, ↓reduceIte, Nat.reduceEqDiff, Nat.reduceAdd, Nat.reduceMul, Nat.reduceSub, Nat.reduceLeDiff, Nat.reduceBEq, Int.reduceToNat, Int.reduceLE, Int.reduceLT, encC_sz, List.length_map, d1010, e00, n00, c00, e11, n11, e22, n22, e55, n55, d12, d1000, dle, d1, d9]
            refine aCall_intro hU ?_
            try simp only [go_sem, reduceCtorEq, ↓reduceIte, Nat.reduceEqDiff, Nat.reduceAdd, Nat.reduceMul, Nat.reduceSub, Nat.reduceLeDiff, Nat.reduceBEq, Int.reduceToNat, Int.reduceLE, Int.reduceLT, encC_sz, List.length_map, d1010, e00, n00, c00, e11, n11, e22, n22, e55, n55, d12, d1000, dle, d1, d9]
            refine aCall_intro hrU ?_
            try simp only [go_sem, reduceCtorEq, ↓reduceIte, Nat.reduceEqDiff, Nat.reduceAdd, Nat.reduceMul, Nat.reduceSub, Nat.reduceLeDiff, Nat.reduceBEq, Int.reduceToNat, Int.reduceLE, Int.reduceLT, encC_sz, List.length_map, d1010, e00, n00, c00, e11, n11, e22, n22, e55, n55, d12, d1000, dle, d1, d9]
            refine aCall_intro hSU ?_
            try simp only [go_sem, reduceCtorEq, ↓reduceIte, Nat.reduceEqDiff, Nat.reduceAdd, Nat.reduceMul, Nat.reduceSub, Nat.reduceLeDiff, Nat.reduceBEq, Int.reduceToNat, Int.reduceLE, Int.reduceLT, encC_sz, List.length_map, d1010, e00, n00, c00, e11, n11, e22, n22, e55, n55, d12, d1000, dle, d1, d9]
            refine aCall_intro hB ?_
            try simp only [go_sem, reduceCtorEq, ↓reduceIte, Nat.reduceEqDiff, Nat.reduceAdd, Nat.reduceMul, Nat.reduceSub, Nat.reduceLeDiff, Nat.reduceBEq, Int.reduceToNat, Int.reduceLE, Int.reduceLT, encC_sz, List.length_map, d1010, e00, n00, c00, e11, n11, e22, n22, e55, n55, d12, d1000, dle, d1, d9]
            refine aCall_intro hrB ?_
            try simp only [go_sem, reduceCtorEq, ↓reduceIte, Nat.reduceEqDiff, Nat.reduceAdd, Nat.reduceMul, Nat.reduceSub, Nat.reduceLeDiff, Nat.reduceBEq, Int.reduceToNat, Int.reduceLE, Int.reduceLT, encC_sz, List.length_map, d1010, e00, n00, c00, e11, n11, e22, n22, e55, n55, d12, d1000, dle, d1, d9]
            refine aCall_intro hSB ?_
            try simp only [go_sem, reduceCtorEq, ↓reduceIte, Nat.reduceEqDiff, Nat.reduceAdd, Nat.reduceMul, Nat.reduceSub, Nat.reduceLeDiff, Nat.reduceBEq, Int.reduceToNat, Int.reduceLE, Int.reduceLT, encC_sz, List.length_map, d1010, e00, n00, c00, e11, n11, e22, n22, e55, n55, d12, d1000, dle, d1, d9]
            refine aCall_intro hV ?_
            try simp only [go_sem, reduceCtorEq, ↓reduceIte, Nat.reduceEqDiff, Nat.reduceAdd, Nat.reduceMul, Nat.reduceSub, Nat.reduceLeDiff, Nat.reduceBEq, Int.reduceToNat, Int.reduceLE, Int.reduceLT, encC_sz, List.length_map, d1010, e00, n00, c00, e11, n11, e22, n22, e55, n55, d12, d1000, dle, d1, d9]
            refine aCall_intro hNo ?_
            try simp only [go_sem, reduceCtorEq, ↓reduceIte, Nat.reduceEqDiff, Nat.reduceAdd, Nat.reduceMul, Nat.reduceSub, Nat.reduceLeDiff, Nat.reduceBEq, Int.reduceToNat, Int.reduceLE, Int.reduceLT, encC_sz, List.length_map, d1010, e00, n00, c00, e11, n11, e22, n22, e55, n55, d12, d1000, dle, d1, d9]
            refine aCall_intro hVl ?_
            try simp only [go_sem, reduceCtorEq, ↓reduceIte, Nat.reduceEqDiff, Nat.reduceAdd, Nat.reduceMul, Nat.reduceSub, Nat.reduceLeDiff, Nat.reduceBEq, Int.reduceToNat, Int.reduceLE, Int.reduceLT, encC_sz, List.length_map, d1010, e00, n00, c00, e11, n11, e22, n22, e55, n55, d12, d1000, dle, d1, d9]
            refine aCall_intro hV ?_
            try simp only [go_sem, reduceCtorEq, ↓reduceIte, Nat.reduceEqDiff, Nat.reduceAdd, Nat.reduceMul, Nat.reduceSub, Nat.reduceLeDiff, Nat.reduceBEq, Int.reduceToNat, Int.reduceLE, Int.reduceLT, encC_sz, List.length_map, d1010, e00, n00, c00, e11, n11, e22, n22, e55, n55, d12, d1000, dle, d1, d9]
            refine aCall_intro hNo ?_
            try simp only [go_sem, reduceCtorEq, ↓reduceIte, Nat.reduceEqDiff, Nat.reduceAdd, Nat.reduceMul, Nat.reduceSub, Nat.reduceLeDiff, Nat.reduceBEq, Int.reduceToNat, Int.reduceLE, Int.reduceLT, encC_sz, List.length_map, d1010, e00, n00, c00, e11, n11, e22, n22, e55, n55, d12, d1000, dle, d1, d9]
            refine aCall_intro hNo ?_
            try simp only [go_sem, reduceCtorEq, ↓reduceIte, Nat.reduceEqDiff, Nat.reduceAdd, Nat.reduceMul, Nat.reduceSub, Nat.reduceLeDiff, Nat.reduceBEq, Int.reduceToNat, Int.reduceLE, Int.reduceLT, encC_sz, List.length_map, d1010, e00, n00, c00, e11, n11, e22, n22, e55, n55, d12, d1000, dle, d1, d9]
        · have d1 : ((l.length : Int) == 1) = false := by rw [beq_eq_false_iff_ne]; omega
          have d9 : decide ((l.length : Int) > 9) = false := decide_eq_false (by omega)
          have hrT := rTuple_spec l (by omega)
          have hAnT := answer_spec (tupleR l).1 (tupleR l).2 (tupleF l) (okS_tuple fun x hx => (hlt x hx).2)
          rw [tuple_answer l ha hn] at hAnT
          refine aCall_intro hAp ?_
          try simp only [go_sem, reduceCtorEq, ↓reduceIte, Nat.reduceEqDiff, Nat.reduceAdd, Nat.reduceMul, Nat.reduceSub, Nat.reduceLeDiff, Nat.reduceBEq, Int.reduceToNat, Int.reduceLE, Int.reduceLT, encC_sz, List.length_map, d1010, e00, n00, c00, e11, n11, e22, n22, e55, n55, d12, d1000, dle, d1, d9]
          refine aCall_intro hSp ?_
          try simp only [go_sem, reduceCtorEq, ↓reduceIte, Nat.reduceEqDiff, Nat.reduceAdd, Nat.reduceMul, Nat.reduceSub, Nat.reduceLeDiff, Nat.reduceBEq, Int.reduceToNat, Int.reduceLE, Int.reduceLT, encC_sz, List.length_map, d1010, e00, n00, c00, e11, n11, e22, n22, e55, n55, d12, d1000, dle, d1, d9]
          refine aCall_intro hTu ?_
          try simp only [go_sem, reduceCtorEq, ↓reduceIte, Nat.reduceEqDiff, Nat.reduceAdd, Nat.reduceMul, Nat.reduceSub, Nat.reduceLeDiff, Nat.reduceBEq, Int.reduceToNat, Int.reduceLE, Int.reduceLT, encC_sz, List.length_map, d1010, e00, n00, c00, e11, n11, e22, n22, e55, n55, d12, d1000, dle, d1, d9]
          refine aCall_intro hU ?_
          try simp only [go_sem, reduceCtorEq, ↓reduceIte, Nat.reduceEqDiff, Nat.reduceAdd, Nat.reduceMul, Nat.reduceSub, Nat.reduceLeDiff, Nat.reduceBEq, Int.reduceToNat, Int.reduceLE, Int.reduceLT, encC_sz, List.length_map, d1010, e00, n00, c00, e11, n11, e22, n22, e55, n55, d12, d1000, dle, d1, d9]
          refine aCall_intro hrU ?_
          try simp only [go_sem, reduceCtorEq, ↓reduceIte, Nat.reduceEqDiff, Nat.reduceAdd, Nat.reduceMul, Nat.reduceSub, Nat.reduceLeDiff, Nat.reduceBEq, Int.reduceToNat, Int.reduceLE, Int.reduceLT, encC_sz, List.length_map, d1010, e00, n00, c00, e11, n11, e22, n22, e55, n55, d12, d1000, dle, d1, d9]
          refine aCall_intro hSU ?_
          try simp only [go_sem, reduceCtorEq, ↓reduceIte, Nat.reduceEqDiff, Nat.reduceAdd, Nat.reduceMul, Nat.reduceSub, Nat.reduceLeDiff, Nat.reduceBEq, Int.reduceToNat, Int.reduceLE, Int.reduceLT, encC_sz, List.length_map, d1010, e00, n00, c00, e11, n11, e22, n22, e55, n55, d12, d1000, dle, d1, d9]
          refine aCall_intro hB ?_
          try simp only [go_sem, reduceCtorEq, ↓reduceIte, Nat.reduceEqDiff, Nat.reduceAdd, Nat.reduceMul, Nat.reduceSub, Nat.reduceLeDiff, Nat.reduceBEq, Int.reduceToNat, Int.reduceLE, Int.reduceLT, encC_sz, List.length_map, d1010, e00, n00, c00, e11, n11, e22, n22, e55, n55, d12, d1000, dle, d1, d9]
          refine aCall_intro hrB ?_
          try simp only [go_sem, reduceCtorEq, ↓reduceIte, Nat.reduceEqDiff, Nat.reduceAdd, Nat.reduceMul, Nat.reduceSub, Nat.reduceLeDiff, Nat.reduceBEq, Int.reduceToNat, Int.reduceLE, Int.reduceLT, encC_sz, List.length_map, d1010, e00, n00, c00, e11, n11, e22, n22, e55, n55, d12, d1000, dle, d1, d9]
          refine aCall_intro hSB ?_
          try simp only [go_sem, reduceCtorEq, ↓reduceIte, Nat.reduceEqDiff, Nat.reduceAdd, Nat.reduceMul, Nat.reduceSub, Nat.reduceLeDiff, Nat.reduceBEq, Int.reduceToNat, Int.reduceLE, Int.reduceLT, encC_sz, List.length_map, d1010, e00, n00, c00, e11, n11, e22, n22, e55, n55, d12, d1000, dle, d1, d9]
          refine aCall_intro hV ?_
          try simp only [go_sem, reduceCtorEq, ↓reduceIte, Nat.reduceEqDiff, Nat.reduceAdd, Nat.reduceMul, Nat.reduceSub, Nat.reduceLeDiff, Nat.reduceBEq, Int.reduceToNat, Int.reduceLE, Int.reduceLT, encC_sz, List.length_map, d1010, e00, n00, c00, e11, n11, e22, n22, e55, n55, d12, d1000, dle, d1, d9]
          refine aCall_intro hNo ?_
          try simp only [go_sem, reduceCtorEq, ↓reduceIte, Nat.reduceEqDiff, Nat.reduceAdd, Nat.reduceMul, Nat.reduceSub, Nat.reduceLeDiff, Nat.reduceBEq, Int.reduceToNat, Int.reduceLE, Int.reduceLT, encC_sz, List.length_map, d1010, e00, n00, c00, e11, n11, e22, n22, e55, n55, d12, d1000, dle, d1, d9]
          refine aCall_intro hVl ?_
          try simp only [go_sem, reduceCtorEq, ↓reduceIte, Nat.reduceEqDiff, Nat.reduceAdd, Nat.reduceMul, Nat.reduceSub, Nat.reduceLeDiff, Nat.reduceBEq, Int.reduceToNat, Int.reduceLE, Int.reduceLT, encC_sz, List.length_map, d1010, e00, n00, c00, e11, n11, e22, n22, e55, n55, d12, d1000, dle, d1, d9]
          refine aCall_intro hV ?_
          try simp only [go_sem, reduceCtorEq, ↓reduceIte, Nat.reduceEqDiff, Nat.reduceAdd, Nat.reduceMul, Nat.reduceSub, Nat.reduceLeDiff, Nat.reduceBEq, Int.reduceToNat, Int.reduceLE, Int.reduceLT, encC_sz, List.length_map, d1010, e00, n00, c00, e11, n11, e22, n22, e55, n55, d12, d1000, dle, d1, d9]
          refine aCall_intro hNo ?_
          try simp only [go_sem, reduceCtorEq, ↓reduceIte, Nat.reduceEqDiff, Nat.reduceAdd, Nat.reduceMul, Nat.reduceSub, Nat.reduceLeDiff, Nat.reduceBEq, Int.reduceToNat, Int.reduceLE, Int.reduceLT, encC_sz, List.length_map, d1010, e00, n00, c00, e11, n11, e22, n22, e55, n55, d12, d1000, dle, d1, d9]
          refine aCall_intro hrT ?_
          try simp only [go_sem, reduceCtorEq, ↓reduceIte, Nat.reduceEqDiff, Nat.reduceAdd, Nat.reduceMul, Nat.reduceSub, Nat.reduceLeDiff, Nat.reduceBEq, Int.reduceToNat, Int.reduceLE, Int.reduceLT, encC_sz, List.length_map, d1010, e00, n00, c00, e11, n11, e22, n22, e55, n55, d12, d1000, dle, d1, d9]
          refine aCall_intro hAnT ?_
          try simp only [go_sem, reduceCtorEq, ↓reduceIte, Nat.reduceEqDiff, Nat.reduceAdd, Nat.reduceMul, Nat.reduceSub, Nat.reduceLeDiff, Nat.reduceBEq, Int.reduceToNat, Int.reduceLE, Int.reduceLT, encC_sz, List.length_map, d1010, e00, n00, c00, e11, n11, e22, n22, e55, n55, d12, d1000, dle, d1, d9]
    | true =>
      rw [spineR, if_pos hv] at hSp
      rw [hv] at hV
      have hrS := (rSpine_spec c (validF_formed hv) (by omega)).1
      have hlen := (rSpine_spec c (validF_formed hv) (by omega)).2
      have hSH := rSame_spec (spineF c).1 (spineF c).1
      rw [eqC_refl] at hSH
      have hSA := SameAll_spec (spineF c).2 (spineF c).2 (by omega)
      rw [eqL_refl'] at hSA
      clear hlen
      cases ha : l.all validF with
      | false =>
        rw [appsF_bad (.inr ha)] at hAp
        rw [tupleR_bad ha] at hTu
        rw [ha] at hVl
        refine aCall_intro hAp ?_
        try simp only [go_sem, reduceCtorEq, ↓reduceIte, Nat.reduceEqDiff, Nat.reduceAdd, Nat.reduceMul, Nat.reduceSub, Nat.reduceLeDiff, Nat.reduceBEq, Int.reduceToNat, Int.reduceLE, Int.reduceLT, encC_sz, List.length_map, d1010, e00, n00, c00, e11, n11, e22, n22, e55, n55, d12, d1000, dle]
        refine aCall_intro hSp ?_
        try simp only [go_sem, reduceCtorEq, ↓reduceIte, Nat.reduceEqDiff, Nat.reduceAdd, Nat.reduceMul, Nat.reduceSub, Nat.reduceLeDiff, Nat.reduceBEq, Int.reduceToNat, Int.reduceLE, Int.reduceLT, encC_sz, List.length_map, d1010, e00, n00, c00, e11, n11, e22, n22, e55, n55, d12, d1000, dle]
        refine aCall_intro hTu ?_
        try simp only [go_sem, reduceCtorEq, ↓reduceIte, Nat.reduceEqDiff, Nat.reduceAdd, Nat.reduceMul, Nat.reduceSub, Nat.reduceLeDiff, Nat.reduceBEq, Int.reduceToNat, Int.reduceLE, Int.reduceLT, encC_sz, List.length_map, d1010, e00, n00, c00, e11, n11, e22, n22, e55, n55, d12, d1000, dle]
        refine aCall_intro hU ?_
        try simp only [go_sem, reduceCtorEq, ↓reduceIte, Nat.reduceEqDiff, Nat.reduceAdd, Nat.reduceMul, Nat.reduceSub, Nat.reduceLeDiff, Nat.reduceBEq, Int.reduceToNat, Int.reduceLE, Int.reduceLT, encC_sz, List.length_map, d1010, e00, n00, c00, e11, n11, e22, n22, e55, n55, d12, d1000, dle]
        refine aCall_intro hrU ?_
        try simp only [go_sem, reduceCtorEq, ↓reduceIte, Nat.reduceEqDiff, Nat.reduceAdd, Nat.reduceMul, Nat.reduceSub, Nat.reduceLeDiff, Nat.reduceBEq, Int.reduceToNat, Int.reduceLE, Int.reduceLT, encC_sz, List.length_map, d1010, e00, n00, c00, e11, n11, e22, n22, e55, n55, d12, d1000, dle]
        refine aCall_intro hSU ?_
        try simp only [go_sem, reduceCtorEq, ↓reduceIte, Nat.reduceEqDiff, Nat.reduceAdd, Nat.reduceMul, Nat.reduceSub, Nat.reduceLeDiff, Nat.reduceBEq, Int.reduceToNat, Int.reduceLE, Int.reduceLT, encC_sz, List.length_map, d1010, e00, n00, c00, e11, n11, e22, n22, e55, n55, d12, d1000, dle]
        refine aCall_intro hB ?_
        try simp only [go_sem, reduceCtorEq, ↓reduceIte, Nat.reduceEqDiff, Nat.reduceAdd, Nat.reduceMul, Nat.reduceSub, Nat.reduceLeDiff, Nat.reduceBEq, Int.reduceToNat, Int.reduceLE, Int.reduceLT, encC_sz, List.length_map, d1010, e00, n00, c00, e11, n11, e22, n22, e55, n55, d12, d1000, dle]
        refine aCall_intro hrB ?_
        try simp only [go_sem, reduceCtorEq, ↓reduceIte, Nat.reduceEqDiff, Nat.reduceAdd, Nat.reduceMul, Nat.reduceSub, Nat.reduceLeDiff, Nat.reduceBEq, Int.reduceToNat, Int.reduceLE, Int.reduceLT, encC_sz, List.length_map, d1010, e00, n00, c00, e11, n11, e22, n22, e55, n55, d12, d1000, dle]
        refine aCall_intro hSB ?_
        try simp only [go_sem, reduceCtorEq, ↓reduceIte, Nat.reduceEqDiff, Nat.reduceAdd, Nat.reduceMul, Nat.reduceSub, Nat.reduceLeDiff, Nat.reduceBEq, Int.reduceToNat, Int.reduceLE, Int.reduceLT, encC_sz, List.length_map, d1010, e00, n00, c00, e11, n11, e22, n22, e55, n55, d12, d1000, dle]
        refine aCall_intro hV ?_
        try simp only [go_sem, reduceCtorEq, ↓reduceIte, Nat.reduceEqDiff, Nat.reduceAdd, Nat.reduceMul, Nat.reduceSub, Nat.reduceLeDiff, Nat.reduceBEq, Int.reduceToNat, Int.reduceLE, Int.reduceLT, encC_sz, List.length_map, d1010, e00, n00, c00, e11, n11, e22, n22, e55, n55, d12, d1000, dle]
        refine aCall_intro hrS ?_
        try simp only [go_sem, reduceCtorEq, ↓reduceIte, Nat.reduceEqDiff, Nat.reduceAdd, Nat.reduceMul, Nat.reduceSub, Nat.reduceLeDiff, Nat.reduceBEq, Int.reduceToNat, Int.reduceLE, Int.reduceLT, encC_sz, List.length_map, d1010, e00, n00, c00, e11, n11, e22, n22, e55, n55, d12, d1000, dle]
        refine aCall_intro hSH ?_
        try simp only [go_sem, reduceCtorEq, ↓reduceIte, Nat.reduceEqDiff, Nat.reduceAdd, Nat.reduceMul, Nat.reduceSub, Nat.reduceLeDiff, Nat.reduceBEq, Int.reduceToNat, Int.reduceLE, Int.reduceLT, encC_sz, List.length_map, d1010, e00, n00, c00, e11, n11, e22, n22, e55, n55, d12, d1000, dle]
        refine aCall_intro hSA ?_
        try simp only [go_sem, reduceCtorEq, ↓reduceIte, Nat.reduceEqDiff, Nat.reduceAdd, Nat.reduceMul, Nat.reduceSub, Nat.reduceLeDiff, Nat.reduceBEq, Int.reduceToNat, Int.reduceLE, Int.reduceLT, encC_sz, List.length_map, d1010, e00, n00, c00, e11, n11, e22, n22, e55, n55, d12, d1000, dle]
        refine aCall_intro hVl ?_
        try simp only [go_sem, reduceCtorEq, ↓reduceIte, Nat.reduceEqDiff, Nat.reduceAdd, Nat.reduceMul, Nat.reduceSub, Nat.reduceLeDiff, Nat.reduceBEq, Int.reduceToNat, Int.reduceLE, Int.reduceLT, encC_sz, List.length_map, d1010, e00, n00, c00, e11, n11, e22, n22, e55, n55, d12, d1000, dle]
        refine aCall_intro hNo ?_
        try simp only [go_sem, reduceCtorEq, ↓reduceIte, Nat.reduceEqDiff, Nat.reduceAdd, Nat.reduceMul, Nat.reduceSub, Nat.reduceLeDiff, Nat.reduceBEq, Int.reduceToNat, Int.reduceLE, Int.reduceLT, encC_sz, List.length_map, d1010, e00, n00, c00, e11, n11, e22, n22, e55, n55, d12, d1000, dle]
        refine aCall_intro hNo ?_
        try simp only [go_sem, reduceCtorEq, ↓reduceIte, Nat.reduceEqDiff, Nat.reduceAdd, Nat.reduceMul, Nat.reduceSub, Nat.reduceLeDiff, Nat.reduceBEq, Int.reduceToNat, Int.reduceLE, Int.reduceLT, encC_sz, List.length_map, d1010, e00, n00, c00, e11, n11, e22, n22, e55, n55, d12, d1000, dle]
      | true =>
        rw [ha] at hVl
        have hrA := rApps_spec c l (by omega)
        have hAnA := answer_spec (appsF c l).1 (appsF c l).2 (l.foldl appC c) (okS_apps l c hcs fun x hx => (hlt x hx).2)
        rw [apps_answer c l hv ha (by omega)] at hAnA
        by_cases hn : l.length = 1 ∨ l.length > 9
        · rw [tupleR_len ha hn] at hTu
          by_cases hn1 : l.length = 1
          · have d1 : ((l.length : Int) == 1) = true := by rw [beq_iff_eq]; omega
            have d9 : decide ((l.length : Int) > 9) = false := decide_eq_false (by omega)
            refine aCall_intro hAp ?_
            try simp only [go_sem, reduceCtorEq, ↓reduceIte, Nat.reduceEqDiff, Nat.reduceAdd, Nat.reduceMul, Nat.reduceSub, Nat.reduceLeDiff, Nat.reduceBEq, Int.reduceToNat, Int.reduceLE, Int.reduceLT, encC_sz, List.length_map, d1010, e00, n00, c00, e11, n11, e22, n22, e55, n55, d12, d1000, dle, d1, d9]
            refine aCall_intro hSp ?_
            try simp only [go_sem, reduceCtorEq, ↓reduceIte, Nat.reduceEqDiff, Nat.reduceAdd, Nat.reduceMul, Nat.reduceSub, Nat.reduceLeDiff, Nat.reduceBEq, Int.reduceToNat, Int.reduceLE, Int.reduceLT, encC_sz, List.length_map, d1010, e00, n00, c00, e11, n11, e22, n22, e55, n55, d12, d1000, dle, d1, d9]
            refine aCall_intro hTu ?_
            try simp only [go_sem, reduceCtorEq, ↓reduceIte, Nat.reduceEqDiff, Nat.reduceAdd, Nat.reduceMul, Nat.reduceSub, Nat.reduceLeDiff, Nat.reduceBEq, Int.reduceToNat, Int.reduceLE, Int.reduceLT, encC_sz, List.length_map, d1010, e00, n00, c00, e11, n11, e22, n22, e55, n55, d12, d1000, dle, d1, d9]
            refine aCall_intro hU ?_
            try simp only [go_sem, reduceCtorEq, ↓reduceIte, Nat.reduceEqDiff, Nat.reduceAdd, Nat.reduceMul, Nat.reduceSub, Nat.reduceLeDiff, Nat.reduceBEq, Int.reduceToNat, Int.reduceLE, Int.reduceLT, encC_sz, List.length_map, d1010, e00, n00, c00, e11, n11, e22, n22, e55, n55, d12, d1000, dle, d1, d9]
            refine aCall_intro hrU ?_
            try simp only [go_sem, reduceCtorEq, ↓reduceIte, Nat.reduceEqDiff, Nat.reduceAdd, Nat.reduceMul, Nat.reduceSub, Nat.reduceLeDiff, Nat.reduceBEq, Int.reduceToNat, Int.reduceLE, Int.reduceLT, encC_sz, List.length_map, d1010, e00, n00, c00, e11, n11, e22, n22, e55, n55, d12, d1000, dle, d1, d9]
            refine aCall_intro hSU ?_
            try simp only [go_sem, reduceCtorEq, ↓reduceIte, Nat.reduceEqDiff, Nat.reduceAdd, Nat.reduceMul, Nat.reduceSub, Nat.reduceLeDiff, Nat.reduceBEq, Int.reduceToNat, Int.reduceLE, Int.reduceLT, encC_sz, List.length_map, d1010, e00, n00, c00, e11, n11, e22, n22, e55, n55, d12, d1000, dle, d1, d9]
            refine aCall_intro hB ?_
            try simp only [go_sem, reduceCtorEq, ↓reduceIte, Nat.reduceEqDiff, Nat.reduceAdd, Nat.reduceMul, Nat.reduceSub, Nat.reduceLeDiff, Nat.reduceBEq, Int.reduceToNat, Int.reduceLE, Int.reduceLT, encC_sz, List.length_map, d1010, e00, n00, c00, e11, n11, e22, n22, e55, n55, d12, d1000, dle, d1, d9]
            refine aCall_intro hrB ?_
            try simp only [go_sem, reduceCtorEq, ↓reduceIte, Nat.reduceEqDiff, Nat.reduceAdd, Nat.reduceMul, Nat.reduceSub, Nat.reduceLeDiff, Nat.reduceBEq, Int.reduceToNat, Int.reduceLE, Int.reduceLT, encC_sz, List.length_map, d1010, e00, n00, c00, e11, n11, e22, n22, e55, n55, d12, d1000, dle, d1, d9]
            refine aCall_intro hSB ?_
            try simp only [go_sem, reduceCtorEq, ↓reduceIte, Nat.reduceEqDiff, Nat.reduceAdd, Nat.reduceMul, Nat.reduceSub, Nat.reduceLeDiff, Nat.reduceBEq, Int.reduceToNat, Int.reduceLE, Int.reduceLT, encC_sz, List.length_map, d1010, e00, n00, c00, e11, n11, e22, n22, e55, n55, d12, d1000, dle, d1, d9]
            refine aCall_intro hV ?_
            try simp only [go_sem, reduceCtorEq, ↓reduceIte, Nat.reduceEqDiff, Nat.reduceAdd, Nat.reduceMul, Nat.reduceSub, Nat.reduceLeDiff, Nat.reduceBEq, Int.reduceToNat, Int.reduceLE, Int.reduceLT, encC_sz, List.length_map, d1010, e00, n00, c00, e11, n11, e22, n22, e55, n55, d12, d1000, dle, d1, d9]
            refine aCall_intro hrS ?_
            try simp only [go_sem, reduceCtorEq, ↓reduceIte, Nat.reduceEqDiff, Nat.reduceAdd, Nat.reduceMul, Nat.reduceSub, Nat.reduceLeDiff, Nat.reduceBEq, Int.reduceToNat, Int.reduceLE, Int.reduceLT, encC_sz, List.length_map, d1010, e00, n00, c00, e11, n11, e22, n22, e55, n55, d12, d1000, dle, d1, d9]
            refine aCall_intro hSH ?_
            try simp only [go_sem, reduceCtorEq, ↓reduceIte, Nat.reduceEqDiff, Nat.reduceAdd, Nat.reduceMul, Nat.reduceSub, Nat.reduceLeDiff, Nat.reduceBEq, Int.reduceToNat, Int.reduceLE, Int.reduceLT, encC_sz, List.length_map, d1010, e00, n00, c00, e11, n11, e22, n22, e55, n55, d12, d1000, dle, d1, d9]
            refine aCall_intro hSA ?_
            try simp only [go_sem, reduceCtorEq, ↓reduceIte, Nat.reduceEqDiff, Nat.reduceAdd, Nat.reduceMul, Nat.reduceSub, Nat.reduceLeDiff, Nat.reduceBEq, Int.reduceToNat, Int.reduceLE, Int.reduceLT, encC_sz, List.length_map, d1010, e00, n00, c00, e11, n11, e22, n22, e55, n55, d12, d1000, dle, d1, d9]
            refine aCall_intro hVl ?_
            try simp only [go_sem, reduceCtorEq, ↓reduceIte, Nat.reduceEqDiff, Nat.reduceAdd, Nat.reduceMul, Nat.reduceSub, Nat.reduceLeDiff, Nat.reduceBEq, Int.reduceToNat, Int.reduceLE, Int.reduceLT, encC_sz, List.length_map, d1010, e00, n00, c00, e11, n11, e22, n22, e55, n55, d12, d1000, dle, d1, d9]
            refine aCall_intro hV ?_
            try simp only [go_sem, reduceCtorEq, ↓reduceIte, Nat.reduceEqDiff, Nat.reduceAdd, Nat.reduceMul, Nat.reduceSub, Nat.reduceLeDiff, Nat.reduceBEq, Int.reduceToNat, Int.reduceLE, Int.reduceLT, encC_sz, List.length_map, d1010, e00, n00, c00, e11, n11, e22, n22, e55, n55, d12, d1000, dle, d1, d9]
            refine aCall_intro hrA ?_
            try simp only [go_sem, reduceCtorEq, ↓reduceIte, Nat.reduceEqDiff, Nat.reduceAdd, Nat.reduceMul, Nat.reduceSub, Nat.reduceLeDiff, Nat.reduceBEq, Int.reduceToNat, Int.reduceLE, Int.reduceLT, encC_sz, List.length_map, d1010, e00, n00, c00, e11, n11, e22, n22, e55, n55, d12, d1000, dle, d1, d9]
            refine aCall_intro hAnA ?_
            try simp only [go_sem, reduceCtorEq, ↓reduceIte, Nat.reduceEqDiff, Nat.reduceAdd, Nat.reduceMul, Nat.reduceSub, Nat.reduceLeDiff, Nat.reduceBEq, Int.reduceToNat, Int.reduceLE, Int.reduceLT, encC_sz, List.length_map, d1010, e00, n00, c00, e11, n11, e22, n22, e55, n55, d12, d1000, dle, d1, d9]
            refine aCall_intro hNo ?_
            try simp only [go_sem, reduceCtorEq, ↓reduceIte, Nat.reduceEqDiff, Nat.reduceAdd, Nat.reduceMul, Nat.reduceSub, Nat.reduceLeDiff, Nat.reduceBEq, Int.reduceToNat, Int.reduceLE, Int.reduceLT, encC_sz, List.length_map, d1010, e00, n00, c00, e11, n11, e22, n22, e55, n55, d12, d1000, dle, d1, d9]
          · have d1 : ((l.length : Int) == 1) = false := by rw [beq_eq_false_iff_ne]; omega
            have d9 : decide ((l.length : Int) > 9) = true := decide_eq_true (by omega)
            refine aCall_intro hAp ?_
            try simp only [go_sem, reduceCtorEq, ↓reduceIte, Nat.reduceEqDiff, Nat.reduceAdd, Nat.reduceMul, Nat.reduceSub, Nat.reduceLeDiff, Nat.reduceBEq, Int.reduceToNat, Int.reduceLE, Int.reduceLT, encC_sz, List.length_map, d1010, e00, n00, c00, e11, n11, e22, n22, e55, n55, d12, d1000, dle, d1, d9]
            refine aCall_intro hSp ?_
            try simp only [go_sem, reduceCtorEq, ↓reduceIte, Nat.reduceEqDiff, Nat.reduceAdd, Nat.reduceMul, Nat.reduceSub, Nat.reduceLeDiff, Nat.reduceBEq, Int.reduceToNat, Int.reduceLE, Int.reduceLT, encC_sz, List.length_map, d1010, e00, n00, c00, e11, n11, e22, n22, e55, n55, d12, d1000, dle, d1, d9]
            refine aCall_intro hTu ?_
            try simp only [go_sem, reduceCtorEq, ↓reduceIte, Nat.reduceEqDiff, Nat.reduceAdd, Nat.reduceMul, Nat.reduceSub, Nat.reduceLeDiff, Nat.reduceBEq, Int.reduceToNat, Int.reduceLE, Int.reduceLT, encC_sz, List.length_map, d1010, e00, n00, c00, e11, n11, e22, n22, e55, n55, d12, d1000, dle, d1, d9]
            refine aCall_intro hU ?_
            try simp only [go_sem, reduceCtorEq, ↓reduceIte, Nat.reduceEqDiff, Nat.reduceAdd, Nat.reduceMul, Nat.reduceSub, Nat.reduceLeDiff, Nat.reduceBEq, Int.reduceToNat, Int.reduceLE, Int.reduceLT, encC_sz, List.length_map, d1010, e00, n00, c00, e11, n11, e22, n22, e55, n55, d12, d1000, dle, d1, d9]
            refine aCall_intro hrU ?_
            try simp only [go_sem, reduceCtorEq, ↓reduceIte, Nat.reduceEqDiff, Nat.reduceAdd, Nat.reduceMul, Nat.reduceSub, Nat.reduceLeDiff, Nat.reduceBEq, Int.reduceToNat, Int.reduceLE, Int.reduceLT, encC_sz, List.length_map, d1010, e00, n00, c00, e11, n11, e22, n22, e55, n55, d12, d1000, dle, d1, d9]
            refine aCall_intro hSU ?_
            try simp only [go_sem, reduceCtorEq, ↓reduceIte, Nat.reduceEqDiff, Nat.reduceAdd, Nat.reduceMul, Nat.reduceSub, Nat.reduceLeDiff, Nat.reduceBEq, Int.reduceToNat, Int.reduceLE, Int.reduceLT, encC_sz, List.length_map, d1010, e00, n00, c00, e11, n11, e22, n22, e55, n55, d12, d1000, dle, d1, d9]
            refine aCall_intro hB ?_
            try simp only [go_sem, reduceCtorEq, ↓reduceIte, Nat.reduceEqDiff, Nat.reduceAdd, Nat.reduceMul, Nat.reduceSub, Nat.reduceLeDiff, Nat.reduceBEq, Int.reduceToNat, Int.reduceLE, Int.reduceLT, encC_sz, List.length_map, d1010, e00, n00, c00, e11, n11, e22, n22, e55, n55, d12, d1000, dle, d1, d9]
            refine aCall_intro hrB ?_
            try simp only [go_sem, reduceCtorEq, ↓reduceIte, Nat.reduceEqDiff, Nat.reduceAdd, Nat.reduceMul, Nat.reduceSub, Nat.reduceLeDiff, Nat.reduceBEq, Int.reduceToNat, Int.reduceLE, Int.reduceLT, encC_sz, List.length_map, d1010, e00, n00, c00, e11, n11, e22, n22, e55, n55, d12, d1000, dle, d1, d9]
            refine aCall_intro hSB ?_
            try simp only [go_sem, reduceCtorEq, ↓reduceIte, Nat.reduceEqDiff, Nat.reduceAdd, Nat.reduceMul, Nat.reduceSub, Nat.reduceLeDiff, Nat.reduceBEq, Int.reduceToNat, Int.reduceLE, Int.reduceLT, encC_sz, List.length_map, d1010, e00, n00, c00, e11, n11, e22, n22, e55, n55, d12, d1000, dle, d1, d9]
            refine aCall_intro hV ?_
            try simp only [go_sem, reduceCtorEq, ↓reduceIte, Nat.reduceEqDiff, Nat.reduceAdd, Nat.reduceMul, Nat.reduceSub, Nat.reduceLeDiff, Nat.reduceBEq, Int.reduceToNat, Int.reduceLE, Int.reduceLT, encC_sz, List.length_map, d1010, e00, n00, c00, e11, n11, e22, n22, e55, n55, d12, d1000, dle, d1, d9]
            refine aCall_intro hrS ?_
            try simp only [go_sem, reduceCtorEq, ↓reduceIte, Nat.reduceEqDiff, Nat.reduceAdd, Nat.reduceMul, Nat.reduceSub, Nat.reduceLeDiff, Nat.reduceBEq, Int.reduceToNat, Int.reduceLE, Int.reduceLT, encC_sz, List.length_map, d1010, e00, n00, c00, e11, n11, e22, n22, e55, n55, d12, d1000, dle, d1, d9]
            refine aCall_intro hSH ?_
            try simp only [go_sem, reduceCtorEq, ↓reduceIte, Nat.reduceEqDiff, Nat.reduceAdd, Nat.reduceMul, Nat.reduceSub, Nat.reduceLeDiff, Nat.reduceBEq, Int.reduceToNat, Int.reduceLE, Int.reduceLT, encC_sz, List.length_map, d1010, e00, n00, c00, e11, n11, e22, n22, e55, n55, d12, d1000, dle, d1, d9]
            refine aCall_intro hSA ?_
            try simp only [go_sem, reduceCtorEq, ↓reduceIte, Nat.reduceEqDiff, Nat.reduceAdd, Nat.reduceMul, Nat.reduceSub, Nat.reduceLeDiff, Nat.reduceBEq, Int.reduceToNat, Int.reduceLE, Int.reduceLT, encC_sz, List.length_map, d1010, e00, n00, c00, e11, n11, e22, n22, e55, n55, d12, d1000, dle, d1, d9]
            refine aCall_intro hVl ?_
            try simp only [go_sem, reduceCtorEq, ↓reduceIte, Nat.reduceEqDiff, Nat.reduceAdd, Nat.reduceMul, Nat.reduceSub, Nat.reduceLeDiff, Nat.reduceBEq, Int.reduceToNat, Int.reduceLE, Int.reduceLT, encC_sz, List.length_map, d1010, e00, n00, c00, e11, n11, e22, n22, e55, n55, d12, d1000, dle, d1, d9]
            refine aCall_intro hV ?_
            try simp only [go_sem, reduceCtorEq, ↓reduceIte, Nat.reduceEqDiff, Nat.reduceAdd, Nat.reduceMul, Nat.reduceSub, Nat.reduceLeDiff, Nat.reduceBEq, Int.reduceToNat, Int.reduceLE, Int.reduceLT, encC_sz, List.length_map, d1010, e00, n00, c00, e11, n11, e22, n22, e55, n55, d12, d1000, dle, d1, d9]
            refine aCall_intro hrA ?_
            try simp only [go_sem, reduceCtorEq, ↓reduceIte, Nat.reduceEqDiff, Nat.reduceAdd, Nat.reduceMul, Nat.reduceSub, Nat.reduceLeDiff, Nat.reduceBEq, Int.reduceToNat, Int.reduceLE, Int.reduceLT, encC_sz, List.length_map, d1010, e00, n00, c00, e11, n11, e22, n22, e55, n55, d12, d1000, dle, d1, d9]
            refine aCall_intro hAnA ?_
            try simp only [go_sem, reduceCtorEq, ↓reduceIte, Nat.reduceEqDiff, Nat.reduceAdd, Nat.reduceMul, Nat.reduceSub, Nat.reduceLeDiff, Nat.reduceBEq, Int.reduceToNat, Int.reduceLE, Int.reduceLT, encC_sz, List.length_map, d1010, e00, n00, c00, e11, n11, e22, n22, e55, n55, d12, d1000, dle, d1, d9]
            refine aCall_intro hNo ?_
            try simp only [go_sem, reduceCtorEq, ↓reduceIte, Nat.reduceEqDiff, Nat.reduceAdd, Nat.reduceMul, Nat.reduceSub, Nat.reduceLeDiff, Nat.reduceBEq, Int.reduceToNat, Int.reduceLE, Int.reduceLT, encC_sz, List.length_map, d1010, e00, n00, c00, e11, n11, e22, n22, e55, n55, d12, d1000, dle, d1, d9]
        · have d1 : ((l.length : Int) == 1) = false := by rw [beq_eq_false_iff_ne]; omega
          have d9 : decide ((l.length : Int) > 9) = false := decide_eq_false (by omega)
          have hrT := rTuple_spec l (by omega)
          have hAnT := answer_spec (tupleR l).1 (tupleR l).2 (tupleF l) (okS_tuple fun x hx => (hlt x hx).2)
          rw [tuple_answer l ha hn] at hAnT
          refine aCall_intro hAp ?_
          try simp only [go_sem, reduceCtorEq, ↓reduceIte, Nat.reduceEqDiff, Nat.reduceAdd, Nat.reduceMul, Nat.reduceSub, Nat.reduceLeDiff, Nat.reduceBEq, Int.reduceToNat, Int.reduceLE, Int.reduceLT, encC_sz, List.length_map, d1010, e00, n00, c00, e11, n11, e22, n22, e55, n55, d12, d1000, dle, d1, d9]
          refine aCall_intro hSp ?_
          try simp only [go_sem, reduceCtorEq, ↓reduceIte, Nat.reduceEqDiff, Nat.reduceAdd, Nat.reduceMul, Nat.reduceSub, Nat.reduceLeDiff, Nat.reduceBEq, Int.reduceToNat, Int.reduceLE, Int.reduceLT, encC_sz, List.length_map, d1010, e00, n00, c00, e11, n11, e22, n22, e55, n55, d12, d1000, dle, d1, d9]
          refine aCall_intro hTu ?_
          try simp only [go_sem, reduceCtorEq, ↓reduceIte, Nat.reduceEqDiff, Nat.reduceAdd, Nat.reduceMul, Nat.reduceSub, Nat.reduceLeDiff, Nat.reduceBEq, Int.reduceToNat, Int.reduceLE, Int.reduceLT, encC_sz, List.length_map, d1010, e00, n00, c00, e11, n11, e22, n22, e55, n55, d12, d1000, dle, d1, d9]
          refine aCall_intro hU ?_
          try simp only [go_sem, reduceCtorEq, ↓reduceIte, Nat.reduceEqDiff, Nat.reduceAdd, Nat.reduceMul, Nat.reduceSub, Nat.reduceLeDiff, Nat.reduceBEq, Int.reduceToNat, Int.reduceLE, Int.reduceLT, encC_sz, List.length_map, d1010, e00, n00, c00, e11, n11, e22, n22, e55, n55, d12, d1000, dle, d1, d9]
          refine aCall_intro hrU ?_
          try simp only [go_sem, reduceCtorEq, ↓reduceIte, Nat.reduceEqDiff, Nat.reduceAdd, Nat.reduceMul, Nat.reduceSub, Nat.reduceLeDiff, Nat.reduceBEq, Int.reduceToNat, Int.reduceLE, Int.reduceLT, encC_sz, List.length_map, d1010, e00, n00, c00, e11, n11, e22, n22, e55, n55, d12, d1000, dle, d1, d9]
          refine aCall_intro hSU ?_
          try simp only [go_sem, reduceCtorEq, ↓reduceIte, Nat.reduceEqDiff, Nat.reduceAdd, Nat.reduceMul, Nat.reduceSub, Nat.reduceLeDiff, Nat.reduceBEq, Int.reduceToNat, Int.reduceLE, Int.reduceLT, encC_sz, List.length_map, d1010, e00, n00, c00, e11, n11, e22, n22, e55, n55, d12, d1000, dle, d1, d9]
          refine aCall_intro hB ?_
          try simp only [go_sem, reduceCtorEq, ↓reduceIte, Nat.reduceEqDiff, Nat.reduceAdd, Nat.reduceMul, Nat.reduceSub, Nat.reduceLeDiff, Nat.reduceBEq, Int.reduceToNat, Int.reduceLE, Int.reduceLT, encC_sz, List.length_map, d1010, e00, n00, c00, e11, n11, e22, n22, e55, n55, d12, d1000, dle, d1, d9]
          refine aCall_intro hrB ?_
          try simp only [go_sem, reduceCtorEq, ↓reduceIte, Nat.reduceEqDiff, Nat.reduceAdd, Nat.reduceMul, Nat.reduceSub, Nat.reduceLeDiff, Nat.reduceBEq, Int.reduceToNat, Int.reduceLE, Int.reduceLT, encC_sz, List.length_map, d1010, e00, n00, c00, e11, n11, e22, n22, e55, n55, d12, d1000, dle, d1, d9]
          refine aCall_intro hSB ?_
          try simp only [go_sem, reduceCtorEq, ↓reduceIte, Nat.reduceEqDiff, Nat.reduceAdd, Nat.reduceMul, Nat.reduceSub, Nat.reduceLeDiff, Nat.reduceBEq, Int.reduceToNat, Int.reduceLE, Int.reduceLT, encC_sz, List.length_map, d1010, e00, n00, c00, e11, n11, e22, n22, e55, n55, d12, d1000, dle, d1, d9]
          refine aCall_intro hV ?_
          try simp only [go_sem, reduceCtorEq, ↓reduceIte, Nat.reduceEqDiff, Nat.reduceAdd, Nat.reduceMul, Nat.reduceSub, Nat.reduceLeDiff, Nat.reduceBEq, Int.reduceToNat, Int.reduceLE, Int.reduceLT, encC_sz, List.length_map, d1010, e00, n00, c00, e11, n11, e22, n22, e55, n55, d12, d1000, dle, d1, d9]
          refine aCall_intro hrS ?_
          try simp only [go_sem, reduceCtorEq, ↓reduceIte, Nat.reduceEqDiff, Nat.reduceAdd, Nat.reduceMul, Nat.reduceSub, Nat.reduceLeDiff, Nat.reduceBEq, Int.reduceToNat, Int.reduceLE, Int.reduceLT, encC_sz, List.length_map, d1010, e00, n00, c00, e11, n11, e22, n22, e55, n55, d12, d1000, dle, d1, d9]
          refine aCall_intro hSH ?_
          try simp only [go_sem, reduceCtorEq, ↓reduceIte, Nat.reduceEqDiff, Nat.reduceAdd, Nat.reduceMul, Nat.reduceSub, Nat.reduceLeDiff, Nat.reduceBEq, Int.reduceToNat, Int.reduceLE, Int.reduceLT, encC_sz, List.length_map, d1010, e00, n00, c00, e11, n11, e22, n22, e55, n55, d12, d1000, dle, d1, d9]
          refine aCall_intro hSA ?_
          try simp only [go_sem, reduceCtorEq, ↓reduceIte, Nat.reduceEqDiff, Nat.reduceAdd, Nat.reduceMul, Nat.reduceSub, Nat.reduceLeDiff, Nat.reduceBEq, Int.reduceToNat, Int.reduceLE, Int.reduceLT, encC_sz, List.length_map, d1010, e00, n00, c00, e11, n11, e22, n22, e55, n55, d12, d1000, dle, d1, d9]
          refine aCall_intro hVl ?_
          try simp only [go_sem, reduceCtorEq, ↓reduceIte, Nat.reduceEqDiff, Nat.reduceAdd, Nat.reduceMul, Nat.reduceSub, Nat.reduceLeDiff, Nat.reduceBEq, Int.reduceToNat, Int.reduceLE, Int.reduceLT, encC_sz, List.length_map, d1010, e00, n00, c00, e11, n11, e22, n22, e55, n55, d12, d1000, dle, d1, d9]
          refine aCall_intro hV ?_
          try simp only [go_sem, reduceCtorEq, ↓reduceIte, Nat.reduceEqDiff, Nat.reduceAdd, Nat.reduceMul, Nat.reduceSub, Nat.reduceLeDiff, Nat.reduceBEq, Int.reduceToNat, Int.reduceLE, Int.reduceLT, encC_sz, List.length_map, d1010, e00, n00, c00, e11, n11, e22, n22, e55, n55, d12, d1000, dle, d1, d9]
          refine aCall_intro hrA ?_
          try simp only [go_sem, reduceCtorEq, ↓reduceIte, Nat.reduceEqDiff, Nat.reduceAdd, Nat.reduceMul, Nat.reduceSub, Nat.reduceLeDiff, Nat.reduceBEq, Int.reduceToNat, Int.reduceLE, Int.reduceLT, encC_sz, List.length_map, d1010, e00, n00, c00, e11, n11, e22, n22, e55, n55, d12, d1000, dle, d1, d9]
          refine aCall_intro hAnA ?_
          try simp only [go_sem, reduceCtorEq, ↓reduceIte, Nat.reduceEqDiff, Nat.reduceAdd, Nat.reduceMul, Nat.reduceSub, Nat.reduceLeDiff, Nat.reduceBEq, Int.reduceToNat, Int.reduceLE, Int.reduceLT, encC_sz, List.length_map, d1010, e00, n00, c00, e11, n11, e22, n22, e55, n55, d12, d1000, dle, d1, d9]
          refine aCall_intro hrT ?_
          try simp only [go_sem, reduceCtorEq, ↓reduceIte, Nat.reduceEqDiff, Nat.reduceAdd, Nat.reduceMul, Nat.reduceSub, Nat.reduceLeDiff, Nat.reduceBEq, Int.reduceToNat, Int.reduceLE, Int.reduceLT, encC_sz, List.length_map, d1010, e00, n00, c00, e11, n11, e22, n22, e55, n55, d12, d1000, dle, d1, d9]
          refine aCall_intro hAnT ?_
          try simp only [go_sem, reduceCtorEq, ↓reduceIte, Nat.reduceEqDiff, Nat.reduceAdd, Nat.reduceMul, Nat.reduceSub, Nat.reduceLeDiff, Nat.reduceBEq, Int.reduceToNat, Int.reduceLE, Int.reduceLT, encC_sz, List.length_map, d1010, e00, n00, c00, e11, n11, e22, n22, e55, n55, d12, d1000, dle, d1, d9]
end Go.Abs.Kon
