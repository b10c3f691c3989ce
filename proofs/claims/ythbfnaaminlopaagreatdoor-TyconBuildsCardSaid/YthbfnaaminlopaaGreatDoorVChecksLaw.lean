/- The law TyconChecks returns true for any two constructors. -/
import Derived.Test.YthbfnaaminlopaaGreatDoorVKonG
set_option linter.unusedSimpArgs false
set_option linter.unusedVariables false
namespace Go.Abs.Kon
open Go Go.Proofs Go.Abs
set_option maxRecDepth 100000
set_option maxHeartbeats 4000000

mutual
theorem kindsF_eq : ∀ (k : KindT) (most depth : Int), kindsF k most depth < most → (knF k : Int) = kindsF k most depth
  | .mk l, most, depth, h => by
    rw [kindsF] at h ⊢
    split at h
    · omega
    · rename_i hd
      rw [if_neg hd, knF]
      have := kindsL_eq l most depth 1 h
      omega
theorem kindsL_eq : ∀ (l : List KindT) (most depth n : Int), kindsL l most depth n < most → n + knL l = kindsL l most depth n
  | [], most, depth, n, h => by
    rw [kindsL] at h ⊢
    rw [knL]
    split at h
    · omega
    · rw [if_neg (by assumption)]; omega
  | x :: r, most, depth, n, h => by
    rw [kindsL] at h ⊢
    split at h
    · omega
    · rename_i hn
      rw [if_neg hn, knL]
      have h2 := kindsL_eq r most depth _ h
      have hlt : kindsF x (most - n) (depth + 1) < most - n := by omega
      have h1 := kindsF_eq x (most - n) (depth + 1) hlt
      omega
end
mutual
theorem nodesF_eq : ∀ (c : ConT) (most depth : Int), 0 ≤ most → nodesF c most depth < most → (wtF c : Int) = nodesF c most depth ∧ okS c
  | .mk op n s k names l, most, depth, h0, h => by
    rw [nodesF] at h ⊢
    split at h
    · omega
    · rename_i hd
      rw [if_neg hd, wtF]
      obtain ⟨h2, h3⟩ := nodesL_eq l most depth _ h
      have hb := nodesL_lb l most depth _ h
      have h1 := kindsF_eq (.mk k) most depth (by omega)
      rw [knF] at h1
      refine ⟨by omega, ?_⟩
      simp only [okS]
      refine ⟨by omega, fun x hx => ?_, h3⟩
      have : ¬ names.any longS = true := fun e => hd (.inr (.inr (.inr e)))
      have hx' : longS x = false := by
        cases hl : longS x with
        | false => rfl
        | true => exact absurd (List.any_eq_true.2 ⟨x, hx, hl⟩) this
      rw [longS] at hx'
      have := of_decide_eq_false hx'
      omega
theorem nodesL_lb : ∀ (l : List ConT) (most depth n : Int), nodesL l most depth n < most → n ≤ nodesL l most depth n
  | [], most, depth, n, h => by
    rw [nodesL] at h ⊢
    split at h
    · omega
    · rw [if_neg (by assumption)]; omega
  | x :: r, most, depth, n, h => by
    rw [nodesL] at h ⊢
    split at h
    · omega
    · rename_i hn
      rw [if_neg hn]
      have h2 := nodesL_lb r most depth _ h
      have := nodesF_le x (most - n) (depth + 1) (by omega)
      omega
theorem nodesL_eq : ∀ (l : List ConT) (most depth n : Int), nodesL l most depth n < most → n + wtL l = nodesL l most depth n ∧ okSs l
  | [], most, depth, n, h => by
    rw [nodesL] at h ⊢
    rw [wtL]
    split at h
    · omega
    · rw [if_neg (by assumption)]
      exact ⟨by omega, by simp only [okSs]⟩
  | x :: r, most, depth, n, h => by
    rw [nodesL] at h ⊢
    split at h
    · omega
    · rename_i hn
      rw [if_neg hn, wtL]
      obtain ⟨h2, h3⟩ := nodesL_eq r most depth _ h
      have hb := nodesL_lb r most depth _ h
      obtain ⟨h1, h4⟩ := nodesF_eq x (most - n) (depth + 1) (by omega) (by omega)
      simp only [okSs]
      exact ⟨by omega, h4, h3⟩
end
theorem small_of {c : ConT} (h : bigP c = false) : wtF c < 400 ∧ okS c := by
  rw [bigP] at h
  simp only [Bool.or_eq_false_iff, Bool.and_eq_false_iff, decide_eq_false_iff_not] at h
  have hle := nodesF_le c 4400 1 (by decide)
  have hlt : nodesF c 4400 1 < 400 := by omega
  obtain ⟨h1, h2⟩ := nodesF_eq c 4400 1 (by decide) (by omega)
  exact ⟨by omega, h2⟩

theorem strEq_refl (s : ByteArray) : strEq s s = true := by rw [strEq]; exact beq_self_eq_true _
mutual
theorem sameK_refl : ∀ k, sameK k k = true
  | .mk l => by rw [sameK]; exact sameKs_refl l
theorem sameKs_refl : ∀ l, sameKs l l = true
  | [] => rfl
  | x :: r => by rw [sameKs, sameK_refl x, sameKs_refl r]; rfl
end
theorem eqL_refl {α : Type} (q : α → α → Bool) (h : ∀ x, q x x = true) : ∀ l, eqL q l l = true
  | [] => rfl
  | x :: r => by rw [eqL, h x, eqL_refl q h r]; rfl
mutual
theorem eqC_refl : ∀ c, eqC c c = true
  | .mk op n s k names l => by
    rw [eqC, beq_self_eq_true, beq_self_eq_true, strEq_refl, sameK_refl, eqL_refl strEq strEq_refl, eqCs_refl l]; rfl
theorem eqCs_refl : ∀ l, eqCs l l = true
  | [] => rfl
  | x :: r => by rw [eqCs, eqC_refl x, eqCs_refl r]; rfl
end

theorem TyconChecks_spec (a b : ConT) : Spec Tryz.prog 4 [pp (encC a), pp (encC b)] [] (.bool true) [] := by
  have hAw := awake_spec
  have hSm := small_spec [a, b]
  simp only [List.map_cons, List.map_nil] at hSm
  have hany : (!([a, b].any bigP)) = (!bigP a && !bigP b) := by simp
  rw [hany] at hSm
  have hEab := Equal_spec a b
  have hSab := rSame_spec a b
  have hEaa := Equal_spec a a
  rw [eqC_refl] at hEaa
  have hsm : bigP a = false → wtF a < 400 ∧ okS a := small_of
  have hV : bigP a = false → Spec Tryz.prog 17 [pp (encC a)] [] (.bool (validF a)) [] := fun h => Valid_spec a (by have := sizeF_wt a; have := (hsm h).1; omega) (hsm h).2
  have hrV : bigP a = false → Spec Tryz.prog 12 [pp (encC a)] [] (.bool (validF a)) [] := fun h => rValid_spec a (hsm h).2
  have hZ : bigP a = false → Spec Tryz.prog 20 [pp (encC a)] [] (.int .i64 (sizeF a)) [] := fun h => Size_spec a (by have := sizeF_wt a; have := (hsm h).1; omega)
  have hrZ : bigP a = false → Spec Tryz.prog 21 [pp (encC a)] [] (.int .i64 (sizeF a)) [] := fun h => rSize_spec a (by have := sizeF_wt a; have := (hsm h).1; omega)
  have e1 : ∀ x : Bool, (x == x) = true := fun x => by cases x <;> rfl
  have e2 : ∀ x : Int, (x == x) = true := fun x => by simp
  clear hsm hany
  refine Spec.walk (rv := [.tmp 4]) ann4 41 Tryz.func4 mixed rfl rfl (by kernel_rfl) rfl rfl fun hfit => ?_
  clear hfit
  simp only [go_sem, reduceCtorEq, ↓reduceIte, Nat.reduceEqDiff, Nat.reduceAdd, Nat.reduceMul, Nat.reduceSub, Nat.reduceLeDiff, Nat.reduceBEq, Int.reduceToNat, Int.reduceLE, Int.reduceLT]
  refine aCall_intro hAw ?_
  simp only [go_sem, reduceCtorEq, ↓reduceIte, Nat.reduceEqDiff, Nat.reduceAdd, Nat.reduceMul, Nat.reduceSub, Nat.reduceLeDiff, Nat.reduceBEq, Int.reduceToNat, Int.reduceLE, Int.reduceLT, encC_sz]
  refine aCall_intro hSm ?_
  simp only [go_sem, reduceCtorEq, ↓reduceIte, Nat.reduceEqDiff, Nat.reduceAdd, Nat.reduceMul, Nat.reduceSub, Nat.reduceLeDiff, Nat.reduceBEq, Int.reduceToNat, Int.reduceLE, Int.reduceLT, encC_sz]
  cases ha : bigP a with
  | true =>
    simp only [go_sem, reduceCtorEq, ↓reduceIte, Nat.reduceEqDiff, Nat.reduceAdd, Nat.reduceMul, Nat.reduceSub, Nat.reduceLeDiff, Nat.reduceBEq, Int.reduceToNat, Int.reduceLE, Int.reduceLT]
    refine aCall_intro hAw ?_
    simp only [go_sem, reduceCtorEq, ↓reduceIte, Nat.reduceEqDiff, Nat.reduceAdd, Nat.reduceMul, Nat.reduceSub, Nat.reduceLeDiff, Nat.reduceBEq, Int.reduceToNat, Int.reduceLE, Int.reduceLT]
  | false =>
    cases hb : bigP b with
    | true =>
      simp only [go_sem, reduceCtorEq, ↓reduceIte, Nat.reduceEqDiff, Nat.reduceAdd, Nat.reduceMul, Nat.reduceSub, Nat.reduceLeDiff, Nat.reduceBEq, Int.reduceToNat, Int.reduceLE, Int.reduceLT]
      refine aCall_intro hAw ?_
      simp only [go_sem, reduceCtorEq, ↓reduceIte, Nat.reduceEqDiff, Nat.reduceAdd, Nat.reduceMul, Nat.reduceSub, Nat.reduceLeDiff, Nat.reduceBEq, Int.reduceToNat, Int.reduceLE, Int.reduceLT]
    | false =>
      have hV := hV ha
      have hrV := hrV ha
      have hZ := hZ ha
      have hrZ := hrZ ha
      simp only [go_sem, reduceCtorEq, ↓reduceIte, Nat.reduceEqDiff, Nat.reduceAdd, Nat.reduceMul, Nat.reduceSub, Nat.reduceLeDiff, Nat.reduceBEq, Int.reduceToNat, Int.reduceLE, Int.reduceLT, encC_sz]
      refine aCall_intro hV ?_
      simp only [go_sem, reduceCtorEq, ↓reduceIte, Nat.reduceEqDiff, Nat.reduceAdd, Nat.reduceMul, Nat.reduceSub, Nat.reduceLeDiff, Nat.reduceBEq, Int.reduceToNat, Int.reduceLE, Int.reduceLT, encC_sz]
      refine aCall_intro hrV ?_
      simp only [go_sem, reduceCtorEq, ↓reduceIte, Nat.reduceEqDiff, Nat.reduceAdd, Nat.reduceMul, Nat.reduceSub, Nat.reduceLeDiff, Nat.reduceBEq, Int.reduceToNat, Int.reduceLE, Int.reduceLT, encC_sz, e1]
      refine aCall_intro hEab ?_
      simp only [go_sem, reduceCtorEq, ↓reduceIte, Nat.reduceEqDiff, Nat.reduceAdd, Nat.reduceMul, Nat.reduceSub, Nat.reduceLeDiff, Nat.reduceBEq, Int.reduceToNat, Int.reduceLE, Int.reduceLT, encC_sz, e1]
      refine aCall_intro hSab ?_
      simp only [go_sem, reduceCtorEq, ↓reduceIte, Nat.reduceEqDiff, Nat.reduceAdd, Nat.reduceMul, Nat.reduceSub, Nat.reduceLeDiff, Nat.reduceBEq, Int.reduceToNat, Int.reduceLE, Int.reduceLT, encC_sz, e1]
      refine aCall_intro hEaa ?_
      simp only [go_sem, reduceCtorEq, ↓reduceIte, Nat.reduceEqDiff, Nat.reduceAdd, Nat.reduceMul, Nat.reduceSub, Nat.reduceLeDiff, Nat.reduceBEq, Int.reduceToNat, Int.reduceLE, Int.reduceLT, encC_sz, e1]
      refine aCall_intro hZ ?_
      simp only [go_sem, reduceCtorEq, ↓reduceIte, Nat.reduceEqDiff, Nat.reduceAdd, Nat.reduceMul, Nat.reduceSub, Nat.reduceLeDiff, Nat.reduceBEq, Int.reduceToNat, Int.reduceLE, Int.reduceLT, encC_sz, e1]
      refine aCall_intro hrZ ?_
      simp only [go_sem, reduceCtorEq, ↓reduceIte, Nat.reduceEqDiff, Nat.reduceAdd, Nat.reduceMul, Nat.reduceSub, Nat.reduceLeDiff, Nat.reduceBEq, Int.reduceToNat, Int.reduceLE, Int.reduceLT, e2]
end Go.Abs.Kon
