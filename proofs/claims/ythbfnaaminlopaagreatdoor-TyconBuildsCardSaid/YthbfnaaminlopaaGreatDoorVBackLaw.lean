/- The law TyconBack returns true for any arguments. -/
import Derived.Test.YthbfnaaminlopaaGreatDoorVBackA
import Derived.Test.YthbfnaaminlopaaGreatDoorVKonG
set_option linter.unusedSimpArgs false
set_option linter.unusedVariables false
namespace Go.Abs.Kon
open Go Go.Proofs Go.Abs
set_option maxRecDepth 100000
set_option maxHeartbeats 4000000

theorem replF_self {leaf : ConT → Int → ConT} {c d : ConT} (h : mapF leaf c 0 = d) (hv : validF d = true) : replF leaf c = (d, 0) := by rw [replF_eq, h, if_pos hv]
theorem replF_err (leaf : ConT → Int → ConT) (c : ConT) : (replF leaf c).2 = 0 ∧ validF (mapF leaf c 0) = true ∧ (replF leaf c).1 = mapF leaf c 0 ∨ (replF leaf c).2 = 6 ∧ validF (mapF leaf c 0) = false := by
  rw [replF_eq]
  cases h : validF (mapF leaf c 0) with
  | true => left; simp
  | false => right; simp

theorem TyconBack_spec (c : ConT) (b1 : Int) (l1 : 0 ≤ b1) (u1 : b1 ≤ 255) (b2 : Int) (l2 : 0 ≤ b2) (u2 : b2 ≤ 255) (b3 : Int) (l3 : 0 ≤ b3) (u3 : b3 ≤ 255) (a : ConT) :
    Spec Tryz.prog 5 [pp (encC c), pp (.int .u8 b1), pp (.int .u8 b2), pp (.int .u8 b3), pp (encC a)] [] (.bool true) [] := by
  have hAw := awake_spec
  have hT := tiny_spec [c, a]
  simp only [List.map_cons, List.map_nil] at hT
  have hany : (!([c, a].any tinyP)) = (!tinyP c && !tinyP a) := by simp
  rw [hany] at hT
  have i1 : IntKind.i64.wrap b1 = b1 := wrap_id (by omega) (by omega)
  have i2 : IntKind.i64.wrap b2 = b2 := wrap_id (by omega) (by omega)
  have i3 : IntKind.i64.wrap b3 = b3 := wrap_id (by omega) (by omega)
  have z20 : ((20 : Int) = 0) = False := by simp
  have z5 : ((5 : Int) = 0) = False := by simp
  have n1 : 0 ≤ b1.tmod 20 := Int.tmod_nonneg 20 l1
  have n2 : 0 ≤ b2.tmod 20 := Int.tmod_nonneg 20 l2
  have n3 : 0 ≤ b3.tmod 5 := Int.tmod_nonneg 5 l3
  have m1 : b1.tmod 20 < 20 := Int.tmod_lt_of_pos b1 (by decide)
  have m2 : b2.tmod 20 < 20 := Int.tmod_lt_of_pos b2 (by decide)
  have m3 : b3.tmod 5 < 5 := Int.tmod_lt_of_pos b3 (by decide)
  have e00 : ((0 : Int) == 0) = true := rfl
  have e00' : ((0 : Int) != 0) = false := rfl
  have e60 : ((6 : Int) != 0) = true := rfl
  have e66 : ((6 : Int) == 6) = true := rfl
  have e66' : ((6 : Int) != 6) = false := rfl
  have e60' : ((6 : Int) == 0) = false := rfl
  refine Spec.walk (rv := [.tmp 10]) ann5 124 Tryz.func5 mixed rfl rfl (by kernel_rfl) rfl rfl fun hfit => ?_
  clear hfit hany
  simp only [go_sem, reduceCtorEq, ↓reduceIte, Nat.reduceEqDiff, Nat.reduceAdd, Nat.reduceMul, Nat.reduceSub, Nat.reduceLeDiff, Nat.reduceBEq, Int.reduceToNat, Int.reduceLE, Int.reduceLT]
  refine aCall_intro hAw ?_
  simp only [go_sem, reduceCtorEq, ↓reduceIte, Nat.reduceEqDiff, Nat.reduceAdd, Nat.reduceMul, Nat.reduceSub, Nat.reduceLeDiff, Nat.reduceBEq, Int.reduceToNat, Int.reduceLE, Int.reduceLT, encC_sz]
  refine aCall_intro hT ?_
  cases hc : tinyP c with
  | true =>
    simp only [go_sem, reduceCtorEq, ↓reduceIte, Nat.reduceEqDiff, Nat.reduceAdd, Nat.reduceMul, Nat.reduceSub, Nat.reduceLeDiff, Nat.reduceBEq, Int.reduceToNat, Int.reduceLE, Int.reduceLT]
    refine aCall_intro hAw ?_
    simp only [go_sem, reduceCtorEq, ↓reduceIte, Nat.reduceEqDiff, Nat.reduceAdd, Nat.reduceMul, Nat.reduceSub, Nat.reduceLeDiff, Nat.reduceBEq, Int.reduceToNat, Int.reduceLE, Int.reduceLT]
  | false =>
    cases ha : tinyP a with
    | true =>
      simp only [go_sem, reduceCtorEq, ↓reduceIte, Nat.reduceEqDiff, Nat.reduceAdd, Nat.reduceMul, Nat.reduceSub, Nat.reduceLeDiff, Nat.reduceBEq, Int.reduceToNat, Int.reduceLE, Int.reduceLT]
      refine aCall_intro hAw ?_
      simp only [go_sem, reduceCtorEq, ↓reduceIte, Nat.reduceEqDiff, Nat.reduceAdd, Nat.reduceMul, Nat.reduceSub, Nat.reduceLeDiff, Nat.reduceBEq, Int.reduceToNat, Int.reduceLE, Int.reduceLT]
    | false =>
      obtain ⟨hcw, hcs, hcv⟩ := tiny_of hc
      obtain ⟨haw, has, hav⟩ := tiny_of ha
      have hcf := validF_formed hcv
      simp only [go_sem, reduceCtorEq, ↓reduceIte, Nat.reduceEqDiff, Nat.reduceAdd, Nat.reduceMul, Nat.reduceSub, Nat.reduceLeDiff, Nat.reduceBEq, Int.reduceToNat, Int.reduceLE, Int.reduceLT, i1, i2, i3, z20, z5]
      generalize b1.tmod 20 = n at n1 m1 ⊢
      generalize b2.tmod 20 = m at n2 m2 ⊢
      generalize b3.tmod 5 = k at n3 m3 ⊢
      clear i1 i2 i3 l1 u1 l2 u2 l3 u3
      have hS := Shift_spec c n k (by omega) hcs
      rw [shiftF_up c n k hcv n1 (by omega) n3] at hS
      rcases replF_err (shiftLeaf n k) c with ⟨r1, r2, r3⟩ | ⟨r1, r2⟩
      · rw [r1, r3] at hS
        have wS := wt_shift n k c 0
        have hBk := Shift_spec (mapF (shiftLeaf n k) c 0) (-n) k (by omega) (okS_shift n k hcs)
        rw [shiftF_down c n k r2 n1 (by omega) n3, replF_self (shift_back n k n1 c hcf) hcv] at hBk
        have hTw := Shift_spec (mapF (shiftLeaf n k) c 0) m k (by omega) (okS_shift n k hcs)
        rw [shiftF_up _ m k r2 n2 (by omega) n3] at hTw
        have hOn := Shift_spec c (n + m) k (by omega) hcs
        rw [shiftF_up c (n + m) k hcv (by omega) (by omega) n3] at hOn
        have hsame : replF (shiftLeaf m k) (mapF (shiftLeaf n k) c 0) = replF (shiftLeaf (n + m) k) c := by
          rw [replF_eq, replF_eq, shift_shift n m k n1 c 0 (Int.le_refl _)]
        rw [hsame] at hTw
        have hEc := Equal_spec c c
        rw [eqC_refl] at hEc
        have wn : IntKind.i64.wrap (0 - n) = -n := by rw [wrap_id (by omega) (by omega)]; omega
        have wnm : IntKind.i64.wrap (n + m) = n + m := wrap_id (by omega) (by omega)
        have hUp := Shift_spec c 1 0 (by omega) hcs
        rw [shiftF_up c 1 0 hcv (by decide) (by decide) (by decide)] at hUp
        generalize mapF (shiftLeaf n k) c 0 = S at hS hBk hTw
        try simp only [go_sem, reduceCtorEq, ↓reduceIte, Nat.reduceEqDiff, Nat.reduceAdd, Nat.reduceMul, Nat.reduceSub, Nat.reduceLeDiff, Nat.reduceBEq, Int.reduceToNat, Int.reduceLE, Int.reduceLT, encC_sz]
        refine aCall_intro hS ?_
        simp only [go_sem, reduceCtorEq, ↓reduceIte, Nat.reduceEqDiff, Nat.reduceAdd, Nat.reduceMul, Nat.reduceSub, Nat.reduceLeDiff, Nat.reduceBEq, Int.reduceToNat, Int.reduceLE, Int.reduceLT, encC_sz, e00', wn]
        refine aCall_intro hBk ?_
        simp only [go_sem, reduceCtorEq, ↓reduceIte, Nat.reduceEqDiff, Nat.reduceAdd, Nat.reduceMul, Nat.reduceSub, Nat.reduceLeDiff, Nat.reduceBEq, Int.reduceToNat, Int.reduceLE, Int.reduceLT, encC_sz]
        refine aCall_intro hTw ?_
        simp only [go_sem, reduceCtorEq, ↓reduceIte, Nat.reduceEqDiff, Nat.reduceAdd, Nat.reduceMul, Nat.reduceSub, Nat.reduceLeDiff, Nat.reduceBEq, Int.reduceToNat, Int.reduceLE, Int.reduceLT, encC_sz, wnm]
        refine aCall_intro hOn ?_
        simp only [go_sem, reduceCtorEq, ↓reduceIte, Nat.reduceEqDiff, Nat.reduceAdd, Nat.reduceMul, Nat.reduceSub, Nat.reduceLeDiff, Nat.reduceBEq, Int.reduceToNat, Int.reduceLE, Int.reduceLT, encC_sz, e00']
        refine aCall_intro hEc ?_
        rcases replF_err (shiftLeaf (n + m) k) c with ⟨q1, q2, q3⟩ | ⟨q1, q2⟩
        all_goals rw [q1] at hTw hOn ⊢
        case' false.false.inl.inl =>
          have hE2 := Equal_spec (replF (shiftLeaf (n + m) k) c).1 (replF (shiftLeaf (n + m) k) c).1
          rw [eqC_refl] at hE2
          simp only [go_sem, reduceCtorEq, ↓reduceIte, Nat.reduceEqDiff, Nat.reduceAdd, Nat.reduceMul, Nat.reduceSub, Nat.reduceLeDiff, Nat.reduceBEq, Int.reduceToNat, Int.reduceLE, Int.reduceLT, encC_sz, e00, e00']
          refine aCall_intro hE2 ?_
        all_goals
          try simp only [go_sem, reduceCtorEq, ↓reduceIte, Nat.reduceEqDiff, Nat.reduceAdd, Nat.reduceMul, Nat.reduceSub, Nat.reduceLeDiff, Nat.reduceBEq, Int.reduceToNat, Int.reduceLE, Int.reduceLT, encC_sz, e66', e60']
          refine aCall_intro hUp ?_
          rcases replF_err (shiftLeaf 1 0) c with ⟨s1, s2, s3⟩ | ⟨s1, s2⟩
          · rw [s1, s3] at hUp
            have wU := wt_shift 1 0 c 0
            have hSub := Subst_spec (mapF (shiftLeaf 1 0) c 0) [a] (by omega) (okS_shift 1 0 hcs) (by
              intro x hx
              rw [List.mem_singleton.1 hx]
              exact ⟨by omega, has⟩)
            have hav' : [a].all validF = true := by simp [hav]
            have hsf : substF (mapF (shiftLeaf 1 0) c 0) [a] = (c, 0) := by
              rw [substF, if_neg (by rw [s2, hav']; simp), if_neg (by simp)]
              refine replF_self ?_ hcv
              rw [substM_eq [a] hav', subst_shift a c hcf]
            rw [hsf] at hSub
            simp only [List.map_cons, List.map_nil] at hSub
            rw [s1, s3]
            generalize mapF (shiftLeaf 1 0) c 0 = U at hSub
            simp only [go_sem, reduceCtorEq, ↓reduceIte, Nat.reduceEqDiff, Nat.reduceAdd, Nat.reduceMul, Nat.reduceSub, Nat.reduceLeDiff, Nat.reduceBEq, Int.reduceToNat, Int.reduceLE, Int.reduceLT, encC_sz, e00']
            refine aCall_intro hSub ?_
            simp only [go_sem, reduceCtorEq, ↓reduceIte, Nat.reduceEqDiff, Nat.reduceAdd, Nat.reduceMul, Nat.reduceSub, Nat.reduceLeDiff, Nat.reduceBEq, Int.reduceToNat, Int.reduceLE, Int.reduceLT, encC_sz, e00]
            refine aCall_intro hEc ?_
            simp only [go_sem, reduceCtorEq, ↓reduceIte, Nat.reduceEqDiff, Nat.reduceAdd, Nat.reduceMul, Nat.reduceSub, Nat.reduceLeDiff, Nat.reduceBEq, Int.reduceToNat, Int.reduceLE, Int.reduceLT]
          · rw [s1]
            simp only [go_sem, reduceCtorEq, ↓reduceIte, Nat.reduceEqDiff, Nat.reduceAdd, Nat.reduceMul, Nat.reduceSub, Nat.reduceLeDiff, Nat.reduceBEq, Int.reduceToNat, Int.reduceLE, Int.reduceLT, encC_sz, e60, e66]
      · rw [r1] at hS
        try simp only [go_sem, reduceCtorEq, ↓reduceIte, Nat.reduceEqDiff, Nat.reduceAdd, Nat.reduceMul, Nat.reduceSub, Nat.reduceLeDiff, Nat.reduceBEq, Int.reduceToNat, Int.reduceLE, Int.reduceLT, encC_sz]
        refine aCall_intro hS ?_
        simp only [go_sem, reduceCtorEq, ↓reduceIte, Nat.reduceEqDiff, Nat.reduceAdd, Nat.reduceMul, Nat.reduceSub, Nat.reduceLeDiff, Nat.reduceBEq, Int.reduceToNat, Int.reduceLE, Int.reduceLT, encC_sz, e60, e66]
end Go.Abs.Kon

namespace Go.Abs.Kon
open Go Go.Proofs Go.Abs Go.ChangeShapes Go.WideShapes Go.ChangeAt Go.RowKit
set_option maxRecDepth 100000
section
variable {H : Type} {enc : TypeId × Value → H} {W : World} {base base' : Nat} {sp : Nat → Bool} {hd : Bool}
theorem arg_u8 {v : Value} {d : DataW H} {ps : List MemPlace} (hv : Value.okWide Tryz.prog W .any base' 5 v) (_ : DataW.Trod enc Tryz.prog W base sp hd 5 v d ps) : ∃ a : Int, Rep (memI W) (.int .u8 a) v ∧ 0 ≤ a ∧ a ≤ 255 := by
  rw [Value.okWide, Tryz.underlying5] at hv
  simp only [Cell.okWide, Tryz.underlying5] at hv
  cases v <;> simp [Cell.ok, Tryz.underlying5] at hv
  obtain ⟨rfl, h1, h2⟩ := hv
  exact ⟨_, by rw [Rep], h1, h2⟩
end
end Go.Abs.Kon
