/- The law TyconSubsts returns true for any constructor and any list of constructors. -/
import Derived.Test.YthbfnaaminlopaaGreatDoorVSubstsA
set_option linter.unusedSimpArgs false
set_option linter.unusedVariables false
namespace Go.Abs.Kon
open Go Go.Proofs Go.Abs
set_option maxRecDepth 100000
set_option maxHeartbeats 4000000

mutual
def mapF (leaf : ConT → Int → ConT) : ConT → Int → ConT
  | .mk op n s k names l, b => if op = 1 ∨ op = 2 then leaf (.mk op n s k names l) b else .mk op n s k names (mapL leaf l (if isBinder op then b + 1 else b))
def mapL (leaf : ConT → Int → ConT) : List ConT → Int → List ConT
  | [], _ => []
  | x :: r, b => mapF leaf x b :: mapL leaf r b
end

theorem rebF_neg (leaf : ConT → Int → ConT) (c : ConT) (b left : Int) (h : left ≤ 0) : (rebF leaf c b left).2 = -1 := by
  cases c; rw [rebF, if_pos h]
theorem rebL_neg (leaf : ConT → Int → ConT) : ∀ (l : List ConT) (b left : Int), left < 0 → (rebL leaf l b left).2 < 0
  | [], b, left, h => by rw [rebL]; exact h
  | x :: r, b, left, h => by
    rw [rebL]
    exact rebL_neg leaf r b _ (by rw [rebF_neg leaf x b left (by omega)]; decide)
mutual
theorem rebF_map (leaf : ConT → Int → ConT) : ∀ (c : ConT) (b left : Int), 0 ≤ left →
    ((sizeF (mapF leaf c b) : Int) ≤ left → rebF leaf c b left = (mapF leaf c b, left - sizeF (mapF leaf c b))) ∧ (¬ (sizeF (mapF leaf c b) : Int) ≤ left → (rebF leaf c b left).2 < 0)
  | .mk op n s k names l, b, left, h => by
    have hp := sizeF_pos (mapF leaf (.mk op n s k names l) b)
    by_cases h0 : left ≤ 0
    · exact ⟨fun h1 => by omega, fun _ => by rw [rebF_neg _ _ _ _ h0]; decide⟩
    · rw [rebF, if_neg h0, mapF]
      by_cases ho : op = 1 ∨ op = 2
      · rw [if_pos ho, if_pos ho]
        exact ⟨fun _ => rfl, fun h1 => by simp only; omega⟩
      · rw [if_neg ho, if_neg ho]
        obtain ⟨h1, h2⟩ := rebL_map leaf l (if isBinder op then b + 1 else b) (left - 1) (by omega)
        rw [sizeF]
        refine ⟨fun h3 => ?_, fun h3 => ?_⟩
        · have := h1 (by omega)
          rw [this]
          simp only [Prod.mk.injEq, true_and]
          omega
        · exact h2 (by omega)
theorem rebL_map (leaf : ConT → Int → ConT) : ∀ (l : List ConT) (b left : Int), 0 ≤ left →
    ((sizeL (mapL leaf l b) : Int) ≤ left → rebL leaf l b left = (mapL leaf l b, left - sizeL (mapL leaf l b))) ∧ (¬ (sizeL (mapL leaf l b) : Int) ≤ left → (rebL leaf l b left).2 < 0)
  | [], b, left, h => by
    rw [mapL, rebL, sizeL]
    exact ⟨fun _ => by simp, fun h1 => by omega⟩
  | x :: r, b, left, h => by
    obtain ⟨h1, h2⟩ := rebF_map leaf x b left h
    rw [mapL, rebL, sizeL]
    by_cases hx : (sizeF (mapF leaf x b) : Int) ≤ left
    · rw [h1 hx]
      obtain ⟨h3, h4⟩ := rebL_map leaf r b (left - sizeF (mapF leaf x b)) (by omega)
      refine ⟨fun h5 => ?_, fun h5 => ?_⟩
      · rw [h3 (by omega)]
        simp only [Prod.mk.injEq, true_and]
        omega
      · exact h4 (by omega)
    · exact ⟨fun h5 => by omega, fun _ => rebL_neg leaf r b _ (h2 hx)⟩
end
theorem replF_eq (leaf : ConT → Int → ConT) (c : ConT) : replF leaf c = if validF (mapF leaf c 0) = true then (mapF leaf c 0, 0) else (zeroC, 6) := by
  obtain ⟨h1, h2⟩ := rebF_map leaf c 0 20000 (by decide)
  rw [replF]
  by_cases hs : (sizeF (mapF leaf c 0) : Int) ≤ 20000
  · rw [h1 hs]
    simp only
    by_cases hv : validF (mapF leaf c 0) = true
    · rw [if_pos hv, if_neg]
      rintro (h | h)
      · omega
      · rw [hv] at h; cases h
    · rw [if_neg hv, if_pos (.inr (by simpa using hv))]
  · rw [if_pos (.inl (h2 hs)), if_neg]
    rw [validF]
    simp only [Bool.and_eq_true, decide_eq_true_iff]
    omega

theorem leaf_names {op n : Int} {s : ByteArray} {k : List KindT} {names : List ByteArray} {l : List ConT} (h : formedF (.mk op n s k names l) = true) (ho : op = 1 ∨ op = 2) : names = [] := by
  rw [formedF, nodeF] at h
  simp only [Bool.and_eq_true] at h
  have h1 := h.1.2.2.2.2.1.1
  have e1 : isLabelled op = false := by simp [isLabelled]; omega
  rw [e1] at h1
  simp at h1
  exact h1
theorem leafC_self {op n : Int} {s : ByteArray} {k : List KindT} {names : List ByteArray} {l : List ConT} (h : formedF (.mk op n s k names l) = true) (ho : op = 1 ∨ op = 2) : leafC (.mk op n s k names l) = .mk op n s k names l := by
  have h1 := leaf_names h ho
  have h2 := leaf_nil h ho
  subst h1 h2
  rfl

theorem capF_cap (f : Int) : capF (capF f) = capF f := by
  simp only [capF]; (repeat' split) <;> omega
theorem capF_succ {f g : Int} (h : capF f = capF g) : capF (capF f + 1) = capF (g + 1) := by
  simp only [capF] at h ⊢
  (repeat' split at h) <;> (repeat' split) <;> omega
mutual
theorem shift_eq (by' from' : Int) : ∀ (c : ConT) (b f : Int), formedF c = true → capF f = capF (from' + b) → mapF (shiftLeaf by' from') c b = rShiftF c by' f
  | .mk op n s k names l, b, f, h, hf => by
    have hn := formed_n h
    replace hn : 0 ≤ n ∧ n ≤ 20000 := hn
    rw [mapF, rShiftF]
    by_cases ho : op = 1 ∨ op = 2
    · rw [if_pos ho]
      have hl := leafC_self h ho
      by_cases h1 : op = 1
      · rw [if_pos h1, hf]
        have hi : (n ≥ capF (from' + b)) ↔ n - b ≥ from' := by rw [capF]; split <;> omega
        have hs : shiftLeaf by' from' (.mk op n s k names l) b = if op = 1 ∧ n - b ≥ from' then varC (n + by') else leafC (.mk op n s k names l) := rfl
        rw [hs, hl]
        by_cases h2 : n - b ≥ from'
        · rw [if_pos ⟨h1, h2⟩, if_pos (hi.2 h2)]
        · rw [if_neg (fun e => h2 e.2), if_neg (fun e => h2 (hi.1 e))]
      · rw [if_neg h1]
        have hs : shiftLeaf by' from' (.mk op n s k names l) b = if op = 1 ∧ n - b ≥ from' then varC (n + by') else leafC (.mk op n s k names l) := rfl
        rw [hs, if_neg (fun e => h1 e.1), hl]
        have := leaf_nil h ho
        subst this
        rw [rShiftL]
    · rw [if_neg ho, if_neg (fun e => ho (.inl e))]
      have hfm : formedL l = true := by rw [formedF, Bool.and_eq_true] at h; exact h.2
      congr 1
      apply shiftL_eq by' from' l _ _ hfm
      rw [deepF]
      split
      · rw [capF_succ hf]; congr 1; omega
      · rw [capF_cap, hf]
theorem shiftL_eq (by' from' : Int) : ∀ (l : List ConT) (b f : Int), formedL l = true → capF f = capF (from' + b) → mapL (shiftLeaf by' from') l b = rShiftL l by' f
  | [], b, f, h, hf => by rw [mapL, rShiftL]
  | x :: r, b, f, h, hf => by
    rw [formedL, Bool.and_eq_true] at h
    rw [mapL, rShiftL, shift_eq by' from' x b f h.1 hf, shiftL_eq by' from' r b f h.2 hf]
end
mutual
theorem shift_size (by' from' : Int) : ∀ (c : ConT) (b : Int), formedF c = true → sizeF (mapF (shiftLeaf by' from') c b) = sizeF c
  | .mk op n s k names l, b, h => by
    rw [mapF]
    by_cases ho : op = 1 ∨ op = 2
    · rw [if_pos ho, size_shiftLeaf, leaf_nil h ho, sizeF, sizeL]
    · rw [if_neg ho, sizeF, sizeF, shiftL_size by' from' l _ (by rw [formedF, Bool.and_eq_true] at h; exact h.2)]
theorem shiftL_size (by' from' : Int) : ∀ (l : List ConT) (b : Int), formedL l = true → sizeL (mapL (shiftLeaf by' from') l b) = sizeL l
  | [], b, h => by rw [mapL]
  | x :: r, b, h => by
    rw [formedL, Bool.and_eq_true] at h
    rw [mapL, sizeL, sizeL, shift_size by' from' x b h.1, shiftL_size by' from' r b h.2]
end
/-- A term that is put in, shifted. -/
theorem put_eq {x : ConT} (h : validF x = true) (b : Int) : (rebF (shiftLeaf b 0) x 0 20000).1 = rShiftF x b 0 := by
  have hf := validF_formed h
  have hs := shift_size b 0 x 0 hf
  rw [validF, Bool.and_eq_true] at h
  have h20 := of_decide_eq_true h.1
  rw [((rebF_map (shiftLeaf b 0) x 0 20000 (by decide)).1 (by rw [hs]; omega))]
  exact shift_eq b 0 x 0 0 hf rfl
mutual
theorem subst_eq (us : List ConT) (hus : us.all validF = true) : ∀ (c : ConT) (b : Int), formedF c = true → mapF (substLeaf us) c b = rSubstF us c b
  | .mk op n s k names l, b, h => by
    rw [mapF, rSubstF]
    have hs : substLeaf us (.mk op n s k names l) b = if op ≠ 1 ∨ n - b < 0 then leafC (.mk op n s k names l) else if n - b ≥ us.length then varC (n - us.length) else (rebF (shiftLeaf b 0) (us.getD (n - b).toNat zeroC) 0 20000).1 := rfl
    by_cases ho : op = 1 ∨ op = 2
    · rw [if_pos ho, hs, leafC_self h ho]
      by_cases h1 : op = 1
      · rw [if_pos h1]
        by_cases h2 : n < b
        · rw [if_pos h2, if_pos (.inr (by omega))]
        · rw [if_neg h2, if_neg (by rintro (e | e); exact e h1; omega)]
          by_cases h3 : n - b < us.length
          · rw [if_pos h3, if_neg (by omega)]
            have hlt : (n - b).toNat < us.length := by omega
            rw [List.getD_eq_getElem?_getD, List.getElem?_eq_getElem hlt, Option.getD_some]
            exact put_eq (List.all_eq_true.1 hus _ (List.getElem_mem _)) b
          · rw [if_neg h3, if_pos (by omega)]
      · rw [if_neg h1, if_pos (.inl h1)]
        have := leaf_nil h ho
        subst this
        rw [rSubstL]
    · rw [if_neg ho, if_neg (fun e => ho (.inl e))]
      congr 1
      exact substL_eq us hus l _ (by rw [formedF, Bool.and_eq_true] at h; exact h.2)
theorem substL_eq (us : List ConT) (hus : us.all validF = true) : ∀ (l : List ConT) (b : Int), formedL l = true → mapL (substLeaf us) l b = rSubstL us l b
  | [], b, h => by rw [mapL, rSubstL]
  | x :: r, b, h => by
    rw [formedL, Bool.and_eq_true] at h
    rw [mapL, rSubstL, subst_eq us hus x b h.1, substL_eq us hus r b h.2]
end
mutual
theorem mapF_okS (leaf : ConT → Int → ConT) : ∀ (c : ConT) (b : Int), okS c → (∀ x b', (x, b') ∈ leaves c b → okS (leaf x b')) → okS (mapF leaf c b)
  | .mk op n s k names l, b, h0, h => by
    rw [mapF]
    split
    · rename_i ho
      exact h (.mk op n s k names l) b (by rw [leaves, if_pos ho]; simp)
    · rename_i ho
      simp only [okS] at h0 ⊢
      exact ⟨h0.1, h0.2.1, mapL_okS leaf l _ h0.2.2 fun x b' hx => h x b' (by rw [leaves, if_neg ho]; exact hx)⟩
theorem mapL_okS (leaf : ConT → Int → ConT) : ∀ (l : List ConT) (b : Int), okSs l → (∀ x b', (x, b') ∈ leavesL l b → okS (leaf x b')) → okSs (mapL leaf l b)
  | [], b, h0, h => by rw [mapL]; exact h0
  | x :: r, b, h0, h => by
    simp only [okSs] at h0
    rw [mapL]
    simp only [okSs]
    exact ⟨mapF_okS leaf x b h0.1 fun y b' hy => h y b' (by rw [leavesL]; exact List.mem_append_left _ hy), mapL_okS leaf r b h0.2 fun y b' hy => h y b' (by rw [leavesL]; exact List.mem_append_right _ hy)⟩
end
end Go.Abs.Kon

namespace Go.Abs.Kon
open Go Go.Proofs Go.Abs
set_option maxRecDepth 100000
set_option maxHeartbeats 4000000

theorem substF_answer (c : ConT) (l : List ConT) (h1 : validF c = true) (h2 : l.all validF = true) (h3 : ¬ l.length > 1000) : answerF (substF c l).1 (substF c l).2 (rSubstF l c 0) = true := by
  have e : substF c l = replF (substLeaf l) c := by rw [substF, if_neg (by rw [h1, h2]; simp), if_neg h3]
  rw [e, replF_eq, subst_eq l h2 c 0 (validF_formed h1), answerF]
  split
  · simp only [eqC_refl]; rfl
  · simp only [eqC_refl]; rfl

theorem TyconSubsts_spec (c : ConT) (l : List ConT) : Spec Tryz.prog 3 [pp (encC c), pp (.slice (l.map encC))] [] (.bool true) [] := by
  have hAw := awake_spec
  have hSm := small_spec [c]
  have hSl := small_spec l
  simp only [List.map_cons, List.map_nil] at hSm
  have hany : (!([c].any bigP)) = !bigP c := by simp
  rw [hany] at hSm
  have hH := heavy_spec c l
  generalize decide (heavyN l 1 * nodesF c 4400 1 > 20000) = hv at hH
  have hsm : bigP c = false → wtF c < 400 ∧ okS c := small_of
  have hsl : l.any bigP = false → ∀ x ∈ l, wtF x < 400 ∧ okS x := by
    intro h x hx
    refine small_of ?_
    cases hb : bigP x with
    | false => rfl
    | true => have := List.any_eq_true.2 ⟨x, hx, hb⟩; rw [h] at this; cases this
  have hSub : bigP c = false → l.any bigP = false → Spec Tryz.prog 11 [pp (encC c), pp (.slice (l.map encC))] [] (.tuple [encC (substF c l).1, .int .i64 (substF c l).2]) [] := fun e1 e2 =>
    Subst_spec c l (by have := (hsm e1).1; omega) (hsm e1).2 fun x hx => ⟨by have := (hsl e2 x hx).1; omega, (hsl e2 x hx).2⟩
  have hV : bigP c = false → Spec Tryz.prog 12 [pp (encC c)] [] (.bool (validF c)) [] := fun h => rValid_spec c (hsm h).2
  have hVl : l.any bigP = false → Spec Tryz.prog 13 [pp (.slice (l.map encC))] [] (.bool (l.all validF)) [] := fun h => rValidAll_spec l fun x hx => (hsl h x hx).2
  have hNo := none_spec (substF c l).1
  have hRs : bigP c = false → l.any bigP = false → validF c = true → l.all validF = true → l.length ≤ 1000 → Spec Tryz.prog 16 [pp (encC c), pp (.slice (l.map encC))] [] (encC (rSubstF l c 0)) [] := fun e1 e2 e3 e4 e5 =>
    rSubstTop_spec l (fun x hx => ⟨by have := (hsl e2 x hx).1; omega, validF_formed (List.all_eq_true.1 e4 x hx)⟩) (by omega) c (validF_formed e3) (by have := (hsm e1).1; omega)
  have hAn : bigP c = false → l.any bigP = false → validF c = true → l.all validF = true → l.length ≤ 1000 → Spec Tryz.prog 15 [pp (encC (substF c l).1), ii (substF c l).2, pp (encC (rSubstF l c 0))] [] (.bool true) [] := by
    intro e1 e2 e3 e4 e5
    rw [← substF_answer c l e3 e4 (by omega)]
    refine answer_spec _ _ _ ?_
    rw [← subst_eq l e4 c 0 (validF_formed e3)]
    refine mapF_okS _ c 0 (hsm e1).2 fun x b hx => ?_
    refine (subst_leaves l (fun y hy => ⟨by have := (hsl e2 y hy).1; omega, (hsl e2 y hy).2, validF_formed (List.all_eq_true.1 e4 y hy)⟩) e5 c ⟨by have := (hsm e1).1; omega, (hsm e1).2, validF_formed e3⟩ x b hx).2.1
  have hinv1 : validF c = false ∨ l.all validF = false → substF c l = (zeroC, 1) := fun h => by rw [substF, if_pos h]
  have hinv2 : validF c = true → l.all validF = true → l.length > 1000 → substF c l = (zeroC, 5) := fun h h' h'' => by rw [substF, if_neg (by rw [h, h']; simp), if_pos h'']
  have hz : eqC zeroC zeroC = true := eqC_refl _
  have e11 : ((1 : Int) == 1) = true := rfl
  have e55 : ((5 : Int) == 5) = true := rfl
  clear hsm hsl hany
  refine Spec.walk (rv := [.tmp 4]) ann3 83 Tryz.func3 mixed rfl rfl (by kernel_rfl) rfl rfl fun hfit => ?_
  clear hfit
  simp only [go_sem, reduceCtorEq, ↓reduceIte, Nat.reduceEqDiff, Nat.reduceAdd, Nat.reduceMul, Nat.reduceSub, Nat.reduceLeDiff, Nat.reduceBEq, Int.reduceToNat, Int.reduceLE, Int.reduceLT]
  refine aCall_intro hAw ?_
  simp only [go_sem, reduceCtorEq, ↓reduceIte, Nat.reduceEqDiff, Nat.reduceAdd, Nat.reduceMul, Nat.reduceSub, Nat.reduceLeDiff, Nat.reduceBEq, Int.reduceToNat, Int.reduceLE, Int.reduceLT, encC_sz]
  refine aCall_intro hSm ?_
  simp only [go_sem, reduceCtorEq, ↓reduceIte, Nat.reduceEqDiff, Nat.reduceAdd, Nat.reduceMul, Nat.reduceSub, Nat.reduceLeDiff, Nat.reduceBEq, Int.reduceToNat, Int.reduceLE, Int.reduceLT, encC_sz]
  cases hc : bigP c with
  | true =>
    simp only [go_sem, reduceCtorEq, ↓reduceIte, Nat.reduceEqDiff, Nat.reduceAdd, Nat.reduceMul, Nat.reduceSub, Nat.reduceLeDiff, Nat.reduceBEq, Int.reduceToNat, Int.reduceLE, Int.reduceLT]
    refine aCall_intro hAw ?_
    simp only [go_sem, reduceCtorEq, ↓reduceIte, Nat.reduceEqDiff, Nat.reduceAdd, Nat.reduceMul, Nat.reduceSub, Nat.reduceLeDiff, Nat.reduceBEq, Int.reduceToNat, Int.reduceLE, Int.reduceLT]
  | false =>
    have hV := hV hc
    by_cases h12 : (l.length : Int) > 12
    · by_cases h1000 : (l.length : Int) ≤ 1000
      · simp only [go_sem, reduceCtorEq, ↓reduceIte, Nat.reduceEqDiff, Nat.reduceAdd, Nat.reduceMul, Nat.reduceSub, Nat.reduceLeDiff, Nat.reduceBEq, Int.reduceToNat, Int.reduceLE, Int.reduceLT, List.length_map, decide_eq_true h12, decide_eq_true h1000]
        refine aCall_intro hAw ?_
        simp only [go_sem, reduceCtorEq, ↓reduceIte, Nat.reduceEqDiff, Nat.reduceAdd, Nat.reduceMul, Nat.reduceSub, Nat.reduceLeDiff, Nat.reduceBEq, Int.reduceToNat, Int.reduceLE, Int.reduceLT]
      · by_cases h1010 : (l.length : Int) > 1010
        · simp only [go_sem, reduceCtorEq, ↓reduceIte, Nat.reduceEqDiff, Nat.reduceAdd, Nat.reduceMul, Nat.reduceSub, Nat.reduceLeDiff, Nat.reduceBEq, Int.reduceToNat, Int.reduceLE, Int.reduceLT, List.length_map, decide_eq_true h12, decide_eq_false h1000, decide_eq_true h1010]
          refine aCall_intro hAw ?_
          simp only [go_sem, reduceCtorEq, ↓reduceIte, Nat.reduceEqDiff, Nat.reduceAdd, Nat.reduceMul, Nat.reduceSub, Nat.reduceLeDiff, Nat.reduceBEq, Int.reduceToNat, Int.reduceLE, Int.reduceLT]
        · have hn12 : ¬ (l.length : Int) ≤ 12 := by omega
          have hbig : (l.length : Int) > 1000 := by omega
          simp only [go_sem, reduceCtorEq, ↓reduceIte, Nat.reduceEqDiff, Nat.reduceAdd, Nat.reduceMul, Nat.reduceSub, Nat.reduceLeDiff, Nat.reduceBEq, Int.reduceToNat, Int.reduceLE, Int.reduceLT, List.length_map, decide_eq_true h12, decide_eq_false h1000, decide_eq_false h1010]
          refine aCall_intro hSl ?_
          cases hl : l.any bigP with
          | true =>
            simp only [go_sem, reduceCtorEq, ↓reduceIte, Nat.reduceEqDiff, Nat.reduceAdd, Nat.reduceMul, Nat.reduceSub, Nat.reduceLeDiff, Nat.reduceBEq, Int.reduceToNat, Int.reduceLE, Int.reduceLT]
            refine aCall_intro hAw ?_
            simp only [go_sem, reduceCtorEq, ↓reduceIte, Nat.reduceEqDiff, Nat.reduceAdd, Nat.reduceMul, Nat.reduceSub, Nat.reduceLeDiff, Nat.reduceBEq, Int.reduceToNat, Int.reduceLE, Int.reduceLT]
          | false =>
            have hVl := hVl hl
            have hSub := hSub hc hl
            simp only [go_sem, reduceCtorEq, ↓reduceIte, Nat.reduceEqDiff, Nat.reduceAdd, Nat.reduceMul, Nat.reduceSub, Nat.reduceLeDiff, Nat.reduceBEq, Int.reduceToNat, Int.reduceLE, Int.reduceLT, List.length_map, decide_eq_false hn12]
            refine aCall_intro hSub ?_
            simp only [go_sem, reduceCtorEq, ↓reduceIte, Nat.reduceEqDiff, Nat.reduceAdd, Nat.reduceMul, Nat.reduceSub, Nat.reduceLeDiff, Nat.reduceBEq, Int.reduceToNat, Int.reduceLE, Int.reduceLT, encC_sz]
            refine aCall_intro hV ?_
            cases hvc : validF c with
            | false =>
              rw [hinv1 (.inl hvc)] at hNo ⊢
              rw [hz] at hNo
              simp only [go_sem, reduceCtorEq, ↓reduceIte, Nat.reduceEqDiff, Nat.reduceAdd, Nat.reduceMul, Nat.reduceSub, Nat.reduceLeDiff, Nat.reduceBEq, Int.reduceToNat, Int.reduceLE, Int.reduceLT, encC_sz]
              refine aCall_intro hNo ?_
              simp only [go_sem, reduceCtorEq, ↓reduceIte, Nat.reduceEqDiff, Nat.reduceAdd, Nat.reduceMul, Nat.reduceSub, Nat.reduceLeDiff, Nat.reduceBEq, Int.reduceToNat, Int.reduceLE, Int.reduceLT, e11]
            | true =>
              simp only [go_sem, reduceCtorEq, ↓reduceIte, Nat.reduceEqDiff, Nat.reduceAdd, Nat.reduceMul, Nat.reduceSub, Nat.reduceLeDiff, Nat.reduceBEq, Int.reduceToNat, Int.reduceLE, Int.reduceLT, encC_sz]
              refine aCall_intro hVl ?_
              cases hvl : l.all validF with
              | false =>
                rw [hinv1 (.inr hvl)] at hNo ⊢
                rw [hz] at hNo
                simp only [go_sem, reduceCtorEq, ↓reduceIte, Nat.reduceEqDiff, Nat.reduceAdd, Nat.reduceMul, Nat.reduceSub, Nat.reduceLeDiff, Nat.reduceBEq, Int.reduceToNat, Int.reduceLE, Int.reduceLT, encC_sz]
                refine aCall_intro hNo ?_
                simp only [go_sem, reduceCtorEq, ↓reduceIte, Nat.reduceEqDiff, Nat.reduceAdd, Nat.reduceMul, Nat.reduceSub, Nat.reduceLeDiff, Nat.reduceBEq, Int.reduceToNat, Int.reduceLE, Int.reduceLT, e11]
              | true =>
                rw [hinv2 hvc hvl (by omega)] at hNo ⊢
                rw [hz] at hNo
                simp only [go_sem, reduceCtorEq, ↓reduceIte, Nat.reduceEqDiff, Nat.reduceAdd, Nat.reduceMul, Nat.reduceSub, Nat.reduceLeDiff, Nat.reduceBEq, Int.reduceToNat, Int.reduceLE, Int.reduceLT, encC_sz, List.length_map, decide_eq_true hbig]
                refine aCall_intro hNo ?_
                simp only [go_sem, reduceCtorEq, ↓reduceIte, Nat.reduceEqDiff, Nat.reduceAdd, Nat.reduceMul, Nat.reduceSub, Nat.reduceLeDiff, Nat.reduceBEq, Int.reduceToNat, Int.reduceLE, Int.reduceLT, e55]
    · have h1010 : ¬ (l.length : Int) > 1010 := by omega
      have hn12 : (l.length : Int) ≤ 12 := by omega
      have hbig : ¬ (l.length : Int) > 1000 := by omega
      simp only [go_sem, reduceCtorEq, ↓reduceIte, Nat.reduceEqDiff, Nat.reduceAdd, Nat.reduceMul, Nat.reduceSub, Nat.reduceLeDiff, Nat.reduceBEq, Int.reduceToNat, Int.reduceLE, Int.reduceLT, List.length_map, decide_eq_false h12, decide_eq_false h1010]
      refine aCall_intro hSl ?_
      cases hl : l.any bigP with
      | true =>
        simp only [go_sem, reduceCtorEq, ↓reduceIte, Nat.reduceEqDiff, Nat.reduceAdd, Nat.reduceMul, Nat.reduceSub, Nat.reduceLeDiff, Nat.reduceBEq, Int.reduceToNat, Int.reduceLE, Int.reduceLT]
        refine aCall_intro hAw ?_
        simp only [go_sem, reduceCtorEq, ↓reduceIte, Nat.reduceEqDiff, Nat.reduceAdd, Nat.reduceMul, Nat.reduceSub, Nat.reduceLeDiff, Nat.reduceBEq, Int.reduceToNat, Int.reduceLE, Int.reduceLT]
      | false =>
        have hVl := hVl hl
        have hSub := hSub hc hl
        have hRs := hRs hc hl
        have hAn := hAn hc hl
        simp only [go_sem, reduceCtorEq, ↓reduceIte, Nat.reduceEqDiff, Nat.reduceAdd, Nat.reduceMul, Nat.reduceSub, Nat.reduceLeDiff, Nat.reduceBEq, Int.reduceToNat, Int.reduceLE, Int.reduceLT, List.length_map, decide_eq_true hn12, encC_sz]
        refine aCall_intro hH ?_
        cases hv with
        | true =>
          simp only [go_sem, reduceCtorEq, ↓reduceIte, Nat.reduceEqDiff, Nat.reduceAdd, Nat.reduceMul, Nat.reduceSub, Nat.reduceLeDiff, Nat.reduceBEq, Int.reduceToNat, Int.reduceLE, Int.reduceLT]
          refine aCall_intro hAw ?_
          simp only [go_sem, reduceCtorEq, ↓reduceIte, Nat.reduceEqDiff, Nat.reduceAdd, Nat.reduceMul, Nat.reduceSub, Nat.reduceLeDiff, Nat.reduceBEq, Int.reduceToNat, Int.reduceLE, Int.reduceLT]
        | false =>
          simp only [go_sem, reduceCtorEq, ↓reduceIte, Nat.reduceEqDiff, Nat.reduceAdd, Nat.reduceMul, Nat.reduceSub, Nat.reduceLeDiff, Nat.reduceBEq, Int.reduceToNat, Int.reduceLE, Int.reduceLT, encC_sz]
          refine aCall_intro hSub ?_
          simp only [go_sem, reduceCtorEq, ↓reduceIte, Nat.reduceEqDiff, Nat.reduceAdd, Nat.reduceMul, Nat.reduceSub, Nat.reduceLeDiff, Nat.reduceBEq, Int.reduceToNat, Int.reduceLE, Int.reduceLT, encC_sz]
          refine aCall_intro hV ?_
          cases hvc : validF c with
          | false =>
            rw [hinv1 (.inl hvc)] at hNo ⊢
            rw [hz] at hNo
            simp only [go_sem, reduceCtorEq, ↓reduceIte, Nat.reduceEqDiff, Nat.reduceAdd, Nat.reduceMul, Nat.reduceSub, Nat.reduceLeDiff, Nat.reduceBEq, Int.reduceToNat, Int.reduceLE, Int.reduceLT, encC_sz]
            refine aCall_intro hNo ?_
            simp only [go_sem, reduceCtorEq, ↓reduceIte, Nat.reduceEqDiff, Nat.reduceAdd, Nat.reduceMul, Nat.reduceSub, Nat.reduceLeDiff, Nat.reduceBEq, Int.reduceToNat, Int.reduceLE, Int.reduceLT, e11]
          | true =>
            simp only [go_sem, reduceCtorEq, ↓reduceIte, Nat.reduceEqDiff, Nat.reduceAdd, Nat.reduceMul, Nat.reduceSub, Nat.reduceLeDiff, Nat.reduceBEq, Int.reduceToNat, Int.reduceLE, Int.reduceLT, encC_sz]
            refine aCall_intro hVl ?_
            cases hvl : l.all validF with
            | false =>
              rw [hinv1 (.inr hvl)] at hNo ⊢
              rw [hz] at hNo
              simp only [go_sem, reduceCtorEq, ↓reduceIte, Nat.reduceEqDiff, Nat.reduceAdd, Nat.reduceMul, Nat.reduceSub, Nat.reduceLeDiff, Nat.reduceBEq, Int.reduceToNat, Int.reduceLE, Int.reduceLT, encC_sz]
              refine aCall_intro hNo ?_
              simp only [go_sem, reduceCtorEq, ↓reduceIte, Nat.reduceEqDiff, Nat.reduceAdd, Nat.reduceMul, Nat.reduceSub, Nat.reduceLeDiff, Nat.reduceBEq, Int.reduceToNat, Int.reduceLE, Int.reduceLT, e11]
            | true =>
              have hRs := hRs hvc hvl (by omega)
              have hAn := hAn hvc hvl (by omega)
              simp only [go_sem, reduceCtorEq, ↓reduceIte, Nat.reduceEqDiff, Nat.reduceAdd, Nat.reduceMul, Nat.reduceSub, Nat.reduceLeDiff, Nat.reduceBEq, Int.reduceToNat, Int.reduceLE, Int.reduceLT, encC_sz, List.length_map, decide_eq_false hbig]
              refine aCall_intro hRs ?_
              simp only [go_sem, reduceCtorEq, ↓reduceIte, Nat.reduceEqDiff, Nat.reduceAdd, Nat.reduceMul, Nat.reduceSub, Nat.reduceLeDiff, Nat.reduceBEq, Int.reduceToNat, Int.reduceLE, Int.reduceLT, encC_sz]
              refine aCall_intro hAn ?_
              simp only [go_sem, reduceCtorEq, ↓reduceIte, Nat.reduceEqDiff, Nat.reduceAdd, Nat.reduceMul, Nat.reduceSub, Nat.reduceLeDiff, Nat.reduceBEq, Int.reduceToNat, Int.reduceLE, Int.reduceLT]
end Go.Abs.Kon
