/- The law TyconCommute returns true for any arguments: substitutions commute. -/
import Derived.Test.YthbfnaaminlopaaGreatDoorBackLaw
set_option linter.unusedSimpArgs false
set_option linter.unusedVariables false
namespace Go.Abs.Kon
open Go Go.Proofs Go.Abs
set_option maxRecDepth 100000
set_option maxHeartbeats 4000000

theorem substF_M (c : ConT) (l : List ConT) (hc : validF c = true) (hl : l.all validF = true) (hn : l.length ≤ 1000) :
    substF c l = if validF (mapF (substM l) c 0) = true then (mapF (substM l) c 0, 0) else (zeroC, 6) := by
  rw [substF, if_neg (by rw [hc, hl]; simp), if_neg (by omega), replF_eq, substM_eq l hl]
theorem all_getD {p : ConT → Prop} {l : List ConT} (h : ∀ x ∈ l, p x) {i : Nat} (hi : i < l.length) : p (l.getD i zeroC) := by
  rw [List.getD_eq_getElem?_getD, List.getElem?_eq_getElem hi, Option.getD_some]
  exact h _ (List.getElem_mem hi)
theorem okS_substM (l : List ConT) (hl : ∀ x ∈ l, okS x) (c : ConT) (b : Int) (h : okS c) : okS (mapF (substM l) c b) := by
  refine mapF_okS _ c b h fun x b' hx => ?_
  have hx' := (leaves_mem c b x b' hx).2.1 h
  rw [substM]
  split
  · exact okS_leafC hx'
  · split
    · exact okS_varC _
    · exact okS_shift _ _ (all_getD hl (by omega))
theorem wt_substM (l : List ConT) (hl : ∀ x ∈ l, wtF x ≤ 60) (c : ConT) (b : Int) (h : wtF c ≤ 60) : wtF (mapF (substM l) c b) ≤ 3600 := by
  have := wt_mul (substM l) 60 (by decide) c b fun x b' hx => by
    have hx' := (leaves_mem c b x b' hx).1
    rw [substM]
    split
    · have := wt_leafC x; omega
    · split
      · rw [wt_varC]; decide
      · have := wt_shift b' 0 (l.getD (x.n - b').toNat zeroC) 0
        have h2 : wtF (l.getD (x.n - b').toNat zeroC) ≤ 60 := all_getD (p := fun x => wtF x ≤ 60) hl (by omega)
        omega
  have h3 : wtF c * 60 ≤ 60 * 60 := Nat.mul_le_mul_right 60 h
  omega
theorem lam_node : nodeF 11 0 ByteArray.empty [] [] 1 = true := by decide +kernel
theorem bound_valid {c : ConT} (hs : sizeF c ≤ 300) (h : validF c = true) : validF (boundC 11 [] c) = true := by
  have hf := validF_formed h
  have hd := depthF_le c
  rw [validF, boundC, sizeF, sizeL, sizeL, depthF, depthL, depthL, formedF, formedL, formedL]
  simp only [Bool.and_eq_true, decide_eq_true_eq, List.length_singleton, lam_node, hf]
  refine ⟨by omega, by omega, by simp⟩
theorem bound_inner {c : ConT} (h : validF (boundC 11 [] c) = true) : validF c = true := by
  rw [validF, boundC, sizeF, sizeL, sizeL, depthF, depthL, depthL, formedF, formedL, formedL] at h
  simp only [Bool.and_eq_true, decide_eq_true_eq] at h
  rw [validF]
  simp only [Bool.and_eq_true, decide_eq_true_eq]
  exact ⟨by omega, by omega, h.2.2.2.1⟩
theorem bound_map (leaf : ConT → Int → ConT) (c : ConT) : mapF leaf (boundC 11 [] c) 0 = boundC 11 [] (mapF leaf c 1) := by
  rw [boundC, mapF, if_neg (by decide), mapL, mapL]
  rfl
theorem bound_okS {c : ConT} (h : okS c) : okS (boundC 11 [] c) := by
  rw [boundC, okS]
  exact ⟨by decide, by simp, by rw [okSs]; exact ⟨h, by rw [okSs]; trivial⟩⟩
theorem bound_wt (c : ConT) : wtF (boundC 11 [] c) = 1 + wtF c := by
  rw [boundC, wtF, wtL, wtL]
  simp [knL]

theorem lim_cases (X : ConT) : ∃ x e, (if validF X = true then (X, (0 : Int)) else (zeroC, 6)) = (x, e) ∧ (e = 0 ∧ x = X ∧ validF X = true ∨ e = 6) := by
  split
  · exact ⟨_, _, rfl, .inl ⟨rfl, rfl, by assumption⟩⟩
  · exact ⟨_, _, rfl, .inr rfl⟩

theorem TyconCommute_spec (c a : ConT) (l : List ConT) :
    Spec Tryz.prog 6 [pp (encC c), pp (encC a), pp (.slice (l.map encC))] [] (.bool true) [] := by
  have hAw := awake_spec
  have hT := tiny_spec [c, a]
  simp only [List.map_cons, List.map_nil] at hT
  have hany : (!([c, a].any tinyP)) = (!tinyP c && !tinyP a) := by simp
  rw [hany] at hT
  have hTl := tiny_spec l
  have e00 : ((0 : Int) == 0) = true := rfl
  have e11 : (((1 : Nat) : Int) != 1) = false := rfl
  have e00' : ((0 : Int) != 0) = false := rfl
  have e60 : ((6 : Int) != 0) = true := rfl
  have e66 : ((6 : Int) == 6) = true := rfl
  have e66' : ((6 : Int) != 6) = false := rfl
  have e60' : ((6 : Int) == 0) = false := rfl
  refine Spec.walk (rv := [.tmp 6]) ann6 126 Tryz.func6 mixed rfl rfl (by kernel_rfl) rfl rfl fun hfit => ?_
  clear hfit hany
  simp only [go_sem, reduceCtorEq, ↓reduceIte, Nat.reduceEqDiff, Nat.reduceAdd, Nat.reduceMul, Nat.reduceSub, Nat.reduceLeDiff, Nat.reduceBEq, Int.reduceToNat, Int.reduceLE, Int.reduceLT]
  refine aCall_intro hAw ?_
  simp only [go_sem, reduceCtorEq, ↓reduceIte, Nat.reduceEqDiff, Nat.reduceAdd, Nat.reduceMul, Nat.reduceSub, Nat.reduceLeDiff, Nat.reduceBEq, Int.reduceToNat, Int.reduceLE, Int.reduceLT, encC_sz]
  refine guardK_intro (fun hn => ?_) (fun hn => ?_)
  rotate_left
  · simp only [go_sem, reduceCtorEq, ↓reduceIte, Nat.reduceEqDiff, Nat.reduceAdd, Nat.reduceMul, Nat.reduceSub, Nat.reduceLeDiff, Nat.reduceBEq, Int.reduceToNat, Int.reduceLE, Int.reduceLT]
    refine aCall_intro hAw ?_
    simp only [go_sem, reduceCtorEq, ↓reduceIte, Nat.reduceEqDiff, Nat.reduceAdd, Nat.reduceMul, Nat.reduceSub, Nat.reduceLeDiff, Nat.reduceBEq, Int.reduceToNat, Int.reduceLE, Int.reduceLT]
  have hn4 : l.length ≤ 4 := by have := of_decide_eq_false hn; simp only [List.length_map] at this; omega
  simp only [go_sem, reduceCtorEq, ↓reduceIte, Nat.reduceEqDiff, Nat.reduceAdd, Nat.reduceMul, Nat.reduceSub, Nat.reduceLeDiff, Nat.reduceBEq, Int.reduceToNat, Int.reduceLE, Int.reduceLT]
  refine aCall_intro hT ?_
  cases hc : tinyP c with
  | true =>
    simp only [go_sem, reduceCtorEq, ↓reduceIte, Nat.reduceEqDiff, Nat.reduceAdd, Nat.reduceMul, Nat.reduceSub, Nat.reduceLeDiff, Nat.reduceBEq, Int.reduceToNat, Int.reduceLE, Int.reduceLT]
    refine aCall_intro hAw ?_
    simp only [go_sem, reduceCtorEq, ↓reduceIte, Nat.reduceEqDiff, Nat.reduceAdd, Nat.reduceMul, Nat.reduceSub, Nat.reduceLeDiff, Nat.reduceBEq, Int.reduceToNat, Int.reduceLE, Int.reduceLT]
  | false =>
  cases ha : tinyP a with
  | true =>
    simp only [go_sem, reduceCtorEq, ↓reduceIte, Nat.reduceEqDiff, Nat.reduceAdd, Nat.reduceMul, Nat.reduceSub, Nat.reduceLeDiff, Nat.reduceBEq, Int.reduceToNat, Int.reduceLE, Int.reduceLT]
    refine aCall_intro hAw ?_
    simp only [go_sem, reduceCtorEq, ↓reduceIte, Nat.reduceEqDiff, Nat.reduceAdd, Nat.reduceMul, Nat.reduceSub, Nat.reduceLeDiff, Nat.reduceBEq, Int.reduceToNat, Int.reduceLE, Int.reduceLT]
  | false =>
  simp only [go_sem, reduceCtorEq, ↓reduceIte, Nat.reduceEqDiff, Nat.reduceAdd, Nat.reduceMul, Nat.reduceSub, Nat.reduceLeDiff, Nat.reduceBEq, Int.reduceToNat, Int.reduceLE, Int.reduceLT]
  refine aCall_intro hTl ?_
  cases hl : l.any tinyP with
  | true =>
    simp only [go_sem, reduceCtorEq, ↓reduceIte, Nat.reduceEqDiff, Nat.reduceAdd, Nat.reduceMul, Nat.reduceSub, Nat.reduceLeDiff, Nat.reduceBEq, Int.reduceToNat, Int.reduceLE, Int.reduceLT]
    refine aCall_intro hAw ?_
    simp only [go_sem, reduceCtorEq, ↓reduceIte, Nat.reduceEqDiff, Nat.reduceAdd, Nat.reduceMul, Nat.reduceSub, Nat.reduceLeDiff, Nat.reduceBEq, Int.reduceToNat, Int.reduceLE, Int.reduceLT]
  | false =>
  obtain ⟨hcw, hcs, hcv⟩ := tiny_of hc
  obtain ⟨haw, has, hav⟩ := tiny_of ha
  have hlt : ∀ x ∈ l, wtF x < 60 ∧ okS x ∧ validF x = true := fun x hx => by
    refine tiny_of ?_
    cases hx' : tinyP x with
    | false => rfl
    | true => rw [List.any_eq_true.2 ⟨x, hx, hx'⟩] at hl; cases hl
  have hlv : l.all validF = true := List.all_eq_true.2 fun x hx => (hlt x hx).2.2
  have hav' : [a].all validF = true := by simp [hav]
  have hX := Subst_spec c [a] (by omega) hcs (fun x hx => by rw [List.mem_singleton.1 hx]; exact ⟨by omega, has⟩)
  have hY := Subst_spec a l (by omega) has (fun x hx => ⟨by have := (hlt x hx).1; omega, (hlt x hx).2.1⟩)
  have hB := Subst_spec (boundC 11 [] c) l (by rw [bound_wt]; omega) (bound_okS hcs) (fun x hx => ⟨by have := (hlt x hx).1; omega, (hlt x hx).2.1⟩)
  have hBo := rBound_spec 11 [] c
  have hbv : validF (boundC 11 [] c) = true := bound_valid (by have := sizeF_wt c; omega) hcv
  rw [substF_M c [a] hcv hav' (by simp)] at hX
  rw [substF_M a l hav hlv (by omega)] at hY
  rw [substF_M (boundC 11 [] c) l hbv hlv (by omega), bound_map] at hB
  have hcom := subst_subst l a c
  have wX := wt_substM [a] (fun x hx => by rw [List.mem_singleton.1 hx]; omega) c 0 (by omega)
  have wY := wt_substM l (fun x hx => by have := (hlt x hx).1; omega) a 0 (by omega)
  have wB := wt_substM l (fun x hx => by have := (hlt x hx).1; omega) c 1 (by omega)
  have sX := okS_substM [a] (fun x hx => by rw [List.mem_singleton.1 hx]; exact has) c 0 hcs
  have sY := okS_substM l (fun x hx => (hlt x hx).2.1) a 0 has
  have sB := okS_substM l (fun x hx => (hlt x hx).2.1) c 1 hcs
  generalize mapF (substM [a]) c 0 = X at hX hcom wX sX
  generalize mapF (substM l) a 0 = Y at hY hcom wY sY
  generalize mapF (substM l) c 1 = B at hB hcom wB sB
  have hF := Subst_spec X l (by omega) sX (fun x hx => ⟨by have := (hlt x hx).1; omega, (hlt x hx).2.1⟩)
  have hG := Subst_spec B [Y] (by omega) sB (fun x hx => by rw [List.mem_singleton.1 hx]; exact ⟨by omega, sY⟩)
  simp only [List.map_cons, List.map_nil] at hX hG
  clear hT hTl hcw hcs haw has hlt hc ha hl hn hAw
  have encB : encC (boundC 11 [] B) = .agg [.int .i64 11, .int .i64 0, .str ByteArray.empty, .slice ([].map encK), .slice ([].map PV.str), .slice ([B].map encC)] := by rw [boundC, encC_mk]
  obtain ⟨x, e, ee, ex⟩ := lim_cases X
  obtain ⟨y, f, fe, fx⟩ := lim_cases Y
  obtain ⟨z, g, ge, gx⟩ := lim_cases (boundC 11 [] B)
  rw [ee] at hX
  rw [fe] at hY
  rw [ge] at hB
  clear ee fe ge
  simp only [go_sem, reduceCtorEq, ↓reduceIte, Nat.reduceEqDiff, Nat.reduceAdd, Nat.reduceMul, Nat.reduceSub, Nat.reduceLeDiff, Nat.reduceBEq, Int.reduceToNat, Int.reduceLE, Int.reduceLT, encC_sz]
  refine aCall_intro hX ?_
  simp only [go_sem, reduceCtorEq, ↓reduceIte, Nat.reduceEqDiff, Nat.reduceAdd, Nat.reduceMul, Nat.reduceSub, Nat.reduceLeDiff, Nat.reduceBEq, Int.reduceToNat, Int.reduceLE, Int.reduceLT, encC_sz]
  refine aCall_intro hY ?_
  simp only [go_sem, reduceCtorEq, ↓reduceIte, Nat.reduceEqDiff, Nat.reduceAdd, Nat.reduceMul, Nat.reduceSub, Nat.reduceLeDiff, Nat.reduceBEq, Int.reduceToNat, Int.reduceLE, Int.reduceLT, encC_sz]
  refine aCall_intro hBo ?_
  simp only [go_sem, reduceCtorEq, ↓reduceIte, Nat.reduceEqDiff, Nat.reduceAdd, Nat.reduceMul, Nat.reduceSub, Nat.reduceLeDiff, Nat.reduceBEq, Int.reduceToNat, Int.reduceLE, Int.reduceLT, encC_sz]
  refine aCall_intro hB ?_
  simp only [go_sem, reduceCtorEq, ↓reduceIte, Nat.reduceEqDiff, Nat.reduceAdd, Nat.reduceMul, Nat.reduceSub, Nat.reduceLeDiff, Nat.reduceBEq, Int.reduceToNat, Int.reduceLE, Int.reduceLT, encC_sz]
  by_cases h0 : e = 0 ∧ f = 0 ∧ g = 0
  · obtain ⟨rfl, rfl, rfl⟩ := h0
    obtain ⟨-, rfl, hXv⟩ := ex.resolve_right (by decide)
    obtain ⟨-, rfl, hYv⟩ := fx.resolve_right (by decide)
    obtain ⟨-, rfl, hBv⟩ := gx.resolve_right (by decide)
    have hYv' : [y].all validF = true := by simp [hYv]
    rw [substF_M x l hXv hlv (by omega), hcom] at hF
    rw [substF_M B [y] (bound_inner hBv) hYv' (by simp)] at hG
    obtain ⟨p, q, pe, px⟩ := lim_cases (mapF (substM [y]) B 0)
    rw [pe] at hF hG
    have hE := Equal_spec p p
    rw [eqC_refl] at hE
    simp only [go_sem, reduceCtorEq, ↓reduceIte, Nat.reduceEqDiff, Nat.reduceAdd, Nat.reduceMul, Nat.reduceSub, Nat.reduceLeDiff, Nat.reduceBEq, Int.reduceToNat, Int.reduceLE, Int.reduceLT, encC_sz, e00', encB, e11]
    refine aCall_intro hF ?_
    simp only [go_sem, reduceCtorEq, ↓reduceIte, Nat.reduceEqDiff, Nat.reduceAdd, Nat.reduceMul, Nat.reduceSub, Nat.reduceLeDiff, Nat.reduceBEq, Int.reduceToNat, Int.reduceLE, Int.reduceLT, encC_sz]
    refine aCall_intro hG ?_
    simp only [go_sem, reduceCtorEq, ↓reduceIte, Nat.reduceEqDiff, Nat.reduceAdd, Nat.reduceMul, Nat.reduceSub, Nat.reduceLeDiff, Nat.reduceBEq, Int.reduceToNat, Int.reduceLE, Int.reduceLT, encC_sz]
    rcases px with ⟨rfl, -, -⟩ | rfl
    · simp only [go_sem, reduceCtorEq, ↓reduceIte, Nat.reduceEqDiff, Nat.reduceAdd, Nat.reduceMul, Nat.reduceSub, Nat.reduceLeDiff, Nat.reduceBEq, Int.reduceToNat, Int.reduceLE, Int.reduceLT, encC_sz, e00, e66]
      refine ⟨by rfl, ?_⟩
      refine aCall_intro hE ?_
      simp only [go_sem, reduceCtorEq, ↓reduceIte, Nat.reduceEqDiff, Nat.reduceAdd, Nat.reduceMul, Nat.reduceSub, Nat.reduceLeDiff, Nat.reduceBEq, Int.reduceToNat, Int.reduceLE, Int.reduceLT]
    · simp only [go_sem, reduceCtorEq, ↓reduceIte, Nat.reduceEqDiff, Nat.reduceAdd, Nat.reduceMul, Nat.reduceSub, Nat.reduceLeDiff, Nat.reduceBEq, Int.reduceToNat, Int.reduceLE, Int.reduceLT, encC_sz, e60', e66]
      rfl
  · have ex' : e = 0 ∨ e = 6 := ex.imp (fun h => h.1) id
    have fx' : f = 0 ∨ f = 6 := fx.imp (fun h => h.1) id
    have gx' : g = 0 ∨ g = 6 := gx.imp (fun h => h.1) id
    clear ex fx gx hF hG
    rcases ex' with rfl | rfl <;> rcases fx' with rfl | rfl <;> rcases gx' with rfl | rfl
    · exact absurd ⟨rfl, rfl, rfl⟩ h0
    all_goals simp only [go_sem, reduceCtorEq, ↓reduceIte, Nat.reduceEqDiff, Nat.reduceAdd, Nat.reduceMul, Nat.reduceSub, Nat.reduceLeDiff, Nat.reduceBEq, Int.reduceToNat, Int.reduceLE, Int.reduceLT, encC_sz, e00, e00', e60, e60', e66, e66']
end Go.Abs.Kon
