/- The law TyconConsts. -/
import Derived.Test.YtjfegcnjmpedhaaGreatDoorConsG
set_option linter.unusedSimpArgs false
set_option linter.unusedVariables false
namespace Go.Abs.Kon
open Go Go.Proofs Go.Abs
set_option maxRecDepth 100000
set_option maxHeartbeats 40000000

theorem bind_any {c : ConT} {ns : List ByteArray} (hv : validF c = true) (h : ns.any (fun s => !constF s) = true) : bindF c ns = (zeroC, 1) := by
  rw [bindF, if_neg (by rw [hv]; decide)]
  have : namesN ns = 1 := by rw [namesN, if_pos h]
  rw [this, if_pos (by decide)]
theorem bind_full {c : ConT} {ns : List ByteArray} (hv : validF c = true) (h : ns.any (fun s => !constF s) = false) (h2 : ns.length > 1000) : bindF c ns = (zeroC, 5) := by
  rw [bindF, if_neg (by rw [hv]; decide)]
  have : namesN ns = 5 := by rw [namesN, h, if_neg (by decide), if_pos h2]
  rw [this, if_pos (by decide)]
theorem bind_rest {c : ConT} {ns : List ByteArray} (hv : validF c = true) (h : ns.any (fun s => !constF s) = false) (h2 : ¬ ns.length > 1000) : bindF c ns = if twiceN ns = true then (zeroC, 9) else replF (bindLeaf ns) c := by
  rw [bindF, if_neg (by rw [hv]; decide)]
  have hN : namesN ns = if twiceN ns = true then 9 else 0 := by
    rw [namesN, h, if_neg h2]
    exact if_neg (by decide)
  rw [hN]
  split
  · rw [if_pos (by decide)]
  · rw [if_neg (by decide)]
theorem bind_answer (ns : List ByteArray) {c : ConT} (hv : validF c = true) : answerF (replF (bindLeaf ns) c).1 (replF (bindLeaf ns) c).2 (rBindF ns c 0) = true := by
  rw [replF_eq, bind_eq ns c 0 (validF_formed hv), answerF]
  split
  · simp only [eqC_refl]; rfl
  · simp only [eqC_refl]; rfl
theorem bind_okS (ns : List ByteArray) {c : ConT} (hv : validF c = true) (ho : okS c) : okS (rBindF ns c 0) := by
  rw [← bind_eq ns c 0 (validF_formed hv)]
  exact mapF_okS _ c 0 ho fun x b hx => (bindLeaf_ok ns x b ((leaves_mem c 0 x b hx).2.1 ho)).2
theorem consts_two {c : ConT} (hv : validF c = true) : dupX ((rcsF c).foldl rstepX []) = ((cstsF c 0).foldl pstepX ([], false)).2 ∧ (((cstsF c 0).foldl pstepX ([], false)).2 = false → sortX ((cstsF c 0).foldl pstepX ([], false)).1 = (rcsF c).foldl rstepX [] ∧ ((rcsF c).foldl rstepX []).Pairwise fun x y => nmX x < nmX y) := by
  rw [rcs_eq c 0 (validF_formed hv)]
  exact consts_agree (cstsF c 0) sortX sortX_perm sortX_weak

noncomputable def lawT1 : Code := seqTail 3 (Tryz.f3.body.getD .skip)
theorem law_first (c : ConT) (ns : List ByteArray) (l : List CsT) (hw : wtF c < 400) (ho : okS c) (hnl : ns.length ≤ 1010) (hsn : ∀ s ∈ ns, s.size ≤ 200) (hl : l.length ≤ 1010) (hs : ∀ x ∈ l, x.1.size ≤ 200) :
    AWp Tryz.prog annTC lawT1 (finK Tryz.prog [.tmp 6] (.bool true) []) ⟨[(2, pp (.slice (l.map encX))), (3, pp (.ep (encC c) 0)), (1, pp (.slice (ns.map .str))), (8, ii (constsF c).2), (7, pp (.slice ((constsF c).1.map encX)))], [], []⟩ := by
  have hz : eqC zeroC zeroC = true := eqC_refl _
  have hBi := tBind_spec c ns (by omega) ho (fun s h => by have := hsn s h; omega) (by omega)
  have hUn := tUnbind_spec c l (by omega) ho (fun x h => by have := hs x h; omega) (by omega)
  have hVa := rValid_spec c ho
  have hCo := rConsts_spec c (by omega)
  have hNo := none_spec (bindF c ns).1
  have hT2 := law_second c l hw ho hl hs
  have m11 : ((1 : Int) != 1) = false := rfl
  have m55 : ((5 : Int) != 5) = false := rfl
  have m99 : ((9 : Int) != 9) = false := rfl
  have m00 : ((0 : Int) != 0) = false := rfl
  have mBB : ((11 : Int) != 11) = false := rfl
  have n0 : (((0 : Nat) : Int) != 0) = false := rfl
  have hAn : Spec Tryz.prog 7 [pp (.slice (ns.map .str)), pp (.fn 18 [])] [] (.bool (ns.any fun s => !constF s)) [] :=
    ContainsFuncS PV.str ns 18 [] (fun s => !constF s) (fun _ _ => rfl) fun s hm => lawC3_spec s (by have := hsn s hm; omega)
  show AWp Tryz.prog annTC (.seq _ (.seq _ (.seq _ (.seq _ (.seq _ (.seq _ (.seq _ (.seq _ lawT2)))))))) _ _
  generalize lawT2 = T2 at hT2 ⊢
  rw [distF] at hCo
  cases hv : validF c with
  | false =>
    have hc1 : constsF c = ([], 1) := by rw [constsF, if_pos hv]
    have hb1 : bindF c ns = (zeroC, 1) := by rw [bindF, if_pos hv]
    rw [hv] at hVa hT2
    rw [hb1] at hBi hNo
    rw [hz] at hNo
    rw [hc1]
    cases hd : dupX ((rcsF c).foldl rstepX []) <;> (
      rw [hd] at hCo
      simp only [if_true, Bool.false_eq_true, if_false] at hCo
      simp only [go_sem, encC_sz, List.map_nil]
      refine aCall_intro hBi ?_
      simp only [go_sem, encC_sz]
      refine aCall_intro hUn ?_
      simp only [go_sem, encC_sz]
      refine aCall_intro hVa ?_
      simp only [go_sem, encC_sz]
      refine aCall_intro hCo ?_
      simp only [go_sem, List.length_nil, n0, m11]
      refine aCall_intro hNo ?_
      simp only [go_sem, m11]
      exact hT2)
  | true =>
    obtain ⟨hd1, hd2⟩ := consts_two hv
    rw [hv] at hVa hT2
    generalize hst : (cstsF c 0).foldl pstepX ([], false) = st at hd1 hd2
    obtain ⟨pl, pd⟩ := st
    simp only at hd1 hd2
    have hcs : constsF c = if pd = true then ([], 11) else (sortX pl, 0) := by rw [constsF, if_neg (by rw [hv]; decide), hst]
    rw [hd1] at hCo
    have hSC := SameConsts_spec ((rcsF c).foldl rstepX [])
    have hB1 := bind_any (c := c) (ns := ns) hv
    have hB2 := bind_full (c := c) (ns := ns) hv
    have hB3 := bind_rest (c := c) (ns := ns) hv
    have hAw := answer_spec (replF (bindLeaf ns) c).1 (replF (bindLeaf ns) c).2 (rBindF ns c 0) (bind_okS ns hv ho)
    rw [bind_answer ns hv] at hAw
    have hRb := rBindTop_spec ns (by omega) c (validF_formed hv) (by omega)
    have hV := Values_spec ns
    have hle := compact_le ns
    have ht : twiceN ns = decide ((Lib.compact (sortN (bysN ns))).length < ns.length) := rfl
    simp only [seqF, capN'] at hV
    have front : ∀ (G : Prop), G → G := fun _ h => h
    clear front
    cases hA : ns.any fun s => !constF s with
    | true =>
      have hb1 := hB1 hA
      rw [hA] at hAn
      rw [hb1] at hBi hNo
      rw [hz] at hNo
      cases pd with
      | true =>
        simp only [if_true] at hCo hcs
        rw [hcs]
        simp only [go_sem, encC_sz, List.map_nil]
        refine aCall_intro hBi ?_
        simp only [go_sem, encC_sz]
        refine aCall_intro hUn ?_
        simp only [go_sem, encC_sz]
        refine aCall_intro hVa ?_
        simp only [go_sem, encC_sz]
        refine aCall_intro hCo ?_
        simp only [go_sem, List.length_nil, n0, mBB]
        refine aCall_intro hAn ?_
        simp only [go_sem]
        refine aCall_intro hNo ?_
        simp only [go_sem, m11]
        exact hT2
      | false =>
        obtain ⟨hso, _⟩ := hd2 rfl
        simp only [Bool.false_eq_true, if_false] at hCo hcs
        rw [hcs, hso]
        simp only [go_sem, encC_sz]
        refine aCall_intro hBi ?_
        simp only [go_sem, encC_sz]
        refine aCall_intro hUn ?_
        simp only [go_sem, encC_sz]
        refine aCall_intro hVa ?_
        simp only [go_sem, encC_sz]
        refine aCall_intro hCo ?_
        simp only [go_sem]
        refine aCall_intro hSC ?_
        simp only [go_sem, m00]
        refine aCall_intro hAn ?_
        simp only [go_sem]
        refine aCall_intro hNo ?_
        simp only [go_sem, m11]
        exact hT2
    | false =>
      rw [hA] at hAn
      by_cases hF : ns.length > 1000
      · have hb1 := hB2 hA hF
        have d1 : decide ((ns.length : Int) > 1000) = true := decide_eq_true (by omega)
        rw [hb1] at hBi hNo
        rw [hz] at hNo
        cases pd with
        | true =>
          simp only [if_true] at hCo hcs
          rw [hcs]
          simp only [go_sem, encC_sz, List.map_nil]
          refine aCall_intro hBi ?_
          simp only [go_sem, encC_sz]
          refine aCall_intro hUn ?_
          simp only [go_sem, encC_sz]
          refine aCall_intro hVa ?_
          simp only [go_sem, encC_sz]
          refine aCall_intro hCo ?_
          simp only [go_sem, List.length_nil, n0, mBB]
          refine aCall_intro hAn ?_
          simp only [go_sem, List.length_map, d1]
          refine aCall_intro hNo ?_
          simp only [go_sem, m55]
          exact hT2
        | false =>
          obtain ⟨hso, _⟩ := hd2 rfl
          simp only [Bool.false_eq_true, if_false] at hCo hcs
          rw [hcs, hso]
          simp only [go_sem, encC_sz]
          refine aCall_intro hBi ?_
          simp only [go_sem, encC_sz]
          refine aCall_intro hUn ?_
          simp only [go_sem, encC_sz]
          refine aCall_intro hVa ?_
          simp only [go_sem, encC_sz]
          refine aCall_intro hCo ?_
          simp only [go_sem]
          refine aCall_intro hSC ?_
          simp only [go_sem, m00]
          refine aCall_intro hAn ?_
          simp only [go_sem, List.length_map, d1]
          refine aCall_intro hNo ?_
          simp only [go_sem, m55]
          exact hT2
      · have hb1 := hB3 hA hF
        have d1 : decide ((ns.length : Int) > 1000) = false := decide_eq_false (by omega)
        by_cases h0 : ns = []
        · subst h0
          have hS := Sorted_0
          have hC := CompactS_0
          have ht0 : twiceN [] = false := by rw [twiceN]; simp
          rw [ht0, if_neg (by decide)] at hb1
          rw [hb1] at hBi
          have d0 : decide (((0 : Nat) : Int) > 1000) = false := by decide
          have n00 : (((0 : Nat) : Int) != ((0 : Nat) : Int)) = false := rfl
          simp only [seqF, capN'] at hS
          cases pd with
          | true =>
            simp only [if_true] at hCo hcs
            rw [hcs]
            simp only [go_sem, encC_sz, List.map_nil]
            refine aCall_intro hBi ?_
            simp only [go_sem, encC_sz]
            refine aCall_intro hUn ?_
            simp only [go_sem, encC_sz]
            refine aCall_intro hVa ?_
            simp only [go_sem, encC_sz]
            refine aCall_intro hCo ?_
            simp only [go_sem, List.length_nil, n0, mBB]
            refine aCall_intro hAn ?_
            simp only [go_sem, List.length_nil, d0]
            refine aCall_intro hV ?_
            simp only [go_sem, List.map_nil]
            refine .inr (aCall_intro hS ?_)
            simp only [go_sem]
            refine .inr (aCall_intro hC ?_)
            simp only [go_sem, List.length_nil, n00, encC_sz]
            refine aCall_intro hRb ?_
            simp only [go_sem, encC_sz]
            refine aCall_intro hAw ?_
            simp only [go_sem]
            exact hT2
          | false =>
            obtain ⟨hso, _⟩ := hd2 rfl
            simp only [Bool.false_eq_true, if_false] at hCo hcs
            rw [hcs, hso]
            simp only [go_sem, encC_sz, List.map_nil]
            refine aCall_intro hBi ?_
            simp only [go_sem, encC_sz]
            refine aCall_intro hUn ?_
            simp only [go_sem, encC_sz]
            refine aCall_intro hVa ?_
            simp only [go_sem, encC_sz]
            refine aCall_intro hCo ?_
            simp only [go_sem]
            refine aCall_intro hSC ?_
            simp only [go_sem, m00]
            refine aCall_intro hAn ?_
            simp only [go_sem, List.length_nil, d0]
            refine aCall_intro hV ?_
            simp only [go_sem, List.map_nil]
            refine .inr (aCall_intro hS ?_)
            simp only [go_sem]
            refine .inr (aCall_intro hC ?_)
            simp only [go_sem, List.length_nil, n00, encC_sz]
            refine aCall_intro hRb ?_
            simp only [go_sem, encC_sz]
            refine aCall_intro hAw ?_
            simp only [go_sem]
            exact hT2
        · have hS := Sorted_X ns h0 (by omega)
          have hC := CompactS_turn (sortN (bysN ns)) (by rw [sortN_length, bysN, List.length_map]; omega)
          have hne : (((Lib.compact (sortN (bysN ns))).length : Int) != (ns.length : Int)) = twiceN ns := by
            rw [ht, Bool.eq_iff_iff, bne_iff_ne, decide_eq_true_iff]
            omega
          simp only [seqF, capN'] at hS
          generalize Lib.compact (sortN (bysN ns)) = cs at hC hne
          generalize sortN (bysN ns) = so at hS hC
          cases htw : twiceN ns with
          | true =>
            rw [htw, if_pos rfl] at hb1
            rw [htw] at hne
            rw [hb1] at hBi hNo
            rw [hz] at hNo
            cases pd with
            | true =>
              simp only [if_true] at hCo hcs
              rw [hcs]
              simp only [go_sem, encC_sz, List.map_nil]
              refine aCall_intro hBi ?_
              simp only [go_sem, encC_sz]
              refine aCall_intro hUn ?_
              simp only [go_sem, encC_sz]
              refine aCall_intro hVa ?_
              simp only [go_sem, encC_sz]
              refine aCall_intro hCo ?_
              simp only [go_sem, List.length_nil, n0, mBB]
              refine aCall_intro hAn ?_
              simp only [go_sem, List.length_map, d1]
              refine aCall_intro hV ?_
              simp only [go_sem]
              refine .inl (aCallX_intro hS ?_)
              simp only [go_sem]
              refine .inl (aCallT_intro hC ?_)
              simp only [go_sem, List.length_map, hne]
              refine aCall_intro hNo ?_
              simp only [go_sem, m99]
              exact hT2
            | false =>
              obtain ⟨hso, _⟩ := hd2 rfl
              simp only [Bool.false_eq_true, if_false] at hCo hcs
              rw [hcs, hso]
              simp only [go_sem, encC_sz]
              refine aCall_intro hBi ?_
              simp only [go_sem, encC_sz]
              refine aCall_intro hUn ?_
              simp only [go_sem, encC_sz]
              refine aCall_intro hVa ?_
              simp only [go_sem, encC_sz]
              refine aCall_intro hCo ?_
              simp only [go_sem]
              refine aCall_intro hSC ?_
              simp only [go_sem, m00]
              refine aCall_intro hAn ?_
              simp only [go_sem, List.length_map, d1]
              refine aCall_intro hV ?_
              simp only [go_sem]
              refine .inl (aCallX_intro hS ?_)
              simp only [go_sem]
              refine .inl (aCallT_intro hC ?_)
              simp only [go_sem, List.length_map, hne]
              refine aCall_intro hNo ?_
              simp only [go_sem, m99]
              exact hT2
          | false =>
            rw [htw, if_neg (by decide)] at hb1
            rw [htw] at hne
            rw [hb1] at hBi
            cases pd with
            | true =>
              simp only [if_true] at hCo hcs
              rw [hcs]
              simp only [go_sem, encC_sz, List.map_nil]
              refine aCall_intro hBi ?_
              simp only [go_sem, encC_sz]
              refine aCall_intro hUn ?_
              simp only [go_sem, encC_sz]
              refine aCall_intro hVa ?_
              simp only [go_sem, encC_sz]
              refine aCall_intro hCo ?_
              simp only [go_sem, List.length_nil, n0, mBB]
              refine aCall_intro hAn ?_
              simp only [go_sem, List.length_map, d1]
              refine aCall_intro hV ?_
              simp only [go_sem]
              refine .inl (aCallX_intro hS ?_)
              simp only [go_sem]
              refine .inl (aCallT_intro hC ?_)
              simp only [go_sem, List.length_map, hne, encC_sz]
              refine aCall_intro hRb ?_
              simp only [go_sem, encC_sz]
              refine aCall_intro hAw ?_
              simp only [go_sem]
              exact hT2
            | false =>
              obtain ⟨hso, _⟩ := hd2 rfl
              simp only [Bool.false_eq_true, if_false] at hCo hcs
              rw [hcs, hso]
              simp only [go_sem, encC_sz]
              refine aCall_intro hBi ?_
              simp only [go_sem, encC_sz]
              refine aCall_intro hUn ?_
              simp only [go_sem, encC_sz]
              refine aCall_intro hVa ?_
              simp only [go_sem, encC_sz]
              refine aCall_intro hCo ?_
              simp only [go_sem]
              refine aCall_intro hSC ?_
              simp only [go_sem, m00]
              refine aCall_intro hAn ?_
              simp only [go_sem, List.length_map, d1]
              refine aCall_intro hV ?_
              simp only [go_sem]
              refine .inl (aCallX_intro hS ?_)
              simp only [go_sem]
              refine .inl (aCallT_intro hC ?_)
              simp only [go_sem, List.length_map, hne, encC_sz]
              refine aCall_intro hRb ?_
              simp only [go_sem, encC_sz]
              refine aCall_intro hAw ?_
              simp only [go_sem]
              exact hT2
end Go.Abs.Kon

namespace Go.Abs.Kon
open Go Go.Proofs Go.Abs
set_option maxRecDepth 100000
set_option maxHeartbeats 40000000

theorem len_key (n : Nat) : ∃ b1 b2 b3 : Bool, decide ((n : Int) > 12) = b1 ∧ decide ((n : Int) ≤ 1000) = b2 ∧ decide ((n : Int) > 1010) = b3 ∧
    ((b1 = false ∧ b3 = false ∧ n ≤ 1010) ∨ (b1 = true ∧ b2 = true) ∨ (b1 = true ∧ b2 = false ∧ b3 = false ∧ n ≤ 1010) ∨ (b1 = true ∧ b2 = false ∧ b3 = true)) := by
  refine ⟨_, _, _, rfl, rfl, rfl, ?_⟩
  by_cases h1 : n ≤ 12
  · exact .inl ⟨decide_eq_false (by omega), decide_eq_false (by omega), by omega⟩
  · by_cases h2 : n ≤ 1000
    · exact .inr (.inl ⟨decide_eq_true (by omega), decide_eq_true (by omega)⟩)
    · by_cases h3 : n ≤ 1010
      · exact .inr (.inr (.inl ⟨decide_eq_true (by omega), decide_eq_false (by omega), decide_eq_false (by omega), h3⟩))
      · exact .inr (.inr (.inr ⟨decide_eq_true (by omega), decide_eq_false (by omega), decide_eq_true (by omega)⟩))
theorem TyconConsts_spec (c : ConT) (ns : List ByteArray) (l : List CsT) : Spec Tryz.prog 3 [pp (encC c), pp (.slice (ns.map .str)), pp (.slice (l.map encX))] [] (.bool true) [] := by
  have hAw := awake_spec
  have hSm := small_spec [c]
  simp only [List.map_cons, List.map_nil] at hSm
  have hany : (!([c].any bigP)) = !bigP c := by simp
  rw [hany] at hSm
  have hF : Spec Tryz.prog 7 [pp (.slice (ns.map .str)), pp (.fn 8 [])] [] (.bool (ns.any longS)) [] :=
    ContainsFuncS PV.str ns 8 [] longS (fun _ _ => rfl) fun s _ => lawC1_spec s
  have hG : Spec Tryz.prog 9 [pp (.slice (l.map encX)), pp (.fn 10 [])] [] (.bool (l.any longX)) [] :=
    ContainsFuncX encX l 10 [] longX (fun x _ => encX_sz' x) fun x _ => lawC2_spec x
  have hCo : bigP c = false → Spec Tryz.prog 12 [pp (encC c)] [] (.tuple [.slice ((constsF c).1.map encX), .int .i64 (constsF c).2]) [] := fun h => tConsts_spec c (by have := (small_of h).1; omega) (small_of h).2
  have hT1 : bigP c = false → ns.any longS = false → l.any longX = false → ns.length ≤ 1010 → l.length ≤ 1010 → AWp Tryz.prog annTC lawT1 (finK Tryz.prog [.tmp 6] (.bool true) []) ⟨[(2, pp (.slice (l.map encX))), (3, pp (.ep (encC c) 0)), (1, pp (.slice (ns.map .str))), (8, ii (constsF c).2), (7, pp (.slice ((constsF c).1.map encX)))], [], []⟩ := fun h1 h2 h3 h4 h5 =>
    law_first c ns l (small_of h1).1 (small_of h1).2 h4 (fun s hm => by
      have := List.any_eq_false.1 h2 s hm
      rw [longS] at this
      have := of_decide_eq_false (by simpa using this : decide ((s.size : Int) > 200) = false)
      omega) h5 (fun x hm => by
      have := List.any_eq_false.1 h3 x hm
      have h6 : longS x.1 = false := by
        cases hq : longS x.1 with
        | false => rfl
        | true => rw [longX, hq] at this; simp at this
      rw [longS] at h6
      have := of_decide_eq_false h6
      omega)
  refine wk (rv := [.tmp 6]) annTC 239 Tryz.func3 ?_
  show AWp Tryz.prog annTC (.seq _ (.seq _ (.seq _ lawT1))) _ _
  generalize lawT1 = T1 at hT1 ⊢
  simp only [go_sem]
  refine aCall_intro hAw ?_
  simp only [go_sem, encC_sz]
  refine aCall_intro hSm ?_
  simp only [go_sem, encC_sz]
  cases hc : bigP c with
  | true =>
    simp only [go_sem]
    refine aCall_intro hAw ?_
    simp only [go_sem]
  | false =>
    have hCo := hCo hc
    have hT1 := hT1 hc
    obtain ⟨b1, b2, b3, p1, p2, p3, hb⟩ := len_key ns.length
    obtain ⟨c1, c2, c3, q1, q2, q3, hq⟩ := len_key l.length
    rcases hb with ⟨rfl, rfl, hn⟩ | ⟨rfl, rfl⟩ | ⟨rfl, rfl, rfl, hn⟩ | ⟨rfl, rfl, rfl⟩
    case inr.inl =>
      simp only [go_sem, List.length_map, p1, p2]
      refine aCall_intro hAw ?_
      simp only [go_sem]
    case inr.inr.inr =>
      simp only [go_sem, List.length_map, p1, p2, p3]
      refine aCall_intro hAw ?_
      simp only [go_sem]
    all_goals
      rcases hq with ⟨rfl, rfl, hm⟩ | ⟨rfl, rfl⟩ | ⟨rfl, rfl, rfl, hm⟩ | ⟨rfl, rfl, rfl⟩
      case inr.inl =>
        simp only [go_sem, List.length_map, p1, p2, p3, q1, q2]
        refine aCall_intro hAw ?_
        simp only [go_sem]
      case inr.inr.inr =>
        simp only [go_sem, List.length_map, p1, p2, p3, q1, q2, q3]
        refine aCall_intro hAw ?_
        simp only [go_sem]
      all_goals
        simp only [go_sem, List.length_map, p1, p2, p3, q1, q2, q3]
        refine aCall_intro hF ?_
        cases hf : ns.any longS with
        | true =>
          simp only [go_sem]
          refine aCall_intro hAw ?_
          simp only [go_sem]
        | false =>
          simp only [go_sem]
          refine aCall_intro hG ?_
          cases hg : l.any longX with
          | true =>
            simp only [go_sem]
            refine aCall_intro hAw ?_
            simp only [go_sem]
          | false =>
            simp only [go_sem, encC_sz]
            refine aCall_intro hCo ?_
            simp only [go_sem]
            exact hT1 hf hg hn hm
end Go.Abs.Kon
