/- The law TyconBinds. -/
import Derived.Test.YtjfegcnjmpedhaaGreatDoorBindsA
import Derived.Test.YtjfegcnjmpedhaaGreatDoorConsG
import Derived.Test.YtjfegcnjmpedhaaGreatDoorKonJ
import Derived.Test.YtjfegcnjmpedhaaGreatDoorKonH
set_option linter.unusedSimpArgs false
set_option linter.unusedVariables false
namespace Go.Abs.Kon
open Go Go.Proofs Go.Abs
set_option maxRecDepth 100000
set_option maxHeartbeats 40000000

noncomputable def lawB2 : Code := seqTail 9 (Tryz.f4.body.getD .skip)
theorem binds_second (c : ConT) (k : List CsT) (hw : wtF c < 60) (ho : okS c) (hv : validF c = true) (h : BindsT c k) (hks : ∀ x ∈ k, x.1.size ≤ 100000000) :
    AWp Tryz.prog ann4 lawB2 (finK Tryz.prog [.tmp 4] (.bool true) []) ⟨[(14, .one .nilS), (2, pp (.ep (encC c) 0)), (13, pp (.slice (k.map encX)))], [], []⟩ := by
  have hsw := sizeF_wt c
  have hkl := h.len
  have hBi := tBind_spec c (k.map (·.1)) (by omega) ho (fun s hm => by obtain ⟨x, hx, rfl⟩ := List.mem_map.1 hm; exact hks x hx) (by rw [List.length_map]; omega)
  have hb1 := binds_bind hv (by omega) h
  have e66 : ((6 : Int) == 6) = true := rfl
  have e60 : ((6 : Int) != 0) = true := rfl
  have e00 : ((0 : Int) != 0) = false := rfl
  have e0 : ((0 : Int) == 0) = true := rfl
  have n0 : (((0 : Nat) : Int) == 0) = true := rfl
  have hEq := Equal_spec c c
  rw [eqC_refl] at hEq
  show AWp Tryz.prog ann4 (.seq (.seq _ (.block 0 (.loop _))) _) _ _
  simp only [go_sem, List.length_map]
  refine aLoop_list (α := CsT) (β := List ByteArray × Nat) (fun rest b => ⟨[(100, ii b.2), (14, .one (acc 216 .one (b.1.map .str))), (98, pp (.slice (k.map encX))), (2, pp (.ep (encC c) 0)), (13, pp (.slice (k.map encX))), (99, ii k.length)], [], []⟩)
    (fun rest b => ∃ pre, k = pre ++ rest ∧ b.2 = pre.length ∧ b.1 = pre.map (·.1)) ?_ ?_ k ([], 0) _ ?_ ⟨[], rfl, rfl, rfl⟩
  · rintro ⟨out, m⟩ ⟨pre, g1, g2, g3⟩ K
    simp only [List.append_nil] at g1 g2 g3
    subst g1
    simp only [go_sem, g2, lt_false (Int.le_refl _)]
    cases hm : validF (mapF (bindLeaf (k.map (·.1))) c 0) with
    | false =>
      rw [hb1, if_neg (by rw [hm]; decide)] at hBi
      rw [← g3] at hBi
      cases out <;> (
        simp only [go_sem, acc]
        refine aCall_intro hBi ?_
        simp only [go_sem, e60, e66])
    | true =>
      have hN := binds_none hv h hm
      have hU := binds_back hv (by omega) h hm
      have hwt := bind_wt (k.map (·.1)) c
      have hoS : okS (mapF (bindLeaf (k.map (·.1))) c 0) := mapF_okS _ c 0 ho fun x b hx => (bindLeaf_ok _ x b ((leaves_mem c 0 x b hx).2.1 ho)).2
      rw [hb1, if_pos hm] at hBi
      have hCo := tConsts_spec (mapF (bindLeaf (k.map (·.1))) c 0) (by omega) hoS
      have hUn := tUnbind_spec (mapF (bindLeaf (k.map (·.1))) c 0) k (by omega) hoS hks (by omega)
      rw [hN] at hCo
      rw [hU] at hUn
      rw [← g3] at hBi hCo hUn
      generalize mapF (bindLeaf out) c 0 = mm at hBi hCo hUn
      cases out <;> (
        simp only [go_sem, acc]
        refine aCall_intro hBi ?_
        simp only [go_sem, e00, encC_sz]
        refine aCall_intro hCo ?_
        simp only [go_sem, encC_sz, List.map_nil]
        refine aCall_intro hUn ?_
        simp only [go_sem, encC_sz, e0, List.length_nil, n0]
        refine aCall_intro hEq ?_
        simp only [go_sem])
  · rintro x rest ⟨out, m⟩ ⟨pre, g1, g2, g3⟩ K hK
    simp only at g2 g3
    have hx : (k.map encX)[m]? = some (.agg [.str x.1, .slice (x.2.map encK)]) := by simp [g1, g2, encX]
    have hlt : (m : Int) < k.length := by rw [g1, g2]; simp; omega
    have hll : k.length = m + (rest.length + 1) := by rw [g1, g2]; simp
    have hlo : out.length = m := by rw [g3, g2]; simp
    have w4 : IntKind.i64.wrap ((m : Int) + 1) = ((m + 1 : Nat) : Int) := by rw [wrap_id (by omega) (by omega)]; simp
    cases out with
    | nil =>
      simp only [go_sem, acc, decide_eq_true hlt, Int.toNat_natCast, Int.natCast_nonneg, hx, one_le_maxLen, w4]
      refine hK ([x.1], m + 1) _ ?_ ⟨pre ++ [x], by simp [g1], by simp [g2], by simp [← g3]⟩
      simp only [go_sem, acc]
    | cons z zs =>
      have hb1 : (zs.length + 1 + 1) * 16 ≤ 140737488355328 := by simp at hlo; omega
      have hb2 : zs.length + 1 + 1 ≤ maxLen := by rw [maxLen_eq]; simp at hlo; omega
      simp only [go_sem, acc, decide_eq_true hlt, Int.toNat_natCast, Int.natCast_nonneg, hx, List.length_map, hb1, hb2, w4]
      refine hK (z :: zs ++ [x.1], m + 1) _ ?_ ⟨pre ++ [x], by simp [g1], by simp [g2], by simp [← g3]⟩
      simp only [go_sem, acc, List.cons_append, List.map_append]
  · simp only [go_sem, acc, List.map_nil, Int.natCast_zero]

theorem eqCL_refl : ∀ l : List ConT, eqL eqC l l = true
  | [] => rfl
  | x :: l => by rw [eqL, eqC_refl, eqCL_refl l]; rfl
mutual
theorem spine_len : ∀ c : ConT, (spineF c).2.length ≤ wtF c
  | .mk op n s k names l => by
    have h := spineL_len (.mk op n s k names l) l
    rw [spineF, wtF]
    split
    · omega
    · simp
theorem spineL_len (c : ConT) : ∀ l : List ConT, (spineL c l).2.length ≤ wtL l
  | [] => by rw [spineL]; simp
  | [_] => by rw [spineL]; simp
  | f :: a :: r => by
    have h := spine_len f
    have ha := wt_pos a
    rw [spineL, wtL, wtL, List.length_append, List.length_singleton]
    omega
end
theorem okS_csts : ∀ (c : ConT) (b : Int), okS c → ∀ x ∈ cstsF c b, x.1.size ≤ 100000000 := by
  intro c b h x hx
  obtain ⟨⟨y, b'⟩, hy, he⟩ := List.mem_filterMap.1 hx
  have := (leaves_mem c b y b' hy).2.1 h
  rw [pickX] at he
  split at he
  · cases he
    obtain ⟨op, n, s, k, names, l⟩ := y
    simp only [okS] at this
    exact this.1
  · cases he
theorem apps_wt : ∀ (l : List ConT) (c : ConT), (∀ x ∈ l, wtF x < 60) → wtF (l.foldl appC c) ≤ wtF c + 61 * l.length
  | [], c, _ => by simp
  | a :: l, c, h => by
    have h1 := apps_wt l (appC c a) fun x hx => h x (by simp [hx])
    have h2 := h a (by simp)
    rw [wt_app] at h1
    rw [List.foldl_cons, List.length_cons]
    omega
theorem apps_okS : ∀ (l : List ConT) (c : ConT), okS c → (∀ x ∈ l, okS x) → okS (l.foldl appC c)
  | [], c, h, _ => h
  | a :: l, c, h, hl => by
    rw [List.foldl_cons]
    refine apps_okS l (appC c a) ?_ fun x hx => hl x (by simp [hx])
    rw [appC]
    simp only [okS, okSs]
    exact ⟨by decide, by simp, h, hl a (by simp), trivial⟩
theorem sum_small : ∀ l : List ConT, (∀ x ∈ l, wtF x < 60) → sumS l ≤ 60 * l.length
  | [], _ => by simp [sumS]
  | a :: l, h => by
    have h1 := sum_small l fun x hx => h x (by simp [hx])
    have h2 := h a (by simp)
    have h3 := sizeF_wt a
    rw [sumS, List.length_cons]
    omega
theorem TyconBinds_spec (c : ConT) (l : List ConT) : Spec Tryz.prog 4 [pp (encC c), pp (.slice (l.map encC))] [] (.bool true) [] := by
  have hAw := awake_spec
  have hTc := tiny_spec [c]
  have hTl := tiny_spec l
  simp only [List.map_cons, List.map_nil] at hTc
  have hany : (!([c].any tinyP)) = !tinyP c := by simp
  rw [hany] at hTc
  have hB2 := binds_second c
  refine wk (rv := [.tmp 4]) ann4 147 Tryz.func4 ?_
  show AWp Tryz.prog ann4 (.seq _ (.seq _ (.seq _ (.seq _ (.seq _ (.seq _ (.seq _ (.seq _ (.seq _ lawB2))))))))) _ _
  generalize lawB2 = B2 at hB2 ⊢
  simp only [go_sem]
  refine aCall_intro hAw ?_
  by_cases h6 : (l.length : Int) > 6
  · simp only [go_sem, List.length_map, decide_eq_true h6]
    refine aCall_intro hAw ?_
    simp only [go_sem]
  · simp only [go_sem, List.length_map, decide_eq_false h6, encC_sz]
    refine aCall_intro hTc ?_
    cases hc : tinyP c with
    | true =>
      simp only [go_sem]
      refine aCall_intro hAw ?_
      simp only [go_sem]
    | false =>
      simp only [go_sem]
      refine aCall_intro hTl ?_
      cases hl : l.any tinyP with
      | true =>
        simp only [go_sem]
        refine aCall_intro hAw ?_
        simp only [go_sem]
      | false =>
        obtain ⟨hw, ho, hv⟩ := tiny_of hc
        have hlx : ∀ x ∈ l, wtF x < 60 ∧ okS x ∧ validF x = true := fun x hx => tiny_of (by simpa using List.any_eq_false.1 hl x hx)
        have hsc := sizeF_wt c
        have hdc := depthF_le c
        have hlv : l.all validF = true := List.all_eq_true.2 fun x hx => (hlx x hx).2.2
        have hA : validF (l.foldl appC c) = true := by
          cases l with
          | nil => exact hv
          | cons a r =>
            have h7 : (a :: r).length ≤ 6 := by omega
            rw [validF, Bool.and_eq_true, Bool.and_eq_true]
            have hwt := apps_wt (a :: r) c fun x hx => (hlx x hx).1
            have hs := sizeF_wt ((a :: r).foldl appC c)
            have hd := depthF_le ((a :: r).foldl appC c)
            refine ⟨decide_eq_true (by omega), decide_eq_true ?_, ?_⟩
            · have hdd : ∀ (l : List ConT) (c : ConT), (∀ x ∈ l, wtF x < 60) → depthF (l.foldl appC c) ≤ max (depthF c) 60 + l.length := by
                intro l
                induction l with
                | nil => intro c _; simp; omega
                | cons b q ih =>
                  intro c h
                  have h1 := ih (appC c b) fun x hx => h x (by simp [hx])
                  have h2 := h b (by simp)
                  have h3 := depthF_le b
                  have h4 := sizeF_wt b
                  have h5 : depthF (appC c b) = max (depthF c) (depthF b) + 1 := by
                    rw [appC, depthF, depthL, depthL, depthL]; omega
                  rw [List.foldl_cons, List.length_cons]
                  omega
              have := hdd (a :: r) c fun x hx => (hlx x hx).1
              omega
            · have hff : ∀ (l : List ConT) (c : ConT), formedF c = true → (∀ x ∈ l, formedF x = true) → formedF (l.foldl appC c) = true := by
                intro l
                induction l with
                | nil => intro c h _; exact h
                | cons b q ih =>
                  intro c h hq
                  rw [List.foldl_cons]
                  refine ih (appC c b) ?_ fun x hx => hq x (by simp [hx])
                  rw [(appC_parts c b).2.2, h, hq b (by simp)]; rfl
              exact hff _ c (validF_formed hv) fun x hx => validF_formed (hlx x hx).2.2
        have hap : appsF c l = (l.foldl appC c, 0) := by
          have hsum := sum_small l fun x hx => (hlx x hx).1
          rw [appsF, if_neg (by rw [hv, hlv]; simp), if_neg (by omega), if_neg (by omega), if_pos hA]
        have hAp := Apps_spec c l (by omega) ho (fun x hx => ⟨by have := (hlx x hx).1; omega, (hlx x hx).2.1⟩) (by omega)
        rw [hap] at hAp
        have hwa := apps_wt l c fun x hx => (hlx x hx).1
        have hSa := Spine_spec (l.foldl appC c) (by omega) (apps_okS l c ho fun x hx => (hlx x hx).2.1)
        have hSc := Spine_spec c (by omega) ho
        rw [spineR, if_pos hA, spine_apps] at hSa
        rw [spineR, if_pos hv] at hSc
        have hEq := Equal_spec (spineF c).1 (spineF c).1
        rw [eqC_refl] at hEq
        have hsl := spine_len c
        have hCt := ConcatCn_all (spineF c).2 l (by omega) (by omega)
        have hEF := EqualFuncC encC ((spineF c).2 ++ l) ((spineF c).2 ++ l) 31 [] eqC (fun e _ => encC_sz e) (fun e _ => encC_sz e) fun x _ y _ => Equal_spec x y
        rw [eqCL_refl] at hEF
        have hCo := tConsts_spec c (by omega) ho
        have e00 : ((0 : Int) != 0) = false := rfl
        have eB0 : ((11 : Int) != 0) = true := rfl
        have eBB : ((11 : Int) == 11) = true := rfl
        have n0 : (((0 : Nat) : Int) == 0) = true := rfl
        clear hAw hTc hTl
        generalize (spineF c).1 = hd0 at hSa hSc hEq
        generalize (spineF c).2 = own at hSa hSc hCt hEF
        simp only [go_sem, encC_sz]
        refine aCall_intro hAp ?_
        simp only [go_sem, encC_sz]
        refine aCall_intro hSa ?_
        simp only [go_sem, encC_sz]
        refine aCall_intro hSc ?_
        simp only [go_sem, encC_sz, e00]
        refine aCall_intro hEq ?_
        simp only [go_sem]
        refine aCall_intro hCt ?_
        simp only [go_sem]
        refine aCall_intro hEF ?_
        simp only [go_sem, encC_sz]
        rcases binds_of hv with hk | ⟨k, hk⟩
        · rw [hk] at hCo
          refine aCall_intro hCo ?_
          simp only [go_sem, eB0, eBB, List.map_nil, List.length_nil, n0]
        · have hks : ∀ x ∈ k, x.1.size ≤ 100000000 := fun x hx => by
            have h1 := hk.eq
            rw [constsF, if_neg (by rw [hv]; decide)] at h1
            split at h1
            · cases h1
            · have h2 := (Prod.mk.inj h1).1
              rw [← h2] at hx
              have hI := pfoldX (cstsF c 0) [] ([], false) pinv_nil
              rw [List.nil_append] at hI
              exact okS_csts c 0 ho x (hI.sub x ((sortX_perm _).subset hx))
          rw [hk.eq] at hCo
          refine aCall_intro hCo ?_
          simp only [go_sem, e00]
          exact hB2 k hw ho hv hk hks
end Go.Abs.Kon
