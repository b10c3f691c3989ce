/- Constants: unbinding. -/
import Derived.Test.YtjfegcnjmpedhaaGreatDoorConsC
set_option linter.unusedSimpArgs false
set_option linter.unusedVariables false
namespace Go.Abs.Kon
open Go Go.Proofs Go.Abs
set_option maxRecDepth 100000
set_option maxHeartbeats 4000000

def validK (x : CsT) : Bool := (sizeK (.mk x.2) 20000 1).isSome
theorem unbind1_spec (x : CsT) : Spec Tryz.prog 62 [pp (encX x)] [] (.bool (!validK x)) [] := by
  have hV := kValid_spec (.mk x.2)
  rw [encK_mk] at hV
  rw [validK]
  refine wk (rv := [.tmp 2]) ann62 7 Tryz.func62 ?_
  simp only [go_sem, encX_eq]
  refine aCall_intro hV ?_
  simp only [go_sem]
def capX (l : List CsT) : PV := .ep (.slice (l.map encX)) 0
theorem unbindLeaf_spec (l : List CsT) (c : ConT) (b : Int) (hn : l.length ≤ 1000) (hk : ∀ x ∈ l, knL x.2 ≤ 100000000) (h : knL c.k ≤ 100000000) (h3 : 0 ≤ c.n) (h4 : c.n ≤ 20000) (h5 : 0 ≤ b) (h6 : b ≤ 10000000) :
    Spec Tryz.prog 64 [pp (encC c), ii b, pp (capX l)] [] (encC (unbindLeaf l c b)) [] := by
  have hL := leafOf_spec c (by omega)
  have hV := variable_spec (c.n - l.length)
  obtain ⟨op, m, s, k, names, ll⟩ := c
  simp only [ConT.k, ConT.n] at h h3 h4 hV
  have w1 : IntKind.i64.wrap (m - b) = m - b := wrap_id (by omega) (by omega)
  have w2 : IntKind.i64.wrap (m - l.length) = m - l.length := wrap_id (by omega) (by omega)
  have w3 : IntKind.i64.wrap ((l.length : Int) - 1) = l.length - 1 := wrap_id (by omega) (by omega)
  have w4 : IntKind.i64.wrap ((l.length : Int) - 1 - (m - b)) = l.length - 1 - (m - b) := wrap_id (by omega) (by omega)
  generalize h0 : unbindLeaf l (.mk op m s k names ll) b = res
  replace h0 : (if op ≠ 1 ∨ m - b < 0 then leafC (.mk op m s k names ll) else if m - b ≥ l.length then varC (m - l.length) else constC (l.getD (l.length - 1 - (m - b).toNat) (ByteArray.empty, []))) = res := h0
  rw [encC_mk] at hL
  by_cases hc : op ≠ 1 ∨ m - b < 0
  · rw [if_pos hc] at h0
    subst h0
    by_cases ho : op = 1
    · have e1 : (op != 1) = false := by simpa using ho
      have e2 : m - b < 0 := hc.resolve_left (fun h => h ho)
      refine wk (rv := [.cell 5 28]) ann64 47 Tryz.func64 ?_
      simp only [go_sem, encC_mk, capX, w1, e1, decide_eq_true e2]
      refine aCall_intro hL ?_
      simp only [go_sem, encC_sz]
    · have e1 : (op != 1) = true := by simpa using ho
      refine wk (rv := [.cell 5 28]) ann64 47 Tryz.func64 ?_
      simp only [go_sem, encC_mk, capX, w1, e1]
      refine aCall_intro hL ?_
      simp only [go_sem, encC_sz]
  · rw [if_neg hc] at h0
    have ho : op = 1 := Decidable.byContradiction fun e => hc (.inl e)
    have hb0 : ¬ m - b < 0 := fun e => hc (.inr e)
    have e1 : (op != 1) = false := by simpa using ho
    by_cases hd : m - b ≥ l.length
    · rw [if_pos hd] at h0
      subst h0
      refine wk (rv := [.cell 5 28]) ann64 47 Tryz.func64 ?_
      simp only [go_sem, encC_mk, capX, w1, e1, decide_eq_false hb0, List.length_map, decide_eq_true hd, w2]
      refine aCall_intro hV ?_
      simp only [go_sem, encC_sz]
    · rw [if_neg hd] at h0
      obtain ⟨i, hi⟩ : ∃ i : Nat, (l.length : Int) - 1 - (m - b) = i := ⟨((l.length : Int) - 1 - (m - b)).toNat, by omega⟩
      have hil : i < l.length := by omega
      have e3 : l.length - 1 - (m - b).toNat = i := by omega
      rw [e3, List.getD_eq_getElem?_getD, List.getElem?_eq_getElem hil, Option.getD_some] at h0
      have hx : (l.map encX)[i]? = some (.agg [.str l[i].1, .slice (l[i].2.map encK)]) := by simp [hil, encX]
      have hK := kindOf_spec (.mk l[i].2) (by rw [knF]; have := hk _ (List.getElem_mem hil); omega)
      rw [encK_mk] at hK
      rw [hi] at w4
      subst h0
      generalize l[i] = x at hx hK ⊢
      refine wk (rv := [.cell 5 28]) ann64 47 Tryz.func64 ?_
      simp only [go_sem, encC_mk, capX, w1, e1, decide_eq_false hb0, List.length_map, decide_eq_false hd, w3, hi, w4, Int.toNat_natCast, Int.natCast_nonneg, hx]
      refine aCall_intro hK ?_
      simp only [go_sem, constC, encC_mk, List.map_nil]
      try kernel_rfl
def unbindF (c : ConT) (l : List CsT) : ConT × Int := if validF c = false ∨ l.any (fun x => !validK x) = true then (zeroC, 1) else if namesN (l.map (·.1)) ≠ 0 then (zeroC, namesN (l.map (·.1))) else replF (unbindLeaf l) c
theorem okS_constC {x : CsT} (h : x.1.size ≤ 100000000) : okS (constC x) := by
  rw [constC]
  simp only [okS, okSs]
  exact ⟨h, by simp, trivial⟩
theorem validK_kn {x : CsT} (h : validK x = true) : knL x.2 ≤ 20000 := by
  obtain ⟨m, hm⟩ := Option.isSome_iff_exists.1 h
  have e1 := sizeK_kn _ _ _ _ hm
  have e2 := sizeK_le _ _ _ _ hm
  rw [knF] at e1; omega
theorem tUnbind_spec (c : ConT) (l : List CsT) (h1 : wtF c ≤ 900000000) (h2 : okS c) (hs : ∀ x ∈ l, x.1.size ≤ 100000000) (hl : l.length ≤ 1000000) :
    Spec Tryz.prog 14 [pp (encC c), pp (.slice (l.map encX))] [] (.tuple [encC (unbindF c l).1, .int .i64 (unbindF c l).2]) [] := by
  have hsc := sizeF_wt c
  have hV := Valid_spec c (by omega) h2
  have hA : Spec Tryz.prog 9 [pp (.slice (l.map encX)), pp (.fn 62 [])] [] (.bool (l.any fun x => !validK x)) [] :=
    ContainsFuncX encX l 62 [] (fun x => !validK x) (fun x _ => encX_sz' x) fun x _ => unbind1_spec x
  have hN := names_spec (l.map (·.1)) (fun s hm => by obtain ⟨x, hx, rfl⟩ := List.mem_map.1 hm; exact hs x hx) (by rw [List.length_map]; omega)
  have hR : validF c = true → l.any (fun x => !validK x) = false → namesN (l.map (·.1)) = 0 → Spec Tryz.prog 56 [pp (encC c), pp (.fn 64 [capX l])] [] (.tuple [encC (replF (unbindLeaf l) c).1, .int .i64 (replF (unbindLeaf l) c).2]) [] := fun hv hk hn => by
    obtain ⟨hd, hw⟩ := valid_dw hv
    have hvk : ∀ x ∈ l, validK x = true := fun x hx => by
      cases hq : validK x with
      | true => rfl
      | false => have := (List.any_eq_true (p := fun x => !validK x)).2 ⟨x, hx, by rw [hq]; rfl⟩; rw [hk] at this; cases this
    have hn0 := namesN_0 hn
    rw [List.length_map] at hn0
    refine replaced_specW 64 [capX l] (unbindLeaf l) c hw (by omega) (by rw [validF, Bool.and_eq_true] at hv; have := of_decide_eq_true hv.1; omega) h2 fun x b hx => ?_
    obtain ⟨g1, g2, g3, g4, g5, g6⟩ := leaves_mem c 0 x b hx
    have hxf := g3 (validF_formed hv)
    have hfn := formed_n hxf
    have hkx : knL x.k ≤ 22000 := by
      have h3 := formed_wt x hxf
      have h4 := leafC_formed g6 hxf
      have h5 : sizeF x = 1 := by rw [← h4]; exact size_leafC x
      have := knL_wt x
      omega
    refine ⟨?_, ?_, unbindLeaf_spec l x b hn0.1 (fun y hy => by have := validK_kn (hvk y hy); omega) (by omega) hfn.1 hfn.2 (by omega) (by omega)⟩
    · rw [unbindLeaf]
      split
      · rw [size_leafC]; decide
      · split
        · rw [varC, sizeF, sizeL]; decide
        · rw [constC, sizeF, sizeL]; decide
    · rw [unbindLeaf]
      split
      · exact okS_leafC (g2 h2)
      · split
        · exact okS_varC _
        · refine okS_constC ?_
          have hlt : l.length - 1 - (x.n - b).toNat < l.length := by omega
          rw [List.getD_eq_getElem?_getD, List.getElem?_eq_getElem hlt, Option.getD_some]
          exact hs _ (List.getElem_mem hlt)
  rw [unbindF]
  cases hv : validF c with
  | false =>
    rw [hv] at hV
    rw [if_pos (.inl rfl)]
    refine wk (rv := [.cell 4 28, .tmp 5]) ann14 41 Tryz.func14 ?_
    simp only [go_sem, encC_sz]
    refine aCall_intro hV ?_
    simp only [go_sem, zeroC, encC_mk]
  | true =>
    rw [hv] at hV
    have hR := hR hv
    cases hk : l.any fun x => !validK x with
    | true =>
      rw [hk] at hA
      rw [if_pos (.inr rfl)]
      refine wk (rv := [.cell 4 28, .tmp 5]) ann14 41 Tryz.func14 ?_
      simp only [go_sem, encC_sz]
      refine aCall_intro hV ?_
      simp only [go_sem]
      refine aCall_intro hA ?_
      simp only [go_sem, zeroC, encC_mk]
    | false =>
      rw [hk] at hA
      have hR := hR hk
      rw [if_neg (fun h => h.elim (fun h => by cases h) (fun h => by cases h))]
      have hgo : ∀ (Fin : PV) (rest : List CsT → Prop), True := fun _ _ => trivial
      clear hgo
      have hend : ∀ e, namesN (l.map (·.1)) = e → Spec Tryz.prog 55 [pp (.slice ((l.map (·.1)).map .str))] [] (.int .i64 e) [] := fun e he => he ▸ hN
      by_cases hn : namesN (l.map (·.1)) = 0
      · have hR := hR hn
        have hN := hend 0 hn
        have e0 : ((0 : Int) != 0) = false := rfl
        rw [if_neg (fun h => h hn)]
        simp only [capX] at hR
        clear hend
        refine wk (rv := [.cell 4 28, .tmp 5]) ann14 41 Tryz.func14 ?_
        simp only [go_sem, encC_sz]
        refine aCall_intro hV ?_
        simp only [go_sem]
        refine aCall_intro hA ?_
        simp only [go_sem, List.length_map]
        refine aLoop_list (α := CsT) (β := List ByteArray × Nat) (fun rest b => ⟨[(20, ii b.2), (6, .one (acc 56 .one (b.1.map .str))), (18, pp (.slice (l.map encX))), (4, .one (.ptr (.loc 4) 0)), (3, pp (.ep (.slice (l.map encX)) 0)), (2, pp (.ep (encC c) 0)), (19, ii l.length)],
            [(.loc 4, ⟨.agg 6, .agg [.pv (.int .i64 0), .pv (.int .i64 0), .pv (.str ByteArray.empty), .nilS, .nilS, .nilS]⟩)], []⟩)
          (fun rest b => ∃ pre, l = pre ++ rest ∧ b.2 = pre.length ∧ b.1 = pre.map (·.1)) ?_ ?_ l ([], 0) _ ?_ ⟨[], rfl, rfl, rfl⟩
        · rintro ⟨out, m⟩ ⟨pre, g1, g2, g3⟩ K
          simp only [List.append_nil] at g1 g2 g3
          subst g1
          simp only [go_sem, g2, lt_false (Int.le_refl _)]
          rw [← g3] at hN
          cases out with
          | nil =>
            simp only [go_sem, acc]
            refine aCall_intro hN ?_
            simp only [go_sem, e0, encC_sz]
            refine aCall_intro hR ?_
            simp only [go_sem, encC_sz]
          | cons z zs =>
            simp only [go_sem, acc]
            refine aCall_intro hN ?_
            simp only [go_sem, e0, encC_sz]
            refine aCall_intro hR ?_
            simp only [go_sem, encC_sz]
        · rintro x rest ⟨out, m⟩ ⟨pre, g1, g2, g3⟩ K hK
          simp only at g2 g3
          have hx : (l.map encX)[m]? = some (.agg [.str x.1, .slice (x.2.map encK)]) := by simp [g1, g2, encX]
          have hlt : (m : Int) < l.length := by rw [g1, g2]; simp; omega
          have hll : l.length = m + (rest.length + 1) := by rw [g1, g2]; simp
          have hlo : out.length = m := by rw [g3, g2]; simp
          have w4 : IntKind.i64.wrap ((m : Int) + 1) = ((m + 1 : Nat) : Int) := by rw [wrap_id (by omega) (by omega)]; simp
          cases out with
          | nil =>
            simp only [go_sem, acc, decide_eq_true hlt, Int.toNat_natCast, Int.natCast_nonneg, hx, one_le_maxLen, w4]
            first
              | refine ⟨by kernel_rfl, hK ([x.1], m + 1) _ ?_ ⟨pre ++ [x], by simp [g1], by simp [g2], by simp [← g3]⟩⟩
              | refine hK ([x.1], m + 1) _ ?_ ⟨pre ++ [x], by simp [g1], by simp [g2], by simp [← g3]⟩
            simp only [go_sem, acc]
          | cons z zs =>
            have hb1 : (zs.length + 1 + 1) * 16 ≤ 140737488355328 := by simp at hlo; omega
            have hb2 : zs.length + 1 + 1 ≤ maxLen := by rw [maxLen_eq]; simp at hlo; omega
            simp only [go_sem, acc, decide_eq_true hlt, Int.toNat_natCast, Int.natCast_nonneg, hx, List.length_map, hb1, hb2, w4]
            first
              | refine ⟨by kernel_rfl, hK (z :: zs ++ [x.1], m + 1) _ ?_ ⟨pre ++ [x], by simp [g1], by simp [g2], by simp [← g3]⟩⟩
              | refine hK (z :: zs ++ [x.1], m + 1) _ ?_ ⟨pre ++ [x], by simp [g1], by simp [g2], by simp [← g3]⟩
            simp only [go_sem, acc, List.cons_append, List.map_append]
        · simp only [go_sem, acc, Int.natCast_zero]
      · have hN := hend _ rfl
        have e1 : (namesN (l.map (·.1)) != 0) = true := by simpa using hn
        rw [if_pos hn]
        clear hend hR
        generalize namesN (l.map (·.1)) = e at hN e1 ⊢
        refine wk (rv := [.cell 4 28, .tmp 5]) ann14 41 Tryz.func14 ?_
        simp only [go_sem, encC_sz]
        refine aCall_intro hV ?_
        simp only [go_sem]
        refine aCall_intro hA ?_
        simp only [go_sem, List.length_map]
        refine aLoop_list (α := CsT) (β := List ByteArray × Nat) (fun rest b => ⟨[(20, ii b.2), (6, .one (acc 56 .one (b.1.map .str))), (18, pp (.slice (l.map encX))), (4, .one (.ptr (.loc 4) 0)), (3, pp (.ep (.slice (l.map encX)) 0)), (2, pp (.ep (encC c) 0)), (19, ii l.length)],
            [(.loc 4, ⟨.agg 6, .agg [.pv (.int .i64 0), .pv (.int .i64 0), .pv (.str ByteArray.empty), .nilS, .nilS, .nilS]⟩)], []⟩)
          (fun rest b => ∃ pre, l = pre ++ rest ∧ b.2 = pre.length ∧ b.1 = pre.map (·.1)) ?_ ?_ l ([], 0) _ ?_ ⟨[], rfl, rfl, rfl⟩
        · rintro ⟨out, m⟩ ⟨pre, g1, g2, g3⟩ K
          simp only [List.append_nil] at g1 g2 g3
          subst g1
          simp only [go_sem, g2, lt_false (Int.le_refl _)]
          rw [← g3] at hN
          cases out with
          | nil =>
            simp only [go_sem, acc]
            refine aCall_intro hN ?_
            simp only [go_sem, e1, zeroC, encC_mk]
          | cons z zs =>
            simp only [go_sem, acc]
            refine aCall_intro hN ?_
            simp only [go_sem, e1, zeroC, encC_mk]
        · rintro x rest ⟨out, m⟩ ⟨pre, g1, g2, g3⟩ K hK
          simp only at g2 g3
          have hx : (l.map encX)[m]? = some (.agg [.str x.1, .slice (x.2.map encK)]) := by simp [g1, g2, encX]
          have hlt : (m : Int) < l.length := by rw [g1, g2]; simp; omega
          have hll : l.length = m + (rest.length + 1) := by rw [g1, g2]; simp
          have hlo : out.length = m := by rw [g3, g2]; simp
          have w4 : IntKind.i64.wrap ((m : Int) + 1) = ((m + 1 : Nat) : Int) := by rw [wrap_id (by omega) (by omega)]; simp
          cases out with
          | nil =>
            simp only [go_sem, acc, decide_eq_true hlt, Int.toNat_natCast, Int.natCast_nonneg, hx, one_le_maxLen, w4]
            first
              | refine ⟨by kernel_rfl, hK ([x.1], m + 1) _ ?_ ⟨pre ++ [x], by simp [g1], by simp [g2], by simp [← g3]⟩⟩
              | refine hK ([x.1], m + 1) _ ?_ ⟨pre ++ [x], by simp [g1], by simp [g2], by simp [← g3]⟩
            simp only [go_sem, acc]
          | cons z zs =>
            have hb1 : (zs.length + 1 + 1) * 16 ≤ 140737488355328 := by simp at hlo; omega
            have hb2 : zs.length + 1 + 1 ≤ maxLen := by rw [maxLen_eq]; simp at hlo; omega
            simp only [go_sem, acc, decide_eq_true hlt, Int.toNat_natCast, Int.natCast_nonneg, hx, List.length_map, hb1, hb2, w4]
            first
              | refine ⟨by kernel_rfl, hK (z :: zs ++ [x.1], m + 1) _ ?_ ⟨pre ++ [x], by simp [g1], by simp [g2], by simp [← g3]⟩⟩
              | refine hK (z :: zs ++ [x.1], m + 1) _ ?_ ⟨pre ++ [x], by simp [g1], by simp [g2], by simp [← g3]⟩
            simp only [go_sem, acc, List.cons_append, List.map_append]
        · simp only [go_sem, acc, Int.natCast_zero]

/-! The reference's unbinding -/
theorem rUnbind_spec (c : ConT) (l : List CsT) (h1 : formedF c = true) (h2 : wtF c ≤ 1000000000) (hl : l.length ≤ 1000000) (hf : ∀ x ∈ l, constF x.1 = true ∧ validK x = true) :
    Spec Tryz.prog 27 [pp (encC c), pp (.slice (l.map encX))] [] (encC (rSubstF (l.reverse.map constC) c 0)) [] := by
  have hS := rSubstTop_spec (l.reverse.map constC) (fun y hy => by
    obtain ⟨x, hx, rfl⟩ := List.mem_map.1 hy
    have := hf x (List.mem_reverse.1 hx)
    refine ⟨?_, constC_formed this.1 this.2⟩
    have := validK_kn this.2
    rw [constC, wtF, wtL]; simp; omega) (by simp; omega) c h1 h2
  refine wk (rv := [.cell 4 28]) ann27 31 Tryz.func27 ?_
  have w0 : IntKind.i64.wrap ((l.length : Int) - 1) = (l.length : Int) - 1 := wrap_id (by omega) (by omega)
  simp only [go_sem, List.length_map, w0]
  refine aLoop_list (α := CsT) (β := List CsT) (fun rest b => ⟨[(6, ii ((rest.length : Int) - 1)), (1, pp (.slice (l.map encX))), (5, .one (acc 54 (.agg 6) ((b.map constC).map encC))), (4, .one (.ptr (.loc 4) 0)), (2, pp (.ep (encC c) 0))],
      [(.loc 4, ⟨.agg 6, .agg [.pv (.int .i64 0), .pv (.int .i64 0), .pv (.str ByteArray.empty), .nilS, .nilS, .nilS]⟩)], []⟩)
    (fun rest b => l.reverse = b ++ rest) ?_ ?_ l.reverse [] _ ?_ rfl
  · rintro out g1 K
    rw [List.append_nil] at g1
    rw [g1] at hS
    have d0 : decide (((0 : Nat) : Int) - 1 ≥ 0) = false := by decide
    simp only [go_sem, List.length_nil, d0]
    cases out with
    | nil =>
      simp only [go_sem, acc, List.map_nil]
      refine aCall_intro hS ?_
      simp only [go_sem, encC_sz]
      rw [g1]; rfl
    | cons z zs =>
      simp only [go_sem, acc, List.map_cons]
      refine aCall_intro hS ?_
      simp only [go_sem, encC_sz]
      rw [g1]; rfl
  · rintro x rest out g1 K hK
    have g1' := congrArg List.reverse g1
    rw [List.reverse_reverse, List.reverse_append, List.reverse_cons] at g1'
    have hx : (l.map encX)[rest.length]? = some (.agg [.str x.1, .slice (x.2.map encK)]) := by rw [g1']; simp [encX]
    have hll : l.length = out.length + (rest.length + 1) := by rw [← List.length_reverse, g1]; simp
    have e0 : ((rest.length + 1 : Nat) : Int) - 1 = rest.length := by omega
    have d1 : decide ((rest.length : Int) ≥ 0) = true := decide_eq_true (by omega)
    have w4 : IntKind.i64.wrap ((rest.length : Int) - 1) = (rest.length : Int) - 1 := wrap_id (by omega) (by omega)
    cases out with
    | nil =>
      simp only [go_sem, acc, List.length_cons, e0, d1, Int.toNat_natCast, Int.natCast_nonneg, hx, one_le_maxLen, w4, List.map_nil]
      first
        | refine ⟨by kernel_rfl, hK [x] _ ?_ (by simpa using g1)⟩
        | refine hK [x] _ ?_ (by simpa using g1)
      simp only [go_sem, acc, constC, encC_mk, List.map_cons, List.map_nil]
    | cons z zs =>
      have hb1 : (zs.length + 1 + 1) * 104 ≤ 140737488355328 := by simp at hll; omega
      have hb2 : zs.length + 1 + 1 ≤ maxLen := by rw [maxLen_eq]; simp at hll; omega
      simp only [go_sem, acc, List.length_cons, e0, d1, Int.toNat_natCast, Int.natCast_nonneg, hx, List.length_map, hb1, hb2, w4, List.map_cons]
      first
        | refine ⟨by kernel_rfl, hK (z :: zs ++ [x]) _ ?_ (by simpa using g1)⟩
        | refine hK (z :: zs ++ [x]) _ ?_ (by simpa using g1)
      simp only [go_sem, acc, constC, encC_mk, List.map_cons, List.map_nil, List.cons_append, List.map_append]
  · simp only [go_sem, acc, List.length_reverse, List.map_nil]
end Go.Abs.Kon
