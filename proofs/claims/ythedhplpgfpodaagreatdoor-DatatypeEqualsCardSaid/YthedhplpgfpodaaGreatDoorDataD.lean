/- Data types: Normal of what is normal. -/
import Derived.Test.YthedhplpgfpodaaGreatDoorDataC
import Derived.Test.YthedhplpgfpodaaGreatDoorFacts
set_option linter.unusedSimpArgs false
set_option linter.unusedVariables false
namespace Go.Abs.Kon
open Go Go.Proofs Go.Abs
set_option maxRecDepth 100000
set_option maxHeartbeats 4000000

theorem depthL_le : ∀ l : List ConT, depthL l ≤ sizeL l
  | [] => by simp [depthL]
  | x :: r => by
    rw [depthL, sizeL]
    have := depthL_le r
    have := depthF_le x
    omega
theorem sizeL_len : ∀ l : List ConT, l.length ≤ sizeL l
  | [] => by simp
  | x :: r => by
    rw [sizeL, List.length_cons]
    have := sizeL_len r
    have := sizeF_pos x
    omega
theorem sizeL_append : ∀ a b : List ConT, sizeL (a ++ b) = sizeL a + sizeL b
  | [], b => by simp [sizeL]
  | x :: a, b => by rw [List.cons_append, sizeL, sizeL, sizeL_append a b]; omega
theorem nsize_spec (c : ConT) : sizeF c ≤ 100000000 → Spec Tryz.prog 281 [pp (encC c)] [] (.tuple [.int .i64 (sizeF c), .int .i64 (depthF c)]) [] := by
  revert c
  refine ConT.ind1 fun op n s k names l ih => ?_
  intro h
  rw [sizeF] at h
  rw [encC_mk, sizeF, depthF]
  refine wk (rv := [.tmp 2, .tmp 3]) ann281 30 Tryz.func281 ?_
  simp only [go_sem, List.length_map]
  refine aLoop_list (α := ConT) (β := List ConT × Nat × Nat) (fun rest b => ⟨[(11, ii b.1.length), (3, ii b.2.2), (2, ii b.2.1), (9, pp (.slice (l.map encC))), (10, ii l.length)], [], []⟩) (fun rest b => l = b.1 ++ rest ∧ b.2.1 + sizeL rest = 1 + sizeL l ∧ max b.2.2 (depthL rest) = depthL l ∧ b.1.length ≤ sizeL l) ?_ ?_ l ([], 1, 0) _ ?_ ⟨rfl, rfl, by simp, by simp⟩
  · rintro ⟨pre, a, d⟩ ⟨h4, h5, h6, _⟩ K
    simp only [List.append_nil] at h4
    subst h4
    simp only [sizeL, Nat.add_zero] at h5
    simp only [depthL] at h6
    have e : d = depthL l := by omega
    subst e
    have w1 : IntKind.i64.wrap ((depthL l : Int) + 1) = ((depthL l + 1 : Nat) : Int) := by
      have := depthL_le l
      rw [wrap_id (by omega) (by omega)]; omega
    simp only [go_sem, lt_false (Int.le_refl _), w1, h5]
  · rintro x rest ⟨pre, a, d⟩ ⟨h4, h5, h6, h7⟩ K hK
    simp only at h4 h5 h6 h7
    rw [sizeL] at h5
    rw [depthL] at h6
    have hm : x ∈ l := by simp [h4]
    have hx : (l.map encC)[pre.length]? = some (encC x) := by simp [h4]
    have hlt : (pre.length : Int) < l.length := by rw [h4]; simp; omega
    have hS := ih x hm (by omega)
    have hdx := depthF_le x
    have hle : depthL l ≤ sizeL l := depthL_le l
    have w1 : IntKind.i64.wrap ((a : Int) + (sizeF x : Int)) = ((a + sizeF x : Nat) : Int) := by rw [wrap_id (by omega) (by omega)]; omega
    have w4 : IntKind.i64.wrap ((pre.length : Int) + 1) = ((pre ++ [x]).length : Int) := by rw [wrap_id (by omega) (by omega)]; simp
    have w5 : (if (depthF x : Int) > (d : Int) then (depthF x : Int) else (d : Int)) = ((max d (depthF x) : Nat) : Int) := by split <;> omega
    simp only [go_sem, decide_eq_true hlt, Int.toNat_natCast, Int.natCast_nonneg, hx]
    refine aCall_intro hS ?_
    simp only [go_sem, w1, w4, w5]
    refine hK (pre ++ [x], a + sizeF x, max d (depthF x)) _ ?_ ⟨by simp [h4], by simp only; omega, by simp only; omega, ?_⟩
    · simp only [go_sem]
    · have := sizeF_pos x
      have hpl : (pre ++ [x]).length ≤ sizeL (pre ++ [x]) := sizeL_len _
      have hsp : sizeL l = sizeL (pre ++ [x]) + sizeL rest := by rw [← sizeL_append, h4]; simp
      simp only
      omega
  · simp only [go_sem, List.length_nil, Int.natCast_zero, Int.natCast_one]

def accD (t : Nat) (k : Sz) (b : Bool) (es : List PV) : SC := if b then .own t k es else .nilS
theorem accD_t (t : Nat) (k : Sz) (es : List PV) : accD t k true es = .own t k es := rfl
theorem accD_f (t : Nat) (k : Sz) (es : List PV) : accD t k false es = .nilS := rfl
theorem ncopK_spec (k : KindT) : knF k ≤ 100000000 → Spec Tryz.prog 186 [pp (encK k)] [] (encK k) [] := by
  revert k
  refine KindT.ind1 fun l ih => ?_
  intro h
  rw [knF] at h
  have hll := knL_len l
  rw [encK_mk]
  refine wk (rv := [.cell 2 24]) ann186 22 Tryz.func186 ?_
  simp only [go_sem, List.length_map]
  refine aLoop_list (α := KindT) (β := List KindT × Bool) (fun rest b => ⟨[(9, ii b.1.length), (3, .one (.ptr (.loc 3) 0)), (7, pp (.slice (l.map encK))), (2, .one (.ptr (.loc 2) 0)), (8, ii l.length)], [(.loc 2, ⟨.agg 1, .agg [.nilS]⟩), (.loc 3, ⟨.agg 1, .agg [accD 36 (.agg 1) b.2 (b.1.map encK)]⟩)], []⟩) (fun rest b => l = b.1 ++ rest ∧ (b.2 = false → b.1 = [])) ?_ ?_ l ([], false) _ ?_ ⟨rfl, fun _ => rfl⟩
  · rintro ⟨pre, fl⟩ ⟨h4, h5⟩ K
    simp only [List.append_nil] at h4
    simp only at h5
    subst h4
    cases fl with
    | false =>
      obtain rfl := h5 rfl
      simp only [go_sem, lt_false (Int.le_refl _), accD_f, List.map_nil, List.length_nil, Int.natCast_zero]
    | true =>
      simp only [go_sem, lt_false (Int.le_refl _), accD_t]
  · rintro x rest ⟨pre, fl⟩ ⟨h4, h5⟩ K hK
    simp only at h4 h5
    have hm : x ∈ l := by simp [h4]
    have hx : (l.map encK)[pre.length]? = some (encK x) := by simp [h4]
    have hpl : pre.length < l.length := by rw [h4]; simp
    have hd : decide ((pre.length : Int) < l.length) = true := decide_eq_true (by omega)
    have hS := ih x hm (by have := knF_mem hm; omega)
    have w4 : IntKind.i64.wrap ((pre.length : Int) + 1) = ((pre ++ [x]).length : Int) := by rw [wrap_id (by omega) (by omega)]; simp
    have hb1 : (pre.length + 1) * 24 ≤ 140737488355328 := by omega
    have hb2 : pre.length + 1 ≤ maxLen := by rw [maxLen_eq]; omega
    have hK' := fun s' hs => hK (pre ++ [x], true) s' hs ⟨by simp [h4], fun h => by cases h⟩
    clear hK
    cases fl with
    | false =>
      obtain rfl := h5 rfl
      simp only [List.length_nil] at hd hx w4
      simp only [go_sem, accD_f, hd, Int.toNat_natCast, Int.natCast_nonneg, hx, encK_sz, List.map_nil]
      refine aCall_intro hS ?_
      simp only [go_sem, encK_sz, w4, one_le_maxLen]
      iterate 3 (try (refine ⟨by kernel_rfl, ?_⟩; try simp only [go_sem, encK_sz, w4, one_le_maxLen]))
      refine hK' _ ?_
      simp only [go_sem, accD_t, List.map_append, List.map_cons, List.map_nil, List.nil_append]
    | true =>
      rcases pre with _ | ⟨p0, ps⟩
      · simp only [List.length_nil] at hd hx w4
        simp only [go_sem, accD_t, hd, Int.toNat_natCast, Int.natCast_nonneg, hx, encK_sz, List.map_nil]
        refine aCall_intro hS ?_
        simp only [go_sem, encK_sz, w4, one_le_maxLen]
        iterate 3 (try (refine ⟨by kernel_rfl, ?_⟩; try simp only [go_sem, encK_sz, w4, one_le_maxLen]))
        refine hK' _ ?_
        simp only [go_sem, accD_t, List.map_append, List.map_cons, List.map_nil, List.nil_append]
      · simp only [List.length_cons] at hd hx w4 hb1 hb2
        simp only [go_sem, accD_t, hd, Int.toNat_natCast, Int.natCast_nonneg, hx, encK_sz, List.map_cons]
        refine aCall_intro hS ?_
        simp only [go_sem, encK_sz, w4, List.length_cons, List.length_map, hb1, hb2]
        iterate 3 (try (refine ⟨by kernel_rfl, ?_⟩; try simp only [go_sem, encK_sz, w4, List.length_cons, List.length_map, hb1, hb2]))
        refine hK' _ ?_
        simp only [go_sem, accD_t, List.map_append, List.map_cons, List.map_nil, List.cons_append]
  · simp only [go_sem, accD_f, List.length_nil, Int.natCast_zero, List.map_nil]

theorem ncopied_spec (c : ConT) : wtF c ≤ 100000000 → Spec Tryz.prog 118 [pp (encC c)] [] (encC c) [] := by
  revert c
  refine ConT.ind1 fun op n s k names l ih => ?_
  intro h
  rw [wtF] at h
  have hK := ncopK_spec (.mk k) (by rw [knF]; omega)
  have hC := Clone_spec names (by omega)
  have hll := wtL_len l
  rw [encK_mk] at hK
  rw [encC_mk]
  refine wk (rv := [.cell 2 28]) ann118 32 Tryz.func118 ?_
  simp only [go_sem]
  refine aCall_intro hK ?_
  simp only [go_sem]
  refine aCall_intro hC ?_
  simp only [go_sem, List.length_map]
  refine aLoop_list (α := ConT) (β := List ConT × Bool) (fun rest b => ⟨[(19, ii b.1.length), (3, .one (.ptr (.loc 3) 0)), (17, pp (.slice (l.map encC))), (2, .one (.ptr (.loc 2) 0)), (18, ii l.length)], [(.loc 2, zcx), (.loc 3, ⟨.agg 6, .agg [.pv (.int .i64 op), .pv (.int .i64 n), .pv (.str s), .pv (.slice (k.map encK)), .pv (.slice (names.map .str)), accD 56 (.agg 6) b.2 (b.1.map encC)]⟩)], []⟩) (fun rest b => l = b.1 ++ rest ∧ (b.2 = false → b.1 = [])) ?_ ?_ l ([], false) _ ?_ ⟨rfl, fun _ => rfl⟩
  · rintro ⟨pre, fl⟩ ⟨h4, h5⟩ K
    simp only [List.append_nil] at h4
    simp only at h5
    subst h4
    cases fl with
    | false =>
      obtain rfl := h5 rfl
      simp only [go_sem, zcx, lt_false (Int.le_refl _), accD_f, List.map_nil, List.length_nil, Int.natCast_zero]
    | true =>
      simp only [go_sem, zcx, lt_false (Int.le_refl _), accD_t]
  · rintro x rest ⟨pre, fl⟩ ⟨h4, h5⟩ K hK
    simp only at h4 h5
    have hm : x ∈ l := by simp [h4]
    have hx : (l.map encC)[pre.length]? = some (encC x) := by simp [h4]
    have hpl : pre.length < l.length := by rw [h4]; simp
    have hd : decide ((pre.length : Int) < l.length) = true := decide_eq_true (by omega)
    have hS := ih x hm (by have := wtF_mem hm; omega)
    have w4 : IntKind.i64.wrap ((pre.length : Int) + 1) = ((pre ++ [x]).length : Int) := by rw [wrap_id (by omega) (by omega)]; simp
    have hb1 : (pre.length + 1) * 104 ≤ 140737488355328 := by omega
    have hb2 : pre.length + 1 ≤ maxLen := by rw [maxLen_eq]; omega
    have hK' := fun s' hs => hK (pre ++ [x], true) s' hs ⟨by simp [h4], fun h => by cases h⟩
    clear hK
    cases fl with
    | false =>
      obtain rfl := h5 rfl
      simp only [List.length_nil] at hd hx w4
      simp only [go_sem, zcx, accD_f, hd, Int.toNat_natCast, Int.natCast_nonneg, hx, encC_sz, List.map_nil]
      refine aCall_intro hS ?_
      simp only [go_sem, encC_sz, w4, one_le_maxLen]
      iterate 3 (try (refine ⟨by kernel_rfl, ?_⟩; try simp only [go_sem, encC_sz, w4, one_le_maxLen]))
      refine hK' _ ?_
      simp only [go_sem, zcx, accD_t, List.map_append, List.map_cons, List.map_nil, List.nil_append]
    | true =>
      rcases pre with _ | ⟨p0, ps⟩
      · simp only [List.length_nil] at hd hx w4
        simp only [go_sem, zcx, accD_t, hd, Int.toNat_natCast, Int.natCast_nonneg, hx, encC_sz, List.map_nil]
        refine aCall_intro hS ?_
        simp only [go_sem, encC_sz, w4, one_le_maxLen]
        iterate 3 (try (refine ⟨by kernel_rfl, ?_⟩; try simp only [go_sem, encC_sz, w4, one_le_maxLen]))
        refine hK' _ ?_
        simp only [go_sem, zcx, accD_t, List.map_append, List.map_cons, List.map_nil, List.nil_append]
      · simp only [List.length_cons] at hd hx w4 hb1 hb2
        simp only [go_sem, zcx, accD_t, hd, Int.toNat_natCast, Int.natCast_nonneg, hx, encC_sz, List.map_cons]
        refine aCall_intro hS ?_
        simp only [go_sem, encC_sz, w4, List.length_cons, List.length_map, hb1, hb2]
        iterate 3 (try (refine ⟨by kernel_rfl, ?_⟩; try simp only [go_sem, encC_sz, w4, List.length_cons, List.length_map, hb1, hb2]))
        refine hK' _ ?_
        simp only [go_sem, zcx, accD_t, List.map_append, List.map_cons, List.map_nil, List.cons_append]
  · simp only [go_sem, zcx, accD_f, List.length_nil, Int.natCast_zero, List.map_nil]

def cnt0 : PV := .ep (.agg [.int .i64 0, .bool false]) 0
theorem kept_spec (c : ConT) (h1 : sizeF c ≤ 20000) (h2 : depthF c ≤ 400) : Spec Tryz.prog 236 [pp cnt0, pp (encC c)] [] (encC c) [] := by
  have hS := nsize_spec c (by omega)
  have d1 : decide ((sizeF c : Int) > 20000) = false := decide_eq_false (by omega)
  have d2 : decide ((depthF c : Int) > 400) = false := decide_eq_false (by omega)
  rw [cnt0]
  refine wk (rv := [.cell 4 28]) ann236 28 Tryz.func236 ?_
  simp only [go_sem, encC_sz]
  refine aCall_intro hS ?_
  simp only [go_sem, encC_sz, d1, d2]

theorem normL_mem {l : List ConT} (h : normL l = true) : ∀ x ∈ l, normF x = true := by
  rw [normL_any, Bool.not_eq_true'] at h
  intro x hx
  have := List.any_eq_false.1 h x hx
  simpa using this
theorem normalize_spec (c : ConT) : formedF c = true → normF c = true → sizeF c ≤ 20000 → depthF c ≤ 400 → Spec Tryz.prog 185 [pp cnt0, pp (encC c)] [] (encC c) [] := by
  revert c
  refine ConT.ind1 fun op n s k names l ih => ?_
  intro hf hn hs hd
  have hE := eta_spec (.mk op n s k names l) hf (by omega)
  have hKp := kept_spec (.mk op n s k names l) hs hd
  have hX : ∀ x ∈ l, Spec Tryz.prog 185 [pp cnt0, pp (encC x)] [] (encC x) [] := fun x hx => by
    rw [normF] at hn
    split at hn
    · cases hn
    split at hn
    · cases hn
    refine ih x hx (formed_l hf x hx) (normL_mem hn x hx) ?_ ?_
    · rw [sizeF] at hs
      have := sizeF_mem hx
      omega
    · rw [depthF] at hd
      have := depthF_mem hx
      omega
  have hll : l.length ≤ 20000 := by
    rw [sizeF] at hs
    have := sizeL_len l
    omega
  have he : etaF (.mk op n s k names l) = false := by
    rw [normF] at hn
    split at hn
    · cases hn
    split at hn
    · cases hn
    · rename_i g; simpa using g
  have hb : (op == 12) = false ∨ ∃ x y, l = [x, y] ∧ op = 12 ∧ (x.op == 11) = false := by
    by_cases e : op = 12
    · subst e
      obtain ⟨x, y, rfl⟩ := formed_12 hf
      right
      refine ⟨x, y, rfl, rfl, ?_⟩
      rw [normF] at hn
      split at hn
      · cases hn
      · rename_i g
        have eb : betaF 12 [x, y] = (x.op == 11) := rfl
        rw [eb] at g
        simpa using g
    · left; simpa using e
  rw [he] at hE
  clear hn hf he ih
  rw [encC_mk] at hE hKp ⊢
  rw [cnt0] at hKp ⊢
  simp only [cnt0] at hX
  refine wk (rv := [.cell 4 28]) ann185 87 Tryz.func185 ?_
  simp only [go_sem, List.length_map]
  refine aLoop_list (α := ConT) (β := List ConT × Bool) (fun rest b => ⟨[(20, ii b.1.length), (5, .one (.ptr (.loc 5) 0)), (0, pp (.ep (.agg [.int .i64 0, .bool false]) 0)), (18, pp (.slice (l.map encC))), (4, .one (.ptr (.loc 4) 0)), (19, ii l.length)], [(.loc 4, zcx), (.loc 5, ⟨.agg 6, .agg [.pv (.int .i64 op), .pv (.int .i64 n), .pv (.str s), .pv (.slice (k.map encK)), .pv (.slice (names.map .str)), accD 60 (.agg 6) b.2 (b.1.map encC)]⟩)], []⟩) (fun rest b => l = b.1 ++ rest ∧ (b.2 = false → b.1 = [])) ?_ ?_ l ([], false) _ ?_ ⟨rfl, fun _ => rfl⟩
  · rintro ⟨pre, fl⟩ ⟨h4, h5⟩ K
    simp only [List.append_nil] at h4
    simp only at h5
    subst h4
    cases fl with
    | false =>
      obtain rfl := h5 rfl
      simp only [List.map_nil] at hKp hE
      rcases hb with e | ⟨x, y, e, _⟩
      · simp only [go_sem, zcx, lt_false (Int.le_refl _), accD_f, List.map_nil, List.length_nil, Int.natCast_zero]
        refine aCall_intro hKp ?_
        simp only [go_sem, e]
        refine aCall_intro hE ?_
        simp only [go_sem]
      · cases e
    | true =>
      rcases hb with e | ⟨x, y, rfl, rfl, e⟩
      · simp only [go_sem, zcx, lt_false (Int.le_refl _), accD_t]
        refine aCall_intro hKp ?_
        simp only [go_sem, e]
        refine aCall_intro hE ?_
        simp only [go_sem]
      · obtain ⟨opx, nx, sx, kx, namesx, lx⟩ := x
        simp only [ConT.op] at e
        simp only [List.map_cons, List.map_nil, encC_mk] at hKp hE
        simp only [go_sem, zcx, List.map_cons, List.map_nil, encC_mk, List.length_cons, List.length_nil, lt_false (Int.le_refl _), accD_t]
        refine aCall_intro hKp ?_
        simp only [go_sem, e, Int.reduceBEq]
        refine aCall_intro hE ?_
        simp only [go_sem]
  · rintro x rest ⟨pre, fl⟩ ⟨h4, h5⟩ K hK
    simp only at h4 h5
    have hm : x ∈ l := by simp [h4]
    have hx : (l.map encC)[pre.length]? = some (encC x) := by simp [h4]
    have hpl : pre.length < l.length := by rw [h4]; simp
    have hd : decide ((pre.length : Int) < l.length) = true := decide_eq_true (by omega)
    have hS := hX x hm
    have w4 : IntKind.i64.wrap ((pre.length : Int) + 1) = ((pre ++ [x]).length : Int) := by rw [wrap_id (by omega) (by omega)]; simp
    have hb1 : (pre.length + 1) * 104 ≤ 140737488355328 := by omega
    have hb2 : pre.length + 1 ≤ maxLen := by rw [maxLen_eq]; omega
    have hK' := fun s' hs => hK (pre ++ [x], true) s' hs ⟨by simp [h4], fun h => by cases h⟩
    clear hK hE hKp hb
    cases fl with
    | false =>
      obtain rfl := h5 rfl
      simp only [List.length_nil] at hd hx w4
      simp only [go_sem, zcx, accD_f, hd, Int.toNat_natCast, Int.natCast_nonneg, hx, encC_sz, List.map_nil]
      refine aCall_intro hS ?_
      simp only [go_sem, encC_sz, w4, one_le_maxLen]
      iterate 3 (try (refine ⟨by kernel_rfl, ?_⟩; try simp only [go_sem, encC_sz, w4, one_le_maxLen]))
      refine hK' _ ?_
      simp only [go_sem, zcx, accD_t, List.map_append, List.map_cons, List.map_nil, List.nil_append]
    | true =>
      rcases pre with _ | ⟨p0, ps⟩
      · simp only [List.length_nil] at hd hx w4
        simp only [go_sem, zcx, accD_t, hd, Int.toNat_natCast, Int.natCast_nonneg, hx, encC_sz, List.map_nil]
        refine aCall_intro hS ?_
        simp only [go_sem, encC_sz, w4, one_le_maxLen]
        iterate 3 (try (refine ⟨by kernel_rfl, ?_⟩; try simp only [go_sem, encC_sz, w4, one_le_maxLen]))
        refine hK' _ ?_
        simp only [go_sem, zcx, accD_t, List.map_append, List.map_cons, List.map_nil, List.nil_append]
      · simp only [List.length_cons] at hd hx w4 hb1 hb2
        simp only [go_sem, zcx, accD_t, hd, Int.toNat_natCast, Int.natCast_nonneg, hx, encC_sz, List.map_cons]
        refine aCall_intro hS ?_
        simp only [go_sem, encC_sz, w4, List.length_cons, List.length_map, hb1, hb2]
        iterate 3 (try (refine ⟨by kernel_rfl, ?_⟩; try simp only [go_sem, encC_sz, w4, List.length_cons, List.length_map, hb1, hb2]))
        refine hK' _ ?_
        simp only [go_sem, zcx, accD_t, List.map_append, List.map_cons, List.map_nil, List.cons_append]
  · simp only [go_sem, zcx, accD_f, List.length_nil, Int.natCast_zero, List.map_nil]
theorem tame_spec (c : ConT) (hv : validF c = true) (hn : normF c = true) : Spec Tryz.prog 117 [pp (encC c)] [] (.tuple [encC c, .bool true]) [] := by
  rw [validF, Bool.and_eq_true, Bool.and_eq_true] at hv
  have hN := normalize_spec c hv.2.2 hn (of_decide_eq_true hv.1) (of_decide_eq_true hv.2.1)
  rw [cnt0] at hN
  refine wk (rv := [.cell 2 28, .tmp 3]) ann117 17 Tryz.func117 ?_
  simp only [go_sem, encC_sz]
  refine aCall_intro hN ?_
  simp only [go_sem, encC_sz]
  iterate 3 (try (refine ⟨by kernel_rfl, ?_⟩; try simp only [go_sem, encC_sz]))
theorem Normal_spec (c : ConT) (hv : validF c = true) (hn : normF c = true) (ho : okS c) (hw : wtF c ≤ 100000000) : Spec Tryz.prog 63 [pp (encC c)] [] (.tuple [encC c, .int .i64 0]) [] := by
  have hs : sizeF c ≤ 20000 := by
    rw [validF, Bool.and_eq_true, Bool.and_eq_true] at hv
    exact of_decide_eq_true hv.1
  have hV := Valid_spec c (by omega) ho
  rw [hv] at hV
  have hT := tame_spec c hv hn
  have hC := ncopied_spec c hw
  refine wk (rv := [.cell 2 28, .tmp 3]) ann63 20 Tryz.func63 ?_
  simp only [go_sem, encC_sz]
  refine aCall_intro hV ?_
  simp only [go_sem, encC_sz]
  refine aCall_intro hT ?_
  simp only [go_sem, encC_sz]
  refine aCall_intro hC ?_
  simp only [go_sem, encC_sz]
end Go.Abs.Kon
