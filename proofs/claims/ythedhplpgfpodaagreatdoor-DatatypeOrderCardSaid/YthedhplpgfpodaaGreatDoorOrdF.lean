/- The order of constructors: the outer argument, Ctors. -/
import Derived.Test.YthedhplpgfpodaaGreatDoorOrdA
import Derived.Test.YthedhplpgfpodaaGreatDoorDataG
import Derived.Test.YthedhplpgfpodaaGreatDoorOrdB
import Derived.Test.YthedhplpgfpodaaGreatDoorFacts
set_option linter.unusedSimpArgs false
set_option linter.unusedVariables false
namespace Go.Abs.Kon
open Go Go.Proofs Go.Abs
set_option maxRecDepth 100000
set_option maxHeartbeats 4000000

def oRefs (c : ConT) (r : Nat × ConT) (k : Int) (b : Bool) : List Box := [⟨.one, ii k⟩, ⟨.one, .one (.pv (.bool b))⟩, ⟨.one, .one (.fn 120 [.ptr (.ref 0) 0, .ptr (.ref 1) 0, .pv (.ep (encShape r) 0), .pv (.ep (encC c) 0), .ptr (.ref 2) 0])⟩]
def oArgs (c : ConT) (r : Nat × ConT) (x : ConT) (d : Int) : List SV := [pp (encC x), ii d, .one (.ptr (.ref 0) 0), .one (.ptr (.ref 1) 0), pp (.ep (encShape r) 0), pp (.ep (encC c) 0), .one (.ptr (.ref 2) 0)]
def putS (c : ConT) (r : Nat × ConT) (x : ConT) (d k : Int) (y : ConT) (k' : Int) (b' : Bool) : Prop := Spec Tryz.prog 120 (oArgs c r x d) (oRefs c r k false) (encC y) (oRefs c r k' b')
def PutE (c : ConT) (r : Nat × ConT) (x : ConT) (d k : Int) : Prop := ∃ y k' b', putS c r x d k y k' b' ∧ k ≤ k' ∧ k' ≤ 40001 ∧ (b' = false → k' ≤ 40000 ∧ (sizeF y : Int) + k ≤ k' ∧ okD y)
inductive KidsO (c : ConT) (r : Nat × ConT) (d : Int) : List ConT → Int → Bool → List ConT → Int → Bool → Prop
  | nil (k : Int) : KidsO c r d [] k false [] k false
  | stop (l : List ConT) (k : Int) : KidsO c r d l k true [] k true
  | cons {x y : ConT} {l ys : List ConT} {k k1 k2 : Int} {b1 b2 : Bool} (h : putS c r x d k y k1 b1) (h1 : KidsO c r d l k1 b1 ys k2 b2) : KidsO c r d (x :: l) k false (y :: ys) k2 b2
theorem KidsO.nil_inv {c : ConT} {r : Nat × ConT} {d k k2 : Int} {b b2 : Bool} {ys : List ConT} (h : KidsO c r d [] k b ys k2 b2) : ys = [] ∧ k2 = k ∧ b2 = b := by
  cases h <;> exact ⟨rfl, rfl, rfl⟩
theorem KidsO.stop_inv {c : ConT} {r : Nat × ConT} {d k k2 : Int} {b2 : Bool} {l ys : List ConT} (h : KidsO c r d l k true ys k2 b2) : ys = [] ∧ k2 = k ∧ b2 = true := by
  cases h; exact ⟨rfl, rfl, rfl⟩
theorem KidsO.cons_inv {c : ConT} {r : Nat × ConT} {x : ConT} {l : List ConT} {d k k2 : Int} {b2 : Bool} {ys : List ConT} (h : KidsO c r d (x :: l) k false ys k2 b2) : ∃ y k1 b1 yr, ys = y :: yr ∧ putS c r x d k y k1 b1 ∧ KidsO c r d l k1 b1 yr k2 b2 := by
  cases h with
  | cons h h1 => exact ⟨_, _, _, _, rfl, h, h1⟩
theorem kidsO_ex {c : ConT} {r : Nat × ConT} {d : Int} : ∀ (l : List ConT), (∀ x ∈ l, ∀ k, 0 ≤ k → k ≤ 40000 → PutE c r x d k) → ∀ (k : Int) (b : Bool), 0 ≤ k → k ≤ 40001 → (b = false → k ≤ 40000) →
    ∃ ys k' b', KidsO c r d l k b ys k' b' ∧ ys.length ≤ l.length ∧ k ≤ k' ∧ k' ≤ 40001 ∧ (b' = false → b = false ∧ k' ≤ 40000 ∧ ys.length = l.length ∧ (sizeL ys : Int) + k ≤ k' ∧ ∀ y ∈ ys, okD y)
  | l, h, k, true, h0, h1, h2 => ⟨[], k, true, .stop l k, by simp, Int.le_refl _, h1, fun h => by cases h⟩
  | [], h, k, false, h0, h1, h2 => ⟨[], k, false, .nil k, by simp, Int.le_refl _, h1, fun _ => ⟨rfl, h2 rfl, rfl, by rw [sizeL]; simp, by simp⟩⟩
  | x :: l, h, k, false, h0, h1, h2 => by
    obtain ⟨y, k1, b1, g1, g2, g3, g4⟩ := h x (by simp) k h0 (h2 rfl)
    obtain ⟨ys, k2, b2, e1, e2, e3, e4, e5⟩ := kidsO_ex l (fun z hz => h z (by simp [hz])) k1 b1 (by omega) g3 (fun e => (g4 e).1)
    refine ⟨y :: ys, k2, b2, .cons g1 e1, by simp; exact e2, by omega, e4, fun hb => ?_⟩
    obtain ⟨f1, f2, f3, f4, f5⟩ := e5 hb
    obtain ⟨a1, a2, a3⟩ := g4 f1
    refine ⟨rfl, f2, by simp [f3], by rw [sizeL]; omega, fun z hz => ?_⟩
    rcases List.mem_cons.1 hz with rfl | hz
    · exact a3
    · exact f5 z hz

theorem encShape_mk (p : Nat) (sm : ConT) : encShape (p, sm) = .agg (.int .i64 p :: sm.cells) := rfl
theorem put_big (c : ConT) (p : Nat) (sm x : ConT) (d k : Int) (h0 : 0 ≤ k) (h1 : k + 1 > 20000) (h2 : k ≤ 40000) : putS c (p, sm) x d k x (k + 1) true := by
  rw [putS, oArgs, oRefs, oRefs]
  have w1 : IntKind.i64.wrap (k + 1) = k + 1 := wrap_id (by omega) (by omega)
  have d1 : decide (k + 1 > 20000) = true := decide_eq_true (by omega)
  have hz := encC_sz x
  generalize encC x = X at hz ⊢
  generalize encC c = C
  generalize encShape (p, sm) = S
  refine wk (rv := [.cell 9 28]) ann120 106 Tryz.func120 ?_
  simp only [go_sem, w1, d1, hz]
theorem put_low (c : ConT) (p : Nat) (sm : ConT) (n : Int) (s : ByteArray) (kk : List KindT) (names : List ByteArray) (l : List ConT) (d k : Int) (h0 : 0 ≤ k) (h1 : k + 1 ≤ 20000) (hd : 0 ≤ d) (hd' : d ≤ 1000) (hp : p ≤ 4) (hn : n > d + p) (hn' : n ≤ 20000) : putS c (p, sm) (.mk 1 n s kk names l) d k (varC (n - 1)) (k + 1) false := by
  rw [putS, oArgs, oRefs, oRefs, varC, encC_mk, encC_mk, encShape_mk]
  have w1 : IntKind.i64.wrap (k + 1) = k + 1 := wrap_id (by omega) (by omega)
  have w2 : IntKind.i64.wrap (d + (p : Int)) = d + p := wrap_id (by omega) (by omega)
  have w3 : IntKind.i64.wrap (n - 1) = n - 1 := wrap_id (by omega) (by omega)
  have d1 : decide (k + 1 > 20000) = false := decide_eq_false (by omega)
  have d2 : decide (n ≥ d + (p : Int)) = true := decide_eq_true (by omega)
  have d3 : decide (n > d + (p : Int)) = true := decide_eq_true (by omega)
  generalize encC c = C
  generalize sm.cells = S
  refine wk (rv := [.cell 9 28]) ann120 106 Tryz.func120 ?_
  simp only [go_sem, w1, w2, w3, d1, d2, d3, List.map_nil]
theorem put_own (c : ConT) (p : Nat) (sm : ConT) (n : Int) (s : ByteArray) (kk : List KindT) (names : List ByteArray) (l : List ConT) (d k : Int) (h0 : 0 ≤ k) (h1 : k + 1 ≤ 20000) (hd : 0 ≤ d) (hd' : d ≤ 1000) (hp : p ≤ 4) (hn : n = d + p) (hc : sizeF c ≤ 1000000000) (hs : okS c) (hz : sizeF (shiftF c ((p : Int) + d) 0).1 ≤ 20000) : putS c (p, sm) (.mk 1 n s kk names l) d k (shiftF c ((p : Int) + d) 0).1 (k + sizeF (shiftF c ((p : Int) + d) 0).1) ((shiftF c ((p : Int) + d) 0).2 != 0) := by
  have hS := Shift_specV c ((p : Int) + d) 0 hc hs
  have hZ := Size_spec (shiftF c ((p : Int) + d) 0).1 (by omega)
  have hsz := encC_sz (shiftF c ((p : Int) + d) 0).1
  have hp0 := sizeF_pos (shiftF c ((p : Int) + d) 0).1
  generalize shiftF c ((p : Int) + d) 0 = u at hS hZ hsz hz hp0 ⊢
  obtain ⟨u1, u2⟩ := u
  simp only at hS hZ hsz hz hp0 ⊢
  rw [putS, oArgs, oRefs, oRefs, encC_mk, encShape_mk]
  have w1 : IntKind.i64.wrap (k + 1) = k + 1 := wrap_id (by omega) (by omega)
  have w2 : IntKind.i64.wrap (d + (p : Int)) = d + p := wrap_id (by omega) (by omega)
  have w3 : IntKind.i64.wrap ((p : Int) + d) = p + d := wrap_id (by omega) (by omega)
  have w4 : IntKind.i64.wrap ((sizeF u1 : Int) - 1) = sizeF u1 - 1 := wrap_id (by omega) (by omega)
  have w5 : IntKind.i64.wrap (k + 1 + ((sizeF u1 : Int) - 1)) = k + sizeF u1 := by rw [wrap_id (by omega) (by omega)]; omega
  have d1 : decide (k + 1 > 20000) = false := decide_eq_false (by omega)
  have d2 : decide (n ≥ d + (p : Int)) = true := decide_eq_true (by omega)
  have d3 : decide (n > d + (p : Int)) = false := decide_eq_false (by omega)
  have hC := encC_sz c
  generalize encC c = C at hS hC ⊢
  generalize encC u1 = U at hS hZ hsz ⊢
  generalize sm.cells = S
  refine wk (rv := [.cell 9 28]) ann120 106 Tryz.func120 ?_
  simp only [go_sem, w1, w2, w3, w4, w5, d1, d2, d3, hC, hsz]
  refine aCall_intro hS ?_
  simp only [go_sem, w1, w2, w3, w4, w5, d1, d2, d3, hC, hsz]
  refine aCall_intro hZ ?_
  simp only [go_sem, w1, w2, w3, w4, w5, d1, d2, d3, hC, hsz]
  kernel_rfl
theorem put_in (c : ConT) (p : Nat) (sm : ConT) (n : Int) (s : ByteArray) (names : List ByteArray) (d k : Int) (h0 : 0 ≤ k) (h1 : k + 1 ≤ 20000) (hd : 0 ≤ d) (hd' : d ≤ 1000) (hp : p ≤ 4) (hn : n < d + p) (kk : List KindT) : putS c (p, sm) (.mk 1 n s kk names []) d k (.mk 1 n s kk names []) (k + 1) false := by
  rw [putS, oArgs, oRefs, oRefs, encC_mk, encShape_mk]
  have w1 : IntKind.i64.wrap (k + 1) = k + 1 := wrap_id (by omega) (by omega)
  have w2 : IntKind.i64.wrap (d + (p : Int)) = d + p := wrap_id (by omega) (by omega)
  have d1 : decide (k + 1 > 20000) = false := decide_eq_false (by omega)
  have d2 : decide (n ≥ d + (p : Int)) = false := decide_eq_false (by omega)
  generalize encC c = C
  generalize sm.cells = S
  refine wk (rv := [.cell 9 28]) ann120 106 Tryz.func120 ?_
  simp only [go_sem, w1, w2, d1, d2, List.map_nil, List.length_nil, Int.natCast_zero, Int.reduceBEq]
  refine ⟨1, ?_⟩
  rw [aLoop_succ]
  simp only [go_sem, w1, w2, d1, d2, List.map_nil, List.length_nil, Int.natCast_zero, Int.reduceBEq, Int.lt_irrefl, decide_false]
theorem put_gen (c : ConT) (p : Nat) (sm : ConT) (op n : Int) (s : ByteArray) (kk : List KindT) (names : List ByteArray) (l ys : List ConT) (d k k' : Int) (b' : Bool) (h0 : 0 ≤ k) (h1 : k + 1 ≤ 20000) (hd : 0 ≤ d) (hd' : d ≤ 1000) (hp : p ≤ 4) (ho : op ≠ 1) (hll : l.length ≤ 20000) (hK : KidsO c (p, sm) (if isBinder op = true then d + 1 else d) l (k + 1) false ys k' b') : putS c (p, sm) (.mk op n s kk names l) d k (.mk op n s kk names ys) k' b' := by
  have q1 : (op == 1) = false := by simpa using ho
  have w1 : IntKind.i64.wrap (k + 1) = k + 1 := wrap_id (by omega) (by omega)
  have w3 : IntKind.i64.wrap (d + 1) = d + 1 := wrap_id (by omega) (by omega)
  have d1 : decide (k + 1 > 20000) = false := decide_eq_false (by omega)
  have hcase : ∃ i, (if isBinder op = true then d + 1 else d) = i ∧ (((op == 9) = true ∧ (op == 10) = false ∧ (op == 11) = false ∧ (op == 13) = false ∧ i = d + 1) ∨ ((op == 9) = false ∧ (op == 10) = true ∧ (op == 11) = false ∧ (op == 13) = false ∧ i = d + 1) ∨ ((op == 9) = false ∧ (op == 10) = false ∧ (op == 11) = true ∧ (op == 13) = false ∧ i = d + 1) ∨ ((op == 9) = false ∧ (op == 10) = false ∧ (op == 11) = false ∧ (op == 13) = true ∧ i = d + 1) ∨ ((op == 9) = false ∧ (op == 10) = false ∧ (op == 11) = false ∧ (op == 13) = false ∧ i = d)) := by
    refine ⟨_, rfl, ?_⟩
    by_cases e9 : op = 9
    · subst e9; simp [isBinder]
    by_cases e10 : op = 10
    · subst e10; simp [isBinder]
    by_cases e11 : op = 11
    · subst e11; simp [isBinder]
    by_cases e13 : op = 13
    · subst e13; simp [isBinder]
    simp [isBinder, e9, e10, e11, e13]
  obtain ⟨i, hi, hcase⟩ := hcase
  rw [hi] at hK
  clear hi
  rw [putS, oArgs, oRefs, oRefs, encC_mk, encC_mk, encShape_mk]
  have hSI : ∀ x y k k1 b1, putS c (p, sm) x i k y k1 b1 → Spec Tryz.prog 120 [pp (encC x), ii i, .one (.ptr (.ref 0) 0), .one (.ptr (.ref 1) 0), pp (.ep (.agg (.int .i64 p :: sm.cells)) 0), pp (.ep (encC c) 0), .one (.ptr (.ref 2) 0)] [⟨.one, ii k⟩, ⟨.one, .one (.pv (.bool false))⟩, ⟨.one, .one (.fn 120 [.ptr (.ref 0) 0, .ptr (.ref 1) 0, .pv (.ep (.agg (.int .i64 p :: sm.cells)) 0), .pv (.ep (encC c) 0), .ptr (.ref 2) 0])⟩] (encC y) [⟨.one, ii k1⟩, ⟨.one, .one (.pv (.bool b1))⟩, ⟨.one, .one (.fn 120 [.ptr (.ref 0) 0, .ptr (.ref 1) 0, .pv (.ep (.agg (.int .i64 p :: sm.cells)) 0), .pv (.ep (encC c) 0), .ptr (.ref 2) 0])⟩] := by
    intro x y k k1 b1 h
    rw [putS, oArgs, oRefs, oRefs, encShape_mk] at h
    exact h
  rcases hcase with ⟨q9, q10, q11, q13, qi⟩ | ⟨q9, q10, q11, q13, qi⟩ | ⟨q9, q10, q11, q13, qi⟩ | ⟨q9, q10, q11, q13, qi⟩ | ⟨q9, q10, q11, q13, qi⟩
  all_goals
    have wI : IntKind.i64.wrap i = i := wrap_id (by omega) (by omega)
    generalize hC : encC c = C at hSI ⊢
    generalize sm.cells = S at hSI ⊢
    refine wk (rv := [.cell 9 28]) ann120 106 Tryz.func120 ?_
    simp only [go_sem, w1, w3, d1, q1, q9, q10, q11, q13, List.length_map, ← qi]
    refine aLoop_list (α := ConT) (β := List ConT × List ConT × Int × Bool) (fun rest b => ⟨[(9, .one (.ptr (.loc 9) 0)), (12, .one (.ptr (.loc 12) 0)), (90, ii b.1.length), (13, ii i), (6, .one (.ptr (.ref 2) 0)), (3, .one (.ptr (.ref 1) 0)), (88, pp (.slice (l.map encC))), (89, ii l.length)], [(.ref 0, ⟨.one, ii b.2.2.1⟩), (.ref 1, ⟨.one, .one (.pv (.bool b.2.2.2))⟩), (.ref 2, ⟨.one, .one (.fn 120 [.ptr (.ref 0) 0, .ptr (.ref 1) 0, .pv (.ep (.agg (.int .i64 p :: S)) 0), .pv (.ep C 0), .ptr (.ref 2) 0])⟩), (.loc 9, zcx), (.loc 12, ⟨.agg 6, .agg [.pv (.int .i64 op), .pv (.int .i64 n), .pv (.str s), .pv (.slice (kk.map encK)), .pv (.slice (names.map .str)), accE 204 (.agg 6) (b.2.1.map encC)]⟩)], []⟩) (fun rest b => l = b.1 ++ rest ∧ b.2.1.length = b.1.length ∧ ∃ yr, ys = b.2.1 ++ yr ∧ KidsO c (p, sm) i rest b.2.2.1 b.2.2.2 yr k' b') ?_ ?_ l ([], [], k + 1, false) _ ?_ ⟨rfl, rfl, ys, rfl, hK⟩
    · rintro ⟨pre, acc, k1, b1⟩ ⟨h4, h5, yr, h6, h7⟩ K
      simp only [List.append_nil] at h4 h5 h6 h7
      obtain ⟨rfl, rfl, rfl⟩ := h7.nil_inv
      simp only [List.append_nil] at h6
      subst h4 h6
      rcases ys with _ | ⟨y0, ys⟩
      · simp only [go_sem, zcx, lt_false (Int.le_refl _), accE_nil, List.map_nil]
      · simp only [go_sem, zcx, lt_false (Int.le_refl _), accE_cons, List.map_cons]
    · rintro x rest ⟨pre, acc, k1, b1⟩ ⟨h4, h5, yr, h6, h7⟩ K hK'
      simp only at h4 h5 h6 h7
      have hx : (l.map encC)[pre.length]? = some (encC x) := by simp [h4]
      have hpl : pre.length < l.length := by rw [h4]; simp
      have hdd : decide ((pre.length : Int) < l.length) = true := decide_eq_true (by omega)
      have hxs := encC_sz x
      cases b1 with
      | true =>
        obtain ⟨rfl, rfl, rfl⟩ := h7.stop_inv
        simp only [List.append_nil] at h6
        subst h6
        rcases ys with _ | ⟨y0, ys⟩
        · simp only [go_sem, zcx, hdd, Int.toNat_natCast, Int.natCast_nonneg, hx, hxs, accE_nil, List.map_nil]
        · simp only [go_sem, zcx, hdd, Int.toNat_natCast, Int.natCast_nonneg, hx, hxs, accE_cons, List.map_cons]
      | false =>
        obtain ⟨y, k2, b2, yr', rfl, hS, h8⟩ := h7.cons_inv
        have hS' := hSI _ _ _ _ _ hS
        have hys := encC_sz y
        have w4 : IntKind.i64.wrap ((pre.length : Int) + 1) = ((pre ++ [x]).length : Int) := by rw [wrap_id (by omega) (by omega)]; simp
        have hb1 : (acc.length + 1) * 104 ≤ 140737488355328 := by omega
        have hb2 : acc.length + 1 ≤ maxLen := by rw [maxLen_eq]; omega
        have hK'' := fun s' hs => hK' (pre ++ [x], acc ++ [y], k2, b2) s' hs ⟨by simp [h4], by simp [h5], yr', by simp [h6], h8⟩
        clear hK' hK
        rcases acc with _ | ⟨a0, az⟩
        · simp only [go_sem, zcx, accE_nil, hdd, Int.toNat_natCast, Int.natCast_nonneg, hx, hxs, List.map_nil]
          refine aCall_intro hS' ?_
          simp only [go_sem, hys, w4, one_le_maxLen]
          iterate 3 (try (refine ⟨by kernel_rfl, ?_⟩; try simp only [go_sem, hys, w4, one_le_maxLen]))
          refine hK'' _ ?_
          simp only [go_sem, zcx, accE_cons, List.map_append, List.map_cons, List.map_nil, List.nil_append]
        · simp only [List.length_cons] at hb1 hb2
          simp only [go_sem, zcx, accE_cons, hdd, Int.toNat_natCast, Int.natCast_nonneg, hx, hxs, List.map_cons]
          refine aCall_intro hS' ?_
          simp only [go_sem, hys, w4, List.length_cons, List.length_map, hb1, hb2]
          iterate 3 (try (refine ⟨by kernel_rfl, ?_⟩; try simp only [go_sem, hys, w4, List.length_cons, List.length_map, hb1, hb2]))
          refine hK'' _ ?_
          simp only [go_sem, zcx, accE_cons, List.map_append, List.map_cons, List.map_nil, List.cons_append]
    · simp only [go_sem, zcx, accE_nil, List.length_nil, Int.natCast_zero, List.map_nil, wI]

theorem formed_v {n : Int} {s : ByteArray} {k : List KindT} {names : List ByteArray} {l : List ConT} (h : formedF (.mk 1 n s k names l) = true) : l = [] := by
  have := formed_len h
  have e : partsF 1 names.length = 0 := rfl
  exact List.eq_nil_of_length_eq_zero (by omega)
theorem depthF_kid {op n : Int} {s : ByteArray} {k : List KindT} {names : List ByteArray} {l : List ConT} {x : ConT} (h : x ∈ l) : depthF x + 1 ≤ depthF (.mk op n s k names l) := by
  rw [depthF]
  have := depthF_mem h
  omega
theorem put_ex (c : ConT) (p : Nat) (sm : ConT) (hcd : okD c) (hc : sizeF c ≤ 1000000000) (hp : p ≤ 4) : ∀ (x : ConT), formedF x = true → okD x → ∀ d k : Int, 0 ≤ d → d + depthF x ≤ 1000 → 0 ≤ k → k ≤ 40000 → PutE c (p, sm) x d k := by
  refine ConT.ind1 fun op n s kk names l ih => ?_
  intro hf hd d k g0 g1 g2 g3
  have hdp : 1 ≤ depthF (.mk op n s kk names l) := by rw [depthF]; omega
  by_cases h20 : k + 1 > 20000
  · exact ⟨_, _, _, put_big c p sm _ d k g2 h20 g3, by omega, by omega, fun h => by cases h⟩
  by_cases ho : op = 1
  · subst ho
    obtain rfl := formed_v hf
    obtain ⟨n0, n1⟩ := formed_n hf
    simp only [ConT.n] at n0 n1
    rcases Int.lt_trichotomy n (d + p) with hlt | heq | hgt
    · refine ⟨_, _, _, put_in c p sm n s names d k g2 (by omega) g0 (by omega) hp hlt kk, by omega, by omega, fun _ => ⟨by omega, by rw [sizeF, sizeL]; omega, hd⟩⟩
    · obtain ⟨s1, s2⟩ := shiftF_okD c ((p : Int) + d) 0 hcd
      have hz : sizeF (shiftF c ((p : Int) + d) 0).1 ≤ 20000 := by
        rw [shiftF]
        split
        · rw [sizeF_zero]; decide
        · split
          · rw [sizeF_zero]; decide
          · exact replF_size
      have hp0 := sizeF_pos (shiftF c ((p : Int) + d) 0).1
      refine ⟨_, _, _, put_own c p sm n s kk names [] d k g2 (by omega) g0 (by omega) hp heq hc hcd.1 hz, by omega, by omega, fun _ => ⟨by omega, by omega, s1⟩⟩
    · refine ⟨_, _, _, put_low c p sm n s kk names [] d k g2 (by omega) g0 (by omega) hp hgt n1, by omega, by omega, fun _ => ⟨by omega, by rw [varC, sizeF, sizeL]; omega, okS_varC _, okN_varC _⟩⟩
  · have hpl := parts_le hf hd.2
    obtain ⟨ys, k', b', e1, e2, e3, e4, e5⟩ := kidsO_ex (c := c) (r := (p, sm)) (d := if isBinder op = true then d + 1 else d) l (fun x hx k1 h0 h1 => by
      have hk := depthF_kid (op := op) (n := n) (s := s) (k := kk) (names := names) hx
      refine ih x hx (formed_l hf x hx) (okD_mem hd hx) _ k1 ?_ ?_ h0 h1
      · split <;> omega
      · split <;> omega) (k + 1) false (by omega) (by omega) (fun _ => by omega)
    refine ⟨_, _, _, put_gen c p sm op n s kk names l ys d k k' b' g2 (by omega) g0 (by omega) hp ho (by omega) e1, by omega, e4, fun hb => ?_⟩
    obtain ⟨f1, f2, f3, f4, f5⟩ := e5 hb
    exact ⟨f2, by rw [sizeF]; omega, okD_mk hd f5⟩

def OutP (c x : ConT) (p : ConT × Int) : Prop := Spec Tryz.prog 68 [pp (encC c), pp (encShape (shapeF c)), pp (encC x)] [] (.tuple [encC p.1, .int .i64 p.2]) [] ∧ (p.2 = 0 ∨ p.2 = 6)
theorem shift0 (y : ConT) (hv : validF y = true) : (shiftF y 0 0).2 = 0 ∨ (shiftF y 0 0).2 = 6 := by
  rw [shiftF, if_neg (by rw [hv]; decide)]
  have hl : lostF y 0 0 = false := lost_false y 0 0 fun x b _ h => by omega
  rw [if_neg (by rw [hl]; simp)]
  rw [replF]
  split
  · exact .inr rfl
  · exact .inl rfl
theorem outer_ex (c : ConT) (hcd : okD c) (hc : sizeF c ≤ 1000000000) (hp : (shapeF c).1 ≤ 4) (x : ConT) (hf : formedF x = true) (hx : okD x) (hdx : depthF x ≤ 400) : ∃ p, OutP c x p := by
  obtain ⟨y, k', b', hO, _, _, hb⟩ := put_ex c (shapeF c).1 (shapeF c).2 hcd hc hp x hf hx 0 0 (Int.le_refl _) (by omega) (Int.le_refl _) (by decide)
  have hs3 := encShape_sz (shapeF c)
  have hs := encC_sz c
  have hs1 := encC_sz y
  have hs2 := encC_sz x
  have eS : ((shapeF c).1, (shapeF c).2) = shapeF c := rfl
  rw [eS] at hO
  rw [putS, oArgs, oRefs, oRefs] at hO
  cases b' with
  | true =>
    refine ⟨(zeroC, 6), ?_, .inr rfl⟩
    simp only [encC_zero]
    generalize encC c = C at hs hO ⊢
    generalize encC y = Y at hs1 hO
    generalize encC x = X at hs2 hO ⊢
    generalize encShape (shapeF c) = S at hs3 hO ⊢
    refine wk (rv := [.cell 6 28, .tmp 7]) ann68 27 Tryz.func68 ?_
    simp only [go_sem, hs, hs1, hs2, hs3]
    refine aCall_intro hO ?_
    simp only [go_sem, hs, hs1, hs2, hs3]
  | false =>
    obtain ⟨h1, h2, h3⟩ := hb rfl
    have hV := Valid_spec y (by omega) h3.1
    cases hv : validF y with
    | false =>
      rw [hv] at hV
      refine ⟨(zeroC, 6), ?_, .inr rfl⟩
      simp only [encC_zero]
      generalize encC c = C at hs hO ⊢
      generalize encC y = Y at hs1 hO hV
      generalize encC x = X at hs2 hO ⊢
      generalize encShape (shapeF c) = S at hs3 hO ⊢
      refine wk (rv := [.cell 6 28, .tmp 7]) ann68 27 Tryz.func68 ?_
      simp only [go_sem, hs, hs1, hs2, hs3]
      refine aCall_intro hO ?_
      simp only [go_sem, hs, hs1, hs2, hs3]
      refine aCall_intro hV ?_
      simp only [go_sem, hs, hs1, hs2, hs3]
    | true =>
      rw [hv] at hV
      refine ⟨shiftF y 0 0, ?_, shift0 y hv⟩
      have hSh := Shift_specV y 0 0 (by omega) h3.1
      have hs4 := encC_sz (shiftF y 0 0).1
      generalize shiftF y 0 0 = u at hSh hs4 ⊢
      obtain ⟨u1, u2⟩ := u
      simp only at hSh hs4 ⊢
      generalize encC u1 = U at hSh hs4 ⊢
      generalize encC c = C at hs hO ⊢
      generalize encC y = Y at hs1 hO hV hSh
      generalize encC x = X at hs2 hO ⊢
      generalize encShape (shapeF c) = S at hs3 hO ⊢
      refine wk (rv := [.cell 6 28, .tmp 7]) ann68 27 Tryz.func68 ?_
      simp only [go_sem, hs, hs1, hs2, hs3, hs4]
      refine aCall_intro hO ?_
      simp only [go_sem, hs, hs1, hs2, hs3, hs4]
      refine aCall_intro hV ?_
      simp only [go_sem, hs, hs1, hs2, hs3, hs4]
      refine aCall_intro hSh ?_
      simp only [go_sem, hs, hs1, hs2, hs3, hs4]

open Classical in
noncomputable def outF (c x : ConT) : ConT × Int := if h : ∃ p, OutP c x p then Classical.choose h else (zeroC, 6)
theorem outF_spec {c x : ConT} (h : ∃ p, OutP c x p) : OutP c x (outF c x) := by
  unfold outF
  rw [dif_pos h]
  exact Classical.choose_spec h
def isUn (x : ConT) : Bool := x.op == 7 && x.l.isEmpty
noncomputable def ctA (c x : ConT) : ConT × Int := if isUn x = true then (zeroC, 0) else outF c x
noncomputable def ctL (c : ConT) : List ByteArray → List ConT → List CtT × Int
  | nm :: ns, x :: xs => if (ctA c x).2 = 0 then ((nm, (ctA c x).1) :: (ctL c ns xs).1, (ctL c ns xs).2) else ([], (ctA c x).2)
  | _, _ => ([], 0)
theorem ctL_err {c : ConT} : ∀ (ns : List ByteArray) (xs : List ConT), (∀ x ∈ xs, ∃ p, OutP c x p) → (ctL c ns xs).2 = 0 ∨ (ctL c ns xs).2 = 6
  | nm :: ns, x :: xs, h => by
    rw [ctL]
    split
    · exact ctL_err ns xs fun y hy => h y (by simp [hy])
    · rename_i h0
      simp only [ctA] at h0 ⊢
      split at h0
      · exact absurd rfl h0
      · rename_i hu
        rw [if_neg hu]
        exact (outF_spec (h x (by simp))).2
  | [], _, _ => by rw [ctL] <;> simp
  | _ :: _, [], _ => by rw [ctL] <;> simp
theorem ctL_names {c : ConT} : ∀ (ns : List ByteArray) (xs : List ConT), ns.length = xs.length → (ctL c ns xs).2 = 0 → (ctL c ns xs).1.map (·.1) = ns
  | nm :: ns, x :: xs, hl, h0 => by
    rw [ctL] at h0 ⊢
    split at h0
    · rename_i h1
      rw [if_pos h1]
      simp only [List.map_cons]
      rw [ctL_names ns xs (by simpa using hl) h0]
    · rename_i h1; exact absurd h0 h1
  | [], [], _, _ => rfl
  | [], _ :: _, hl, _ => by simp at hl
  | _ :: _, [], hl, _ => by simp at hl
noncomputable def ctF (c : ConT) : List CtT × Int := if (ctL c (shapeF c).2.names (shapeF c).2.l).2 = 0 then ctL c (shapeF c).2.names (shapeF c).2.l else ([], (ctL c (shapeF c).2.names (shapeF c).2.l).2)

theorem Params_spec (c : ConT) (h1 : sizeF c ≤ 1000000000) (h2 : okS c) (hd : isDT c = true) : Spec Tryz.prog 18 [pp (encC c)] [] (.tuple [.int .i64 (shapeF c).1, .int .i64 0]) [] := by
  have hv : validF c = true := by
    rw [isDT, Bool.and_eq_true] at hd
    exact hd.1
  have hG := given_spec c h1 h2
  rw [givenR, if_neg (by rw [hv]; decide), if_pos hd] at hG
  have hs := encC_sz c
  generalize shapeF c = sf at hG ⊢
  obtain ⟨n, sm⟩ := sf
  simp only at hG ⊢
  rw [encShape_mk] at hG
  have e : sm.cells = [.int .i64 sm.op, .int .i64 sm.n, .str sm.s, .slice (sm.k.map encK), .slice (sm.names.map .str), .slice (sm.l.map encC)] := rfl
  rw [e] at hG
  generalize encC c = C at hs hG ⊢
  refine wk (rv := [.tmp 2, .tmp 3]) ann18 14 Tryz.func18 ?_
  simp only [go_sem, hs]
  refine aCall_intro hG ?_
  simp only [go_sem, hs]
theorem Ctors_spec (c : ConT) (h1 : sizeF c ≤ 1000000000) (h2 : okS c) (hd : isDT c = true) (ho : ∀ x ∈ (shapeF c).2.l, ∃ p, OutP c x p) (hl : (shapeF c).2.names.length = (shapeF c).2.l.length) (hll : (shapeF c).2.l.length ≤ 20000) :
    Spec Tryz.prog 19 [pp (encC c)] [] (.tuple [.slice ((ctF c).1.map encCt), .int .i64 (ctF c).2]) [] := by
  have hv : validF c = true := by
    rw [isDT, Bool.and_eq_true] at hd
    exact hd.1
  have hG := given_spec c h1 h2
  rw [givenR, if_neg (by rw [hv]; decide), if_pos hd] at hG
  have hs := encC_sz c
  have hOut : ∀ x ∈ (shapeF c).2.l, Spec Tryz.prog 68 [pp (encC c), pp (encShape (shapeF c)), pp (encC x)] [] (.tuple [encC (outF c x).1, .int .i64 (outF c x).2]) [] := fun x hx => (outF_spec (ho x hx)).1
  generalize hres : ctF c = res
  rw [ctF] at hres
  have hsh := encShape_sz (shapeF c)
  generalize shapeF c = sf at hG hres hl hll hOut hsh
  obtain ⟨n, sm⟩ := sf
  simp only at hG hres hl hll hOut hsh
  rw [encShape_mk] at hG hOut hsh
  have e : sm.cells = [.int .i64 sm.op, .int .i64 sm.n, .str sm.s, .slice (sm.k.map encK), .slice (sm.names.map .str), .slice (sm.l.map encC)] := rfl
  rw [e] at hG hOut hsh
  generalize encC c = C at hs hG hOut ⊢
  generalize hq : ctL c sm.names sm.l = q at hres
  refine wk (rv := [.tmp 2, .tmp 3]) ann19 54 Tryz.func19 ?_
  simp only [go_sem, hs]
  refine aCall_intro hG ?_
  simp only [go_sem, hs, List.length_map, Int.reduceBNe]
  refine aLoop_list (α := ConT) (β := List ConT × List ByteArray × List ByteArray × List CtT) (fun rest b => ⟨[(22, ii b.1.length), (6, .one (accE 102 (.agg 7) (b.2.2.2.map encCt))), (4, .one (.ptr (.loc 4) 0)), (1, pp (.ep C 0)), (20, pp (.slice (sm.l.map encC))), (21, ii sm.l.length)], [(.loc 4, ⟨.agg 7, pp (.agg [.int .i64 n, .int .i64 sm.op, .int .i64 sm.n, .str sm.s, .slice (sm.k.map encK), .slice (sm.names.map .str), .slice (sm.l.map encC)])⟩)], []⟩) (fun rest b => sm.l = b.1 ++ rest ∧ sm.names = b.2.1 ++ b.2.2.1 ∧ b.2.1.length = b.1.length ∧ b.2.2.2.length = b.1.length ∧ q.2 = (ctL c b.2.2.1 rest).2 ∧ (q.2 = 0 → q.1 = b.2.2.2 ++ (ctL c b.2.2.1 rest).1)) ?_ ?_ sm.l ([], [], sm.names, []) _ ?_ ⟨rfl, rfl, rfl, rfl, by rw [hq], fun _ => by rw [hq]; rfl⟩
  · rintro ⟨pre, pn, rn, acc⟩ ⟨h4, h5, h6, h7, h8, h9⟩ K
    simp only [List.append_nil] at h4 h5 h6 h7 h8 h9
    have hrn : rn = [] := by
      have := congrArg List.length h5
      rw [List.length_append] at this
      exact List.eq_nil_of_length_eq_zero (by rw [h4] at hl; omega)
    subst hrn
    have e0 : ctL c [] [] = ([], 0) := by rw [ctL] <;> simp
    rw [e0] at h8 h9
    simp only [List.append_nil] at h8 h9
    rw [if_pos h8] at hres
    obtain ⟨q1, q2⟩ := q
    simp only at h8 h9
    subst h8
    obtain rfl := h9 rfl
    subst hres
    rcases q1 with _ | ⟨a0, az⟩
    · simp only [go_sem, h4, lt_false (Int.le_refl _), accE_nil, List.map_nil]
    · simp only [go_sem, h4, lt_false (Int.le_refl _), accE_cons, List.map_cons]
  · rintro x rest ⟨pre, pn, rn, acc⟩ ⟨h4, h5, h6, h7, h8, h9⟩ K hK
    simp only at h4 h5 h6 h7 h8 h9
    obtain ⟨nm, rn, rfl⟩ : ∃ nm r, rn = nm :: r := by
      cases rn with
      | nil =>
        have e1 := congrArg List.length h4
        have e2 := congrArg List.length h5
        simp at e1 e2
        omega
      | cons a r => exact ⟨a, r, rfl⟩
    rw [ctL] at h8 h9
    have hm : x ∈ sm.l := by simp [h4]
    have hO := hOut x hm
    have hx : (sm.l.map encC)[pre.length]? = some (encC x) := by simp [h4]
    have hnx : (sm.names.map PV.str)[pre.length]? = some (.str nm) := by simp [h5, ← h6]
    have hpl : pre.length < sm.l.length := by rw [h4]; simp
    have hdd : decide ((pre.length : Int) < sm.l.length) = true := decide_eq_true (by omega)
    have w4 : IntKind.i64.wrap ((pre.length : Int) + 1) = ((pre ++ [x]).length : Int) := by rw [wrap_id (by omega) (by omega)]; simp
    have hb1 : (acc.length + 1) * 120 ≤ 140737488355328 := by omega
    have hb2 : acc.length + 1 ≤ maxLen := by rw [maxLen_eq]; omega
    have hU : Spec Tryz.prog 67 [pp (encC x)] [] (.bool (isUn x)) [] := by
      obtain ⟨a1, a2, a3, a4, a5, a6⟩ := x
      exact unit_spec a1 a2 a3 a4 a5 a6
    have hxs := encC_sz x
    have hK' := fun a s' hs (g : q.2 = (ctL c rn rest).2 ∧ (q.2 = 0 → q.1 = (acc ++ [(nm, a)]) ++ (ctL c rn rest).1)) => hK (pre ++ [x], pn ++ [nm], rn, acc ++ [(nm, a)]) s' hs ⟨by simp [h4], by simp [h5], by simp [h6], by simp [h7], g.1, g.2⟩
    clear hK hG
    cases hu : isUn x with
    | true =>
      rw [hu] at hU
      have e1 : ctA c x = (zeroC, 0) := by rw [ctA, if_pos hu]
      rw [e1] at h8 h9
      simp only [if_true] at h8 h9
      have g1 : q.2 = (ctL c rn rest).2 ∧ (q.2 = 0 → q.1 = (acc ++ [(nm, zeroC)]) ++ (ctL c rn rest).1) := ⟨h8, fun h => by rw [h9 h]; simp⟩
      have hz : encCt (nm, zeroC) = .agg [.str nm, .int .i64 0, .int .i64 0, .str ByteArray.empty, .slice [], .slice [], .slice []] := rfl
      rcases acc with _ | ⟨a0, az⟩
      · simp only [go_sem, accE_nil, hdd, Int.toNat_natCast, Int.natCast_nonneg, hx, hnx, hxs, hs, hsh, List.map_nil]
        refine aCall_intro hU ?_
        simp only [go_sem, w4, one_le_maxLen]
        refine hK' zeroC _ ?_ g1
        simp only [go_sem, accE_cons, List.map_append, List.map_cons, List.map_nil, List.nil_append, hz]
      · simp only [List.length_cons] at hb1 hb2
        simp only [go_sem, accE_cons, hdd, Int.toNat_natCast, Int.natCast_nonneg, hx, hnx, hxs, hs, hsh, List.map_cons]
        refine aCall_intro hU ?_
        simp only [go_sem, w4, List.length_cons, List.length_map, hb1, hb2]
        refine hK' zeroC _ ?_ g1
        simp only [go_sem, accE_cons, List.map_append, List.map_cons, List.map_nil, List.cons_append, hz]
    | false =>
      rw [hu] at hU
      have e1 : ctA c x = outF c x := by rw [ctA, if_neg (by rw [hu]; decide)]
      rw [e1] at h8 h9
      generalize outF c x = y at hO h8 h9
      obtain ⟨y1, y2⟩ := y
      simp only at hO h8 h9
      have hys := encC_sz y1
      have ey := encC_cells y1
      have ey2 : y1.cells = [.int .i64 y1.op, .int .i64 y1.n, .str y1.s, .slice (y1.k.map encK), .slice (y1.names.map .str), .slice (y1.l.map encC)] := rfl
      rw [ey, ey2] at hO hys
      cases hy : (y2 != 0) with
      | true =>
        have hy' : y2 ≠ 0 := by simpa using hy
        rw [if_neg hy'] at h8 h9
        simp only at h8
        rw [if_neg (by rw [h8]; exact hy')] at hres
        subst hres
        rw [h8]
        rcases acc with _ | ⟨a0, az⟩
        · simp only [go_sem, accE_nil, hdd, Int.toNat_natCast, Int.natCast_nonneg, hx, hnx, hxs, hs, hsh, List.map_nil]
          refine aCall_intro hU ?_
          simp only [go_sem, hxs, hs, hsh]
          refine aCall_intro hO ?_
          simp only [go_sem, hys, hy]
        · simp only [go_sem, accE_cons, hdd, Int.toNat_natCast, Int.natCast_nonneg, hx, hnx, hxs, hs, hsh, List.map_cons]
          refine aCall_intro hU ?_
          simp only [go_sem, hxs, hs, hsh]
          refine aCall_intro hO ?_
          simp only [go_sem, hys, hy]
      | false =>
        have hy' : y2 = 0 := by simpa using hy
        rw [if_pos hy'] at h8 h9
        simp only at h8 h9
        have g1 : q.2 = (ctL c rn rest).2 ∧ (q.2 = 0 → q.1 = (acc ++ [(nm, y1)]) ++ (ctL c rn rest).1) := ⟨h8, fun h => by rw [h9 h]; simp⟩
        have hz : encCt (nm, y1) = .agg [.str nm, .int .i64 y1.op, .int .i64 y1.n, .str y1.s, .slice (y1.k.map encK), .slice (y1.names.map .str), .slice (y1.l.map encC)] := rfl
        rcases acc with _ | ⟨a0, az⟩
        · simp only [go_sem, accE_nil, hdd, Int.toNat_natCast, Int.natCast_nonneg, hx, hnx, hxs, hs, hsh, List.map_nil]
          refine aCall_intro hU ?_
          simp only [go_sem, hxs, hs, hsh]
          refine aCall_intro hO ?_
          simp only [go_sem, hys, hy, w4, one_le_maxLen]
          refine hK' y1 _ ?_ g1
          simp only [go_sem, accE_cons, List.map_append, List.map_cons, List.map_nil, List.nil_append, hz]
        · simp only [List.length_cons] at hb1 hb2
          simp only [go_sem, accE_cons, hdd, Int.toNat_natCast, Int.natCast_nonneg, hx, hnx, hxs, hs, hsh, List.map_cons]
          refine aCall_intro hU ?_
          simp only [go_sem, hxs, hs, hsh]
          refine aCall_intro hO ?_
          simp only [go_sem, hys, hy, w4, List.length_cons, List.length_map, hb1, hb2]
          refine hK' y1 _ ?_ g1
          simp only [go_sem, accE_cons, List.map_append, List.map_cons, List.map_nil, List.cons_append, hz]
  · simp only [go_sem, accE_nil, List.length_nil, Int.natCast_zero, List.map_nil]
end Go.Abs.Kon
