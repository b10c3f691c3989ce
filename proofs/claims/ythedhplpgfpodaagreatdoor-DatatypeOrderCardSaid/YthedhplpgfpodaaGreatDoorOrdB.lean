/- The order of constructors: normalize answers. -/
import Derived.Test.YthedhplpgfpodaaGreatDoorOrdA
set_option linter.unusedSimpArgs false
set_option linter.unusedVariables false
namespace Go.Abs.Kon
open Go Go.Proofs Go.Abs
set_option maxRecDepth 100000
set_option maxHeartbeats 4000000

def nSpec (c : ConT) (s : Nat) (o : Bool) (r : ConT) (s' : Nat) (o' : Bool) : Prop := Spec Tryz.prog 185 [.one (.ptr (.ref 0) 0), pp (encC c)] [cntB s o] (encC r) [cntB s' o']
def accE (t : Nat) (k : Sz) (es : List PV) : SC := match es with | [] => .nilS | e :: es => .own t k (e :: es)
theorem accE_nil (t : Nat) (k : Sz) : accE t k [] = .nilS := rfl
theorem accE_cons (t : Nat) (k : Sz) (e : PV) (es : List PV) : accE t k (e :: es) = .own t k (e :: es) := rfl
inductive KidsN : List ConT → Nat → Bool → List ConT → Nat → Bool → Prop
  | nil (s : Nat) (o : Bool) : KidsN [] s o [] s o
  | cons {x r : ConT} {l rs : List ConT} {s s1 s2 : Nat} {o o1 o2 : Bool} (h : nSpec x s o r s1 o1) (h1 : KidsN l s1 o1 rs s2 o2) : KidsN (x :: l) s o (r :: rs) s2 o2
theorem KidsN.nil_inv {s s2 : Nat} {o o2 : Bool} {rs : List ConT} (h : KidsN [] s o rs s2 o2) : rs = [] ∧ s2 = s ∧ o2 = o := by
  cases h; exact ⟨rfl, rfl, rfl⟩
theorem KidsN.cons_inv {x : ConT} {l rs : List ConT} {s s2 : Nat} {o o2 : Bool} (h : KidsN (x :: l) s o rs s2 o2) : ∃ r s1 o1 rr, rs = r :: rr ∧ nSpec x s o r s1 o1 ∧ KidsN l s1 o1 rr s2 o2 := by
  cases h with
  | cons h h1 => exact ⟨_, _, _, _, rfl, h, h1⟩
theorem norm_over (c : ConT) (s : Nat) : nSpec c s true zeroC s true := by
  rw [nSpec, cntB, encC_zero]
  refine wk (rv := [.cell 4 28]) ann185 87 Tryz.func185 ?_
  simp only [go_sem, encC_sz]
def NormP (r : ConT) : Prop := formedF r = true ∧ sizeF r ≤ 20000 ∧ depthF r ≤ 400 ∧ okD r ∧ normF r = true
def NormE (c : ConT) (s : Nat) (o : Bool) : Prop := ∃ r s' o', nSpec c s o r s' o' ∧ s ≤ s' ∧ s' ≤ 10001 ∧ (o' = true → r = zeroC) ∧ (o' = false → o = false ∧ s' ≤ 10000 ∧ NormP r)
theorem norm_overE (c : ConT) (s : Nat) (hs : s ≤ 10001) : NormE c s true := ⟨zeroC, s, true, norm_over c s, Nat.le_refl _, hs, fun _ => rfl, fun h => by cases h⟩
theorem sizeF_zero : sizeF zeroC = 1 := rfl
theorem kids_ex {s0 : Nat} : ∀ (l : List ConT), (∀ x ∈ l, ∀ s, s0 ≤ s → s ≤ 10000 → NormE x s false) → ∀ (s : Nat) (o : Bool), s0 ≤ s → s ≤ 10001 → (o = false → s ≤ 10000) →
    ∃ rs s' o', KidsN l s o rs s' o' ∧ rs.length = l.length ∧ s ≤ s' ∧ s' ≤ 10001 ∧ (o' = false → o = false ∧ s' ≤ 10000 ∧ ∀ r ∈ rs, NormP r) ∧ ∀ r ∈ rs, sizeF r ≤ 20000
  | [], h, s, o, h0, h1, h2 => ⟨[], s, o, .nil s o, rfl, Nat.le_refl _, h1, fun ho => ⟨ho, h2 ho, fun r hr => by simp at hr⟩, fun r hr => by simp at hr⟩
  | x :: l, h, s, o, h0, h1, h2 => by
    have hx : NormE x s o := by
      cases o with
      | true => exact norm_overE x s h1
      | false => exact h x (by simp) s h0 (h2 rfl)
    obtain ⟨r, s1, o1, g1, g2, g3, g4, g5⟩ := hx
    obtain ⟨rs, s2, o2, k1, k2, k3, k4, k5, k6⟩ := kids_ex l (fun y hy => h y (by simp [hy])) s1 o1 (by omega) g3 (fun e => (g5 e).2.1)
    refine ⟨r :: rs, s2, o2, .cons g1 k1, by simp [k2], by omega, k4, fun e => ?_, fun y hy => ?_⟩
    · obtain ⟨e1, e2, e3⟩ := k5 e
      obtain ⟨f1, f2, f3⟩ := g5 e1
      refine ⟨f1, e2, fun y hy => ?_⟩
      rcases List.mem_cons.1 hy with rfl | hy
      · exact f3
      · exact e3 y hy
    · rcases List.mem_cons.1 hy with rfl | hy
      · cases o1 with
        | true => rw [g4 rfl, sizeF_zero]; decide
        | false => exact (g5 rfl).2.2.2.1
      · exact k6 y hy

theorem norm_big (op n : Int) (t : ByteArray) (k : List KindT) (names : List ByteArray) (l rs : List ConT) (s s2 : Nat) (o2 : Bool) (hq : (keptF (.mk op n t k names rs) o2).2 = true) (hll : l.length ≤ 20000) (hKids : KidsN l s false rs s2 o2) (hKp : Spec Tryz.prog 236 [.one (.ptr (.ref 0) 0), pp (encC (.mk op n t k names rs))] [cntB s2 o2] (encC (keptF (.mk op n t k names rs) o2).1) [cntB s2 (keptF (.mk op n t k names rs) o2).2]) : nSpec (.mk op n t k names l) s false zeroC s2 true := by
  rw [nSpec, encC_zero]
  rw [hq, keptF_true hq, encC_zero] at hKp
  simp only [cntB] at hKp ⊢

  rw [encC_mk]
  refine wk (rv := [.cell 4 28]) ann185 87 Tryz.func185 ?_
  simp only [go_sem, List.length_map]
  refine aLoop_list (α := ConT) (β := List ConT × List ConT × Nat × Bool) (fun rest b => ⟨[(20, ii b.1.length), (5, .one (.ptr (.loc 5) 0)), (0, .one (.ptr (.ref 0) 0)), (18, pp (.slice (l.map encC))), (4, .one (.ptr (.loc 4) 0)), (19, ii l.length)], [(.ref 0, ⟨.agg 2, .agg [.pv (.int .i64 b.2.2.1), .pv (.bool b.2.2.2)]⟩), (.loc 4, zcx), (.loc 5, ⟨.agg 6, .agg [.pv (.int .i64 op), .pv (.int .i64 n), .pv (.str t), .pv (.slice (k.map encK)), .pv (.slice (names.map .str)), accE 60 (.agg 6) (b.2.1.map encC)]⟩)], []⟩) (fun rest b => l = b.1 ++ rest ∧ b.1.length = b.2.1.length ∧ ∃ rr, rs = b.2.1 ++ rr ∧ KidsN rest b.2.2.1 b.2.2.2 rr s2 o2) ?_ ?_ l ([], [], s, false) _ ?_ ⟨rfl, rfl, rs, rfl, hKids⟩
  · rintro ⟨pre, acc, s1, o1⟩ ⟨h4, h5, rr, h6, h7⟩ K
    simp only [List.append_nil] at h4 h5 h6 h7
    obtain ⟨rfl, rfl, rfl⟩ := h7.nil_inv
    simp only [List.append_nil] at h6
    subst h4 h6
    rw [encC_mk] at hKp
    rcases rs with _ | ⟨r0, rs⟩
    · simp only [List.map_nil] at hKp
      simp only [go_sem, zcx, lt_false (Int.le_refl _), accE_nil, List.map_nil]
      refine aCall_intro hKp ?_
      simp only [go_sem]
    · simp only [List.map_cons] at hKp
      simp only [go_sem, zcx, lt_false (Int.le_refl _), accE_cons, List.map_cons]
      refine aCall_intro hKp ?_
      simp only [go_sem]
  · rintro x rest ⟨pre, acc, s1, o1⟩ ⟨h4, h5, rr, h6, h7⟩ K hK
    simp only at h4 h5 h6 h7
    obtain ⟨r, s3, o3, rr', rfl, hS, h8⟩ := h7.cons_inv
    rw [nSpec, cntB, cntB] at hS
    have hm : x ∈ l := by simp [h4]
    have hx : (l.map encC)[pre.length]? = some (encC x) := by simp [h4]
    have hpl : pre.length < l.length := by rw [h4]; simp
    have hd : decide ((pre.length : Int) < l.length) = true := decide_eq_true (by omega)
    have w4 : IntKind.i64.wrap ((pre.length : Int) + 1) = ((pre ++ [x]).length : Int) := by rw [wrap_id (by omega) (by omega)]; simp
    have hb1 : (acc.length + 1) * 104 ≤ 140737488355328 := by omega
    have hb2 : acc.length + 1 ≤ maxLen := by rw [maxLen_eq]; omega
    have hK' := fun s' hs => hK (pre ++ [x], acc ++ [r], s3, o3) s' hs ⟨by simp [h4], by simp [h5], rr', by simp [h6], h8⟩
    clear hK hKp 
    rcases acc with _ | ⟨a0, az⟩
    · simp only [go_sem, zcx, accE_nil, hd, Int.toNat_natCast, Int.natCast_nonneg, hx, encC_sz, List.map_nil]
      refine aCall_intro hS ?_
      simp only [go_sem, encC_sz, w4, one_le_maxLen]
      iterate 3 (try (refine ⟨by kernel_rfl, ?_⟩; try simp only [go_sem, encC_sz, w4, one_le_maxLen]))
      refine hK' _ ?_
      simp only [go_sem, zcx, accE_cons, List.map_append, List.map_cons, List.map_nil, List.nil_append]
    · simp only [List.length_cons] at hb1 hb2
      simp only [go_sem, zcx, accE_cons, hd, Int.toNat_natCast, Int.natCast_nonneg, hx, encC_sz, List.map_cons]
      refine aCall_intro hS ?_
      simp only [go_sem, encC_sz, w4, List.length_cons, List.length_map, hb1, hb2]
      iterate 3 (try (refine ⟨by kernel_rfl, ?_⟩; try simp only [go_sem, encC_sz, w4, List.length_cons, List.length_map, hb1, hb2]))
      refine hK' _ ?_
      simp only [go_sem, zcx, accE_cons, List.map_append, List.map_cons, List.map_nil, List.cons_append]
  · simp only [go_sem, zcx, accE_nil, List.length_nil, Int.natCast_zero, List.map_nil]

theorem norm_plain (op n : Int) (t : ByteArray) (k : List KindT) (names : List ByteArray) (l rs : List ConT) (s s2 : Nat) (o2 : Bool) (hq : (keptF (.mk op n t k names rs) o2) = (.mk op n t k names rs, false)) (hb : betaF op rs = false) (hE : Spec Tryz.prog 238 [pp (encC (.mk op n t k names rs))] [] (.bool false) []) (h12 : op = 12 → ∃ f a, rs = [f, a]) (hll : l.length ≤ 20000) (hKids : KidsN l s false rs s2 o2) (hKp : Spec Tryz.prog 236 [.one (.ptr (.ref 0) 0), pp (encC (.mk op n t k names rs))] [cntB s2 o2] (encC (keptF (.mk op n t k names rs) o2).1) [cntB s2 (keptF (.mk op n t k names rs) o2).2]) : nSpec (.mk op n t k names l) s false (.mk op n t k names rs) s2 false := by
  rw [nSpec]
  rw [hq] at hKp
  rw [encC_mk op n t k names rs] at hKp hE ⊢
  simp only at hKp
  simp only [cntB] at hKp ⊢

  rw [encC_mk]
  refine wk (rv := [.cell 4 28]) ann185 87 Tryz.func185 ?_
  simp only [go_sem, List.length_map]
  refine aLoop_list (α := ConT) (β := List ConT × List ConT × Nat × Bool) (fun rest b => ⟨[(20, ii b.1.length), (5, .one (.ptr (.loc 5) 0)), (0, .one (.ptr (.ref 0) 0)), (18, pp (.slice (l.map encC))), (4, .one (.ptr (.loc 4) 0)), (19, ii l.length)], [(.ref 0, ⟨.agg 2, .agg [.pv (.int .i64 b.2.2.1), .pv (.bool b.2.2.2)]⟩), (.loc 4, zcx), (.loc 5, ⟨.agg 6, .agg [.pv (.int .i64 op), .pv (.int .i64 n), .pv (.str t), .pv (.slice (k.map encK)), .pv (.slice (names.map .str)), accE 60 (.agg 6) (b.2.1.map encC)]⟩)], []⟩) (fun rest b => l = b.1 ++ rest ∧ b.1.length = b.2.1.length ∧ ∃ rr, rs = b.2.1 ++ rr ∧ KidsN rest b.2.2.1 b.2.2.2 rr s2 o2) ?_ ?_ l ([], [], s, false) _ ?_ ⟨rfl, rfl, rs, rfl, hKids⟩
  · rintro ⟨pre, acc, s1, o1⟩ ⟨h4, h5, rr, h6, h7⟩ K
    simp only [List.append_nil] at h4 h5 h6 h7
    obtain ⟨rfl, rfl, rfl⟩ := h7.nil_inv
    simp only [List.append_nil] at h6
    subst h4 h6
    rcases rs with _ | ⟨r0, rs⟩
    · simp only [List.map_nil] at hKp hE
      have e : (op == 12) = false := beq_false_of_ne (fun e => by obtain ⟨f, a, h⟩ := h12 e; cases h)
      simp only [go_sem, zcx, lt_false (Int.le_refl _), accE_nil, List.map_nil]
      refine aCall_intro hKp ?_
      simp only [go_sem, e]
      refine aCall_intro hE ?_
      simp only [go_sem]
    · simp only [List.map_cons] at hKp hE
      simp only [go_sem, zcx, lt_false (Int.le_refl _), accE_cons, List.map_cons]
      refine aCall_intro hKp ?_
      by_cases e12 : op = 12
      · subst e12
        obtain ⟨f, a, h⟩ := h12 rfl
        simp only [List.cons.injEq] at h
        obtain ⟨rfl, rfl⟩ := h
        have e : (r0.op == 11) = false := by simpa [betaF] using hb
        obtain ⟨opx, nx, sx, kx, namesx, lx⟩ := r0
        simp only [ConT.op] at e
        simp only [encC_mk] at hE ⊢
        simp only [go_sem, e, Int.reduceBEq, Int.reduceToNat, Int.natCast_zero, List.map_cons, List.map_nil]
        refine aCall_intro hE ?_
        simp only [go_sem]
      · have e : (op == 12) = false := beq_false_of_ne e12
        simp only [go_sem, e]
        refine aCall_intro hE ?_
        simp only [go_sem]
  · rintro x rest ⟨pre, acc, s1, o1⟩ ⟨h4, h5, rr, h6, h7⟩ K hK
    simp only at h4 h5 h6 h7
    obtain ⟨r, s3, o3, rr', rfl, hS, h8⟩ := h7.cons_inv
    rw [nSpec, cntB, cntB] at hS
    have hm : x ∈ l := by simp [h4]
    have hx : (l.map encC)[pre.length]? = some (encC x) := by simp [h4]
    have hpl : pre.length < l.length := by rw [h4]; simp
    have hd : decide ((pre.length : Int) < l.length) = true := decide_eq_true (by omega)
    have w4 : IntKind.i64.wrap ((pre.length : Int) + 1) = ((pre ++ [x]).length : Int) := by rw [wrap_id (by omega) (by omega)]; simp
    have hb1 : (acc.length + 1) * 104 ≤ 140737488355328 := by omega
    have hb2 : acc.length + 1 ≤ maxLen := by rw [maxLen_eq]; omega
    have hK' := fun s' hs => hK (pre ++ [x], acc ++ [r], s3, o3) s' hs ⟨by simp [h4], by simp [h5], rr', by simp [h6], h8⟩
    clear hK hKp hE
    rcases acc with _ | ⟨a0, az⟩
    · simp only [go_sem, zcx, accE_nil, hd, Int.toNat_natCast, Int.natCast_nonneg, hx, encC_sz, List.map_nil]
      refine aCall_intro hS ?_
      simp only [go_sem, encC_sz, w4, one_le_maxLen]
      iterate 3 (try (refine ⟨by kernel_rfl, ?_⟩; try simp only [go_sem, encC_sz, w4, one_le_maxLen]))
      refine hK' _ ?_
      simp only [go_sem, zcx, accE_cons, List.map_append, List.map_cons, List.map_nil, List.nil_append]
    · simp only [List.length_cons] at hb1 hb2
      simp only [go_sem, zcx, accE_cons, hd, Int.toNat_natCast, Int.natCast_nonneg, hx, encC_sz, List.map_cons]
      refine aCall_intro hS ?_
      simp only [go_sem, encC_sz, w4, List.length_cons, List.length_map, hb1, hb2]
      iterate 3 (try (refine ⟨by kernel_rfl, ?_⟩; try simp only [go_sem, encC_sz, w4, List.length_cons, List.length_map, hb1, hb2]))
      refine hK' _ ?_
      simp only [go_sem, zcx, accE_cons, List.map_append, List.map_cons, List.map_nil, List.cons_append]
  · simp only [go_sem, zcx, accE_nil, List.length_nil, Int.natCast_zero, List.map_nil]


theorem norm_eta0 (n xn : Int) (t xs : ByteArray) (k xk : List KindT) (names xnames : List ByteArray) (l rs : List ConT) (f a g : ConT) (e : Int) (s s2 : Nat) (o2 : Bool) (hrs : rs = [.mk 12 xn xs xk xnames [f, a]]) (hq : (keptF (.mk 11 n t k names rs) o2) = (.mk 11 n t k names rs, false)) (hE : Spec Tryz.prog 238 [pp (encC (.mk 11 n t k names rs))] [] (.bool true) []) (hSh : Spec Tryz.prog 121 [pp (encC f), ii (-1), ii 0] [] (.tuple [encC g, .int .i64 e]) []) (he : (e != 0) = true) (hll : l.length ≤ 20000) (hKids : KidsN l s false rs s2 o2) (hKp : Spec Tryz.prog 236 [.one (.ptr (.ref 0) 0), pp (encC (.mk 11 n t k names rs))] [cntB s2 o2] (encC (keptF (.mk 11 n t k names rs) o2).1) [cntB s2 (keptF (.mk 11 n t k names rs) o2).2]) : nSpec (.mk 11 n t k names l) s false zeroC s2 true := by
  rw [nSpec, encC_zero]
  rw [hq] at hKp
  rw [encC_mk 11 n t k names rs] at hKp hE
  simp only at hKp
  simp only [cntB] at hKp ⊢

  rw [encC_mk 11 n t k names l]
  refine wk (rv := [.cell 4 28]) ann185 87 Tryz.func185 ?_
  simp only [go_sem, List.length_map]
  refine aLoop_list (α := ConT) (β := List ConT × List ConT × Nat × Bool) (fun rest b => ⟨[(20, ii b.1.length), (5, .one (.ptr (.loc 5) 0)), (0, .one (.ptr (.ref 0) 0)), (18, pp (.slice (l.map encC))), (4, .one (.ptr (.loc 4) 0)), (19, ii l.length)], [(.ref 0, ⟨.agg 2, .agg [.pv (.int .i64 b.2.2.1), .pv (.bool b.2.2.2)]⟩), (.loc 4, zcx), (.loc 5, ⟨.agg 6, .agg [.pv (.int .i64 11), .pv (.int .i64 n), .pv (.str t), .pv (.slice (k.map encK)), .pv (.slice (names.map .str)), accE 60 (.agg 6) (b.2.1.map encC)]⟩)], []⟩) (fun rest b => l = b.1 ++ rest ∧ b.1.length = b.2.1.length ∧ ∃ rr, rs = b.2.1 ++ rr ∧ KidsN rest b.2.2.1 b.2.2.2 rr s2 o2) ?_ ?_ l ([], [], s, false) _ ?_ ⟨rfl, rfl, rs, rfl, hKids⟩
  · rintro ⟨pre, acc, s1, o1⟩ ⟨h4, h5, rr, h6, h7⟩ K
    simp only [List.append_nil] at h4 h5 h6 h7
    obtain ⟨rfl, rfl, rfl⟩ := h7.nil_inv
    simp only [List.append_nil] at h6
    subst h4 h6
    subst hrs
    simp only [List.map_cons, List.map_nil, encC_mk] at hKp hE
    simp only [go_sem, zcx, lt_false (Int.le_refl _), accE_cons, List.map_cons, List.map_nil, encC_mk]
    refine aCall_intro hKp ?_
    simp only [go_sem, Int.reduceBEq, Int.reduceToNat, Int.natCast_zero, List.map_cons, List.map_nil]
    refine aCall_intro hE ?_
    simp only [go_sem, Int.reduceBEq, Int.reduceToNat, Int.natCast_zero, encC_sz, Int.reduceNeg, List.getElem?_cons_zero]
    refine aCall_intro hSh ?_
    simp only [go_sem, encC_sz, he]
  · rintro x rest ⟨pre, acc, s1, o1⟩ ⟨h4, h5, rr, h6, h7⟩ K hK
    simp only at h4 h5 h6 h7
    obtain ⟨r, s3, o3, rr', rfl, hS, h8⟩ := h7.cons_inv
    rw [nSpec, cntB, cntB] at hS
    have hm : x ∈ l := by simp [h4]
    have hx : (l.map encC)[pre.length]? = some (encC x) := by simp [h4]
    have hpl : pre.length < l.length := by rw [h4]; simp
    have hd : decide ((pre.length : Int) < l.length) = true := decide_eq_true (by omega)
    have w4 : IntKind.i64.wrap ((pre.length : Int) + 1) = ((pre ++ [x]).length : Int) := by rw [wrap_id (by omega) (by omega)]; simp
    have hb1 : (acc.length + 1) * 104 ≤ 140737488355328 := by omega
    have hb2 : acc.length + 1 ≤ maxLen := by rw [maxLen_eq]; omega
    have hK' := fun s' hs => hK (pre ++ [x], acc ++ [r], s3, o3) s' hs ⟨by simp [h4], by simp [h5], rr', by simp [h6], h8⟩
    clear hK hKp hE hSh
    rcases acc with _ | ⟨a0, az⟩
    · simp only [go_sem, zcx, accE_nil, hd, Int.toNat_natCast, Int.natCast_nonneg, hx, encC_sz, List.map_nil]
      refine aCall_intro hS ?_
      simp only [go_sem, encC_sz, w4, one_le_maxLen]
      iterate 3 (try (refine ⟨by kernel_rfl, ?_⟩; try simp only [go_sem, encC_sz, w4, one_le_maxLen]))
      refine hK' _ ?_
      simp only [go_sem, zcx, accE_cons, List.map_append, List.map_cons, List.map_nil, List.nil_append]
    · simp only [List.length_cons] at hb1 hb2
      simp only [go_sem, zcx, accE_cons, hd, Int.toNat_natCast, Int.natCast_nonneg, hx, encC_sz, List.map_cons]
      refine aCall_intro hS ?_
      simp only [go_sem, encC_sz, w4, List.length_cons, List.length_map, hb1, hb2]
      iterate 3 (try (refine ⟨by kernel_rfl, ?_⟩; try simp only [go_sem, encC_sz, w4, List.length_cons, List.length_map, hb1, hb2]))
      refine hK' _ ?_
      simp only [go_sem, zcx, accE_cons, List.map_append, List.map_cons, List.map_nil, List.cons_append]
  · simp only [go_sem, zcx, accE_nil, List.length_nil, Int.natCast_zero, List.map_nil]

theorem norm_eta1 (n xn : Int) (t xs : ByteArray) (k xk : List KindT) (names xnames : List ByteArray) (l rs : List ConT) (f a g : ConT) (e : Int) (s s2 : Nat) (o2 : Bool) (hrs : rs = [.mk 12 xn xs xk xnames [f, a]]) (hq : (keptF (.mk 11 n t k names rs) o2) = (.mk 11 n t k names rs, false)) (hE : Spec Tryz.prog 238 [pp (encC (.mk 11 n t k names rs))] [] (.bool true) []) (hSh : Spec Tryz.prog 121 [pp (encC f), ii (-1), ii 0] [] (.tuple [encC g, .int .i64 e]) []) (he : (e != 0) = false) (hll : l.length ≤ 20000) (hKids : KidsN l s false rs s2 o2) (hKp : Spec Tryz.prog 236 [.one (.ptr (.ref 0) 0), pp (encC (.mk 11 n t k names rs))] [cntB s2 o2] (encC (keptF (.mk 11 n t k names rs) o2).1) [cntB s2 (keptF (.mk 11 n t k names rs) o2).2]) : nSpec (.mk 11 n t k names l) s false g s2 false := by
  rw [nSpec]
  rw [hq] at hKp
  rw [encC_mk 11 n t k names rs] at hKp hE
  simp only at hKp
  simp only [cntB] at hKp ⊢

  rw [encC_mk 11 n t k names l]
  refine wk (rv := [.cell 4 28]) ann185 87 Tryz.func185 ?_
  simp only [go_sem, List.length_map]
  refine aLoop_list (α := ConT) (β := List ConT × List ConT × Nat × Bool) (fun rest b => ⟨[(20, ii b.1.length), (5, .one (.ptr (.loc 5) 0)), (0, .one (.ptr (.ref 0) 0)), (18, pp (.slice (l.map encC))), (4, .one (.ptr (.loc 4) 0)), (19, ii l.length)], [(.ref 0, ⟨.agg 2, .agg [.pv (.int .i64 b.2.2.1), .pv (.bool b.2.2.2)]⟩), (.loc 4, zcx), (.loc 5, ⟨.agg 6, .agg [.pv (.int .i64 11), .pv (.int .i64 n), .pv (.str t), .pv (.slice (k.map encK)), .pv (.slice (names.map .str)), accE 60 (.agg 6) (b.2.1.map encC)]⟩)], []⟩) (fun rest b => l = b.1 ++ rest ∧ b.1.length = b.2.1.length ∧ ∃ rr, rs = b.2.1 ++ rr ∧ KidsN rest b.2.2.1 b.2.2.2 rr s2 o2) ?_ ?_ l ([], [], s, false) _ ?_ ⟨rfl, rfl, rs, rfl, hKids⟩
  · rintro ⟨pre, acc, s1, o1⟩ ⟨h4, h5, rr, h6, h7⟩ K
    simp only [List.append_nil] at h4 h5 h6 h7
    obtain ⟨rfl, rfl, rfl⟩ := h7.nil_inv
    simp only [List.append_nil] at h6
    subst h4 h6
    subst hrs
    simp only [List.map_cons, List.map_nil, encC_mk] at hKp hE
    simp only [go_sem, zcx, lt_false (Int.le_refl _), accE_cons, List.map_cons, List.map_nil, encC_mk]
    refine aCall_intro hKp ?_
    simp only [go_sem, Int.reduceBEq, Int.reduceToNat, Int.natCast_zero, List.map_cons, List.map_nil]
    refine aCall_intro hE ?_
    simp only [go_sem, Int.reduceBEq, Int.reduceToNat, Int.natCast_zero, encC_sz, Int.reduceNeg, List.getElem?_cons_zero]
    refine aCall_intro hSh ?_
    simp only [go_sem, encC_sz, he]
  · rintro x rest ⟨pre, acc, s1, o1⟩ ⟨h4, h5, rr, h6, h7⟩ K hK
    simp only at h4 h5 h6 h7
    obtain ⟨r, s3, o3, rr', rfl, hS, h8⟩ := h7.cons_inv
    rw [nSpec, cntB, cntB] at hS
    have hm : x ∈ l := by simp [h4]
    have hx : (l.map encC)[pre.length]? = some (encC x) := by simp [h4]
    have hpl : pre.length < l.length := by rw [h4]; simp
    have hd : decide ((pre.length : Int) < l.length) = true := decide_eq_true (by omega)
    have w4 : IntKind.i64.wrap ((pre.length : Int) + 1) = ((pre ++ [x]).length : Int) := by rw [wrap_id (by omega) (by omega)]; simp
    have hb1 : (acc.length + 1) * 104 ≤ 140737488355328 := by omega
    have hb2 : acc.length + 1 ≤ maxLen := by rw [maxLen_eq]; omega
    have hK' := fun s' hs => hK (pre ++ [x], acc ++ [r], s3, o3) s' hs ⟨by simp [h4], by simp [h5], rr', by simp [h6], h8⟩
    clear hK hKp hE hSh
    rcases acc with _ | ⟨a0, az⟩
    · simp only [go_sem, zcx, accE_nil, hd, Int.toNat_natCast, Int.natCast_nonneg, hx, encC_sz, List.map_nil]
      refine aCall_intro hS ?_
      simp only [go_sem, encC_sz, w4, one_le_maxLen]
      iterate 3 (try (refine ⟨by kernel_rfl, ?_⟩; try simp only [go_sem, encC_sz, w4, one_le_maxLen]))
      refine hK' _ ?_
      simp only [go_sem, zcx, accE_cons, List.map_append, List.map_cons, List.map_nil, List.nil_append]
    · simp only [List.length_cons] at hb1 hb2
      simp only [go_sem, zcx, accE_cons, hd, Int.toNat_natCast, Int.natCast_nonneg, hx, encC_sz, List.map_cons]
      refine aCall_intro hS ?_
      simp only [go_sem, encC_sz, w4, List.length_cons, List.length_map, hb1, hb2]
      iterate 3 (try (refine ⟨by kernel_rfl, ?_⟩; try simp only [go_sem, encC_sz, w4, List.length_cons, List.length_map, hb1, hb2]))
      refine hK' _ ?_
      simp only [go_sem, zcx, accE_cons, List.map_append, List.map_cons, List.map_nil, List.cons_append]
  · simp only [go_sem, zcx, accE_nil, List.length_nil, Int.natCast_zero, List.map_nil]

theorem norm_beta (n xn : Int) (t xs : ByteArray) (k xk : List KindT) (names xnames : List ByteArray) (l rs : List ConT) (y a b r : ConT) (s3 s4 : Nat) (o3 o4 : Bool) (s s2 : Nat) (o2 : Bool) (hrs : rs = [.mk 11 xn xs xk xnames [y], a]) (hq : (keptF (.mk 12 n t k names rs) o2) = (.mk 12 n t k names rs, false)) (hB : Spec Tryz.prog 237 [.one (.ptr (.ref 0) 0), pp (encC (.mk 11 xn xs xk xnames [y])), pp (encC a)] [cntB s2 false] (encC b) [cntB s3 o3]) (hN : nSpec b s3 o3 r s4 o4) (hll : l.length ≤ 20000) (hKids : KidsN l s false rs s2 o2) (hKp : Spec Tryz.prog 236 [.one (.ptr (.ref 0) 0), pp (encC (.mk 12 n t k names rs))] [cntB s2 o2] (encC (keptF (.mk 12 n t k names rs) o2).1) [cntB s2 (keptF (.mk 12 n t k names rs) o2).2]) : nSpec (.mk 12 n t k names l) s false r s4 o4 := by
  rw [nSpec] at hN ⊢
  rw [hq] at hKp
  simp only [cntB] at hB hN
  rw [encC_mk 12 n t k names rs] at hKp
  simp only at hKp
  simp only [cntB] at hKp ⊢

  rw [encC_mk 12 n t k names l]
  refine wk (rv := [.cell 4 28]) ann185 87 Tryz.func185 ?_
  simp only [go_sem, List.length_map]
  refine aLoop_list (α := ConT) (β := List ConT × List ConT × Nat × Bool) (fun rest b => ⟨[(20, ii b.1.length), (5, .one (.ptr (.loc 5) 0)), (0, .one (.ptr (.ref 0) 0)), (18, pp (.slice (l.map encC))), (4, .one (.ptr (.loc 4) 0)), (19, ii l.length)], [(.ref 0, ⟨.agg 2, .agg [.pv (.int .i64 b.2.2.1), .pv (.bool b.2.2.2)]⟩), (.loc 4, zcx), (.loc 5, ⟨.agg 6, .agg [.pv (.int .i64 12), .pv (.int .i64 n), .pv (.str t), .pv (.slice (k.map encK)), .pv (.slice (names.map .str)), accE 60 (.agg 6) (b.2.1.map encC)]⟩)], []⟩) (fun rest b => l = b.1 ++ rest ∧ b.1.length = b.2.1.length ∧ ∃ rr, rs = b.2.1 ++ rr ∧ KidsN rest b.2.2.1 b.2.2.2 rr s2 o2) ?_ ?_ l ([], [], s, false) _ ?_ ⟨rfl, rfl, rs, rfl, hKids⟩
  · rintro ⟨pre, acc, s1, o1⟩ ⟨h4, h5, rr, h6, h7⟩ K
    simp only [List.append_nil] at h4 h5 h6 h7
    obtain ⟨rfl, rfl, rfl⟩ := h7.nil_inv
    simp only [List.append_nil] at h6
    subst h4 h6
    subst hrs
    simp only [List.map_cons, List.map_nil] at hKp
    have hg0 : ∀ a b : PV, [a, b][0]? = some a := fun _ _ => rfl
    have hg1 : ∀ a b : PV, [a, b][1]? = some b := fun _ _ => rfl
    have hs := encC_sz (.mk 11 xn xs xk xnames [y])
    rw [encC_mk] at hKp hB hs
    simp only [go_sem, zcx, lt_false (Int.le_refl _), accE_cons, List.map_cons, List.map_nil]
    rw [encC_mk]
    refine aCall_intro hKp ?_
    simp only [go_sem, hs, Int.reduceBEq, Int.reduceToNat, Int.natCast_zero, List.map_cons, List.map_nil, encC_sz, hg0, hg1]
    refine aCall_intro hB ?_
    simp only [go_sem, hs, encC_sz, hg0, hg1]
    repeat (refine ⟨by kernel_rfl, ?_⟩; try simp only [go_sem, hs, encC_sz, hg0, hg1])
    refine aCall_intro hN ?_
    simp only [go_sem, hs, encC_sz, hg0, hg1]
    kernel_rfl
  · rintro x rest ⟨pre, acc, s1, o1⟩ ⟨h4, h5, rr, h6, h7⟩ K hK
    simp only at h4 h5 h6 h7
    obtain ⟨r, s3, o3, rr', rfl, hS, h8⟩ := h7.cons_inv
    rw [nSpec, cntB, cntB] at hS
    have hm : x ∈ l := by simp [h4]
    have hx : (l.map encC)[pre.length]? = some (encC x) := by simp [h4]
    have hpl : pre.length < l.length := by rw [h4]; simp
    have hd : decide ((pre.length : Int) < l.length) = true := decide_eq_true (by omega)
    have w4 : IntKind.i64.wrap ((pre.length : Int) + 1) = ((pre ++ [x]).length : Int) := by rw [wrap_id (by omega) (by omega)]; simp
    have hb1 : (acc.length + 1) * 104 ≤ 140737488355328 := by omega
    have hb2 : acc.length + 1 ≤ maxLen := by rw [maxLen_eq]; omega
    have hK' := fun s' hs => hK (pre ++ [x], acc ++ [r], s3, o3) s' hs ⟨by simp [h4], by simp [h5], rr', by simp [h6], h8⟩
    clear hK hKp hB hN
    rcases acc with _ | ⟨a0, az⟩
    · simp only [go_sem, zcx, accE_nil, hd, Int.toNat_natCast, Int.natCast_nonneg, hx, encC_sz, List.map_nil]
      refine aCall_intro hS ?_
      simp only [go_sem, encC_sz, w4, one_le_maxLen]
      iterate 3 (try (refine ⟨by kernel_rfl, ?_⟩; try simp only [go_sem, encC_sz, w4, one_le_maxLen]))
      refine hK' _ ?_
      simp only [go_sem, zcx, accE_cons, List.map_append, List.map_cons, List.map_nil, List.nil_append]
    · simp only [List.length_cons] at hb1 hb2
      simp only [go_sem, zcx, accE_cons, hd, Int.toNat_natCast, Int.natCast_nonneg, hx, encC_sz, List.map_cons]
      refine aCall_intro hS ?_
      simp only [go_sem, encC_sz, w4, List.length_cons, List.length_map, hb1, hb2]
      iterate 3 (try (refine ⟨by kernel_rfl, ?_⟩; try simp only [go_sem, encC_sz, w4, List.length_cons, List.length_map, hb1, hb2]))
      refine hK' _ ?_
      simp only [go_sem, zcx, accE_cons, List.map_append, List.map_cons, List.map_nil, List.cons_append]
  · simp only [go_sem, zcx, accE_nil, List.length_nil, Int.natCast_zero, List.map_nil]

theorem parts_le {op n : Int} {t : ByteArray} {k : List KindT} {names : List ByteArray} {l : List ConT} (h : formedF (.mk op n t k names l) = true) (hd : okN (.mk op n t k names l)) : l.length ≤ 200 := by
  have h1 := formed_len h
  simp only [okN] at hd
  have h2 : partsF op names.length ≤ max 2 (names.length : Int) := by
    rw [partsF]
    (repeat' split) <;> omega
  omega
theorem formed_mk {op n : Int} {t : ByteArray} {k : List KindT} {names : List ByteArray} {l l' : List ConT} (h : formedF (.mk op n t k names l) = true) (hl : l'.length = l.length) (h' : ∀ x ∈ l', formedF x = true) : formedF (.mk op n t k names l') = true := by
  rw [formedF_mk, Bool.and_eq_true] at h ⊢
  exact ⟨by rw [hl]; exact h.1, List.all_eq_true.2 h'⟩
theorem sizeL_le : ∀ l : List ConT, (∀ x ∈ l, sizeF x ≤ 20000) → sizeL l ≤ 20000 * l.length
  | [], _ => by rw [sizeL]; omega
  | x :: l, h => by
    rw [sizeL, List.length_cons]
    have h1 := h x (by simp)
    have h2 := sizeL_le l fun y hy => h y (by simp [hy])
    omega
theorem valid_parts {c : ConT} (h : validF c = true) : formedF c = true ∧ sizeF c ≤ 20000 ∧ depthF c ≤ 400 := by
  rw [validF, Bool.and_eq_true, Bool.and_eq_true] at h
  exact ⟨h.2.2, of_decide_eq_true h.1, of_decide_eq_true h.2.1⟩
theorem norm_ex : ∀ (m : Nat) (c : ConT) (s : Nat), (10001 - s) * 30000 + sizeF c ≤ m → formedF c = true → okD c → sizeF c ≤ 20000 → s ≤ 10000 → NormE c s false := by
  intro m
  induction m with
  | zero => intro c s h; have := sizeF_pos c; omega
  | succ m ih =>
    rintro ⟨op, n, t, k, names, l⟩ s hm hf hd hsz hs
    have hpl := parts_le hf hd.2
    obtain ⟨rs, s2, o2, k1, k2, k3, k4, k5, k6⟩ := kids_ex (s0 := s) l (fun x hx s1 h1 h2 => ih x s1 (by
      have := sizeF_mem hx
      rw [sizeF] at hm
      have : (10001 - s1) * 30000 ≤ (10001 - s) * 30000 := Nat.mul_le_mul_right _ (by omega)
      omega) (formed_l hf x hx) (okD_mem hd hx) (by rw [sizeF] at hsz; have := sizeF_mem hx; omega) h2) s false (Nat.le_refl _) (by omega) (fun _ => hs)
    have hso : sizeF (.mk op n t k names rs) ≤ 100000000 := by
      have := sizeL_le rs k6
      rw [sizeF]
      have : 20000 * rs.length ≤ 20000 * 200 := Nat.mul_le_mul_left _ (by omega)
      omega
    have hKp := kept_gen (.mk op n t k names rs) s2 o2 hso
    cases hq : (keptF (.mk op n t k names rs) o2).2 with
    | true => exact ⟨zeroC, s2, true, norm_big op n t k names l rs s s2 o2 hq (by omega) k1 hKp, k3, k4, fun _ => rfl, fun h => by cases h⟩
    | false =>
      obtain ⟨q1, q2, q3, q4⟩ := keptF_false hq
      have hq' : keptF (.mk op n t k names rs) o2 = (.mk op n t k names rs, false) := Prod.ext q2 hq
      obtain ⟨_, q5, q6⟩ := k5 q1
      have hfo : formedF (.mk op n t k names rs) = true := formed_mk hf k2 fun x hx => (q6 x hx).1
      have hdo : okD (.mk op n t k names rs) := okD_mk hd fun x hx => (q6 x hx).2.2.2.1
      have hE := eta_spec (.mk op n t k names rs) hfo (by omega)
      cases hb : betaF op rs with
      | true =>
        obtain ⟨y0, rs', rfl⟩ : ∃ y0 rs', rs = y0 :: rs' := by
          cases rs with
          | nil => cases hb
          | cons y r => exact ⟨y, r, rfl⟩
        rw [betaF, Bool.and_eq_true, beq_iff_eq, beq_iff_eq] at hb
        obtain ⟨rfl, hb2⟩ := hb
        obtain ⟨f, a, h⟩ := formed_12 hfo
        simp only [List.cons.injEq] at h
        obtain ⟨rfl, rfl⟩ := h
        obtain ⟨xo, xn, xs, xk, xnames, xl⟩ := y0
        simp only [ConT.op] at hb2
        subst hb2
        have py := q6 (.mk 11 xn xs xk xnames xl) (by simp)
        have pa := q6 a (by simp)
        obtain ⟨y, rfl⟩ := formed_11 py.1
        have hyd := okD_mem py.2.2.2.1 (List.mem_singleton.2 rfl)
        have hys : sizeF y ≤ 20000 := by
          have := py.2.1
          rw [sizeF, sizeL, sizeL] at this
          omega
        have hB := beta_gen xn xs xk xnames y a s2 false (by omega) ⟨hyd, hys⟩ ⟨pa.2.2.2.1, pa.2.1⟩
        have hN : NormE (betaR y a s2 false).1 (s2 + 1) (betaR y a s2 false).2 := by
          cases ho : (betaR y a s2 false).2 with
          | true => exact norm_overE _ _ (by omega)
          | false =>
            obtain ⟨g1, g2, g3⟩ := betaR_false ho hyd pa.2.2.2.1
            obtain ⟨v1, v2, v3⟩ := valid_parts g2
            refine ih _ _ ?_ v1 g3 v2 g1
            have : (10001 - (s2 + 1)) * 30000 + 30000 ≤ (10001 - s) * 30000 := by
              rw [← Nat.succ_mul]
              exact Nat.mul_le_mul_right _ (by omega)
            have := sizeF_pos (.mk 12 n t k names l)
            omega
        obtain ⟨r, s4, o4, n1, n2, n3, n4, n5⟩ := hN
        refine ⟨r, s4, o4, norm_beta n xn t xs k xk names xnames l _ y a (betaR y a s2 false).1 r (s2 + 1) s4 (betaR y a s2 false).2 o4 s s2 o2 rfl hq' hB n1 (by omega) k1 hKp, by omega, n3, n4, fun h => ?_⟩
        obtain ⟨_, e2, e3⟩ := n5 h
        exact ⟨rfl, e2, e3⟩
      | false =>
        cases he : etaF (.mk op n t k names rs) with
        | true =>
          rw [he] at hE
          have hop : op = 11 ∧ ∃ xn xs xk xnames f a, rs = [.mk 12 xn xs xk xnames [f, a]] ∧ occF f 0 = false := by
            have h := he
            rw [etaF] at h
            simp only [ConT.l] at h
            rcases rs with _ | ⟨x, rs⟩
            · cases h
            rcases rs with _ | ⟨x2, rs⟩
            · obtain ⟨xo, xn, xs, xk, xnames, xl⟩ := x
              simp only [ConT.l] at h
              rcases xl with _ | ⟨f, xl⟩
              · cases h
              rcases xl with _ | ⟨a, xl⟩
              · cases h
              rcases xl with _ | ⟨a2, xl⟩
              · rw [Bool.and_eq_true, Bool.and_eq_true, Bool.and_eq_true, Bool.and_eq_true] at h
                obtain ⟨e1, e2, _, _, e5⟩ := h
                have o1 : op = 11 := by simpa [ConT.op] using e1
                have o2 : xo = 12 := by simpa [ConT.op] using e2
                subst o2
                exact ⟨o1, xn, xs, xk, xnames, f, a, rfl, by simpa using e5⟩
              · cases h
            · cases h
          obtain ⟨rfl, xn, xs, xk, xnames, f, a, rfl, hocc⟩ := hop
          have px := q6 _ (List.mem_singleton.2 rfl)
          have hff := formed_l px.1 f (by simp)
          have hfd := okD_mem px.2.2.2.1 (by simp : f ∈ [f, a])
          have hfs : sizeF f ≤ 20000 := by
            have := px.2.1
            rw [sizeF, sizeL] at this
            omega
          have hfn : normF f = true := by
            have h := px.2.2.2.2
            rw [normF] at h
            split at h
            · cases h
            split at h
            · cases h
            exact normL_mem h f (by simp)
          have hSh := Shift_specV f (-1) 0 (by omega) hfd.1
          obtain ⟨g1, g2⟩ := shiftF_okD f (-1) 0 hfd
          cases hz : ((shiftF f (-1) 0).2 != 0) with
          | true => exact ⟨zeroC, s2, true, norm_eta0 n xn t xs k xk names xnames l _ f a _ _ s s2 o2 rfl hq' hE hSh hz (by omega) k1 hKp, k3, k4, fun _ => rfl, fun h => by cases h⟩
          | false =>
            have hz' : (shiftF f (-1) 0).2 = 0 := by simpa using hz
            obtain ⟨v1, v2, v3⟩ := valid_parts (g2 hz')
            exact ⟨(shiftF f (-1) 0).1, s2, false, norm_eta1 n xn t xs k xk names xnames l _ f a _ _ s s2 o2 rfl hq' hE hSh hz (by omega) k1 hKp, k3, k4, (fun h => by cases h), fun _ => ⟨rfl, q5, v1, v2, v3, g1, eta_left hff hfn hocc hz'⟩⟩
        | false =>
          rw [he] at hE
          refine ⟨.mk op n t k names rs, s2, false, norm_plain op n t k names l rs s s2 o2 hq' hb hE (fun e => by subst e; exact formed_12 hfo) (by omega) k1 hKp, k3, k4, (fun h => by cases h), fun _ => ⟨rfl, q5, hfo, q3, q4, hdo, ?_⟩⟩
          rw [normF, if_neg (by rw [hb]; decide), if_neg (by rw [he]; decide), normL_any, Bool.not_eq_true', List.any_eq_false]
          intro x hx
          rw [(q6 x hx).2.2.2.2]
          decide
end Go.Abs.Kon
