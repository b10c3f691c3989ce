/- The reference's shifting and free variables. -/
import Derived.Test.YthedhplpgfpodaaGreatDoorTermF
import Derived.Test.YthedhplpgfpodaaGreatDoorKonH
import Derived.Test.YthedhplpgfpodaaGreatDoorTermB
import Derived.Test.YthedhplpgfpodaaGreatDoorTermC
set_option linter.unusedSimpArgs false
set_option linter.unusedVariables false
namespace Go.Abs.Kon
open Go Go.Proofs Go.Abs
set_option maxRecDepth 100000
set_option maxHeartbeats 4000000
theorem rtCons_spec (op n : Int) (s : ByteArray) (con to : ConT) (k : List KindT) (names : List ByteArray) (l : List TermT) (i : Nat) : Spec Tryz.prog 255 [pp (encT (.mk op n s con to k names l)), ii i] [] (.int .i64 (qat op i)) [] := by
 generalize hres : qat op i = res
 rw [qat] at hres
 have e1 : (i = 1) ↔ ((i : Int) == 1) = true := by simp; omega
 refine wk (rv := [.tmp 4]) ann255 17 Tryz.func255 ?_
 simp only [go_sem, eTm]
 repeat' ((first | refine cKi (fun _ => ?_) (fun _ => ?_) | refine gKi (fun _ => ?_) (fun _ => ?_)) <;> simp only [go_sem, List.length_map])
 all_goals (subst hres; simp_all)
theorem rtTerms_spec (op n : Int) (s : ByteArray) (con to : ConT) (k : List KindT) (names : List ByteArray) (l : List TermT) (i : Nat) : Spec Tryz.prog 257 [pp (encT (.mk op n s con to k names l)), ii i] [] (.int .i64 (qam op i)) [] := by
 generalize hres : qam op i = res
 rw [qam] at hres
 refine wk (rv := [.tmp 4]) ann257 16 Tryz.func257 ?_
 simp only [go_sem, eTm]
 repeat' ((first | refine cKi (fun _ => ?_) (fun _ => ?_) | refine gKi (fun _ => ?_) (fun _ => ?_)) <;> simp only [go_sem, List.length_map])
 all_goals (subst hres; simp_all)
theorem conShift_spec (c : ConT) (by' from' : Int) (h1 : -100000000 ≤ by') (h2 : by' ≤ 100000000) (h3 : 0 ≤ from') (h4 : eqC c zeroC = true ∨ formedF c = true) (h5 : wtF c ≤ 900000000) :
  Spec Tryz.prog 310 [pp (encC c), ii by', ii from'] [] (encC (cshR c by' from')) [] := by
 have hN := NoCon_spec c
 rw [cshR]
 cases hz : eqC c zeroC with
 | true =>
   rw [hz] at hN
   rw [if_pos rfl]
   refine wk (rv := [.cell 6 28]) ann310 14 Tryz.func310 ?_
   simp only [go_sem, eCz]
   refine aC hN ?_
   simp only [go_sem, eCz]
 | false =>
   rw [hz] at hN h4
   have hS := rShift_spec c by' from' (by omega) (by omega) h3 (h4.resolve_left (by decide)) h5
   rw [if_neg (by decide)]
   refine wk (rv := [.cell 6 28]) ann310 14 Tryz.func310 ?_
   simp only [go_sem, eCz]
   refine aC hN ?_
   simp only [go_sem, eCz]
   refine aC hS ?_
   simp only [go_sem, eCz]
theorem rtshift_spec (cons terms : Int) (hc1 : -20000 ≤ cons) (hc2 : cons ≤ 20000) (ht1 : -20000 ≤ terms) (ht2 : terms ≤ 20000) (t : TermT) : ∀ uc ut : Int, wfT t = true → okT t → wcT t → 0 ≤ uc → uc + depthT t ≤ 1000000000 → 0 ≤ ut → ut + depthT t ≤ 1000000000 →
  Spec Tryz.prog 297 [pp (encT t), ii cons, ii terms, ii uc, ii ut] [] (encT (rshT cons terms t uc ut)) [] := by
 revert t
 refine TermT.ind1 fun op n s con to k names l ih => ?_
 intro uc ut hwf hok hwc h1 h2 h3 h4
 rw [wfT, Bool.and_eq_true] at hwf
 obtain ⟨hnode, hwl⟩ := hwf
 obtain ⟨o1, o2, o3, o4⟩ := qbo hok
 simp only [wcT] at hwc
 obtain ⟨c1, c2, c3⟩ := hwc
 rw [depthT] at h2 h4
 obtain ⟨_, _, _, _, _, _, _, f1, f2⟩ := qc5 hnode
 have fo : ∀ {c : ConT} {b : Bool}, qav c b = true → eqC c zeroC = true ∨ formedF c = true := fun {c b} h => by
  rw [qav] at h
  split at h
  ·exact .inr (qah h)
  ·exact .inl h
 have hS1 := conShift_spec con cons uc (by omega) (by omega) h1 (fo f1) (by omega)
 have hS2 := conShift_spec to cons uc (by omega) (by omega) h1 (fo f2) (by omega)
 have hC := fun i => rtCons_spec op n s con to k names l i
 have hT := fun i => rtTerms_spec op n s con to k names l i
 have hn1 : op = 1 → 0 ≤ n ∧ n ≤ 20000 := fun e => (qbh hnode e).2.2.2.2.2.2
 simp only [qal, ConT.cells] at hS1 hS2
 simp only [eTm] at hC hT
 generalize hres : rshT cons terms (.mk op n s con to k names l) uc ut = res
 rw [rshT] at hres
 generalize cshR con cons uc = con' at hS1 hres
 generalize cshR to cons uc = to' at hS2 hres
 obtain ⟨n', hn'⟩ : ∃ n' : Int, n' = (if op = 1 ∧ n ≥ ut then n + terms else n) := ⟨_, rfl⟩
 rw [← hn'] at hres
 have loop : ∀ out, out = rshL cons terms op l 0 uc ut → encT (.mk op n' s con' to' k names out) = encT res := fun out e => by rw [e, hres]
 clear hres
 by_cases hop : op = 1 ∧ n ≥ ut
 ·rw [if_pos hop] at hn'
  obtain ⟨g1, g2⟩ := hn1 hop.1
  have w1 : IntKind.i64.wrap (n + terms) = n' := by rw [hn']; exact wId (by omega) (by omega)
  have e1 : (op == 1) = true := by simp [hop.1]
  refine wk (rv := [.cell 10 52]) ann297 72 Tryz.func297 ?_
  simp only [go_sem, eTm, e1, decide_eq_true hop.2, w1]
  refine aC hS1 ?_
  simp only [go_sem]
  refine aC hS2 ?_
  simp only [go_sem, List.length_map]
  clear hS1 hS2
  refine aLl (α := TermT) (β := Nat × List TermT) (fun rest b => ⟨[(12, ii b.1), (11, .one (.ptr (.loc 11) 0)), (5, pp (.ep (encT (.mk op n s con to k names l)) 0)), (4, ii ut), (3, ii uc), (2, ii terms), (1, ii cons), (10, .one (.ptr (.loc 10) 0))],
    [(.loc 10, zboxT), (.loc 11, ⟨.agg 18, .agg [.pv (.int .i64 op), .pv (.int .i64 n'), .pv (.str s), .pv (.int .i64 con'.op), .pv (.int .i64 con'.n), .pv (.str con'.s), .pv (.slice (con'.k.map encK)), .pv (.slice (con'.names.map .str)), .pv (.slice (con'.l.map encC)), .pv (.int .i64 to'.op), .pv (.int .i64 to'.n), .pv (.str to'.s), .pv (.slice (to'.k.map encK)), .pv (.slice (to'.names.map .str)), .pv (.slice (to'.l.map encC)), .pv (.slice (k.map encK)), .pv (.slice (names.map .str)), acc 138 (.agg 18) (b.2.map encT)]⟩)], []⟩)
   (fun rest b => ∃ pre, l = pre ++ rest ∧ b.1 = pre.length ∧ b.2.length = pre.length ∧ b.2 ++ rshL cons terms op rest b.1 uc ut = rshL cons terms op l 0 uc ut) ?_ ?_ l (0, []) _ ?_ ⟨[], rfl, rfl, rfl, rfl⟩
  ·rintro ⟨m, out⟩ ⟨pre, g1, g2, g3, g4⟩ K
   simp only [List.append_nil] at g1 g2 g3
   simp only [rshL, List.append_nil] at g4
   have hr := loop out g4
   rw [← hr]
   cases out <;> simp only [go_sem, g2, g1, ltF (Int.le_refl _), List.length_map, acc, zboxT, eTm, List.map_nil, List.map_cons]
  ·rintro x rest ⟨m, out⟩ ⟨pre, g1, g2, g3, g4⟩ K hK
   simp only at g2 g3 g4
   have hx : (l.map encT)[m]? = some (encT x) := by simp [g1, g2]
   have hlt : (m : Int) < l.length := by rw [g1, g2]; simp; omega
   have hll : m < l.length := by rw [g1, g2]; simp
   have hm : x ∈ l := by simp [g1]
   have hdx := qb1 hm
   have w4 : IntKind.i64.wrap ((m : Int) + 1) = ((m + 1 : Nat) : Int) := by rw [wId (by omega) (by omega)]; simp
   have hC := hC m
   have hT := hT m
   have b1 : 0 ≤ qat op m ∧ qat op m ≤ 1 := by rw [qat]; split <;> omega
   have b2 : 0 ≤ qam op m ∧ qam op m ≤ 1 := by rw [qam]; (repeat' split) <;> omega
   have hI := ih x hm (uc + qat op m) (ut + qam op m) (wfL_mem.1 hwl x hm) (okTs_mem.1 o4 x hm) (wcTs_mem.1 c3 x hm) (by omega) (by omega) (by omega) (by omega)
   have w5 : IntKind.i64.wrap (uc + qat op m) = uc + qat op m := wId (by omega) (by omega)
   have w6 : IntKind.i64.wrap (ut + qam op m) = ut + qam op m := wId (by omega) (by omega)
   have hK' := fun s' hs => hK (m + 1, out ++ [rshT cons terms x (uc + qat op m) (ut + qam op m)]) s' hs ⟨pre ++ [x], by simp [g1], by simp [g2], by simp [g3], by rw [← g4, rshL]; simp⟩
   clear hK g4 loop
   generalize rshT cons terms x (uc + qat op m) (ut + qam op m) = y at hI hK'
   have hb1 : (out.length + 1) * 312 ≤ 140737488355328 := by omega
   have hb2 : out.length + 1 ≤ maxLen := by rw [mLe]; omega
   generalize qat op m = q1 at hC hI w5
   generalize qam op m = q2 at hT hI w6
   clear b1 b2 ih hdx
   cases out
   ·simp only [go_sem, decide_eq_true hlt, Int.toNat_natCast, Int.natCast_nonneg, hx, eTz, eTm, acc, zboxT, List.map_nil, List.length_map]
    refine aC hC ?_
    simp only [go_sem, w5]
    refine aC hT ?_
    simp only [go_sem, w6]
    refine aC hI ?_
    simp only [go_sem, eTz, w4, oneM]
    try (refine ⟨by kernel_rfl, ?_⟩; try simp only [go_sem, eTz, w4, oneM])
    refine hK' _ ?_
    simp only [go_sem, acc, zboxT, eTm, List.map_cons, List.map_nil, List.nil_append]
   ·simp only [List.length_cons] at hb1 hb2
    simp only [go_sem, decide_eq_true hlt, Int.toNat_natCast, Int.natCast_nonneg, hx, eTz, eTm, acc, zboxT, List.map_cons, List.length_map]
    refine aC hC ?_
    simp only [go_sem, w5]
    refine aC hT ?_
    simp only [go_sem, w6]
    refine aC hI ?_
    simp only [go_sem, eTz, w4, List.length_map, hb1, hb2]
    try (refine ⟨by kernel_rfl, ?_⟩; try simp only [go_sem, eTz, w4, List.length_map, hb1, hb2])
    refine hK' _ ?_
    simp only [go_sem, acc, zboxT, eTm, List.map_cons, List.map_append, List.map_nil, List.cons_append]
  ·simp only [go_sem, acc, zboxT, eTm, Int.natCast_zero, List.map_nil]
 ·rw [if_neg hop] at hn'
  rw [hn'] at loop
  clear hn'
  by_cases e : op = 1
  ·have e1 : (op == 1) = true := by simp [e]
   have e2 : decide (n ≥ ut) = false := decide_eq_false fun h => hop ⟨e, h⟩
   refine wk (rv := [.cell 10 52]) ann297 72 Tryz.func297 ?_
   simp only [go_sem, eTm, e1, e2]
   refine aC hS1 ?_
   simp only [go_sem]
   refine aC hS2 ?_
   simp only [go_sem, List.length_map]
   clear hS1 hS2
   refine aLl (α := TermT) (β := Nat × List TermT) (fun rest b => ⟨[(12, ii b.1), (11, .one (.ptr (.loc 11) 0)), (5, pp (.ep (encT (.mk op n s con to k names l)) 0)), (4, ii ut), (3, ii uc), (2, ii terms), (1, ii cons), (10, .one (.ptr (.loc 10) 0))],
     [(.loc 10, zboxT), (.loc 11, ⟨.agg 18, .agg [.pv (.int .i64 op), .pv (.int .i64 n), .pv (.str s), .pv (.int .i64 con'.op), .pv (.int .i64 con'.n), .pv (.str con'.s), .pv (.slice (con'.k.map encK)), .pv (.slice (con'.names.map .str)), .pv (.slice (con'.l.map encC)), .pv (.int .i64 to'.op), .pv (.int .i64 to'.n), .pv (.str to'.s), .pv (.slice (to'.k.map encK)), .pv (.slice (to'.names.map .str)), .pv (.slice (to'.l.map encC)), .pv (.slice (k.map encK)), .pv (.slice (names.map .str)), acc 138 (.agg 18) (b.2.map encT)]⟩)], []⟩)
    (fun rest b => ∃ pre, l = pre ++ rest ∧ b.1 = pre.length ∧ b.2.length = pre.length ∧ b.2 ++ rshL cons terms op rest b.1 uc ut = rshL cons terms op l 0 uc ut) ?_ ?_ l (0, []) _ ?_ ⟨[], rfl, rfl, rfl, rfl⟩
   ·rintro ⟨m, out⟩ ⟨pre, g1, g2, g3, g4⟩ K
    simp only [List.append_nil] at g1 g2 g3
    simp only [rshL, List.append_nil] at g4
    have hr := loop out g4
    rw [← hr]
    cases out <;> simp only [go_sem, g2, g1, ltF (Int.le_refl _), List.length_map, acc, zboxT, eTm, List.map_nil, List.map_cons]
   ·rintro x rest ⟨m, out⟩ ⟨pre, g1, g2, g3, g4⟩ K hK
    simp only at g2 g3 g4
    have hx : (l.map encT)[m]? = some (encT x) := by simp [g1, g2]
    have hlt : (m : Int) < l.length := by rw [g1, g2]; simp; omega
    have hll : m < l.length := by rw [g1, g2]; simp
    have hm : x ∈ l := by simp [g1]
    have hdx := qb1 hm
    have w4 : IntKind.i64.wrap ((m : Int) + 1) = ((m + 1 : Nat) : Int) := by rw [wId (by omega) (by omega)]; simp
    have hC := hC m
    have hT := hT m
    have b1 : 0 ≤ qat op m ∧ qat op m ≤ 1 := by rw [qat]; split <;> omega
    have b2 : 0 ≤ qam op m ∧ qam op m ≤ 1 := by rw [qam]; (repeat' split) <;> omega
    have hI := ih x hm (uc + qat op m) (ut + qam op m) (wfL_mem.1 hwl x hm) (okTs_mem.1 o4 x hm) (wcTs_mem.1 c3 x hm) (by omega) (by omega) (by omega) (by omega)
    have w5 : IntKind.i64.wrap (uc + qat op m) = uc + qat op m := wId (by omega) (by omega)
    have w6 : IntKind.i64.wrap (ut + qam op m) = ut + qam op m := wId (by omega) (by omega)
    have hK' := fun s' hs => hK (m + 1, out ++ [rshT cons terms x (uc + qat op m) (ut + qam op m)]) s' hs ⟨pre ++ [x], by simp [g1], by simp [g2], by simp [g3], by rw [← g4, rshL]; simp⟩
    clear hK g4 loop
    generalize rshT cons terms x (uc + qat op m) (ut + qam op m) = y at hI hK'
    have hb1 : (out.length + 1) * 312 ≤ 140737488355328 := by omega
    have hb2 : out.length + 1 ≤ maxLen := by rw [mLe]; omega
    generalize qat op m = q1 at hC hI w5
    generalize qam op m = q2 at hT hI w6
    clear b1 b2 ih hdx
    cases out
    ·simp only [go_sem, decide_eq_true hlt, Int.toNat_natCast, Int.natCast_nonneg, hx, eTz, eTm, acc, zboxT, List.map_nil, List.length_map]
     refine aC hC ?_
     simp only [go_sem, w5]
     refine aC hT ?_
     simp only [go_sem, w6]
     refine aC hI ?_
     simp only [go_sem, eTz, w4, oneM]
     try (refine ⟨by kernel_rfl, ?_⟩; try simp only [go_sem, eTz, w4, oneM])
     refine hK' _ ?_
     simp only [go_sem, acc, zboxT, eTm, List.map_cons, List.map_nil, List.nil_append]
    ·simp only [List.length_cons] at hb1 hb2
     simp only [go_sem, decide_eq_true hlt, Int.toNat_natCast, Int.natCast_nonneg, hx, eTz, eTm, acc, zboxT, List.map_cons, List.length_map]
     refine aC hC ?_
     simp only [go_sem, w5]
     refine aC hT ?_
     simp only [go_sem, w6]
     refine aC hI ?_
     simp only [go_sem, eTz, w4, List.length_map, hb1, hb2]
     try (refine ⟨by kernel_rfl, ?_⟩; try simp only [go_sem, eTz, w4, List.length_map, hb1, hb2])
     refine hK' _ ?_
     simp only [go_sem, acc, zboxT, eTm, List.map_cons, List.map_append, List.map_nil, List.cons_append]
   ·simp only [go_sem, acc, zboxT, eTm, Int.natCast_zero, List.map_nil]
  ·have e1 : (op == 1) = false := by simp [e]
   refine wk (rv := [.cell 10 52]) ann297 72 Tryz.func297 ?_
   simp only [go_sem, eTm, e1]
   refine aC hS1 ?_
   simp only [go_sem]
   refine aC hS2 ?_
   simp only [go_sem, List.length_map]
   clear hS1 hS2
   refine aLl (α := TermT) (β := Nat × List TermT) (fun rest b => ⟨[(12, ii b.1), (11, .one (.ptr (.loc 11) 0)), (5, pp (.ep (encT (.mk op n s con to k names l)) 0)), (4, ii ut), (3, ii uc), (2, ii terms), (1, ii cons), (10, .one (.ptr (.loc 10) 0))],
     [(.loc 10, zboxT), (.loc 11, ⟨.agg 18, .agg [.pv (.int .i64 op), .pv (.int .i64 n), .pv (.str s), .pv (.int .i64 con'.op), .pv (.int .i64 con'.n), .pv (.str con'.s), .pv (.slice (con'.k.map encK)), .pv (.slice (con'.names.map .str)), .pv (.slice (con'.l.map encC)), .pv (.int .i64 to'.op), .pv (.int .i64 to'.n), .pv (.str to'.s), .pv (.slice (to'.k.map encK)), .pv (.slice (to'.names.map .str)), .pv (.slice (to'.l.map encC)), .pv (.slice (k.map encK)), .pv (.slice (names.map .str)), acc 138 (.agg 18) (b.2.map encT)]⟩)], []⟩)
    (fun rest b => ∃ pre, l = pre ++ rest ∧ b.1 = pre.length ∧ b.2.length = pre.length ∧ b.2 ++ rshL cons terms op rest b.1 uc ut = rshL cons terms op l 0 uc ut) ?_ ?_ l (0, []) _ ?_ ⟨[], rfl, rfl, rfl, rfl⟩
   ·rintro ⟨m, out⟩ ⟨pre, g1, g2, g3, g4⟩ K
    simp only [List.append_nil] at g1 g2 g3
    simp only [rshL, List.append_nil] at g4
    have hr := loop out g4
    rw [← hr]
    cases out <;> simp only [go_sem, g2, g1, ltF (Int.le_refl _), List.length_map, acc, zboxT, eTm, List.map_nil, List.map_cons]
   ·rintro x rest ⟨m, out⟩ ⟨pre, g1, g2, g3, g4⟩ K hK
    simp only at g2 g3 g4
    have hx : (l.map encT)[m]? = some (encT x) := by simp [g1, g2]
    have hlt : (m : Int) < l.length := by rw [g1, g2]; simp; omega
    have hll : m < l.length := by rw [g1, g2]; simp
    have hm : x ∈ l := by simp [g1]
    have hdx := qb1 hm
    have w4 : IntKind.i64.wrap ((m : Int) + 1) = ((m + 1 : Nat) : Int) := by rw [wId (by omega) (by omega)]; simp
    have hC := hC m
    have hT := hT m
    have b1 : 0 ≤ qat op m ∧ qat op m ≤ 1 := by rw [qat]; split <;> omega
    have b2 : 0 ≤ qam op m ∧ qam op m ≤ 1 := by rw [qam]; (repeat' split) <;> omega
    have hI := ih x hm (uc + qat op m) (ut + qam op m) (wfL_mem.1 hwl x hm) (okTs_mem.1 o4 x hm) (wcTs_mem.1 c3 x hm) (by omega) (by omega) (by omega) (by omega)
    have w5 : IntKind.i64.wrap (uc + qat op m) = uc + qat op m := wId (by omega) (by omega)
    have w6 : IntKind.i64.wrap (ut + qam op m) = ut + qam op m := wId (by omega) (by omega)
    have hK' := fun s' hs => hK (m + 1, out ++ [rshT cons terms x (uc + qat op m) (ut + qam op m)]) s' hs ⟨pre ++ [x], by simp [g1], by simp [g2], by simp [g3], by rw [← g4, rshL]; simp⟩
    clear hK g4 loop
    generalize rshT cons terms x (uc + qat op m) (ut + qam op m) = y at hI hK'
    have hb1 : (out.length + 1) * 312 ≤ 140737488355328 := by omega
    have hb2 : out.length + 1 ≤ maxLen := by rw [mLe]; omega
    generalize qat op m = q1 at hC hI w5
    generalize qam op m = q2 at hT hI w6
    clear b1 b2 ih hdx
    cases out
    ·simp only [go_sem, decide_eq_true hlt, Int.toNat_natCast, Int.natCast_nonneg, hx, eTz, eTm, acc, zboxT, List.map_nil, List.length_map]
     refine aC hC ?_
     simp only [go_sem, w5]
     refine aC hT ?_
     simp only [go_sem, w6]
     refine aC hI ?_
     simp only [go_sem, eTz, w4, oneM]
     try (refine ⟨by kernel_rfl, ?_⟩; try simp only [go_sem, eTz, w4, oneM])
     refine hK' _ ?_
     simp only [go_sem, acc, zboxT, eTm, List.map_cons, List.map_nil, List.nil_append]
    ·simp only [List.length_cons] at hb1 hb2
     simp only [go_sem, decide_eq_true hlt, Int.toNat_natCast, Int.natCast_nonneg, hx, eTz, eTm, acc, zboxT, List.map_cons, List.length_map]
     refine aC hC ?_
     simp only [go_sem, w5]
     refine aC hT ?_
     simp only [go_sem, w6]
     refine aC hI ?_
     simp only [go_sem, eTz, w4, List.length_map, hb1, hb2]
     try (refine ⟨by kernel_rfl, ?_⟩; try simp only [go_sem, eTz, w4, List.length_map, hb1, hb2])
     refine hK' _ ?_
     simp only [go_sem, acc, zboxT, eTm, List.map_cons, List.map_append, List.map_nil, List.cons_append]
   ·simp only [go_sem, acc, zboxT, eTm, Int.natCast_zero, List.map_nil]
theorem rtShift_spec (cons terms : Int) (hc1 : -20000 ≤ cons) (hc2 : cons ≤ 20000) (ht1 : -20000 ≤ terms) (ht2 : terms ≤ 20000) (t : TermT) (hwf : wfT t = true) (hok : okT t) (hwc : wcT t) (hd : depthT t ≤ 1000) :
  Spec Tryz.prog 273 [pp (encT t), ii cons, ii terms] [] (encT (rshT cons terms t 0 0)) [] := by
 have hS := rtshift_spec cons terms hc1 hc2 ht1 ht2 t 0 0 hwf hok hwc (by decide) (by omega) (by decide) (by omega)
 refine wk (rv := [.cell 6 52]) ann273 11 Tryz.func273 ?_
 simp only [go_sem, eTz]
 refine aC hS ?_
 simp only [go_sem, eTz]
def accQ : Bool → List PV → SC
 | true, l => acc 54 .one l
 | false, l => acc 80 .one l
theorem qc7 (l : List PV) : accQ true l = acc 54 .one l := rfl
theorem qc8 (l : List PV) : accQ false l = acc 80 .one l := rfl
theorem rAdd_spec (l : List Int) (n : Int) (hl : l.length ≤ 1000000000) : Spec Tryz.prog 307 [pp (.slice (ints l)), ii n] [] (.slice (ints (addL n l false))) [] := by
 generalize hres : addL n l false = res
 refine wk (rv := [.tmp 4]) ann307 48 Tryz.func307 ?_
 simp only [go_sem]
 refine aLl (α := Int) (β := Nat × (Bool × List Int) × Bool) (fun rest b => ⟨[(7, ii b.1), (0, pp (.slice (ints l))), (1, ii n), (5, .one (accQ b.2.1.1 (ints b.2.1.2))), (6, bb b.2.2)], [], []⟩)
  (fun rest b => ∃ pre, l = pre ++ rest ∧ b.1 = pre.length ∧ b.2.1.2.length ≤ 2 * pre.length ∧ b.2.1.2 ++ addL n rest b.2.2 = res) ?_ ?_ l (0, (true, []), false) _ ?_ ⟨[], rfl, rfl, Nat.le_refl _, by rw [List.nil_append]; exact hres⟩
 ·rintro ⟨m, ⟨t, cur⟩, d⟩ ⟨pre, g1, g2, g3, g4⟩ K
  cases t
  all_goals
   simp only [List.append_nil] at g1 g2 g3
   subst g1
   rw [addL] at g4
   try simp only at g3
   have hb1 : (cur.length + 1) * 8 ≤ 140737488355328 := by omega
   have hb2 : cur.length + 1 ≤ maxLen := by rw [mLe]; omega
   cases d with
   | true =>
     simp only [if_true, List.append_nil] at g4
     subst g4
     cases cur <;> simp only [go_sem, g2, ltF (Int.le_refl _), List.length_map, qc7, qc8, acc, List.map_nil, List.map_cons]
   | false =>
     simp only [Bool.false_eq_true, if_false] at g4
     subst g4
     cases cur with
     | nil => simp only [go_sem, g2, ltF (Int.le_refl _), List.length_map, qc7, qc8, acc, List.map_nil, List.map_cons, List.nil_append, oneM]
     | cons c0 cr =>
       simp only [List.length_cons] at hb1 hb2
       simp only [go_sem, g2, ltF (Int.le_refl _), List.length_map, qc7, qc8, acc, List.map_cons, List.map_append, List.map_nil, List.cons_append, hb1, hb2]
 ·rintro x rest ⟨m, ⟨t, cur⟩, d⟩ ⟨pre, g1, g2, g3, g4⟩ K hK
  simp only at g2 g3 g4
  have hx : (ints l)[m]? = some (.int .i64 x) := by simp [g1, g2]
  have hlt : (m : Int) < l.length := by rw [g1, g2]; simp; omega
  have hll : m < l.length := by rw [g1, g2]; simp
  have w4 : IntKind.i64.wrap ((m : Int) + 1) = ((m + 1 : Nat) : Int) := by rw [wId (by omega) (by omega)]; simp
  have hb1 : (cur.length + 1) * 8 ≤ 140737488355328 := by omega
  have hb2 : cur.length + 1 ≤ maxLen := by rw [mLe]; omega
  have hb3 : (cur.length + 1 + 1) * 8 ≤ 140737488355328 := by omega
  have hb4 : cur.length + 1 + 1 ≤ maxLen := by rw [mLe]; omega
  have h2le : 2 ≤ maxLen := by rw [mLe]; decide
  rw [addL] at g4
  have hK' := fun (t' : Bool) (c' : List Int) (d' : Bool) (hl : c'.length ≤ cur.length + 2) (e : c' ++ addL n rest d' = res) s' hs => hK (m + 1, (t', c'), d') s' hs ⟨pre ++ [x], by simp [g1], by simp [g2], by simp only [List.length_append, List.length_singleton]; omega, e⟩
  clear hK
  cases t
  all_goals
   by_cases hn : x = n
   ·have hne : (x != n) = false := by simp [hn]
    have hge : decide (x ≥ n) = true := decide_eq_true (by omega)
    rw [show (if x ≠ n then [x] else []) = [] from if_neg (fun h => h hn), List.nil_append, hge, Bool.or_true] at g4
    cases d with
    | true =>
      rw [if_neg (by rintro ⟨e, _⟩; cases e), List.nil_append] at g4
      cases cur <;> (
       simp only [go_sem, decide_eq_true hlt, Int.toNat_natCast, Int.natCast_nonneg, hx, hne, hge, qc7, qc8, acc, List.map_nil, List.map_cons, List.length_map, w4]
       first
        | (refine hK' true _ true (by omega) g4 _ ?_; simp only [go_sem, qc7, qc8, acc, List.map_nil, List.map_cons]; done)
        | (refine hK' false _ true (by omega) g4 _ ?_; simp only [go_sem, qc7, qc8, acc, List.map_nil, List.map_cons]))
    | false =>
      rw [if_pos ⟨rfl, by omega⟩] at g4
      cases cur with
      | nil =>
        simp only [go_sem, decide_eq_true hlt, Int.toNat_natCast, Int.natCast_nonneg, hx, hne, hge, qc7, qc8, acc, List.map_nil, List.map_cons, List.length_map, w4, oneM]
        refine hK' true ([] ++ [n]) true (by simp) (by simpa using g4) _ ?_
        simp only [go_sem, qc7, qc8, acc, List.map_nil, List.map_cons, List.nil_append]
      | cons c0 cr =>
        simp only [List.length_cons] at hb1 hb2
        simp only [go_sem, decide_eq_true hlt, Int.toNat_natCast, Int.natCast_nonneg, hx, hne, hge, qc7, qc8, acc, List.map_nil, List.map_cons, List.length_map, w4, hb1, hb2]
        refine hK' true (c0 :: cr ++ [n]) true (by simp) (by simpa using g4) _ ?_
        simp only [go_sem, qc7, qc8, acc, List.map_nil, List.map_cons, List.map_append, List.cons_append]
   ·have hne : (x != n) = true := by simp [hn]
    rw [if_pos hn] at g4
    by_cases hge : x ≥ n
    ·have hge' : decide (x ≥ n) = true := decide_eq_true hge
     rw [hge', Bool.or_true] at g4
     cases d with
     | true =>
       rw [if_neg (by rintro ⟨e, _⟩; cases e), List.nil_append] at g4
       cases cur with
       | nil =>
         simp only [go_sem, decide_eq_true hlt, Int.toNat_natCast, Int.natCast_nonneg, hx, hne, hge', qc7, qc8, acc, List.map_nil, List.map_cons, List.length_map, w4, oneM]
         refine hK' false ([] ++ [x]) true (by simp) (by simpa using g4) _ ?_
         simp only [go_sem, qc7, qc8, acc, List.map_nil, List.map_cons, List.nil_append]
       | cons c0 cr =>
         simp only [List.length_cons] at hb1 hb2
         simp only [go_sem, decide_eq_true hlt, Int.toNat_natCast, Int.natCast_nonneg, hx, hne, hge', qc7, qc8, acc, List.map_nil, List.map_cons, List.length_map, w4, hb1, hb2]
         refine hK' false (c0 :: cr ++ [x]) true (by simp) (by simpa using g4) _ ?_
         simp only [go_sem, qc7, qc8, acc, List.map_nil, List.map_cons, List.map_append, List.cons_append]
     | false =>
       rw [if_pos ⟨rfl, by omega⟩] at g4
       cases cur with
       | nil =>
         simp only [go_sem, decide_eq_true hlt, Int.toNat_natCast, Int.natCast_nonneg, hx, hne, hge', qc7, qc8, acc, List.map_nil, List.map_cons, List.length_map, w4, oneM, h2le]
         refine hK' false ([] ++ [n] ++ [x]) true (by simp) (by simpa using g4) _ ?_
         simp only [go_sem, qc7, qc8, acc, List.map_nil, List.map_cons, List.nil_append, List.cons_append]
       | cons c0 cr =>
         simp only [List.length_cons] at hb1 hb2 hb3 hb4
         simp only [go_sem, decide_eq_true hlt, Int.toNat_natCast, Int.natCast_nonneg, hx, hne, hge', qc7, qc8, acc, List.map_nil, List.map_cons, List.length_map, List.length_append, w4, hb1, hb2, hb3, hb4]
         refine hK' false (c0 :: cr ++ [n] ++ [x]) true (by simp) (by simpa using g4) _ ?_
         simp only [go_sem, qc7, qc8, acc, List.map_nil, List.map_cons, List.map_append, List.cons_append]
    ·have hge' : decide (x ≥ n) = false := decide_eq_false hge
     rw [hge', Bool.or_false, if_neg (fun e => hge e.2), List.nil_append] at g4
     cases d <;> (cases cur with
      | nil =>
        simp only [go_sem, decide_eq_true hlt, Int.toNat_natCast, Int.natCast_nonneg, hx, hne, hge', qc7, qc8, acc, List.map_nil, List.map_cons, List.length_map, w4, oneM]
        refine hK' false ([] ++ [x]) _ (by simp) (by simpa using g4) _ ?_
        simp only [go_sem, qc7, qc8, acc, List.map_nil, List.map_cons, List.nil_append]
      | cons c0 cr =>
        simp only [List.length_cons] at hb1 hb2
        simp only [go_sem, decide_eq_true hlt, Int.toNat_natCast, Int.natCast_nonneg, hx, hne, hge', qc7, qc8, acc, List.map_nil, List.map_cons, List.length_map, w4, hb1, hb2]
        refine hK' false (c0 :: cr ++ [x]) _ (by simp) (by simpa using g4) _ ?_
        simp only [go_sem, qc7, qc8, acc, List.map_nil, List.map_cons, List.map_append, List.cons_append])
 ·simp only [go_sem, Int.natCast_zero, qc7, qc8, acc, List.map_nil]
theorem ints_all (l : List Int) : ((ints l).all fun x => PV.hasSz .one x) = true := by
 rw [List.all_eq_true]
 intro x hx
 obtain ⟨n, _, rfl⟩ := List.mem_map.1 hx
 rfl
theorem tAdd_spec (l : List Int) (n : Int) (hl : l.length ≤ 1000000000) : Spec Tryz.prog 256 [pp (.slice (ints l)), ii n] [] (.slice (ints (insU n l))) [] := by
 generalize hres : insU n l = res
 refine wk (rv := [.tmp 4]) ann256 48 Tryz.func256 ?_
 simp only [go_sem]
 refine aLl (α := Int) (β := Nat) (fun rest b => ⟨[(5, ii b), (0, pp (.slice (ints l))), (1, ii n)], [], []⟩)
  (fun rest b => ∃ pre, l = pre ++ rest ∧ b = pre.length ∧ pre ++ insU n rest = res) ?_ ?_ l 0 _ ?_ ⟨[], rfl, rfl, by rw [List.nil_append]; exact hres⟩
 ·rintro m ⟨pre, g1, g2, g4⟩ K
  simp only [List.append_nil] at g1
  subst g1
  rw [insU] at g4
  subst g4
  rcases l with _ | ⟨y, q⟩
  ·obtain rfl : m = 0 := g2
   have c0 : (((0 : Nat) : Int)) = 0 := rfl
   simp only [go_sem, c0, ltF (Int.le_refl _), List.length_nil, List.map_nil, Int.le_refl, Int.reduceToNat, List.take_nil, List.drop_nil, List.nil_append, List.map_cons, oneM, Nat.zero_le, Nat.zero_mul, Nat.zero_add]
   try (refine ⟨by kernel_rfl, ?_⟩; try simp only [go_sem, c0, List.nil_append, oneM, List.length_nil, List.map_nil, Int.le_refl, Int.reduceToNat, List.take_nil, List.drop_nil, Nat.zero_le, Nat.zero_mul, Nat.zero_add])
  ·have hta : List.take q.length (ints q) = ints q := List.take_of_length_le (by simp)
   have hdr : List.drop q.length (ints q) = [] := by simp
   rw [List.length_cons] at g2 hl
   have t1 : ((0 : Int) ≤ ((q.length + 1 : Nat) : Int)) = True := eq_true (by omega)
   have t2 : (((q.length + 1 : Nat) : Int) ≤ ((q.length + 1 : Nat) : Int)) = True := eq_true (Int.le_refl _)
   have hb1 : (q.length + 1) * 8 ≤ 140737488355328 := by omega
   have hb2 : q.length + 1 ≤ maxLen := by rw [mLe]; omega
   have hb3 : (q.length + 1 + 1) * 8 ≤ 140737488355328 := by omega
   have hb4 : q.length + 1 + 1 ≤ maxLen := by rw [mLe]; omega
   simp only [go_sem, g2, ltF (Int.le_refl _), List.length_map, List.length_cons, ints_all, t1, t2, Int.toNat_natCast, hta, hdr, hb1, hb2, hb3, hb4, List.map_append, List.map_nil, List.map_cons, List.length_append, List.drop_zero, List.cons_append]
 ·rintro x rest m ⟨pre, g1, g2, g4⟩ K hK
  have hx : (ints l)[m]? = some (.int .i64 x) := by simp [g1, g2]
  have hlt : (m : Int) < l.length := by rw [g1, g2]; simp; omega
  have hll : m < l.length := by rw [g1, g2]; simp
  have w4 : IntKind.i64.wrap ((m : Int) + 1) = ((m + 1 : Nat) : Int) := by rw [wId (by omega) (by omega)]; simp
  rw [insU] at g4
  by_cases h1 : x < n
  ·rw [if_neg (by omega), if_neg (by omega)] at g4
   simp only [go_sem, decide_eq_true hlt, decide_eq_true h1, Int.toNat_natCast, Int.natCast_nonneg, hx, List.length_map, w4]
   refine hK (m + 1) _ ?_ ⟨pre ++ [x], by simp [g1], by simp [g2], by rw [← g4]; simp⟩
   simp only [go_sem]
  ·by_cases h2 : x = n
   ·subst h2
    rw [if_neg (by omega), if_pos rfl, ← g1] at g4
    subst g4
    simp only [go_sem, decide_eq_true hlt, decide_eq_false h1, Int.toNat_natCast, Int.natCast_nonneg, hx, List.length_map]
   ·rw [if_pos (by omega)] at g4
    have hne : (x == n) = false := by simp [h2]
    subst g4
    have hta : List.take m (ints l) = ints pre := by simp [g1, g2]
    have hdr : List.drop m (ints l) = ints (x :: rest) := by simp [g1, g2]
    have htl : List.take l.length (ints l) = ints l := List.take_of_length_le (by simp)
    have t1 : ((0 : Int) ≤ (m : Int)) = True := eq_true (by omega)
    have t2 : ((m : Int) ≤ (l.length : Int)) = True := eq_true (by omega)
    have t3 : ((l.length : Int) ≤ (l.length : Int)) = True := eq_true (Int.le_refl _)
    have hl2 : l.length = pre.length + (rest.length + 1) := by rw [g1]; simp
    have hb1 : pre.length * 8 ≤ 140737488355328 := by omega
    have hb2 : pre.length ≤ maxLen := by rw [mLe]; omega
    have hb3 : (pre.length + 1) * 8 ≤ 140737488355328 := by omega
    have hb4 : pre.length + 1 ≤ maxLen := by rw [mLe]; omega
    have hb5 : (pre.length + 1 + (rest.length + 1)) * 8 ≤ 140737488355328 := by omega
    have hb6 : pre.length + 1 + (rest.length + 1) ≤ maxLen := by rw [mLe]; omega
    simp only [go_sem, decide_eq_true hlt, decide_eq_false h1, hne, Int.toNat_natCast, Int.natCast_nonneg, hx, List.length_map, ints_all, t1, t2, t3, hta, hdr, htl, hb1, hb2, hb3, hb4, hb5, hb6, List.map_append, List.map_nil, List.map_cons, List.length_append, List.length_cons, List.drop_zero, List.append_assoc]
    rcases pre with _ | ⟨y, q⟩
    ·rw [List.length_nil, Nat.zero_add] at hb3 hb4 hb5 hb6
     simp only [go_sem, hx, ints_all, t1, t2, t3, hta, hdr, htl, Int.toNat_natCast, Int.natCast_nonneg, List.length_map, List.map_nil, List.nil_append, List.map_cons, oneM, List.length_nil, Nat.zero_add, List.length_cons, List.cons_append, hb3, hb4, hb5, hb6]
     try (refine ⟨by kernel_rfl, ?_⟩; try simp only [go_sem, hx, ints_all, t1, t2, t3, hta, hdr, htl, Int.toNat_natCast, Int.natCast_nonneg, List.length_map, List.nil_append, oneM, List.length_cons, List.cons_append, hb5, hb6])
    ·rw [List.length_cons] at hb3 hb4 hb5 hb6
     simp only [go_sem, hx, ints_all, t1, t2, t3, hta, hdr, htl, Int.toNat_natCast, Int.natCast_nonneg, List.length_map, List.map_nil, List.map_cons, List.length_cons, hb3, hb4, hb5, hb6, List.cons_append, List.map_append, List.length_append, List.nil_append, List.append_assoc]
 ·simp only [go_sem, Int.natCast_zero]
theorem insU_len (n : Int) : ∀ l : List Int, (insU n l).length ≤ l.length + 1
 | [] => by rw [insU]; simp
 | x :: r => by
   rw [insU]
   split
   ·simp
   ·split
    ·simp
    ·have := insU_len n r
     rw [List.length_cons, List.length_cons]; omega
theorem insAll_len (l : List Int) : ∀ acc : List Int, (insAll acc l).length ≤ acc.length + l.length := by
 induction l with
 | nil => intro acc; simp [insAll]
 | cons x r ih =>
   intro acc
   have h1 := ih (insU x acc)
   have h2 := insU_len x acc
   simp only [insAll, List.foldl_cons, List.length_cons] at h1 ⊢
   omega
theorem insAll_asc (l acc : List Int) (h : acc.Pairwise (· < ·)) : (insAll acc l).Pairwise (· < ·) := foldU_asc l acc h
theorem qcd (a b c : List Int) : insAll a (b ++ c) = insAll (insAll a b) c := List.foldl_append
theorem merge_spec (l m : List Int) (u : Int) (hl : l.length + m.length ≤ 1000000000) (hm : ∀ x ∈ m, 0 ≤ x ∧ x ≤ 1000000) (h1 : 0 ≤ u) (h2 : u ≤ 1000000000) :
  Spec Tryz.prog 253 [pp (.slice (ints l)), pp (.slice (ints m)), ii u] [] (.slice (ints (insAll l (qbd m u)))) [] := by
 generalize hres : insAll l (qbd m u) = res
 refine wk (rv := [.tmp 6]) ann253 29 Tryz.func253 ?_
 simp only [go_sem]
 refine aLl (α := Int) (β := Nat × List Int) (fun rest b => ⟨[(7, ii b.1), (2, ii u), (1, pp (.slice (ints m))), (0, pp (.slice (ints b.2)))], [], []⟩)
  (fun rest b => ∃ pre, m = pre ++ rest ∧ b.1 = pre.length ∧ b.2.length + rest.length ≤ 1000000000 ∧ insAll b.2 (qbd rest u) = res) ?_ ?_ m (0, l) _ ?_ ⟨[], rfl, rfl, hl, hres⟩
 ·rintro ⟨i, cur⟩ ⟨pre, g1, g2, g3, g4⟩ K
  simp only [List.append_nil] at g1 g2
  subst g1
  simp only [qbd, List.filterMap_nil, List.foldl_nil] at g4
  subst g4
  simp only [go_sem, g2, ltF (Int.le_refl _), List.length_map]
 ·rintro x rest ⟨i, cur⟩ ⟨pre, g1, g2, g3, g4⟩ K hK
  simp only at g2 g3 g4
  have hx : (ints m)[i]? = some (.int .i64 x) := by simp [g1, g2]
  have hlt : (i : Int) < m.length := by rw [g1, g2]; simp; omega
  have hll : i < m.length := by rw [g1, g2]; simp
  have hml : m.length ≤ 1000000000 := by omega
  have w4 : IntKind.i64.wrap ((i : Int) + 1) = ((i + 1 : Nat) : Int) := by rw [wId (by omega) (by omega)]; simp
  obtain ⟨x1, x2⟩ := hm x (by simp [g1])
  have w5 : IntKind.i64.wrap (x - u) = x - u := wId (by omega) (by omega)
  rw [above_cons] at g4
  by_cases h : x ≥ u
  ·rw [if_pos h, qcd] at g4
   have hA := tAdd_spec cur (x - u) (by omega)
   have hln := insU_len (x - u) cur
   simp only [go_sem, decide_eq_true hlt, decide_eq_true h, Int.toNat_natCast, Int.natCast_nonneg, hx, List.length_map, w5]
   refine aC hA ?_
   simp only [go_sem, w4]
   refine hK (i + 1, insU (x - u) cur) _ ?_ ⟨pre ++ [x], by simp [g1], by simp [g2], by simp only [List.length_cons] at g3; simp only; omega, g4⟩
   simp only [go_sem]
  ·rw [if_neg h, List.nil_append] at g4
   simp only [go_sem, decide_eq_true hlt, decide_eq_false h, Int.toNat_natCast, Int.natCast_nonneg, hx, List.length_map, w4]
   refine hK (i + 1, cur) _ ?_ ⟨pre ++ [x], by simp [g1], by simp [g2], by simp only [List.length_cons] at g3; simp only; omega, g4⟩
   simp only [go_sem]
 ·simp only [go_sem, Int.natCast_zero]
theorem rfree_spec (c : ConT) : ∀ (acc : List Int) (d : Int), formedF c = true → acc.Pairwise (· < ·) → 0 ≤ d → d + depthF c ≤ 100000000 → acc.length + wtF c ≤ 900000000 →
  Spec Tryz.prog 287 [pp (.slice (ints acc)), pp (encC c), ii d] [] (.slice (ints (insAll acc (qcv c d)))) [] := by
 revert c
 refine ConT.ind1 fun op n s k names l ih => ?_
 intro acc d hf hasc h1 h2 h3
 rw [depthF] at h2
 rw [wtF] at h3
 have hn := qdj hf
 replace hn : 0 ≤ n ∧ n ≤ 20000 := hn
 have hd := deep_spec op n s k names l d h1 (by omega)
 by_cases hop : op = 1
 ·subst hop
  have hl := qdi hf (.inl rfl)
  subst hl
  rw [rfreeA_var]
  by_cases hge : n ≥ d
  ·rw [if_pos hge]
   have hA := rAdd_spec acc (n - d) (by omega)
   rw [addL_insU _ _ hasc] at hA
   have w1 : IntKind.i64.wrap (n - d) = n - d := wId (by omega) (by omega)
   rw [show insAll acc [n - d] = insU (n - d) acc from rfl]
   refine wf (rv := [.tmp 6]) ann287 41 Tryz.func287 fun hfit => ?_
   clear hfit ih hd
   simp only [go_sem, eCm, decide_eq_true hge, w1]
   refine aC hA ?_
   simp only [go_sem]
  ·rw [if_neg hge]
   rw [show insAll acc [] = acc from rfl]
   refine wf (rv := [.tmp 6]) ann287 41 Tryz.func287 fun hfit => ?_
   clear hfit ih hd
   simp only [go_sem, eCm, decide_eq_false hge, List.map_nil]
   refine ⟨1, ?_⟩
   rw [qao]
   simp only [go_sem, List.map_nil, List.length_nil, Int.natCast_zero, ltF (Int.le_refl _)]
 ·have e1 : (op == 1) = false := by simp [hop]
  have hfm : formedL l = true := by rw [formedF, Bool.and_eq_true] at hf; exact hf.2
  rw [formedL_all] at hfm
  rw [rfreeA_node hf hop]
  have hdd : 0 ≤ qbs op d ∧ qbs op d ≤ d + 1 := by rw [qbs]; split <;> omega
  generalize qbs op d = dd at hd hdd
  generalize hres : insAll acc (qbv l dd) = res
  have hwl := wtL_len l
  refine wk (rv := [.tmp 6]) ann287 41 Tryz.func287 ?_
  simp only [go_sem, eCm, e1]
  refine aLl (α := ConT) (β := Nat × List Int) (fun rest b => ⟨[(7, ii b.1), (2, ii d), (4, pp (.ep (rawC op n s k names l) 0)), (0, pp (.slice (ints b.2)))], [], []⟩)
   (fun rest b => ∃ pre, l = pre ++ rest ∧ b.1 = pre.length ∧ b.2.Pairwise (· < ·) ∧ b.2.length + wtL rest ≤ 900000000 ∧ insAll b.2 (qbv rest dd) = res) ?_ ?_ l (0, acc) _ ?_ ⟨[], rfl, rfl, hasc, by simp only; omega, hres⟩
  ·rintro ⟨i, cur⟩ ⟨pre, g1, g2, g3, g5, g4⟩ K
   simp only [List.append_nil] at g1 g2
   subst g1
   rw [show qbv [] dd = [] from by rw [qbv, leavesL]; rfl] at g4
   simp only [insAll, List.foldl_nil] at g4
   subst g4
   simp only [go_sem, g2, ltF (Int.le_refl _), List.length_map]
  ·rintro x rest ⟨i, cur⟩ ⟨pre, g1, g2, g3, g5, g4⟩ K hK
   simp only at g2 g3 g4 g5
   have hx : (l.map encC)[i]? = some (encC x) := by simp [g1, g2]
   have hlt : (i : Int) < l.length := by rw [g1, g2]; simp; omega
   have hll : i < l.length := by rw [g1, g2]; simp
   have hm : x ∈ l := by simp [g1]
   have hml : l.length ≤ 900000000 := by omega
   have w4 : IntKind.i64.wrap ((i : Int) + 1) = ((i + 1 : Nat) : Int) := by rw [wId (by omega) (by omega)]; simp
   have hdx := qdh hm
   have hfx := List.all_eq_true.1 hfm x hm
   rw [wtL] at g5
   have hI := ih x hm cur dd hfx g3 (by omega) (by omega) (by omega)
   have hln := rfreeA_len x dd hfx
   have hln2 := insAll_len (qcv x dd) cur
   rw [rfreeAL_cons, qcd] at g4
   have hasc2 := insAll_asc (qcv x dd) cur g3
   have hK' := fun s' hs => hK (i + 1, insAll cur (qcv x dd)) s' hs ⟨pre ++ [x], by simp [g1], by simp [g2], hasc2, by simp only; omega, g4⟩
   clear hK
   generalize insAll cur (qcv x dd) = cur2 at hI hK'
   simp only [go_sem, decide_eq_true hlt, Int.toNat_natCast, Int.natCast_nonneg, hx, List.length_map, eCz]
   refine aC hd ?_
   simp only [go_sem]
   refine aC hI ?_
   simp only [go_sem, w4]
   refine hK' _ ?_
   simp only [go_sem]
  ·simp only [go_sem, Int.natCast_zero]
theorem rFree_spec (c : ConT) (hf : formedF c = true) (h1 : depthF c ≤ 100000000) (h2 : wtF c ≤ 900000000) : Spec Tryz.prog 254 [pp (encC c)] [] (.slice (ints (qar (freeL c)))) [] := by
 have hF := rfree_spec c [] 0 hf List.Pairwise.nil (by decide) (by omega) (by simpa using h2)
 rw [show insAll [] (qcv c 0) = qar (freeL c) from by rw [rfreeA_0]; rfl] at hF
 generalize qar (freeL c) = res at hF
 simp only [ints, List.map_nil] at hF
 refine wk (rv := [.tmp 2]) ann254 5 Tryz.func254 ?_
 simp only [go_sem, eCz]
 refine aC hF ?_
 simp only [go_sem]
theorem rFree_zero : Spec Tryz.prog 254 [pp (encC zeroC)] [] (.slice (ints [])) [] := by
 have hF : Spec Tryz.prog 287 [pp (.slice []), pp (encC zeroC), ii 0] [] (.slice []) [] := by
  have e1 : ((0 : Int) == 1) = false := rfl
  refine wk (rv := [.tmp 6]) ann287 41 Tryz.func287 ?_
  simp only [go_sem, zeroC, eCm, e1, List.map_nil]
  refine ⟨1, ?_⟩
  rw [qao]
  simp only [go_sem, List.map_nil, List.length_nil, Int.natCast_zero, ltF (Int.le_refl _)]
 refine wk (rv := [.tmp 2]) ann254 5 Tryz.func254 ?_
 simp only [go_sem, eCz, List.map_nil]
 refine aC hF ?_
 simp only [go_sem]
theorem rFree_n (c : ConT) (h : eqC c zeroC = true ∨ formedF c = true) : ∀ x ∈ qar (freeL c), 0 ≤ x ∧ x ≤ 20000 := by
 intro i hi
 rw [qc0] at hi
 obtain ⟨x, b, h1, h2, h3, rfl⟩ := mem_freeL.1 hi
 obtain ⟨_, _, g3, g4, _⟩ := leaves_mem c 0 x b h1
 rcases h with h | h
 ·rw [eqC_zero h] at h1
  rw [zeroC, leaves] at h1
  rw [if_neg (by decide), leavesL] at h1
  cases h1
 ·have := qdj (g3 h)
  omega
theorem rFree_any (c : ConT) (h : eqC c zeroC = true ∨ formedF c = true) (h2 : wtF c ≤ 900000000) (hd : depthF c ≤ 100000000) : Spec Tryz.prog 254 [pp (encC c)] [] (.slice (ints (qar (freeL c)))) [] ∧ (∀ x ∈ qar (freeL c), 0 ≤ x ∧ x ≤ 20000) ∧ (qar (freeL c)).length ≤ 20001 := by
 have hb := rFree_n c h
 refine ⟨?_, hb, ?_⟩
 ·rcases h with h | h
  ·rw [eqC_zero h, freeL_zero, sortU_nil]
   exact rFree_zero
  ·exact rFree_spec c h hd (by omega)
 ·have := asc_len _ 0 20000 (sortU_asc (freeL c)) hb
  omega
def accOk (l : List Int) : Prop := l.Pairwise (· < ·) ∧ ∀ x ∈ l, 0 ≤ x ∧ x ≤ 20000
theorem accOk_len {l : List Int} (h : accOk l) : l.length ≤ 20001 := by
 have := asc_len l 0 20000 h.1 h.2
 omega
theorem accOk_ins {l m : List Int} (h : accOk l) (hm : ∀ x ∈ m, 0 ≤ x ∧ x ≤ 20000) : accOk (insAll l m) :=
 ⟨insAll_asc m l h.1, fun x hx => ((foldU_mem m l).1 hx).elim (h.2 x) (hm x)⟩
theorem above_n {l : List Int} {u : Int} (hu : 0 ≤ u) (h : ∀ x ∈ l, 0 ≤ x ∧ x ≤ 20000) : ∀ x ∈ qbd l u, 0 ≤ x ∧ x ≤ 20000 := by
 intro x hx
 obtain ⟨n, h1, h2, rfl⟩ := mem_above.1 hx
 have := h n h1
 omega
theorem fit_or {c : ConT} {b : Bool} (h : qav c b = true) : eqC c zeroC = true ∨ formedF c = true := by
 rw [qav] at h
 split at h
 ·exact .inr (qah h)
 ·exact .inl h
theorem fit_depth {c : ConT} {b : Bool} (h : qav c b = true) : depthF c ≤ 100000000 := by
 rw [qav] at h
 split at h
 ·have := (qdz h).1; omega
 ·rw [eqC_zero h]; decide
theorem consR_nn (op : Int) (i : Nat) : 0 ≤ qat op i ∧ qat op i ≤ 1 := by rw [qat]; split <;> omega
theorem termsR_nn (op : Int) (i : Nat) : 0 ≤ qam op i ∧ qam op i ≤ 1 := by rw [qam]; (repeat' split) <;> omega
mutual
theorem consRF_n : ∀ (t : TermT) (uc : Int), wfT t = true → wcT t → 0 ≤ uc → ∀ x ∈ consRF t uc, 0 ≤ x ∧ x ≤ 20000
 | .mk op n s con to k names l, uc, hwf, hwc, h, x, hx => by
   rw [wfT, Bool.and_eq_true] at hwf
   simp only [wcT] at hwc
   obtain ⟨_, _, _, _, _, _, _, f1, f2⟩ := qc5 hwf.1
   rw [consRF] at hx
   rcases List.mem_append.1 hx with hx | hx
   ·exact above_n h (rFree_n con (fit_or f1))  x hx
   ·rcases List.mem_append.1 hx with hx | hx
    ·exact above_n h (rFree_n to (fit_or f2))  x hx
    ·exact consRL_n op l 0 uc hwf.2 hwc.2.2 h x hx
theorem consRL_n (op : Int) : ∀ (l : List TermT) (i : Nat) (uc : Int), wfL l = true → wcTs l → 0 ≤ uc → ∀ x ∈ consRL op l i uc, 0 ≤ x ∧ x ≤ 20000
 | [], i, uc, hwf, hwc, h, x, hx => by rw [consRL] at hx; cases hx
 | y :: r, i, uc, hwf, hwc, h, x, hx => by
   rw [wfL, Bool.and_eq_true] at hwf
   simp only [wcTs] at hwc
   have := consR_nn op i
   rw [consRL] at hx
   rcases List.mem_append.1 hx with hx | hx
   ·exact consRF_n y _ hwf.1 hwc.1 (by omega) x hx
   ·exact consRL_n op r (i + 1) uc hwf.2 hwc.2 h x hx
end
mutual
theorem termsRF_n : ∀ (t : TermT) (ut : Int), wfT t = true → 0 ≤ ut → ∀ x ∈ termsRF t ut, 0 ≤ x ∧ x ≤ 20000
 | .mk op n s con to k names l, ut, hwf, h, x, hx => by
   rw [wfT, Bool.and_eq_true] at hwf
   rw [termsRF] at hx
   split at hx
   ·rename_i e
    obtain ⟨_, _, _, _, _, _, g1, g2⟩ := qbh hwf.1 e.1
    rw [List.mem_singleton] at hx
    omega
   ·exact termsRL_n op l 0 ut hwf.2 h x hx
theorem termsRL_n (op : Int) : ∀ (l : List TermT) (i : Nat) (ut : Int), wfL l = true → 0 ≤ ut → ∀ x ∈ qdb op l i ut, 0 ≤ x ∧ x ≤ 20000
 | [], i, ut, hwf, h, x, hx => by rw [qdb] at hx; cases hx
 | y :: r, i, ut, hwf, h, x, hx => by
   rw [wfL, Bool.and_eq_true] at hwf
   have := termsR_nn op i
   rw [qdb] at hx
   rcases List.mem_append.1 hx with hx | hx
   ·exact termsRF_n y _ hwf.1 (by omega) x hx
   ·exact termsRL_n op r (i + 1) ut hwf.2 h x hx
end
theorem rtfreeC_spec (t : TermT) : ∀ (a : List Int) (uc : Int), wfT t = true → okT t → wcT t → accOk a → 0 ≤ uc → uc + depthT t ≤ 1000000000 →
  Spec Tryz.prog 200 [pp (.slice (ints a)), pp (encT t), ii uc] [] (.slice (ints (insAll a (consRF t uc)))) [] := by
 revert t
 refine TermT.ind1 fun op n s con to k names l ih => ?_
 intro a uc hwf hok hwc ha h1 h2
 rw [wfT, Bool.and_eq_true] at hwf
 obtain ⟨hnode, hwl⟩ := hwf
 obtain ⟨o1, o2, o3, o4⟩ := qbo hok
 simp only [wcT] at hwc
 obtain ⟨c1, c2, c3⟩ := hwc
 rw [depthT] at h2
 obtain ⟨_, _, _, _, _, _, _, f1, f2⟩ := qc5 hnode
 obtain ⟨hF1, n1, ln1⟩ := rFree_any con (fit_or f1) c1 (fit_depth f1)
 obtain ⟨hF2, n2, ln2⟩ := rFree_any to (fit_or f2) c2 (fit_depth f2)
 have hC := fun i => rtCons_spec op n s con to k names l i
 rw [consRF, qcd, qcd]
 generalize qar (freeL con) = m1 at hF1 n1 ln1
 generalize qar (freeL to) = m2 at hF2 n2 ln2
 have a1 := accOk_ins ha (above_n h1 n1)
 have a2 := accOk_ins a1 (above_n h1 n2)
 have hM1 := merge_spec a m1 uc (by have := accOk_len ha; omega) (fun x hx => by have := n1 x hx; omega) h1 (by omega)
 have hM2 := merge_spec (insAll a (qbd m1 uc)) m2 uc (by have := accOk_len a1; omega) (fun x hx => by have := n2 x hx; omega) h1 (by omega)
 generalize insAll a (qbd m1 uc) = b1 at hM1 hM2 a1 a2
 generalize insAll b1 (qbd m2 uc) = b2 at hM2 a2
 generalize hres : insAll b2 (consRL op l 0 uc) = res
 simp only [qal, ConT.cells] at hF1 hF2
 simp only [eTm] at hC
 refine wk (rv := [.tmp 6]) ann200 40 Tryz.func200 ?_
 simp only [go_sem, eTm]
 refine aC hF1 ?_
 simp only [go_sem]
 refine aC hM1 ?_
 simp only [go_sem]
 refine aC hF2 ?_
 simp only [go_sem]
 refine aC hM2 ?_
 simp only [go_sem]
 clear hF1 hF2 hM1 hM2
 refine aLl (α := TermT) (β := Nat × List Int) (fun rest b => ⟨[(7, ii b.1), (4, pp (.ep (encT (.mk op n s con to k names l)) 0)), (2, ii uc), (0, pp (.slice (ints b.2)))], [], []⟩)
  (fun rest b => ∃ pre, l = pre ++ rest ∧ b.1 = pre.length ∧ accOk b.2 ∧ insAll b.2 (consRL op rest b.1 uc) = res) ?_ ?_ l (0, b2) _ ?_ ⟨[], rfl, rfl, a2, hres⟩
 ·rintro ⟨m, cur⟩ ⟨pre, g1, g2, g3, g4⟩ K
  simp only [List.append_nil] at g1 g2
  subst g1
  simp only [consRL, insAll, List.foldl_nil] at g4
  subst g4
  simp only [go_sem, g2, ltF (Int.le_refl _), List.length_map, eTm]
 ·rintro x rest ⟨m, cur⟩ ⟨pre, g1, g2, g3, g4⟩ K hK
  simp only at g2 g3 g4
  have hx : (l.map encT)[m]? = some (encT x) := by simp [g1, g2]
  have hlt : (m : Int) < l.length := by rw [g1, g2]; simp; omega
  have hll : m < l.length := by rw [g1, g2]; simp
  have hm : x ∈ l := by simp [g1]
  have hdx := qb1 hm
  have w4 : IntKind.i64.wrap ((m : Int) + 1) = ((m + 1 : Nat) : Int) := by rw [wId (by omega) (by omega)]; simp
  have q0 := consR_nn op m
  have hC := hC m
  have hI := ih x hm cur (uc + qat op m) (wfL_mem.1 hwl x hm) (okTs_mem.1 o4 x hm) (wcTs_mem.1 c3 x hm) g3 (by omega) (by omega)
  have w5 : IntKind.i64.wrap (uc + qat op m) = uc + qat op m := wId (by omega) (by omega)
  rw [consRL, qcd] at g4
  have a3 := accOk_ins g3 (consRF_n x (uc + qat op m) (wfL_mem.1 hwl x hm) (wcTs_mem.1 c3 x hm) (by omega))
  have hK' := fun s' hs => hK (m + 1, insAll cur (consRF x (uc + qat op m))) s' hs ⟨pre ++ [x], by simp [g1], by simp [g2], a3, g4⟩
  clear hK g4
  generalize insAll cur (consRF x (uc + qat op m)) = cur2 at hI hK' a3
  generalize qat op m = q at hC hI w5
  simp only [go_sem, decide_eq_true hlt, Int.toNat_natCast, Int.natCast_nonneg, hx, eTz, List.length_map, eTm]
  refine aC hC ?_
  simp only [go_sem, w5]
  refine aC hI ?_
  simp only [go_sem, w4]
  try (refine ⟨by kernel_rfl, ?_⟩; try simp only [go_sem, w4])
  refine hK' _ ?_
  simp only [go_sem, eTm]
 ·simp only [go_sem, Int.natCast_zero, eTm]
theorem rtfreeT_spec (t : TermT) : ∀ (a : List Int) (ut : Int), wfT t = true → okT t → accOk a → 0 ≤ ut → ut + depthT t ≤ 1000000000 →
  Spec Tryz.prog 201 [pp (.slice (ints a)), pp (encT t), ii ut] [] (.slice (ints (insAll a (termsRF t ut)))) [] := by
 revert t
 refine TermT.ind1 fun op n s con to k names l ih => ?_
 intro a ut hwf hok ha h1 h2
 rw [wfT, Bool.and_eq_true] at hwf
 obtain ⟨hnode, hwl⟩ := hwf
 obtain ⟨o1, o2, o3, o4⟩ := qbo hok
 rw [depthT] at h2
 have hT := fun i => rtTerms_spec op n s con to k names l i
 simp only [eTm] at hT
 by_cases hop : op = 1 ∧ n ≥ ut
 ·rw [termsRF, if_pos hop]
  obtain ⟨_, _, _, _, _, _, g1, g2⟩ := qbh hnode hop.1
  have w1 : IntKind.i64.wrap (n - ut) = n - ut := wId (by omega) (by omega)
  have hA := tAdd_spec a (n - ut) (by have := accOk_len ha; omega)
  have e1 : (op == 1) = true := by simp [hop.1]
  rw [show insAll a [n - ut] = insU (n - ut) a from rfl]
  refine wf (rv := [.tmp 6]) ann201 43 Tryz.func201 fun hfit => ?_
  clear hfit ih
  simp only [go_sem, eTm, e1, decide_eq_true hop.2, w1]
  refine aC hA ?_
  simp only [go_sem]
 ·rw [termsRF, if_neg hop]
  generalize hres : insAll a (qdb op l 0 ut) = res
  have loop : (op == 1) = false ∨ ((op == 1) = true ∧ decide (n ≥ ut) = false) := by
   by_cases e : op = 1
   ·exact .inr ⟨by simp [e], decide_eq_false fun h => hop ⟨e, h⟩⟩
   ·exact .inl (by simp [e])
  refine wk (rv := [.tmp 6]) ann201 43 Tryz.func201 ?_
  rcases loop with e1 | ⟨e1, e2⟩
  all_goals
   first
    | simp only [go_sem, eTm, e1, e2]
    | simp only [go_sem, eTm, e1]
   refine aLl (α := TermT) (β := Nat × List Int) (fun rest b => ⟨[(7, ii b.1), (4, pp (.ep (encT (.mk op n s con to k names l)) 0)), (2, ii ut), (0, pp (.slice (ints b.2)))], [], []⟩)
    (fun rest b => ∃ pre, l = pre ++ rest ∧ b.1 = pre.length ∧ accOk b.2 ∧ insAll b.2 (qdb op rest b.1 ut) = res) ?_ ?_ l (0, a) _ ?_ ⟨[], rfl, rfl, ha, hres⟩
   ·rintro ⟨m, cur⟩ ⟨pre, g1, g2, g3, g4⟩ K
    simp only [List.append_nil] at g1 g2
    subst g1
    simp only [qdb, insAll, List.foldl_nil] at g4
    subst g4
    simp only [go_sem, g2, ltF (Int.le_refl _), List.length_map, eTm]
   ·rintro x rest ⟨m, cur⟩ ⟨pre, g1, g2, g3, g4⟩ K hK
    simp only at g2 g3 g4
    have hx : (l.map encT)[m]? = some (encT x) := by simp [g1, g2]
    have hlt : (m : Int) < l.length := by rw [g1, g2]; simp; omega
    have hll : m < l.length := by rw [g1, g2]; simp
    have hm : x ∈ l := by simp [g1]
    have hdx := qb1 hm
    have w4 : IntKind.i64.wrap ((m : Int) + 1) = ((m + 1 : Nat) : Int) := by rw [wId (by omega) (by omega)]; simp
    have q0 := termsR_nn op m
    have hT := hT m
    have hI := ih x hm cur (ut + qam op m) (wfL_mem.1 hwl x hm) (okTs_mem.1 o4 x hm) g3 (by omega) (by omega)
    have w5 : IntKind.i64.wrap (ut + qam op m) = ut + qam op m := wId (by omega) (by omega)
    rw [qdb, qcd] at g4
    have a3 := accOk_ins g3 (termsRF_n x (ut + qam op m) (wfL_mem.1 hwl x hm) (by omega))
    have hK' := fun s' hs => hK (m + 1, insAll cur (termsRF x (ut + qam op m))) s' hs ⟨pre ++ [x], by simp [g1], by simp [g2], a3, g4⟩
    clear hK g4
    generalize insAll cur (termsRF x (ut + qam op m)) = cur2 at hI hK' a3
    generalize qam op m = q at hT hI w5
    simp only [go_sem, decide_eq_true hlt, Int.toNat_natCast, Int.natCast_nonneg, hx, eTz, List.length_map, eTm]
    refine aC hT ?_
    simp only [go_sem, w5]
    refine aC hI ?_
    simp only [go_sem, w4]
    try (refine ⟨by kernel_rfl, ?_⟩; try simp only [go_sem, w4])
    refine hK' _ ?_
    simp only [go_sem, eTm]
   ·simp only [go_sem, Int.natCast_zero, eTm]
theorem accOk_nil : accOk [] := ⟨List.Pairwise.nil, fun x hx => by cases hx⟩
theorem rFreeCons_spec (t : TermT) (hwf : wfT t = true) (hok : okT t) (hwc : wcT t) (hd : depthT t ≤ 1000) : Spec Tryz.prog 129 [pp (encT t)] [] (.slice (ints (qar (consF t 0)))) [] := by
 have hF := rtfreeC_spec t [] 0 hwf hok hwc accOk_nil (by decide) (by omega)
 rw [consRF_eq t 0 hwf, show insAll [] (consF t 0) = qar (consF t 0) from rfl] at hF
 generalize qar (consF t 0) = res at hF
 simp only [ints, List.map_nil] at hF
 refine wk (rv := [.tmp 2]) ann129 5 Tryz.func129 ?_
 simp only [go_sem, eTz]
 refine aC hF ?_
 simp only [go_sem]
theorem rFreeTerms_spec (t : TermT) (hwf : wfT t = true) (hok : okT t) (hd : depthT t ≤ 1000) : Spec Tryz.prog 130 [pp (encT t)] [] (.slice (ints (qar (termsF t 0)))) [] := by
 have hF := rtfreeT_spec t [] 0 hwf hok accOk_nil (by decide) (by omega)
 rw [termsRF_eq t 0 hwf, show insAll [] (termsF t 0) = qar (termsF t 0) from rfl] at hF
 generalize qar (termsF t 0) = res at hF
 simp only [ints, List.map_nil] at hF
 refine wk (rv := [.tmp 2]) ann130 5 Tryz.func130 ?_
 simp only [go_sem, eTz]
 refine aC hF ?_
 simp only [go_sem]
end Go.Abs.Kon
