/- Data types: Ctor at the example; the example holds. -/
import Derived.Test.YthedhplpgfpodaaGreatDoorDataF
import Derived.Test.YthedhplpgfpodaaGreatDoorKonJ
set_option linter.unusedSimpArgs false
set_option linter.unusedVariables false
namespace Go.Abs.Kon
open Go Go.Proofs Go.Abs
set_option maxRecDepth 100000
set_option maxHeartbeats 4000000
theorem lists_spec : Spec Tryz.prog 40 [] [] (.tuple [encC exC, .int .i64 0]) [] := by
  have h0 := lists1_spec 0
  have h1 := lists1_spec 1
  have hM := Make_ex
  refine wk (rv := [.cell 0 28, .tmp 1]) ann40 22 Tryz.func40 ?_
  simp only [go_sem, encC_sz]
  refine aCall_intro h0 ?_
  simp only [go_sem, encC_sz]
  refine aCall_intro h1 ?_
  simp only [go_sem, encC_sz]
  refine aCall_intro h0 ?_
  simp only [go_sem, encC_sz]
  refine aCall_intro hM ?_
  simp only [go_sem, encC_sz]
/-! The parts of Ctor -/
theorem arguments1_spec (c : ConT) (h1 : sizeF c ≤ 1000000000) (h2 : okS c) : Spec Tryz.prog 143 [pp (encC c)] [] (.bool (!validF c)) [] := by
  have hV := Valid_spec c h1 h2
  refine wk (rv := [.tmp 2]) ann143 6 Tryz.func143 ?_
  simp only [go_sem]
  refine aCall_intro hV ?_
  simp only [go_sem]
theorem arguments1_any (l : List ConT) (h : ∀ x ∈ l, sizeF x ≤ 1000000000 ∧ okS x) : Spec Tryz.prog 43 [pp (.slice (l.map encC)), pp (.fn 143 [])] [] (.bool (l.any fun x => !validF x)) [] :=
  ContainsFuncC encC l 143 [] (fun x => !validF x) (fun x _ => encC_sz x) fun x hx => arguments1_spec x (h x hx).1 (h x hx).2
theorem unit_spec (op n : Int) (s : ByteArray) (k : List KindT) (names : List ByteArray) (l : List ConT) : Spec Tryz.prog 67 [pp (encC (.mk op n s k names l))] [] (.bool (op == 7 && l.isEmpty)) [] := by
  rw [encC_mk]
  cases e : op == 7 with
  | false =>
    refine wk (rv := [.tmp 2]) ann67 12 Tryz.func67 ?_
    simp only [go_sem, e, Bool.false_and]
  | true =>
    cases l with
    | nil =>
      refine wk (rv := [.tmp 2]) ann67 12 Tryz.func67 ?_
      simp only [go_sem, e, Bool.true_and, List.map_nil, List.length_nil, Int.natCast_zero]
    | cons x l =>
      have d : (((l.length + 1 : Nat) : Int) == 0) = false := beq_false_of_ne (by omega)
      refine wk (rv := [.tmp 2]) ann67 12 Tryz.func67 ?_
      simp only [go_sem, e, Bool.true_and, List.map_cons, List.length_cons, List.length_map, d]
theorem encShape_sz (r : Nat × ConT) : PV.hasSz (.agg 7) (encShape r) = true := by
  obtain ⟨n, ⟨a, b, c, d, e, f⟩⟩ := r
  rfl
def givenR (c : ConT) : PV := if validF c = false then .tuple [zeroShape, .int .i64 1] else if isDT c = true then .tuple [encShape (shapeF c), .int .i64 0] else .tuple [zeroShape, .int .i64 12]
theorem given_spec (c : ConT) (h1 : sizeF c ≤ 1000000000) (h2 : okS c) : Spec Tryz.prog 66 [pp (encC c)] [] (givenR c) [] := by
  have hV := Valid_spec c h1 h2
  have hT := taken_spec c h1 h2
  rw [givenR]
  rw [takenR] at hT
  cases hv : validF c with
  | false =>
    rw [hv] at hV
    rw [if_pos rfl]
    clear hT
    refine wk (rv := [.cell 2 96, .tmp 3]) ann66 19 Tryz.func66 ?_
    simp only [go_sem]
    refine aCall_intro hV ?_
    simp only [go_sem, zeroShape]
  | true =>
    rw [hv] at hV
    rw [if_neg (by decide)]
    have hs := encShape_sz (shapeF c)
    cases hd : isDT c with
    | false =>
      rw [hd, if_neg (by decide)] at hT
      rw [if_neg (by decide)]
      refine wk (rv := [.cell 2 96, .tmp 3]) ann66 19 Tryz.func66 ?_
      simp only [go_sem]
      refine aCall_intro hV ?_
      simp only [go_sem]
      refine aCall_intro hT ?_
      simp only [go_sem, zeroShape]
    | true =>
      rw [hd, if_pos rfl] at hT
      rw [if_pos rfl]
      generalize encShape (shapeF c) = p at hs hT ⊢
      refine wk (rv := [.cell 2 96, .tmp 3]) ann66 19 Tryz.func66 ?_
      simp only [go_sem]
      refine aCall_intro hV ?_
      simp only [go_sem]
      refine aCall_intro hT ?_
      simp only [go_sem, hs]
def findNm : List ByteArray → ByteArray → Int → Int
  | [], _, _ => -1
  | x :: r, s, n => if (x.toList == s.toList) = true then n else findNm r s (n + 1)
theorem beq_symN (a b : List UInt8) : (a == b) = (b == a) := by
  rw [Bool.eq_iff_iff, beq_iff_eq, beq_iff_eq]; exact eq_comm
theorem IndexN_spec (l : List ByteArray) (s : ByteArray) : Spec Tryz.prog 209 [pp (.slice (l.map .str)), pp (.str s)] [] (.int .i64 (findNm l s 0)) [] := by
  generalize hres : findNm l s 0 = res
  refine wf (rv := [.tmp 4]) ann209 19 Tryz.func209 fun hfit => ?_
  have hlen : l.length ≤ 9223372036854775807 := by
    simp only [argsFit, SV.pv?, SC.pv?, PV.fit, maxLen_eq, List.length_map] at hfit
    exact hfit.1.1
  clear hfit
  simp only [go_sem, List.length_map]
  refine aLoop_list (α := ByteArray) (β := Nat) (fun rest m => ⟨[(8, ii m), (0, pp (.slice (l.map .str))), (1, pp (.str s)), (7, ii l.length)], [], []⟩) (fun rest m => ∃ pre, l = pre ++ rest ∧ m = pre.length ∧ findNm rest s m = res) ?_ ?_ l 0 _ ?_ ⟨[], rfl, rfl, hres⟩
  · rintro m ⟨pre, g1, g2, g3⟩ K
    simp only [List.append_nil] at g1
    subst g1
    rw [findNm] at g3
    subst g3
    simp only [go_sem, g2, lt_false (Int.le_refl _)]
  · rintro x rest m ⟨pre, g1, g2, g3⟩ K hK
    have hx : (l.map PV.str)[m]? = some (.str x) := by simp [g1, g2]
    have hlt : (m : Int) < l.length := by rw [g1, g2]; simp; omega
    have hll : m < l.length := by rw [g1, g2]; simp
    have w4 : IntKind.i64.wrap ((m : Int) + 1) = ((m + 1 : Nat) : Int) := by rw [wrap_id (by omega) (by omega)]; simp
    rw [findNm] at g3
    have hs := beq_symN s.toList x.toList
    cases hb : (x.toList == s.toList) with
    | true =>
      rw [if_pos hb] at g3
      subst g3
      rw [hb] at hs
      simp only [go_sem, decide_eq_true hlt, Int.toNat_natCast, Int.natCast_nonneg, hx, hs]
    | false =>
      rw [if_neg (by rw [hb]; decide)] at g3
      rw [hb] at hs
      simp only [go_sem, decide_eq_true hlt, Int.toNat_natCast, Int.natCast_nonneg, hx, hs, w4]
      refine hK (m + 1) _ ?_ ⟨pre ++ [x], by simp [g1], by simp [g2], by simpa using g3⟩
      simp only [go_sem]
  · simp only [go_sem, Int.natCast_zero]
def exShape : PV := .agg [.int .i64 1, .int .i64 8, .int .i64 0, .str e0, .slice [], .slice [.str sCons, .str sNil], .slice [encC exArg, encC exUnit]]
theorem exShape_eq : encShape (shapeF exC) = exShape := by rfl
theorem find_Cons : findNm [sCons, sNil] sCons 0 = 0 := by kernel_rfl
theorem find_Nil : findNm [sCons, sNil] sNil 0 = 1 := by kernel_rfl
def exPart (b : Bool) : ConT := if b then exArg else exUnit
def exName (b : Bool) : ByteArray := if b then sCons else sNil
theorem part_spec (b : Bool) : Spec Tryz.prog 144 [pp exShape, pp (.str (exName b))] [] (.tuple [encC (exPart b), .int .i64 0]) [] := by
  have hI := IndexN_spec [sCons, sNil] (exName b)
  have hs0 := encC_sz exArg
  have hs1 := encC_sz exUnit
  have hg0 : ∀ a b : PV, [a, b][0]? = some a := fun _ _ => rfl
  have hg1 : ∀ a b : PV, [a, b][1]? = some b := fun _ _ => rfl
  rw [exShape]
  cases b with
  | true =>
    rw [exName, if_pos rfl] at hI ⊢
    rw [find_Cons] at hI
    rw [exPart, if_pos rfl]
    simp only [List.map_cons, List.map_nil] at hI
    generalize encC exArg = A at hs0 ⊢
    generalize encC exUnit = B at hs1 ⊢
    refine wk (rv := [.cell 4 28, .tmp 5]) ann144 21 Tryz.func144 ?_
    simp only [go_sem]
    refine aCall_intro hI ?_
    simp only [go_sem, hs0, hs1, hg0]
  | false =>
    rw [exName, if_neg (by decide)] at hI ⊢
    rw [find_Nil] at hI
    rw [exPart, if_neg (by decide)]
    simp only [List.map_cons, List.map_nil] at hI
    generalize encC exArg = A at hs0 ⊢
    generalize encC exUnit = B at hs1 ⊢
    refine wk (rv := [.cell 4 28, .tmp 5]) ann144 21 Tryz.func144 ?_
    simp only [go_sem]
    refine aCall_intro hI ?_
    simp only [go_sem, hs0, hs1, hg1]
def exInt : ConT := .mk 4 0 e0 [] [] []
theorem exInt_any : [exInt].any (fun x => !validF x) = false := by kernel_rfl
theorem okS_exInt : okS exInt := by
  simp only [exInt, okS, okSs]
  decide
theorem exArgs_spec (b : Bool) : Spec Tryz.prog 94 [pp (encC exC), pp (.str (exName b)), pp (.slice [encC exInt])] [] (.tuple [exShape, encC (exPart b), .int .i64 0]) [] := by
  have hV := Valid_spec exC (by rw [size_exC]; decide) okS_exC
  rw [exC_valid] at hV
  have hA := arguments1_any [exInt] (fun x hx => by rw [List.mem_singleton] at hx; subst hx; exact ⟨of_decide_eq_true (by kernel_rfl), okS_exInt⟩)
  rw [exInt_any] at hA
  simp only [List.map_cons, List.map_nil] at hA
  have hG := given_spec exC (by rw [size_exC]; decide) okS_exC
  rw [givenR, if_neg (by rw [exC_valid]; decide), if_pos exC_dt, exShape_eq] at hG
  have hP := part_spec b
  have hs0 := encC_sz exC
  have hs1 := encC_sz (exPart b)
  rw [exShape] at hG hP ⊢
  generalize encC (exPart b) = B at hs1 hP ⊢
  generalize encC exC = C at hs0 hV hG ⊢
  generalize exName b = N at hP ⊢
  refine wk (rv := [.cell 6 96, .cell 7 28, .tmp 8]) ann94 47 Tryz.func94 ?_
  simp only [go_sem, hs0, hs1]
  refine aCall_intro hV ?_
  simp only [go_sem, hs0, hs1]
  refine aCall_intro hA ?_
  simp only [go_sem, hs0, hs1]
  refine aCall_intro hG ?_
  simp only [go_sem, hs0, hs1, List.length_cons, List.length_nil, Int.cast_ofNat_Int, Int.reduceBNe]
  refine aCall_intro hP ?_
  simp only [go_sem, hs0, hs1]
  repeat (refine ⟨by kernel_rfl, ?_⟩; try simp only [go_sem, hs0, hs1])
def outRefs (k : Int) : List Box := [⟨.one, .one (.pv (.int .i64 k))⟩, ⟨.one, .one (.pv (.bool false))⟩, ⟨.one, .one (.fn 120 [.ptr (.ref 0) 0, .ptr (.ref 1) 0, .pv (.ep exShape 0), .pv (.ep (encC exC) 0), .ptr (.ref 2) 0])⟩]
def outArgs (x : ConT) : List SV := [pp (encC x), ii 0, .one (.ptr (.ref 0) 0), .one (.ptr (.ref 1) 0), pp (.ep exShape 0), pp (.ep (encC exC) 0), .one (.ptr (.ref 2) 0)]
def exAppC : ConT := .mk 12 0 e0 [] [] [exC, exV 0]
def exArgC : ConT := .mk 7 0 e0 [] [s1, s2] [exV 0, exAppC]
theorem out_v0 (k : Int) (h0 : 0 ≤ k) (h1 : k ≤ 1000) : Spec Tryz.prog 120 (outArgs (exV 0)) (outRefs k) (encC (exV 0)) (outRefs (k + 1)) := by
  have w1 : IntKind.i64.wrap (k + 1) = k + 1 := wrap_id (by omega) (by omega)
  have w0 : IntKind.i64.wrap 1 = 1 := by decide
  have d1 : decide (k + 1 > 20000) = false := decide_eq_false (by omega)
  rw [outArgs, outRefs, outRefs, exShape, exV, encC_mk]
  generalize encC exC = C
  refine wk (rv := [.cell 9 28]) ann120 106 Tryz.func120 ?_
  simp only [go_sem, w1, w0, d1, Int.reduceBEq, Int.reduceBNe, Int.reduceGT, Int.reduceGE, Int.reduceAdd, List.map_nil, List.length_nil, Int.natCast_zero]
  refine ⟨1, ?_⟩
  rw [aLoop_succ]
  simp only [go_sem, w1, w0, d1, Int.reduceBEq, Int.reduceBNe, Int.reduceGT, Int.reduceGE, Int.reduceAdd, List.map_nil, List.length_nil, Int.natCast_zero]
theorem ex_shift : shiftF exC 1 0 = (exC, 0) := by kernel_rfl
theorem out_v1 (k : Int) (h0 : 0 ≤ k) (h1 : k ≤ 1000) : Spec Tryz.prog 120 (outArgs (exV 1)) (outRefs k) (encC exC) (outRefs (k + 9)) := by
  have w1 : IntKind.i64.wrap (k + 1) = k + 1 := wrap_id (by omega) (by omega)
  have w0 : IntKind.i64.wrap 1 = 1 := by decide
  have w8 : IntKind.i64.wrap (9 - 1) = 8 := by decide
  have w9 : IntKind.i64.wrap (k + 1 + 8) = k + 9 := by rw [wrap_id (by omega) (by omega)]; omega
  have d1 : decide (k + 1 > 20000) = false := decide_eq_false (by omega)
  have hS := Shift_specV exC 1 0 (by rw [size_exC]; decide) okS_exC
  rw [ex_shift] at hS
  have hZ := Size_spec exC (by rw [size_exC]; decide)
  rw [size_exC] at hZ
  have hs := encC_sz exC
  rw [outArgs, outRefs, outRefs, exShape, exV, encC_mk]
  generalize encC exC = C at hs hS hZ ⊢
  refine wk (rv := [.cell 9 28]) ann120 106 Tryz.func120 ?_
  simp only [go_sem, w1, w0, d1, hs, Int.reduceBEq, Int.reduceBNe, Int.reduceGT, Int.reduceGE, Int.reduceAdd, List.map_nil, List.length_nil, Int.natCast_zero]
  refine aCall_intro hS ?_
  simp only [go_sem, hs, Int.reduceBNe]
  refine aCall_intro hZ ?_
  simp only [go_sem, hs, w8, w9, Int.cast_ofNat_Int]
  kernel_rfl
theorem out_app (k : Int) (h0 : 0 ≤ k) (h1 : k ≤ 900) : Spec Tryz.prog 120 (outArgs exApp) (outRefs k) (encC exAppC) (outRefs (k + 1 + 9 + 1)) := by
  have w1 : IntKind.i64.wrap (k + 1) = k + 1 := wrap_id (by omega) (by omega)
  have w0 : IntKind.i64.wrap 1 = 1 := by decide
  have w2 : IntKind.i64.wrap 2 = 2 := by decide
  have m2 : 2 ≤ maxLen := by rw [maxLen_eq]; omega
  have d1 : decide (k + 1 > 20000) = false := decide_eq_false (by omega)
  have hA := out_v1 (k + 1) (by omega) (by omega)
  have hB := out_v0 (k + 1 + 9) (by omega) (by omega)
  have hs := encC_sz exC
  have hs0 := encC_sz (exV 0)
  have hs1 := encC_sz (exV 1)
  have hg0 : ∀ a b : PV, [a, b][0]? = some a := fun _ _ => rfl
  have hg1 : ∀ a b : PV, [a, b][1]? = some b := fun _ _ => rfl
  rw [outArgs, outRefs, outRefs] at hA hB ⊢
  rw [exApp, exAppC, encC_mk, encC_mk, exShape]
  rw [exShape] at hA hB
  simp only [List.map_cons, List.map_nil]
  generalize encC exC = C at hs hA hB ⊢
  generalize encC (exV 0) = V0 at hs0 hB ⊢
  generalize encC (exV 1) = V1 at hs1 hA ⊢
  refine wk (rv := [.cell 9 28]) ann120 106 Tryz.func120 ?_
  simp only [go_sem, w1, w0, w2, m2, one_le_maxLen, d1, hs, hs0, hs1, hg0, hg1, Int.reduceBEq, Int.reduceBNe, Int.reduceGT, Int.reduceGE, Int.reduceAdd, List.map_nil, List.length_cons, List.length_nil, Int.natCast_zero]
  refine ⟨3, ?_⟩
  rw [aLoop_succ]
  simp only [go_sem, w1, w0, w2, m2, one_le_maxLen, d1, hs, hs0, hs1, hg0, hg1, Int.cast_ofNat_Int, Int.reduceBEq, Int.reduceBNe, Int.reduceGT, Int.reduceGE, Int.reduceAdd, List.map_nil, List.length_cons, List.length_nil, Int.natCast_zero]
  refine aCall_intro hA ?_
  simp only [go_sem, w1, w0, w2, m2, one_le_maxLen, d1, hs, hs0, hs1, hg0, hg1, Int.cast_ofNat_Int, Int.reduceBEq, Int.reduceBNe, Int.reduceGT, Int.reduceGE, Int.reduceAdd, List.map_nil, List.length_cons, List.length_nil, Int.natCast_zero]
  repeat (refine ⟨by kernel_rfl, ?_⟩; try simp only [go_sem, w1, w0, w2, m2, one_le_maxLen, d1, hs, hs0, hs1, hg0, hg1, Int.cast_ofNat_Int, Int.reduceBEq, Int.reduceBNe, Int.reduceGT, Int.reduceGE, Int.reduceAdd, List.map_nil, List.length_cons, List.length_nil, Int.natCast_zero])
  refine aCall_intro hB ?_
  simp only [go_sem, w1, w0, w2, m2, one_le_maxLen, d1, hs, hs0, hs1, hg0, hg1, Int.cast_ofNat_Int, Int.reduceBEq, Int.reduceBNe, Int.reduceGT, Int.reduceGE, Int.reduceAdd, List.map_nil, List.length_cons, List.length_nil, Int.natCast_zero]
  repeat (refine ⟨by kernel_rfl, ?_⟩; try simp only [go_sem, w1, w0, w2, m2, one_le_maxLen, d1, hs, hs0, hs1, hg0, hg1, Int.cast_ofNat_Int, Int.reduceBEq, Int.reduceBNe, Int.reduceGT, Int.reduceGE, Int.reduceAdd, List.map_nil, List.length_cons, List.length_nil, Int.natCast_zero])
theorem out_arg (k : Int) (h0 : 0 ≤ k) (h1 : k ≤ 800) : Spec Tryz.prog 120 (outArgs exArg) (outRefs k) (encC exArgC) (outRefs (k + 1 + 1 + 1 + 9 + 1)) := by
  have w1 : IntKind.i64.wrap (k + 1) = k + 1 := wrap_id (by omega) (by omega)
  have w0 : IntKind.i64.wrap 1 = 1 := by decide
  have w2 : IntKind.i64.wrap 2 = 2 := by decide
  have m2 : 2 ≤ maxLen := by rw [maxLen_eq]; omega
  have d1 : decide (k + 1 > 20000) = false := decide_eq_false (by omega)
  have hA := out_v0 (k + 1) (by omega) (by omega)
  have hB := out_app (k + 1 + 1) (by omega) (by omega)
  have hs := encC_sz exC
  have hs0 := encC_sz (exV 0)
  have hs1 := encC_sz exApp
  have hs2 := encC_sz exAppC
  have hg0 : ∀ a b : PV, [a, b][0]? = some a := fun _ _ => rfl
  have hg1 : ∀ a b : PV, [a, b][1]? = some b := fun _ _ => rfl
  rw [outArgs, outRefs, outRefs] at hA hB ⊢
  rw [exShape]
  rw [exShape] at hA hB
  have e1 : encC exArg = .agg [.int .i64 7, .int .i64 0, .str e0, .slice [], .slice [.str s1, .str s2], .slice [encC (exV 0), encC exApp]] := rfl
  have e2 : encC exArgC = .agg [.int .i64 7, .int .i64 0, .str e0, .slice [], .slice [.str s1, .str s2], .slice [encC (exV 0), encC exAppC]] := rfl
  generalize encC exArg = XA at e1 hA hB ⊢
  generalize encC exArgC = XB at e2 ⊢
  have e3 : pp XA = pp (.agg [.int .i64 7, .int .i64 0, .str e0, .slice [], .slice [.str s1, .str s2], .slice [encC (exV 0), encC exApp]]) := by rw [e1]
  rw [e3, e2]
  clear e1 e2 e3
  generalize encC exC = C at hs hA hB ⊢
  generalize encC (exV 0) = V0 at hs0 hA ⊢
  generalize encC exApp = V1 at hs1 hB ⊢
  generalize encC exAppC = V2 at hs2 hB ⊢
  refine wk (rv := [.cell 9 28]) ann120 106 Tryz.func120 ?_
  simp only [go_sem, w1, w0, w2, m2, one_le_maxLen, d1, hs, hs0, hs1, hs2, hg0, hg1, Int.reduceBEq, Int.reduceBNe, Int.reduceGT, Int.reduceGE, Int.reduceAdd, List.map_nil, List.length_cons, List.length_nil, Int.natCast_zero]
  refine ⟨3, ?_⟩
  rw [aLoop_succ]
  simp only [go_sem, w1, w0, w2, m2, one_le_maxLen, d1, hs, hs0, hs1, hs2, hg0, hg1, Int.cast_ofNat_Int, Int.reduceBEq, Int.reduceBNe, Int.reduceGT, Int.reduceGE, Int.reduceAdd, List.map_nil, List.length_cons, List.length_nil, Int.natCast_zero]
  refine aCall_intro hA ?_
  simp only [go_sem, w1, w0, w2, m2, one_le_maxLen, d1, hs, hs0, hs1, hs2, hg0, hg1, Int.cast_ofNat_Int, Int.reduceBEq, Int.reduceBNe, Int.reduceGT, Int.reduceGE, Int.reduceAdd, List.map_nil, List.length_cons, List.length_nil, Int.natCast_zero]
  repeat (refine ⟨by kernel_rfl, ?_⟩; try simp only [go_sem, w1, w0, w2, m2, one_le_maxLen, d1, hs, hs0, hs1, hs2, hg0, hg1, Int.cast_ofNat_Int, Int.reduceBEq, Int.reduceBNe, Int.reduceGT, Int.reduceGE, Int.reduceAdd, List.map_nil, List.length_cons, List.length_nil, Int.natCast_zero])
  refine aCall_intro hB ?_
  simp only [go_sem, w1, w0, w2, m2, one_le_maxLen, d1, hs, hs0, hs1, hs2, hg0, hg1, Int.cast_ofNat_Int, Int.reduceBEq, Int.reduceBNe, Int.reduceGT, Int.reduceGE, Int.reduceAdd, List.map_nil, List.length_cons, List.length_nil, Int.natCast_zero]
  repeat (refine ⟨by kernel_rfl, ?_⟩; try simp only [go_sem, w1, w0, w2, m2, one_le_maxLen, d1, hs, hs0, hs1, hs2, hg0, hg1, Int.cast_ofNat_Int, Int.reduceBEq, Int.reduceBNe, Int.reduceGT, Int.reduceGE, Int.reduceAdd, List.map_nil, List.length_cons, List.length_nil, Int.natCast_zero])
theorem exArgC_shift : shiftF exArgC 0 0 = (exArgC, 0) := by kernel_rfl
theorem exArgC_valid : validF exArgC = true := by kernel_rfl
theorem okS_exArgC : okS exArgC := by
  simp only [exArgC, exAppC, exC, exLam, exSum, exUnit, exArg, exApp, exV, okS, okSs]
  decide
theorem size_exArgC : sizeF exArgC ≤ 1000 := of_decide_eq_true (by kernel_rfl)
theorem exOuter_spec : Spec Tryz.prog 68 [pp (encC exC), pp exShape, pp (encC exArg)] [] (.tuple [encC exArgC, .int .i64 0]) [] := by
  have hO := out_arg 0 (by decide) (by decide)
  have hV := Valid_spec exArgC (Nat.le_trans size_exArgC (by decide)) okS_exArgC
  rw [exArgC_valid] at hV
  have hS := Shift_specV exArgC 0 0 (Nat.le_trans size_exArgC (by decide)) okS_exArgC
  rw [exArgC_shift] at hS
  have hs := encC_sz exC
  have hs1 := encC_sz exArgC
  have hs2 := encC_sz exArg
  have hs3 : PV.hasSz (.agg 7) exShape = true := encShape_sz (shapeF exC)
  rw [outArgs, outRefs, outRefs] at hO
  generalize encC exC = C at hs hO ⊢
  generalize encC exArgC = Y at hs1 hO hV hS ⊢
  generalize encC exArg = X at hs2 hO ⊢
  generalize exShape = S at hs3 hO ⊢
  refine wk (rv := [.cell 6 28, .tmp 7]) ann68 27 Tryz.func68 ?_
  simp only [go_sem, hs, hs1, hs2, hs3]
  refine aCall_intro hO ?_
  simp only [go_sem, hs, hs1, hs2, hs3]
  refine aCall_intro hV ?_
  simp only [go_sem, hs, hs1, hs2, hs3]
  refine aCall_intro hS ?_
  simp only [go_sem, hs, hs1, hs2, hs3]

def annClC : Ann := ⟨[], [1000007], [(3, [2]), (2, [2]), (1, [0, 4]), (0, [0])], []⟩
@[go_sem] theorem annClC_imm : annClC.imm = [] := rfl
@[go_sem] theorem annClC_frz : annClC.frz = [1000007] := rfl
@[go_sem] theorem annClC_live : annClC.live = [(3, [2]), (2, [2]), (1, [0, 4]), (0, [0])] := rfl
@[go_sem] theorem annClC_head : annClC.head = [] := rfl
theorem CloneC_spec (x : ConT) (l : List ConT) (hl : l.length ≤ 1000000000) : SpecX Tryz.prog 95 [pp (.slice ((x :: l).map encC))] (.agg 6) ((x :: l).map encC) := by
  have hall : ((x :: l).map encC).all (fun x => PV.hasSz (.agg 6) x) = true := by
    rw [List.all_eq_true]
    intro y hy
    obtain ⟨z, _, rfl⟩ := List.mem_map.1 hy
    exact encC_sz z
  refine SpecX.of (rv := [.tmp 2]) annClC 8 Tryz.func95 mixed rfl rfl (by kernel_rfl) (fun e he => List.all_eq_true.1 hall e he) ?_
  simp only [List.map_cons] at hall ⊢
  have hb1 : (l.length + 1) * 104 ≤ 140737488355328 := by omega
  have hb2 : l.length + 1 ≤ maxLen := by rw [maxLen_eq]; omega
  simp only [List.all_cons, encC_sz, Bool.true_and] at hall
  simp only [go_sem, encC_sz, hall, hb1, hb2, List.length_map, List.length_cons]
  exact exOf_intro rfl
def annCtor : Ann := ⟨ann41.imm, [9000040, 2000008], ann41.live, ann41.head⟩
@[go_sem] theorem annCtor_imm : annCtor.imm = ann41.imm := rfl
@[go_sem] theorem annCtor_frz : annCtor.frz = [9000040, 2000008] := rfl
@[go_sem] theorem annCtor_live : annCtor.live = ann41.live := rfl
@[go_sem] theorem annCtor_head : annCtor.head = ann41.head := rfl
def exRes : ConT := .mk 7 0 e0 [] [s1, s2] [exInt, .mk 12 0 e0 [] [] [exC, exInt]]
theorem exRes_subst : substF exArgC [exInt] = (exRes, 0) := by kernel_rfl
theorem exRes_valid : validF exRes = true := by kernel_rfl
theorem exRes_norm : normF exRes = true := by kernel_rfl
theorem okS_exRes : okS exRes := by
  simp only [exRes, exInt, exC, exLam, exSum, exUnit, exArg, exApp, exV, okS, okSs]
  decide
theorem wt_exArgC : wtF exArgC ≤ 1000 := of_decide_eq_true (by kernel_rfl)
theorem wt_exInt : wtF exInt ≤ 1000 := of_decide_eq_true (by kernel_rfl)
theorem wt_exRes : wtF exRes ≤ 1000 := of_decide_eq_true (by kernel_rfl)
theorem Ctor_Cons : Spec Tryz.prog 41 [pp (encC exC), pp (.str sCons), pp (.slice [encC exInt])] [] (.tuple [encC exRes, .bool true, .int .i64 0]) [] := by
  have hA := exArgs_spec true
  have eN : exName true = sCons := rfl
  have eP : exPart true = exArg := rfl
  rw [eN, eP] at hA
  have hU : Spec Tryz.prog 67 [pp (encC exArg)] [] (.bool false) [] := unit_spec 7 0 e0 [] [s1, s2] [exV 0, exApp]
  have hO := exOuter_spec
  have hCl := CloneC_spec exInt [] (by decide)
  have hSu := Subst_spec exArgC [exInt] (Nat.le_trans wt_exArgC (by decide)) okS_exArgC (fun x hx => by rw [List.mem_singleton] at hx; subst hx; exact ⟨Nat.le_trans wt_exInt (by decide), okS_exInt⟩)
  rw [exRes_subst] at hSu
  have hN := Normal_spec exRes exRes_valid exRes_norm okS_exRes (Nat.le_trans wt_exRes (by decide))
  have hs := encC_sz exC
  have hs1 := encC_sz exArg
  have hs2 := encC_sz exArgC
  have hs3 := encC_sz exRes
  have hs4 := encC_sz exInt
  have hs5 : PV.hasSz (.agg 7) exShape = true := encShape_sz (shapeF exC)
  simp only [List.map_cons, List.map_nil] at hCl hSu
  generalize encC exC = C at hs hA hO ⊢
  generalize encC exArg = X at hs1 hA hU hO
  generalize encC exArgC = Y at hs2 hO hSu
  generalize encC exRes = Z at hs3 hSu hN ⊢
  generalize encC exInt = I at hs4 hA hCl hSu ⊢
  generalize exShape = S at hs5 hA hO
  refine wk (rv := [.cell 6 28, .tmp 7, .tmp 8]) annCtor 62 Tryz.func41 ?_
  simp only [go_sem, hs, hs1, hs2, hs3, hs4, hs5]
  refine aCall_intro hA ?_
  simp only [go_sem, hs, hs1, hs2, hs3, hs4, hs5, Int.reduceBNe]
  refine aCall_intro hU ?_
  simp only [go_sem, hs, hs1, hs2, hs3, hs4, hs5, Int.reduceBNe]
  refine aCall_intro hO ?_
  simp only [go_sem, hs, hs1, hs2, hs3, hs4, hs5, Int.reduceBNe]
  refine aCallX_intro hCl ?_
  simp only [go_sem, hs, hs1, hs2, hs3, hs4, hs5, Int.reduceBNe]
  refine aFlipOr_flip rfl ⟨rfl, rfl, rfl⟩ ⟨rfl, rfl, rfl⟩ rfl (Reverse_inplace _) ?_
  simp only [go_sem, hs, hs1, hs2, hs3, hs4, hs5, Int.reduceBNe, AS.flip, flipT, flipB, flipSV, flipSC, List.reverse_cons, List.reverse_nil, List.nil_append]
  refine aCall_intro hSu ?_
  simp only [go_sem, hs, hs1, hs2, hs3, hs4, hs5, Int.reduceBNe]
  refine aCall_intro hN ?_
  simp only [go_sem, hs, hs1, hs2, hs3, hs4, hs5, Int.reduceBNe]
theorem Ctor_Nil : Spec Tryz.prog 41 [pp (encC exC), pp (.str sNil), pp (.slice [encC exInt])] [] (.tuple [encC zeroC, .bool false, .int .i64 0]) [] := by
  have hA := exArgs_spec false
  have eN : exName false = sNil := rfl
  have eP : exPart false = exUnit := rfl
  rw [eN, eP] at hA
  have hU : Spec Tryz.prog 67 [pp (encC exUnit)] [] (.bool true) [] := unit_spec 7 0 e0 [] [] []
  have hs := encC_sz exC
  have hs1 := encC_sz exUnit
  have hs4 := encC_sz exInt
  have hs5 : PV.hasSz (.agg 7) exShape = true := encShape_sz (shapeF exC)
  rw [encC_zero]
  generalize encC exC = C at hs hA ⊢
  generalize encC exUnit = X at hs1 hA hU
  generalize encC exInt = I at hs4 hA ⊢
  generalize exShape = S at hs5 hA
  refine wk (rv := [.cell 6 28, .tmp 7, .tmp 8]) annCtor 62 Tryz.func41 ?_
  simp only [go_sem, hs, hs1, hs4, hs5]
  refine aCall_intro hA ?_
  simp only [go_sem, hs, hs1, hs4, hs5, Int.reduceBNe]
  refine aCall_intro hU ?_
  simp only [go_sem, hs, hs1, hs4, hs5, Int.reduceBNe]
theorem boolC_dt : isDT boolC = true := by kernel_rfl
theorem okS_boolC : okS boolC := by
  simp only [boolC, unitC, okS, okSs]
  decide
theorem awake19_spec : Spec Tryz.prog 8 [] [] (.bool true) [] := by
  have hL := lists_spec
  have hI := dIs_spec exC (by rw [size_exC]; decide) okS_exC
  rw [exC_dt] at hI
  have hC := Ctor_Cons
  have hN := Ctor_Nil
  have hB := Bool_spec
  have hJ := dIs_spec boolC (of_decide_eq_true (by kernel_rfl)) okS_boolC
  rw [boolC_dt] at hJ
  have e1 : encC exRes = .agg [.int .i64 7, .int .i64 0, .str e0, .slice [], .slice [.str s1, .str s2], .slice [.agg [.int .i64 4, .int .i64 0, .str e0, .slice [], .slice [], .slice []], .agg [.int .i64 12, .int .i64 0, .str e0, .slice [], .slice [], .slice [encC exC, encC exInt]]]] := rfl
  have e2 : encC exInt = .agg [.int .i64 4, .int .i64 0, .str ByteArray.empty, .slice [], .slice [], .slice []] := rfl
  rw [encC_zero] at hN
  rw [e1] at hC
  have hs := encC_sz exC
  have hs1 := encC_sz boolC
  rw [e2] at hC hN
  generalize encC exC = C at hs hL hI hC hN ⊢
  generalize encC boolC = B at hs1 hB hJ
  have hg0 : ∀ a b : PV, [a, b][0]? = some a := fun _ _ => rfl
  have hg1 : ∀ a b : PV, [a, b][1]? = some b := fun _ _ => rfl
  refine wk (rv := [.tmp 0]) ann8 82 Tryz.func8 ?_
  simp only [go_sem, hs, hs1]
  refine aCall_intro hL ?_
  simp only [go_sem, hs, hs1, Int.reduceBNe]
  refine aCall_intro hI ?_
  simp only [go_sem, hs, hs1, Int.reduceBNe]
  refine aCall_intro hC ?_
  simp only [go_sem, hs, hs1, Int.reduceBNe]
  refine aCall_intro hN ?_
  simp only [go_sem, hs, hs1, hg0, hg1, Int.reduceBNe, Int.reduceBEq, Int.cast_ofNat_Int, List.length_cons, List.length_nil]
  refine aCall_intro hB ?_
  simp only [go_sem, hs, hs1, Int.reduceBNe]
  refine aCall_intro hJ ?_
  simp only [go_sem, hs, hs1, Int.reduceBNe]
end Go.Abs.Kon
