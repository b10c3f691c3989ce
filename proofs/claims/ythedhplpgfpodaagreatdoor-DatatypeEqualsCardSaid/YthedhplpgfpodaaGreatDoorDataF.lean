/- Data types: Make at the example. -/
import Derived.Test.YthedhplpgfpodaaGreatDoorDataE
import Derived.Test.YthedhplpgfpodaaGreatDoorDataC
set_option linter.unusedSimpArgs false
set_option linter.unusedVariables false
namespace Go.Abs.Kon
open Go Go.Proofs Go.Abs
set_option maxRecDepth 100000
set_option maxHeartbeats 4000000

def badCt (x : CtT) : Bool := !nameF x.1 2 || (x.2.op != 0 && !validF x.2)
theorem encCt_mk (s : ByteArray) (op n : Int) (t : ByteArray) (k : List KindT) (names : List ByteArray) (l : List ConT) : encCt (s, .mk op n t k names l) = .agg [.str s, .int .i64 op, .int .i64 n, .str t, .slice (k.map encK), .slice (names.map .str), .slice (l.map encC)] := rfl
theorem Make1_spec (x : CtT) (h1 : sizeF x.2 ≤ 1000000000) (h2 : okS x.2) : Spec Tryz.prog 55 [pp (encCt x)] [] (.bool (badCt x)) [] := by
  obtain ⟨s, ⟨op, n, t, k, names, l⟩⟩ := x
  have hU := IsUpper_spec s
  have hV := Valid_spec _ h1 h2
  simp only [badCt, ConT.op] at hV ⊢
  rw [encC_mk] at hV
  rw [encCt_mk]
  generalize validF (.mk op n t k names l) = v at hV ⊢
  generalize nameF s 2 = u at hU ⊢
  cases u with
  | false =>
    refine wk (rv := [.tmp 2]) ann55 19 Tryz.func55 ?_
    simp only [go_sem]
    refine aCall_intro hU ?_
    simp only [go_sem, Bool.true_or]
  | true =>
    cases e : op != 0 with
    | false =>
      refine wk (rv := [.tmp 2]) ann55 19 Tryz.func55 ?_
      simp only [go_sem]
      refine aCall_intro hU ?_
      simp only [go_sem, e, Bool.false_and, Bool.false_or]
    | true =>
      refine wk (rv := [.tmp 2]) ann55 19 Tryz.func55 ?_
      simp only [go_sem]
      refine aCall_intro hU ?_
      simp only [go_sem, e]
      refine aCall_intro hV ?_
      simp only [go_sem, e, Bool.true_and, Bool.false_or]
theorem Make1_any (l : List CtT) (h : ∀ x ∈ l, sizeF x.2 ≤ 1000000000 ∧ okS x.2) : Spec Tryz.prog 21 [pp (.slice (l.map encCt)), pp (.fn 55 [])] [] (.bool (l.any badCt)) [] :=
  ContainsFuncCt encCt l 55 [] badCt (fun x _ => encCt_sz x) fun x hx => Make1_spec x (h x hx).1 (h x hx).2

def annClCt : Ann := ⟨ann57.imm, [1000007], ann57.live, ann57.head⟩
@[go_sem] theorem annClCt_imm : annClCt.imm = ann57.imm := rfl
@[go_sem] theorem annClCt_frz : annClCt.frz = [1000007] := rfl
@[go_sem] theorem annClCt_live : annClCt.live = ann57.live := rfl
@[go_sem] theorem annClCt_head : annClCt.head = ann57.head := rfl
theorem CloneCt_spec (x : CtT) (l : List CtT) (hl : l.length ≤ 1000000000) : SpecX Tryz.prog 57 [pp (.slice ((x :: l).map encCt))] (.agg 7) ((x :: l).map encCt) := by
  have hall : ((x :: l).map encCt).all (fun x => PV.hasSz (.agg 7) x) = true := by
    rw [List.all_eq_true]
    intro y hy
    obtain ⟨z, _, rfl⟩ := List.mem_map.1 hy
    exact encCt_sz z
  refine SpecX.of (rv := [.tmp 2]) annClCt 8 Tryz.func57 mixed rfl rfl (by kernel_rfl) (fun e he => List.all_eq_true.1 hall e he) ?_
  simp only [List.map_cons] at hall ⊢
  have hb1 : (l.length + 1) * 120 ≤ 140737488355328 := by omega
  have hb2 : l.length + 1 ≤ maxLen := by rw [maxLen_eq]; omega
  simp only [List.all_cons, encCt_sz, Bool.true_and] at hall
  simp only [go_sem, encCt_sz, hall, hb1, hb2, List.length_map, List.length_cons]
  exact exOf_intro rfl
theorem lists1_spec (n : Int) : Spec Tryz.prog 93 [ii n] [] (encC (exV n)) [] := by
  rw [exV, encC_mk, e0]
  refine wk (rv := [.cell 2 28]) ann93 5 Tryz.func93 ?_
  simp only [go_sem]

def annMk : Ann := ⟨ann16.imm, [9000040, 2000010, 2000012, 6000012, 1000081, 2000023, 7000023, 3000090, 3000100, 2000041, 6500041, 4041090, 4041100], ann16.live, ann16.head⟩
@[go_sem] theorem annMk_imm : annMk.imm = ann16.imm := rfl
@[go_sem] theorem annMk_frz : annMk.frz = [9000040, 2000010, 2000012, 6000012, 1000081, 2000023, 7000023, 3000090, 3000100, 2000041, 6500041, 4041090, 4041100] := rfl
@[go_sem] theorem annMk_live : annMk.live = ann16.live := rfl
@[go_sem] theorem annMk_head : annMk.head = ann16.head := rfl
def exL : List CtT := [(sNil, zeroC), (sCons, exArg)]
theorem exL_bad : exL.any badCt = false := by kernel_rfl
theorem exIx : sortIx exL = #[1, 0] := by
  have e1 : ctLt exL 1 0 = true := by kernel_rfl
  have e : Array.range exL.length = #[0, 1] := by kernel_rfl
  rw [sortIx, e, Go.Sort.insertionSort]
  rw [Go.Sort.insOuter, if_pos (by decide), Go.Sort.insOuter, if_neg (by decide)]
  rw [Go.Sort.insInner, Go.Sort.insInner]
  have e2 : (#[0, 1] : Array Nat)[0 + 1]! = 1 := rfl
  have e3 : (#[0, 1] : Array Nat)[0]! = 0 := rfl
  rw [e2, e3, e1]
  rfl
theorem exSort : sortCt exL = [(sCons, exArg), (sNil, zeroC)] := by
  rw [sortCt, exIx]; rfl
theorem Make_ex : Spec Tryz.prog 16 [ii 1, pp (.slice (exL.map encCt))] [] (.tuple [encC exC, .int .i64 0]) [] := by
  have hA := Make1_any exL (fun x hx => by
    rw [exL, List.mem_cons, List.mem_singleton] at hx
    rcases hx with rfl | rfl
    · exact ⟨of_decide_eq_true (by kernel_rfl), by simp only [zeroC, okS, okSs]; decide⟩
    · exact ⟨by rw [size_exArg]; decide, okS_exArg⟩)
  rw [exL_bad] at hA
  have hCl := CloneCt_spec (sNil, zeroC) [(sCons, exArg)] (by decide)
  have hSo := SortFunc_turn exL (by decide) (by decide)
  rw [exSort] at hSo
  have hU : Spec Tryz.prog 61 [] [] (.agg [.int .i64 7, .int .i64 0, .str e0, .slice [], .slice [], .slice []]) [] := Unit_spec
  have w1 : IntKind.i64.wrap (0 + 1) = 1 := by decide
  have w2 : IntKind.i64.wrap (1 + 1) = 2 := by decide
  have w3 : IntKind.i64.wrap (1 - 1) = 0 := by decide
  have ne1 : (sCons.toList == sNil.toList) = false := by first | decide | kernel_rfl
  have hAr : Spec Tryz.prog 62 [ii 1] [] (.tuple [.agg [.slice [encK (.mk []), encK (.mk [])]], .int .i64 0]) [] := kArity_spec 1 (by decide)
  have hV : Spec Tryz.prog 46 [pp (encC exC)] [] (.bool true) [] := by
    have := Valid_spec exC (by rw [size_exC]; decide) okS_exC
    rwa [exC_valid] at this
  have hbt : ∀ I I' v, Rep I (.bool true) v → Rep I' (.bool true) v := fun I I' v h => by rw [Rep] at h ⊢; exact h
  have hN1 : Spec Tryz.prog 63 [pp (.agg [.int .i64 7, .int .i64 0, .str e0, .slice [], .slice [.str s1, .str s2], .slice [encC (exV 0), encC exApp]])] [] (.tuple [.agg [.int .i64 7, .int .i64 0, .str e0, .slice [], .slice [.str s1, .str s2], .slice [encC (exV 0), encC exApp]], .int .i64 0]) [] := Normal_spec exArg exArg_valid exArg_norm okS_exArg (Nat.le_trans wt_exArg (by decide))
  have hN2 : Spec Tryz.prog 63 [pp (.agg [.int .i64 7, .int .i64 0, .str e0, .slice [], .slice [], .slice []])] [] (.tuple [.agg [.int .i64 7, .int .i64 0, .str e0, .slice [], .slice [], .slice []], .int .i64 0]) [] := Normal_spec exUnit exUnit_valid exUnit_norm okS_exUnit (Nat.le_trans wt_exUnit (by decide))
  have r0 : rowIx 0 6 = some 0 := by rfl
  have r6 : rowIx 6 6 = some 1 := by rfl
  have hg0 : ∀ a b : PV, [a, b][0]? = some a := fun _ _ => rfl
  have hg1 : ∀ a b : PV, [a, b][1]? = some b := fun _ _ => rfl
  have hs0 : ∀ a b c : PV, [a, b].set 0 c = [c, b] := fun _ _ _ => rfl
  have hs1 : ∀ a b c : PV, [a, b].set 1 c = [a, c] := fun _ _ _ => rfl
  have m2 : 2 ≤ maxLen := by rw [maxLen_eq]; omega
  have z1 := encCt_sz (sNil, zeroC)
  have z2 := encCt_sz (sCons, exArg)
  simp only [exL, List.map_cons, List.map_nil] at hA hCl hSo ⊢
  have q1 : encCt (sCons, exArg) = .agg [.str sCons, .int .i64 7, .int .i64 0, .str e0, .slice [], .slice [.str s1, .str s2], .slice [encC (exV 0), encC exApp]] := rfl
  have q2 : encCt (sNil, zeroC) = .agg [.str sNil, .int .i64 0, .int .i64 0, .str e0, .slice [], .slice [], .slice []] := rfl
  rw [q1] at z2 hA hCl hSo ⊢
  rw [q2] at z1 hA hCl hSo ⊢
  refine wk (rv := [.cell 4 28, .tmp 5]) annMk 134 Tryz.func16 ?_
  simp only [go_sem, z1, z2, Nat.reduceLT, Int.reduceGT, Int.reduceBEq, Int.reduceBNe, Int.cast_ofNat_Int, Int.natCast_zero, w1, w2, w3, ne1, r0, r6, hg0, hg1, hs0, hs1, one_le_maxLen, m2, List.length_cons, List.length_nil]
  refine aCall_intro hA ?_
  simp only [go_sem, z1, z2, Nat.reduceLT, Int.reduceGT, Int.reduceBEq, Int.reduceBNe, Int.cast_ofNat_Int, Int.natCast_zero, w1, w2, w3, ne1, r0, r6, hg0, hg1, hs0, hs1, one_le_maxLen, m2, List.length_cons, List.length_nil]
  refine aCallX_intro hCl ?_
  simp only [go_sem, z1, z2, Nat.reduceLT, Int.reduceGT, Int.reduceBEq, Int.reduceBNe, Int.cast_ofNat_Int, Int.natCast_zero, w1, w2, w3, ne1, r0, r6, hg0, hg1, hs0, hs1, one_le_maxLen, m2, List.length_cons, List.length_nil]
  refine aFlipOr_turnG rfl ⟨rfl, rfl, rfl⟩ ⟨rfl, rfl, rfl⟩ rfl hSo ?_
  simp only [go_sem, z1, z2, Nat.reduceLT, Int.reduceGT, Int.reduceBEq, Int.reduceBNe, Int.cast_ofNat_Int, Int.natCast_zero, w1, w2, w3, ne1, r0, r6, hg0, hg1, hs0, hs1, one_le_maxLen, m2, List.length_cons, List.length_nil, AS.flip, flipT, flipB, flipSV, flipSC]
  refine aFlipOr_ops ?_
  simp only [go_sem, z1, z2, Nat.reduceLT, Int.reduceGT, Int.reduceBEq, Int.reduceBNe, Int.cast_ofNat_Int, Int.natCast_zero, w1, w2, w3, ne1, r0, r6, hg0, hg1, hs0, hs1, one_le_maxLen, m2, List.length_cons, List.length_nil]
  refine ⟨3, ?_⟩
  rw [aLoop_succ]
  simp only [go_sem, z1, z2, Nat.reduceLT, Int.reduceGT, Int.reduceBEq, Int.reduceBNe, Int.cast_ofNat_Int, Int.natCast_zero, w1, w2, w3, ne1, r0, r6, hg0, hg1, hs0, hs1, one_le_maxLen, m2, List.length_cons, List.length_nil]
  repeat (refine ⟨by kernel_rfl, ?_⟩; try simp only [go_sem, z1, z2, Nat.reduceLT, Int.reduceGT, Int.reduceBEq, Int.reduceBNe, Int.cast_ofNat_Int, Int.natCast_zero, w1, w2, w3, ne1, r0, r6, hg0, hg1, hs0, hs1, one_le_maxLen, m2, List.length_cons, List.length_nil])
  refine aCall_intro hU ?_
  simp only [go_sem, z1, z2, Nat.reduceLT, Int.reduceGT, Int.reduceBEq, Int.reduceBNe, Int.cast_ofNat_Int, Int.natCast_zero, w1, w2, w3, ne1, r0, r6, hg0, hg1, hs0, hs1, one_le_maxLen, m2, List.length_cons, List.length_nil]
  repeat (refine ⟨by kernel_rfl, ?_⟩; try simp only [go_sem, z1, z2, Nat.reduceLT, Int.reduceGT, Int.reduceBEq, Int.reduceBNe, Int.cast_ofNat_Int, Int.natCast_zero, w1, w2, w3, ne1, r0, r6, hg0, hg1, hs0, hs1, one_le_maxLen, m2, List.length_cons, List.length_nil])
  refine aFlipOr_ops ?_
  simp only [go_sem, z1, z2, Nat.reduceLT, Int.reduceGT, Int.reduceBEq, Int.reduceBNe, Int.cast_ofNat_Int, Int.natCast_zero, w1, w2, w3, ne1, r0, r6, hg0, hg1, hs0, hs1, one_le_maxLen, m2, List.length_cons, List.length_nil]
  refine ⟨2, ?_⟩
  rw [aLoop_succ]
  simp only [go_sem, z1, z2, Nat.reduceLT, Int.reduceGT, Int.reduceBEq, Int.reduceBNe, Int.cast_ofNat_Int, Int.natCast_zero, w1, w2, w3, ne1, r0, r6, hg0, hg1, hs0, hs1, one_le_maxLen, m2, List.length_cons, List.length_nil]
  rw [aLoop_succ]
  simp only [go_sem, z1, z2, Nat.reduceLT, Int.reduceGT, Int.reduceBEq, Int.reduceBNe, Int.cast_ofNat_Int, Int.natCast_zero, w1, w2, w3, ne1, r0, r6, hg0, hg1, hs0, hs1, one_le_maxLen, m2, List.length_cons, List.length_nil]
  refine aCall_intro hAr ?_
  simp only [go_sem, z1, z2, Nat.reduceLT, Int.reduceGT, Int.reduceBEq, Int.reduceBNe, Int.cast_ofNat_Int, Int.natCast_zero, w1, w2, w3, ne1, r0, r6, hg0, hg1, hs0, hs1, one_le_maxLen, m2, List.length_cons, List.length_nil]
  refine aCall_intro (Spec.lazy 9 hV hbt rfl) ?_
  simp only [go_sem, z1, z2, Nat.reduceLT, Int.reduceGT, Int.reduceBEq, Int.reduceBNe, Int.cast_ofNat_Int, Int.natCast_zero, w1, w2, w3, ne1, r0, r6, hg0, hg1, hs0, hs1, one_le_maxLen, m2, List.length_cons, List.length_nil]
  refine ⟨3, ?_⟩
  rw [aLoop_succ]
  simp only [go_sem, z1, z2, Nat.reduceLT, Int.reduceGT, Int.reduceBEq, Int.reduceBNe, Int.cast_ofNat_Int, Int.natCast_zero, w1, w2, w3, ne1, r0, r6, hg0, hg1, hs0, hs1, one_le_maxLen, m2, List.length_cons, List.length_nil]
  refine aCall_intro hN1 ?_
  simp only [go_sem, z1, z2, Nat.reduceLT, Int.reduceGT, Int.reduceBEq, Int.reduceBNe, Int.cast_ofNat_Int, Int.natCast_zero, w1, w2, w3, ne1, r0, r6, hg0, hg1, hs0, hs1, one_le_maxLen, m2, List.length_cons, List.length_nil]
  rw [aLoop_succ]
  simp only [go_sem, z1, z2, Nat.reduceLT, Int.reduceGT, Int.reduceBEq, Int.reduceBNe, Int.cast_ofNat_Int, Int.natCast_zero, w1, w2, w3, ne1, r0, r6, hg0, hg1, hs0, hs1, one_le_maxLen, m2, List.length_cons, List.length_nil]
  refine aCall_intro hN2 ?_
  simp only [go_sem, z1, z2, Nat.reduceLT, Int.reduceGT, Int.reduceBEq, Int.reduceBNe, Int.cast_ofNat_Int, Int.natCast_zero, w1, w2, w3, ne1, r0, r6, hg0, hg1, hs0, hs1, one_le_maxLen, m2, List.length_cons, List.length_nil]
  rw [aLoop_succ]
  simp only [go_sem, z1, z2, Nat.reduceLT, Int.reduceGT, Int.reduceBEq, Int.reduceBNe, Int.cast_ofNat_Int, Int.natCast_zero, w1, w2, w3, ne1, r0, r6, hg0, hg1, hs0, hs1, one_le_maxLen, m2, List.length_cons, List.length_nil]
  refine aCall_intro (Spec.lazy 9 hV hbt rfl) ?_
  simp only [go_sem, z1, z2, Nat.reduceLT, Int.reduceGT, Int.reduceBEq, Int.reduceBNe, Int.cast_ofNat_Int, Int.natCast_zero, w1, w2, w3, ne1, r0, r6, hg0, hg1, hs0, hs1, one_le_maxLen, m2, List.length_cons, List.length_nil]
  refine aFlipOr_ops ?_
  simp only [go_sem, z1, z2, Nat.reduceLT, Int.reduceGT, Int.reduceBEq, Int.reduceBNe, Int.cast_ofNat_Int, Int.natCast_zero, w1, w2, w3, ne1, r0, r6, hg0, hg1, hs0, hs1, one_le_maxLen, m2, List.length_cons, List.length_nil]
  rfl
end Go.Abs.Kon
