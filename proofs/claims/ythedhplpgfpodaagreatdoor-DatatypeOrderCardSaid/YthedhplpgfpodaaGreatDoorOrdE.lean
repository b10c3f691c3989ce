/- The order of constructors: Make with more parameters. -/
import Derived.Test.YthedhplpgfpodaaGreatDoorOrdC
set_option linter.unusedSimpArgs false
set_option linter.unusedVariables false
namespace Go.Abs.Kon
open Go Go.Proofs Go.Abs
set_option maxRecDepth 100000
set_option maxHeartbeats 8000000

theorem Make_p3 (l : List CtT) (h0 : 0 < l.length) (hl : l.length ≤ 10) (hd : ∀ x ∈ l, okD x.2 ∧ sizeF x.2 ≤ 20000) (hb : l.any badCt = false) : Spec Tryz.prog 16 [ii 3, pp (.slice (l.map encCt))] [] (.tuple [encC (mkS 3 (sortCt l)).1, .int .i64 (mkS 3 (sortCt l)).2]) [] := by
  have hA := Make1_any l (fun x hx => ⟨by have := (hd x hx).2; omega, (hd x hx).1.1⟩)
  rw [hb] at hA
  have hSo := SortFunc_turn l h0 (by omega)
  have hsl := sortCt_length l h0
  obtain ⟨x0, l', rfl⟩ : ∃ x0 l', l = x0 :: l' := by
    cases l with
    | nil => simp at h0
    | cons a r => exact ⟨a, r, rfl⟩
  have hCl := CloneCt_spec x0 l' (by simp at hl; omega)
  have hF := mk_facts 3 (by decide) (x0 :: l') hl hd hb
  generalize hs : sortCt (x0 :: l') = s at hSo hsl hF ⊢
  clear hs hb hd
  have hll : ((x0 :: l').map encCt).length = l'.length + 1 := by simp
  generalize (x0 :: l').map encCt = L at hA hCl hSo hll ⊢
  have hsl2 : s.length ≤ 10 := by rw [hsl]; exact hl
  have hs0 : 0 < s.length := by rw [hsl]; simp
  have hLen0 : (L.length == 0) = false := by rw [hll]; simp
  have hL0 : ((L.length : Int) == 0) = false := by rw [hll]; exact beq_false_of_ne (by omega)
  have hL1 : decide ((L.length : Int) > 1000) = false := by
    rw [hll]; simp at hl
    exact decide_eq_false (by omega)
  clear hl h0 hsl hll hLen0
  obtain ⟨hN, hV1, hV2⟩ := hF
  have hU : Spec Tryz.prog 61 [] [] (.agg [.int .i64 7, .int .i64 0, .str ByteArray.empty, .slice [], .slice [], .slice []]) [] := Unit_spec
  have hAr : Spec Tryz.prog 62 [ii 3] [] (.tuple [.agg [.slice ((arL (arK 3)).map encK)], .int .i64 0]) [] := kArity_spec 3 (by decide)
  have hbt : ∀ b : Bool, ∀ I I' v, Rep I (.bool b) v → Rep I' (.bool b) v := fun b I I' v h => by rw [Rep] at h ⊢; exact h
  have w1 : IntKind.i64.wrap (0 + 1) = 1 := by decide
  have w2 : IntKind.i64.wrap (1 + 1) = 2 := by decide
  have w3 : IntKind.i64.wrap (2 + 1) = 3 := by decide
  have w4 : IntKind.i64.wrap (3 + 1) = 4 := by decide
  have z6 : ((0 : Nat) < 6) = True := eq_true (by decide)
  have z7 : ((0 : Nat) < 7) = True := eq_true (by decide)
  generalize hres : mkS 3 s = res
  obtain ⟨r1, r2⟩ := res
  rw [mkS] at hres
  refine wk (rv := [.cell 4 28, .tmp 5]) annMkG 134 Tryz.func16 ?_
  simp only [go_sem, hL0, hL1, Int.reduceLT, Int.reduceGT]
  refine aCall_intro hA ?_
  simp only [go_sem]
  refine aCallX_intro hCl ?_
  simp only [go_sem]
  refine aFlipOr_turnG rfl ⟨rfl, rfl, rfl⟩ ⟨rfl, rfl, rfl⟩ rfl hSo ?_
  simp only [go_sem, AS.flip, flipT, flipB, flipSV, flipSC]
  refine aFlipOr_ops ?_
  simp only [go_sem, z6, z7, List.length_map]
  refine aLoop_list (α := CtT) (β := List CtT × Option CtT) (fun rest b => ⟨[(4, .one (.ptr (.loc 4) 0)), (46, ii b.1.length), (6, .one (.ptr (.loc 6) 0)), (1, pp (.slice (s.map encCt))), (44, pp (.slice (s.map encCt))), (0, ii 3), (45, ii s.length)], [(.loc 4, zcx), (.loc 6, ⟨.agg 6, .agg [.pv (.int .i64 8), .pv (.int .i64 0), .pv (.str ByteArray.empty), .nilS, accE 152 .one ((b.1.map (·.1)).map .str), accX 162 (.agg 6) ((b.1.map argOf).map encC)]⟩)], []⟩) (fun rest b => s = b.1 ++ rest ∧ (∀ y, b.2 = some y → ∃ q, b.1 = q ++ [y]) ∧ (b.2 = none → b.1 = []) ∧ dupF s = dupF (b.2.toList ++ rest)) ?_ ?_ s ([], none) _ ?_ ⟨rfl, fun y h => (by cases h), fun _ => rfl, rfl⟩
  · rintro ⟨pre, last⟩ ⟨h4, h5, h6, h7⟩ K
    simp only [List.append_nil] at h4 h5 h6 h7
    subst h4
    have hdup : dupF s = false := by
      rw [h7]
      cases last <;> rfl
    rw [if_neg (by rw [hdup]; decide)] at hres
    clear h5 h6 h7 hdup
    obtain ⟨y0, s', rfl⟩ : ∃ y0 s', s = y0 :: s' := by
      cases s with
      | nil => simp at hs0
      | cons a r => exact ⟨a, r, rfl⟩
    clear hs0 hCl hSo hA hL0 hL1 hU
    have hsl3 : s'.length + 1 ≤ 10 := by simpa using hsl2
    have hlt9 : decide (((s'.length + 1 : Nat) : Int) < ((s'.length + 1 : Nat) : Int)) = false := decide_eq_false (Int.lt_irrefl _)
    simp only [go_sem, zcx, accE_cons, accX_cons, z6, z7, hsl3, Nat.reduceLT, List.map_cons, List.length_cons, List.length_map, lt_false (Int.le_refl _)]
    refine aFlipOr_ops ?_
    simp only [go_sem, zcx, accE_cons, accX_cons, z6, z7, hsl3, Nat.reduceLT, List.map_cons, List.length_cons, List.length_map]
    refine ⟨4, ?_⟩
    rw [aLoop_succ]
    simp only [go_sem, zcx, accE_cons, accX_cons, z6, z7, hsl3, Nat.reduceLT, List.map_cons, List.length_cons, List.length_map, Int.reduceLT, Int.natCast_zero, w1, w2, w3, w4]
    refine aFlipOr_ops ?_
    simp only [go_sem, zcx, accE_cons, accX_cons, z6, z7, hsl3, Nat.reduceLT, List.map_cons, List.length_cons, List.length_map, Int.reduceLT, Int.natCast_zero, w1, w2, w3, w4]
    rw [aLoop_succ]
    simp only [go_sem, zcx, accE_cons, accX_cons, z6, z7, hsl3, Nat.reduceLT, List.map_cons, List.length_cons, List.length_map, Int.reduceLT, Int.natCast_zero, w1, w2, w3, w4]
    refine aFlipOr_ops ?_
    simp only [go_sem, zcx, accE_cons, accX_cons, z6, z7, hsl3, Nat.reduceLT, List.map_cons, List.length_cons, List.length_map, Int.reduceLT, Int.natCast_zero, w1, w2, w3, w4]
    rw [aLoop_succ]
    simp only [go_sem, zcx, accE_cons, accX_cons, z6, z7, hsl3, Nat.reduceLT, List.map_cons, List.length_cons, List.length_map, Int.reduceLT, Int.natCast_zero, w1, w2, w3, w4]
    refine aFlipOr_ops ?_
    simp only [go_sem, zcx, accE_cons, accX_cons, z6, z7, hsl3, Nat.reduceLT, List.map_cons, List.length_cons, List.length_map, Int.reduceLT, Int.natCast_zero, w1, w2, w3, w4]
    rw [aLoop_succ]
    simp only [go_sem, zcx, accE_cons, accX_cons, z6, z7, hsl3, Nat.reduceLT, List.map_cons, List.length_cons, List.length_map, Int.reduceLT, Int.natCast_zero, w1, w2, w3, w4]
    refine aCall_intro hAr ?_
    simp only [go_sem, zcx, accE_cons, accX_cons, z6, z7, hsl3, Nat.reduceLT, List.map_cons, List.length_cons, List.length_map]
    generalize hv1 : validF (muOf 3 (sumC (y0 :: s') ((y0 :: s').map argOf))) = v1 at hV1 hres
    have hV1' : Spec Tryz.prog 46 [pp (.agg [.int .i64 13, .int .i64 0, .str ByteArray.empty, .slice ((arL (arK 3)).map encK), .slice [], .slice [.agg [.int .i64 11, .int .i64 0, .str ByteArray.empty, .slice [], .slice [], .slice [.agg [.int .i64 11, .int .i64 0, .str ByteArray.empty, .slice [], .slice [], .slice [.agg [.int .i64 11, .int .i64 0, .str ByteArray.empty, .slice [], .slice [], .slice [.agg [.int .i64 8, .int .i64 0, .str ByteArray.empty, .slice [], .slice (.str y0.1 :: (s'.map (·.1)).map .str), .slice (encC (argOf y0) :: (s'.map argOf).map encC)]]]]]]]]])] [] (.bool v1) [] := by have h := hV1; simp only [muOf, lamP, sumC, encC_mk, e0, List.map_cons, List.map_nil] at h; exact h
    refine aCall_intro (Spec.lazy 9 hV1' (hbt v1) (by simp only [lzArgs, lzSV, lzSC, lzL, List.length_cons, List.length_map, List.getElem?_cons_zero, List.getElem?_cons_succ, ↓reduceIte, Option.map_some])) ?_
    cases v1 with
    | false =>
      rw [if_pos rfl] at hres
      obtain ⟨rfl, rfl⟩ := Prod.mk.inj hres
      rw [encC_zero]
      simp only [go_sem, zcx, accE_cons, accX_cons, z6, z7, hsl3, Nat.reduceLT, List.map_cons, List.length_cons, List.length_map]
    | true =>
      rw [if_neg (by decide)] at hres
      have hN' := hN hv1
      simp only [go_sem, zcx, accE_cons, accX_cons, z6, z7, hsl3, Nat.reduceLT, List.map_cons, List.length_cons, List.length_map]
      generalize hq : nrmL ((y0 :: s').map argOf) = q at hres hV2
      refine aLoop_list (α := ConT) (β := List ConT × List ConT) (fun rest b => ⟨[(4, .one (.ptr (.loc 4) 0)), (109, ii b.1.length), (6, .one (.ptr (.loc 6) 0)), (107, .one (.rw (.loc 1000162) (s'.length + 1))), (10, .one (.ptr (.loc 10) 0)), (108, ii ((s'.length + 1 : Nat) : Int))], [(.loc 1000162, ⟨.one, .one (.rwc (.agg 6) (b.2.map encC ++ rest.map encC))⟩), (.loc 4, zcx), (.loc 6, ⟨.agg 6, .agg [.pv (.int .i64 8), .pv (.int .i64 0), .pv (.str ByteArray.empty), .nilS, .pv (.slice (.str y0.1 :: (s'.map (·.1)).map .str)), .rw (.loc 1000162) (s'.length + 1)]⟩), (.loc 10, ⟨.agg 6, .agg [.pv (.int .i64 13), .pv (.int .i64 0), .pv (.str ByteArray.empty), .pv (.slice ((arL (arK 3)).map encK)), .nilS, .sl (.loc 100)]⟩), (.loc 190, ⟨.agg 6, .agg [.pv (.int .i64 8), .pv (.int .i64 0), .pv (.str ByteArray.empty), .nilS, .own 206 .one (.str y0.1 :: (s'.map (·.1)).map .str), .rw (.loc 1000162) (s'.length + 1)]⟩), (.loc 290, ⟨.agg 6, .agg [.pv (.int .i64 11), .pv (.int .i64 0), .pv (.str ByteArray.empty), .nilS, .nilS, .sl (.loc 190)]⟩), (.loc 90, ⟨.agg 6, .agg [.pv (.int .i64 11), .pv (.int .i64 0), .pv (.str ByteArray.empty), .nilS, .nilS, .sl (.loc 290)]⟩), (.loc 100, ⟨.agg 6, .agg [.pv (.int .i64 11), .pv (.int .i64 0), .pv (.str ByteArray.empty), .nilS, .nilS, .sl (.loc 90)]⟩)], []⟩) (fun rest b => (y0 :: s').map argOf = b.1 ++ rest ∧ b.2.length = b.1.length ∧ q.2 = (nrmL rest).2 ∧ (q.2 = 0 → q.1 = b.2 ++ (nrmL rest).1)) ?_ ?_ ((y0 :: s').map argOf) ([], []) _ ?_ ⟨rfl, rfl, by rw [hq], fun _ => by rw [hq]; rfl⟩
      · rintro ⟨pre, done⟩ ⟨h4, h5, h6, h7⟩ K
        simp only [List.append_nil] at h4 h5 h6 h7
        have en0 : nrmL [] = ([], 0) := rfl
        rw [en0] at h6 h7
        simp only [List.append_nil] at h6 h7
        have hpl : pre.length = s'.length + 1 := by rw [← h4]; simp
        obtain ⟨q1, q2⟩ := q
        simp only at h6 h7 hres hV2
        subst h6
        obtain rfl := h7 rfl
        rw [if_neg (fun h => h rfl)] at hres
        obtain ⟨d0, ds, rfl⟩ : ∃ d0 ds, q1 = d0 :: ds := by
          cases q1 with
          | nil => simp at h5; omega
          | cons a r => exact ⟨a, r, rfl⟩
        have hdl : ds.length = s'.length := by simp at h5; omega
        have hV2' := hV2 hv1 rfl
        generalize hv2 : validF (muOf 3 (sumC (y0 :: s') (d0 :: ds))) = v2 at hV2' hres
        have hV3 : Spec Tryz.prog 46 [pp (.agg [.int .i64 13, .int .i64 0, .str ByteArray.empty, .slice ((arL (arK 3)).map encK), .slice [], .slice [.agg [.int .i64 11, .int .i64 0, .str ByteArray.empty, .slice [], .slice [], .slice [.agg [.int .i64 11, .int .i64 0, .str ByteArray.empty, .slice [], .slice [], .slice [.agg [.int .i64 11, .int .i64 0, .str ByteArray.empty, .slice [], .slice [], .slice [.agg [.int .i64 8, .int .i64 0, .str ByteArray.empty, .slice [], .slice (.str y0.1 :: (s'.map (·.1)).map .str), .slice (encC d0 :: ds.map encC)]]]]]]]]])] [] (.bool v2) [] := by have h := hV2'; simp only [muOf, lamP, sumC, encC_mk, e0, List.map_cons, List.map_nil] at h; exact h
        simp only [go_sem, zcx, accE_cons, accX_cons, z6, z7, hsl3, Nat.reduceLT, List.map_cons, List.length_cons, List.length_map, List.length_append, Int.toNat_natCast, Int.natCast_nonneg, hpl, lt_false (Int.le_refl _), List.map_nil, List.append_nil]
        have hlz : ((encC d0 :: ds.map encC).length) = s'.length + 1 := by simp [hdl]
        refine aCall_intro (Spec.lazy 9 hV3 (hbt v2) (by simp only [lzArgs, lzSV, lzSC, lzL, List.length_cons, List.length_map, hdl, List.getElem?_cons_zero, List.getElem?_cons_succ, ↓reduceIte, Option.map_some])) ?_
        cases v2 with
        | false =>
          rw [if_pos rfl] at hres
          obtain ⟨rfl, rfl⟩ := Prod.mk.inj hres
          rw [encC_zero]
          simp only [go_sem, zcx, accE_cons, accX_cons, z6, z7, hsl3, Nat.reduceLT, List.map_cons, List.length_cons, List.length_map, List.length_append, Int.toNat_natCast, Int.natCast_nonneg, hdl]
        | true =>
          rw [if_neg (by decide)] at hres
          obtain ⟨rfl, rfl⟩ := Prod.mk.inj hres
          simp only [go_sem, zcx, accE_cons, accX_cons, z6, z7, hsl3, Nat.reduceLT, List.map_cons, List.length_cons, List.length_map, List.length_append, Int.toNat_natCast, Int.natCast_nonneg, hdl]
          refine aFlipOr_ops ?_
          simp only [go_sem, zcx, accE_cons, accX_cons, z6, z7, hsl3, Nat.reduceLT, List.map_cons, List.length_cons, List.length_map, List.length_append, Int.toNat_natCast, Int.natCast_nonneg, hdl, List.length_cons]
          simp only [muOf, lamP, sumC, encC_mk, e0, List.map_cons, List.map_nil]
      · rintro x rest ⟨pre, done⟩ ⟨h4, h5, h6, h7⟩ K hK
        simp only at h4 h5 h6 h7
        have hpl : pre.length < s'.length + 1 := by
          have := congrArg List.length h4
          simp at this
          omega
        have hx : (done.map encC ++ encC x :: rest.map encC)[pre.length]? = some (encC x) := by rw [← h5]; simp
        have hdd : decide ((pre.length : Int) < ((s'.length + 1 : Nat) : Int)) = true := decide_eq_true (by omega)
        have hdi : (pre.length : Int) < ((s'.length + 1 : Nat) : Int) := by omega
        have w5 : IntKind.i64.wrap ((pre.length : Int) + 1) = ((pre ++ [x]).length : Int) := by rw [wrap_id (by omega) (by omega)]; simp
        have hxs := encC_sz x
        have hS := hN' x (by rw [h4]; simp)
        rw [nrmL] at h6 h7
        generalize nrm x = y at hS h6 h7
        obtain ⟨y1, y2⟩ := y
        simp only at hS h6 h7
        have hys := encC_sz y1
        have hrl : (done.map encC ++ encC x :: rest.map encC).length = s'.length + 1 := by
          have := congrArg List.length h4
          simp at this ⊢
          omega
        have hset : (done.map encC ++ encC x :: rest.map encC).set pre.length (encC y1) = (done ++ [y1]).map encC ++ rest.map encC := by
          rw [← h5, List.set_append_right _ _ (by simp)]
          simp
        have hlen2 : pre.length < (done.map encC ++ encC x :: rest.map encC).length := by rw [hrl]; exact hpl
        simp only [List.map_cons]
        generalize hrow : done.map encC ++ encC x :: rest.map encC = row at hx hrl hset hlen2 ⊢
        cases hy : (y2 != 0) with
        | true =>
          have hy' : y2 ≠ 0 := by simpa using hy
          rw [if_neg hy'] at h6 h7
          simp only at h6
          rw [if_pos (by rw [h6]; exact hy')] at hres
          obtain ⟨rfl, rfl⟩ := Prod.mk.inj hres
          rw [h6, encC_zero]
          simp only [go_sem, zcx, accE_cons, accX_cons, z6, z7, hsl3, Nat.reduceLT, List.map_cons, List.length_cons, List.length_map, List.length_append, Int.toNat_natCast, Int.natCast_nonneg, hdd, hdi, hx, hxs]
          refine aCall_intro hS ?_
          simp only [go_sem, hys, hy]
        | false =>
          have hy' : y2 = 0 := by simpa using hy
          rw [if_pos hy'] at h6 h7
          simp only at h6 h7
          simp only [go_sem, zcx, accE_cons, accX_cons, z6, z7, hsl3, Nat.reduceLT, List.map_cons, List.length_cons, List.length_map, List.length_append, Int.toNat_natCast, Int.natCast_nonneg, hdd, hdi, hx, hxs]
          refine aCall_intro hS ?_
          simp only [go_sem, zcx, accE_cons, accX_cons, z6, z7, hsl3, Nat.reduceLT, List.map_cons, List.length_cons, List.length_map, List.length_append, Int.toNat_natCast, Int.natCast_nonneg, hys, hy, hdd, hdi, hx, w5, hlen2, hset]
          refine hK (pre ++ [x], done ++ [y1]) _ ?_ ⟨by simpa using h4, by simp [h5], h6, fun h => by rw [h7 h]; simp⟩
          simp only [go_sem, zcx, accE_cons, accX_cons, z6, z7, hsl3, Nat.reduceLT, List.map_cons, List.length_cons, List.length_map, List.length_append, Int.toNat_natCast, Int.natCast_nonneg]
      · simp only [go_sem, zcx, accE_cons, accX_cons, z6, z7, hsl3, Nat.reduceLT, List.map_cons, List.length_cons, List.length_map, List.length_append, Int.toNat_natCast, Int.natCast_nonneg, List.length_nil, Int.natCast_zero, List.map_nil, List.nil_append]
  · rintro x rest ⟨pre, last⟩ ⟨h4, h5, h6, h7⟩ K hK
    simp only at h4 h5 h6 h7
    have hx : (s.map encCt)[pre.length]? = some (encCt x) := by simp [h4]
    have hpl : pre.length < s.length := by rw [h4]; simp
    have hdd : decide ((pre.length : Int) < s.length) = true := decide_eq_true (by omega)
    have w5 : IntKind.i64.wrap ((pre.length : Int) + 1) = ((pre ++ [x]).length : Int) := by rw [wrap_id (by omega) (by omega)]; simp
    have hb1 : (pre.length + 1) * 104 ≤ 140737488355328 := by omega
    have hb2 : pre.length + 1 ≤ maxLen := by rw [maxLen_eq]; omega
    have hb3 : (pre.length + 1) * 16 ≤ 140737488355328 := by omega
    have hcx := encCt_sz x
    have ex : encCt x = .agg [.str x.1, .int .i64 x.2.op, .int .i64 x.2.n, .str x.2.s, .slice (x.2.k.map encK), .slice (x.2.names.map .str), .slice (x.2.l.map encC)] := rfl
    rw [ex] at hx hcx
    have hSt := fun s' hs => hK (pre ++ [x], some x) s' hs
    clear hK hV1 hV2 hN hAr
    cases last with
    | none =>
      obtain rfl := h6 rfl
      have g4 : s = [x] ++ rest := by simpa using h4
      have hJ := fun s' hs => hSt s' hs ⟨by simpa using h4, fun y h => ⟨[], by cases h; rfl⟩, (fun h => by cases h), h7⟩
      simp only [List.length_nil, Int.natCast_zero] at hdd hx
      have d0 : decide ((0 : Int) > 0) = false := rfl
      by_cases ho : x.2.op = 0
      · have o1 : (x.2.op == 0) = true := by simpa using ho
        have ea : encC (argOf x) = .agg [.int .i64 7, .int .i64 0, .str ByteArray.empty, .slice [], .slice [], .slice []] := by rw [argOf, if_pos ho]; rfl
        simp only [go_sem, zcx, accE_nil, accX_nil, hdd, d0, hx, hcx, o1, List.map_nil, List.length_nil, Int.natCast_zero]
        refine aCall_intro hU ?_
        simp only [go_sem, zcx, hcx, w1, one_le_maxLen, List.length_nil]
        iterate 3 (try (refine ⟨by kernel_rfl, ?_⟩; try simp only [go_sem, zcx, hcx, w1, one_le_maxLen, List.length_nil]))
        refine hJ _ ?_
        simp only [go_sem, zcx, accE_cons, accX_cons, List.map_append, List.map_cons, List.map_nil, List.nil_append, ea, List.length_cons, List.length_nil, Nat.zero_add, Int.natCast_one, Int.cast_ofNat_Int]
      · have o1 : (x.2.op == 0) = false := by simpa using ho
        have ea : encC (argOf x) = .agg [.int .i64 x.2.op, .int .i64 x.2.n, .str x.2.s, .slice (x.2.k.map encK), .slice (x.2.names.map .str), .slice (x.2.l.map encC)] := by rw [argOf, if_neg ho]; exact encC_cells _
        simp only [go_sem, zcx, accE_nil, accX_nil, hdd, d0, hx, hcx, o1, w1, one_le_maxLen, List.map_nil, List.length_nil, Int.natCast_zero]
        iterate 3 (try (refine ⟨by kernel_rfl, ?_⟩; try simp only [go_sem, zcx, hcx, w1, one_le_maxLen, List.length_nil]))
        refine hJ _ ?_
        simp only [go_sem, zcx, accE_cons, accX_cons, List.map_append, List.map_cons, List.map_nil, List.nil_append, ea, List.length_cons, List.length_nil, Nat.zero_add, Int.natCast_one, Int.cast_ofNat_Int]
    | some y =>
      obtain ⟨q, rfl⟩ := h5 y rfl
      have h7' : dupF s = ((y.1.toList == x.1.toList) || dupF (x :: rest)) := by rw [h7]; rfl
      have hq : (q ++ [y]).length = q.length + 1 := by simp
      have w6 : IntKind.i64.wrap (((q.length + 1 : Nat) : Int) - 1) = (q.length : Int) := by rw [wrap_id (by omega) (by omega)]; omega
      have d0 : decide (((q.length + 1 : Nat) : Int) > 0) = true := decide_eq_true (by omega)
      have hy : (s.map encCt)[q.length]? = some (encCt y) := by simp [h4]
      have ey : encCt y = .agg [.str y.1, .int .i64 y.2.op, .int .i64 y.2.n, .str y.2.s, .slice (y.2.k.map encK), .slice (y.2.names.map .str), .slice (y.2.l.map encC)] := rfl
      have hcy := encCt_sz y
      rw [ey] at hy hcy
      rw [hq] at hpl hdd w5 hb1 hb2 hb3 hx
      obtain ⟨c0, cs, hcs⟩ : ∃ c0 cs, q ++ [y] = c0 :: cs := by
        cases q with
        | nil => exact ⟨y, [], rfl⟩
        | cons a r => exact ⟨a, r ++ [y], rfl⟩
      have hcl : cs.length + 1 = q.length + 1 := by rw [← hq, hcs]; simp
      cases he : (y.1.toList == x.1.toList) with
      | true =>
        rw [he, Bool.true_or] at h7'
        rw [if_pos h7'] at hres
        obtain ⟨rfl, rfl⟩ := Prod.mk.inj hres
        rw [encC_zero]
        simp only [hq]
        simp only [hcs, List.map_cons]
        simp only [go_sem, zcx, accE_cons, accX_cons, hdd, d0, w6, hx, hcx, hy, hcy, he, Int.toNat_natCast, Int.natCast_nonneg]
      | false =>
        rw [he, Bool.false_or] at h7'
        have hJ := fun s' hs => hSt s' hs ⟨by simpa using h4, fun y h => ⟨_, by cases h; rfl⟩, (fun h => by cases h), h7'⟩
        by_cases ho : x.2.op = 0
        · have o1 : (x.2.op == 0) = true := by simpa using ho
          have ea : encC (argOf x) = .agg [.int .i64 7, .int .i64 0, .str ByteArray.empty, .slice [], .slice [], .slice []] := by rw [argOf, if_pos ho]; rfl
          simp only [hq]
          simp only [hcs, List.map_cons]
          simp only [go_sem, zcx, accE_cons, accX_cons, hdd, d0, w6, hx, hcx, hy, hcy, he, o1, Int.toNat_natCast, Int.natCast_nonneg]
          refine aCall_intro hU ?_
          simp only [go_sem, zcx, hcx, w5, hcl, hb1, hb2, hb3, List.length_cons, List.length_map]
          iterate 3 (try (refine ⟨by kernel_rfl, ?_⟩; try simp only [go_sem, zcx, hcx, w5, hcl, hb1, hb2, hb3, List.length_cons, List.length_map]))
          refine hJ _ ?_
          simp only [hcs, List.map_append, List.map_cons, List.map_nil, List.cons_append, ea]
          simp only [go_sem, zcx, accE_cons, accX_cons, List.map_append, List.map_cons, List.map_nil, List.cons_append, ea]
        · have o1 : (x.2.op == 0) = false := by simpa using ho
          have ea : encC (argOf x) = .agg [.int .i64 x.2.op, .int .i64 x.2.n, .str x.2.s, .slice (x.2.k.map encK), .slice (x.2.names.map .str), .slice (x.2.l.map encC)] := by rw [argOf, if_neg ho]; exact encC_cells _
          simp only [hq]
          simp only [hcs, List.map_cons]
          simp only [go_sem, zcx, accE_cons, accX_cons, hdd, d0, w6, hx, hcx, hy, hcy, he, o1, w5, hcl, hb1, hb2, hb3, Int.toNat_natCast, Int.natCast_nonneg, List.length_cons, List.length_map]
          iterate 3 (try (refine ⟨by kernel_rfl, ?_⟩; try simp only [go_sem, zcx, hcx, w5, hcl, hb1, hb2, hb3, List.length_cons, List.length_map]))
          refine hJ _ ?_
          simp only [hcs, List.map_append, List.map_cons, List.map_nil, List.cons_append, ea]
          simp only [go_sem, zcx, accE_cons, accX_cons, List.map_append, List.map_cons, List.map_nil, List.cons_append, ea]
  · simp only [go_sem, zcx, accE_nil, accX_nil, List.length_nil, Int.natCast_zero, List.map_nil]
end Go.Abs.Kon

namespace Go.Abs.Kon
open Go Go.Proofs Go.Abs
set_option maxRecDepth 100000
set_option maxHeartbeats 8000000

theorem Make_p4 (l : List CtT) (h0 : 0 < l.length) (hl : l.length ≤ 10) (hd : ∀ x ∈ l, okD x.2 ∧ sizeF x.2 ≤ 20000) (hb : l.any badCt = false) : Spec Tryz.prog 16 [ii 4, pp (.slice (l.map encCt))] [] (.tuple [encC (mkS 4 (sortCt l)).1, .int .i64 (mkS 4 (sortCt l)).2]) [] := by
  have hA := Make1_any l (fun x hx => ⟨by have := (hd x hx).2; omega, (hd x hx).1.1⟩)
  rw [hb] at hA
  have hSo := SortFunc_turn l h0 (by omega)
  have hsl := sortCt_length l h0
  obtain ⟨x0, l', rfl⟩ : ∃ x0 l', l = x0 :: l' := by
    cases l with
    | nil => simp at h0
    | cons a r => exact ⟨a, r, rfl⟩
  have hCl := CloneCt_spec x0 l' (by simp at hl; omega)
  have hF := mk_facts 4 (by decide) (x0 :: l') hl hd hb
  generalize hs : sortCt (x0 :: l') = s at hSo hsl hF ⊢
  clear hs hb hd
  have hll : ((x0 :: l').map encCt).length = l'.length + 1 := by simp
  generalize (x0 :: l').map encCt = L at hA hCl hSo hll ⊢
  have hsl2 : s.length ≤ 10 := by rw [hsl]; exact hl
  have hs0 : 0 < s.length := by rw [hsl]; simp
  have hLen0 : (L.length == 0) = false := by rw [hll]; simp
  have hL0 : ((L.length : Int) == 0) = false := by rw [hll]; exact beq_false_of_ne (by omega)
  have hL1 : decide ((L.length : Int) > 1000) = false := by
    rw [hll]; simp at hl
    exact decide_eq_false (by omega)
  clear hl h0 hsl hll hLen0
  obtain ⟨hN, hV1, hV2⟩ := hF
  have hU : Spec Tryz.prog 61 [] [] (.agg [.int .i64 7, .int .i64 0, .str ByteArray.empty, .slice [], .slice [], .slice []]) [] := Unit_spec
  have hAr : Spec Tryz.prog 62 [ii 4] [] (.tuple [.agg [.slice ((arL (arK 4)).map encK)], .int .i64 0]) [] := kArity_spec 4 (by decide)
  have hbt : ∀ b : Bool, ∀ I I' v, Rep I (.bool b) v → Rep I' (.bool b) v := fun b I I' v h => by rw [Rep] at h ⊢; exact h
  have w1 : IntKind.i64.wrap (0 + 1) = 1 := by decide
  have w2 : IntKind.i64.wrap (1 + 1) = 2 := by decide
  have w3 : IntKind.i64.wrap (2 + 1) = 3 := by decide
  have w4 : IntKind.i64.wrap (3 + 1) = 4 := by decide
  have z6 : ((0 : Nat) < 6) = True := eq_true (by decide)
  have z7 : ((0 : Nat) < 7) = True := eq_true (by decide)
  generalize hres : mkS 4 s = res
  obtain ⟨r1, r2⟩ := res
  rw [mkS] at hres
  refine wk (rv := [.cell 4 28, .tmp 5]) annMkG 134 Tryz.func16 ?_
  simp only [go_sem, hL0, hL1, Int.reduceLT, Int.reduceGT]
  refine aCall_intro hA ?_
  simp only [go_sem]
  refine aCallX_intro hCl ?_
  simp only [go_sem]
  refine aFlipOr_turnG rfl ⟨rfl, rfl, rfl⟩ ⟨rfl, rfl, rfl⟩ rfl hSo ?_
  simp only [go_sem, AS.flip, flipT, flipB, flipSV, flipSC]
  refine aFlipOr_ops ?_
  simp only [go_sem, z6, z7, List.length_map]
  refine aLoop_list (α := CtT) (β := List CtT × Option CtT) (fun rest b => ⟨[(4, .one (.ptr (.loc 4) 0)), (46, ii b.1.length), (6, .one (.ptr (.loc 6) 0)), (1, pp (.slice (s.map encCt))), (44, pp (.slice (s.map encCt))), (0, ii 4), (45, ii s.length)], [(.loc 4, zcx), (.loc 6, ⟨.agg 6, .agg [.pv (.int .i64 8), .pv (.int .i64 0), .pv (.str ByteArray.empty), .nilS, accE 152 .one ((b.1.map (·.1)).map .str), accX 162 (.agg 6) ((b.1.map argOf).map encC)]⟩)], []⟩) (fun rest b => s = b.1 ++ rest ∧ (∀ y, b.2 = some y → ∃ q, b.1 = q ++ [y]) ∧ (b.2 = none → b.1 = []) ∧ dupF s = dupF (b.2.toList ++ rest)) ?_ ?_ s ([], none) _ ?_ ⟨rfl, fun y h => (by cases h), fun _ => rfl, rfl⟩
  · rintro ⟨pre, last⟩ ⟨h4, h5, h6, h7⟩ K
    simp only [List.append_nil] at h4 h5 h6 h7
    subst h4
    have hdup : dupF s = false := by
      rw [h7]
      cases last <;> rfl
    rw [if_neg (by rw [hdup]; decide)] at hres
    clear h5 h6 h7 hdup
    obtain ⟨y0, s', rfl⟩ : ∃ y0 s', s = y0 :: s' := by
      cases s with
      | nil => simp at hs0
      | cons a r => exact ⟨a, r, rfl⟩
    clear hs0 hCl hSo hA hL0 hL1 hU
    have hsl3 : s'.length + 1 ≤ 10 := by simpa using hsl2
    have hlt9 : decide (((s'.length + 1 : Nat) : Int) < ((s'.length + 1 : Nat) : Int)) = false := decide_eq_false (Int.lt_irrefl _)
    simp only [go_sem, zcx, accE_cons, accX_cons, z6, z7, hsl3, Nat.reduceLT, List.map_cons, List.length_cons, List.length_map, lt_false (Int.le_refl _)]
    refine aFlipOr_ops ?_
    simp only [go_sem, zcx, accE_cons, accX_cons, z6, z7, hsl3, Nat.reduceLT, List.map_cons, List.length_cons, List.length_map]
    refine ⟨5, ?_⟩
    rw [aLoop_succ]
    simp only [go_sem, zcx, accE_cons, accX_cons, z6, z7, hsl3, Nat.reduceLT, List.map_cons, List.length_cons, List.length_map, Int.reduceLT, Int.natCast_zero, w1, w2, w3, w4]
    refine aFlipOr_ops ?_
    simp only [go_sem, zcx, accE_cons, accX_cons, z6, z7, hsl3, Nat.reduceLT, List.map_cons, List.length_cons, List.length_map, Int.reduceLT, Int.natCast_zero, w1, w2, w3, w4]
    rw [aLoop_succ]
    simp only [go_sem, zcx, accE_cons, accX_cons, z6, z7, hsl3, Nat.reduceLT, List.map_cons, List.length_cons, List.length_map, Int.reduceLT, Int.natCast_zero, w1, w2, w3, w4]
    refine aFlipOr_ops ?_
    simp only [go_sem, zcx, accE_cons, accX_cons, z6, z7, hsl3, Nat.reduceLT, List.map_cons, List.length_cons, List.length_map, Int.reduceLT, Int.natCast_zero, w1, w2, w3, w4]
    rw [aLoop_succ]
    simp only [go_sem, zcx, accE_cons, accX_cons, z6, z7, hsl3, Nat.reduceLT, List.map_cons, List.length_cons, List.length_map, Int.reduceLT, Int.natCast_zero, w1, w2, w3, w4]
    refine aFlipOr_ops ?_
    simp only [go_sem, zcx, accE_cons, accX_cons, z6, z7, hsl3, Nat.reduceLT, List.map_cons, List.length_cons, List.length_map, Int.reduceLT, Int.natCast_zero, w1, w2, w3, w4]
    rw [aLoop_succ]
    simp only [go_sem, zcx, accE_cons, accX_cons, z6, z7, hsl3, Nat.reduceLT, List.map_cons, List.length_cons, List.length_map, Int.reduceLT, Int.natCast_zero, w1, w2, w3, w4]
    refine aFlipOr_ops ?_
    simp only [go_sem, zcx, accE_cons, accX_cons, z6, z7, hsl3, Nat.reduceLT, List.map_cons, List.length_cons, List.length_map, Int.reduceLT, Int.natCast_zero, w1, w2, w3, w4]
    rw [aLoop_succ]
    simp only [go_sem, zcx, accE_cons, accX_cons, z6, z7, hsl3, Nat.reduceLT, List.map_cons, List.length_cons, List.length_map, Int.reduceLT, Int.natCast_zero, w1, w2, w3, w4]
    refine aCall_intro hAr ?_
    simp only [go_sem, zcx, accE_cons, accX_cons, z6, z7, hsl3, Nat.reduceLT, List.map_cons, List.length_cons, List.length_map]
    generalize hv1 : validF (muOf 4 (sumC (y0 :: s') ((y0 :: s').map argOf))) = v1 at hV1 hres
    have hV1' : Spec Tryz.prog 46 [pp (.agg [.int .i64 13, .int .i64 0, .str ByteArray.empty, .slice ((arL (arK 4)).map encK), .slice [], .slice [.agg [.int .i64 11, .int .i64 0, .str ByteArray.empty, .slice [], .slice [], .slice [.agg [.int .i64 11, .int .i64 0, .str ByteArray.empty, .slice [], .slice [], .slice [.agg [.int .i64 11, .int .i64 0, .str ByteArray.empty, .slice [], .slice [], .slice [.agg [.int .i64 11, .int .i64 0, .str ByteArray.empty, .slice [], .slice [], .slice [.agg [.int .i64 8, .int .i64 0, .str ByteArray.empty, .slice [], .slice (.str y0.1 :: (s'.map (·.1)).map .str), .slice (encC (argOf y0) :: (s'.map argOf).map encC)]]]]]]]]]]])] [] (.bool v1) [] := by have h := hV1; simp only [muOf, lamP, sumC, encC_mk, e0, List.map_cons, List.map_nil] at h; exact h
    refine aCall_intro (Spec.lazy 9 hV1' (hbt v1) (by simp only [lzArgs, lzSV, lzSC, lzL, List.length_cons, List.length_map, List.getElem?_cons_zero, List.getElem?_cons_succ, ↓reduceIte, Option.map_some])) ?_
    cases v1 with
    | false =>
      rw [if_pos rfl] at hres
      obtain ⟨rfl, rfl⟩ := Prod.mk.inj hres
      rw [encC_zero]
      simp only [go_sem, zcx, accE_cons, accX_cons, z6, z7, hsl3, Nat.reduceLT, List.map_cons, List.length_cons, List.length_map]
    | true =>
      rw [if_neg (by decide)] at hres
      have hN' := hN hv1
      simp only [go_sem, zcx, accE_cons, accX_cons, z6, z7, hsl3, Nat.reduceLT, List.map_cons, List.length_cons, List.length_map]
      generalize hq : nrmL ((y0 :: s').map argOf) = q at hres hV2
      refine aLoop_list (α := ConT) (β := List ConT × List ConT) (fun rest b => ⟨[(4, .one (.ptr (.loc 4) 0)), (109, ii b.1.length), (6, .one (.ptr (.loc 6) 0)), (107, .one (.rw (.loc 1000162) (s'.length + 1))), (10, .one (.ptr (.loc 10) 0)), (108, ii ((s'.length + 1 : Nat) : Int))], [(.loc 1000162, ⟨.one, .one (.rwc (.agg 6) (b.2.map encC ++ rest.map encC))⟩), (.loc 4, zcx), (.loc 6, ⟨.agg 6, .agg [.pv (.int .i64 8), .pv (.int .i64 0), .pv (.str ByteArray.empty), .nilS, .pv (.slice (.str y0.1 :: (s'.map (·.1)).map .str)), .rw (.loc 1000162) (s'.length + 1)]⟩), (.loc 10, ⟨.agg 6, .agg [.pv (.int .i64 13), .pv (.int .i64 0), .pv (.str ByteArray.empty), .pv (.slice ((arL (arK 4)).map encK)), .nilS, .sl (.loc 100)]⟩), (.loc 190, ⟨.agg 6, .agg [.pv (.int .i64 8), .pv (.int .i64 0), .pv (.str ByteArray.empty), .nilS, .own 206 .one (.str y0.1 :: (s'.map (·.1)).map .str), .rw (.loc 1000162) (s'.length + 1)]⟩), (.loc 290, ⟨.agg 6, .agg [.pv (.int .i64 11), .pv (.int .i64 0), .pv (.str ByteArray.empty), .nilS, .nilS, .sl (.loc 190)]⟩), (.loc 390, ⟨.agg 6, .agg [.pv (.int .i64 11), .pv (.int .i64 0), .pv (.str ByteArray.empty), .nilS, .nilS, .sl (.loc 290)]⟩), (.loc 90, ⟨.agg 6, .agg [.pv (.int .i64 11), .pv (.int .i64 0), .pv (.str ByteArray.empty), .nilS, .nilS, .sl (.loc 390)]⟩), (.loc 100, ⟨.agg 6, .agg [.pv (.int .i64 11), .pv (.int .i64 0), .pv (.str ByteArray.empty), .nilS, .nilS, .sl (.loc 90)]⟩)], []⟩) (fun rest b => (y0 :: s').map argOf = b.1 ++ rest ∧ b.2.length = b.1.length ∧ q.2 = (nrmL rest).2 ∧ (q.2 = 0 → q.1 = b.2 ++ (nrmL rest).1)) ?_ ?_ ((y0 :: s').map argOf) ([], []) _ ?_ ⟨rfl, rfl, by rw [hq], fun _ => by rw [hq]; rfl⟩
      · rintro ⟨pre, done⟩ ⟨h4, h5, h6, h7⟩ K
        simp only [List.append_nil] at h4 h5 h6 h7
        have en0 : nrmL [] = ([], 0) := rfl
        rw [en0] at h6 h7
        simp only [List.append_nil] at h6 h7
        have hpl : pre.length = s'.length + 1 := by rw [← h4]; simp
        obtain ⟨q1, q2⟩ := q
        simp only at h6 h7 hres hV2
        subst h6
        obtain rfl := h7 rfl
        rw [if_neg (fun h => h rfl)] at hres
        obtain ⟨d0, ds, rfl⟩ : ∃ d0 ds, q1 = d0 :: ds := by
          cases q1 with
          | nil => simp at h5; omega
          | cons a r => exact ⟨a, r, rfl⟩
        have hdl : ds.length = s'.length := by simp at h5; omega
        have hV2' := hV2 hv1 rfl
        generalize hv2 : validF (muOf 4 (sumC (y0 :: s') (d0 :: ds))) = v2 at hV2' hres
        have hV3 : Spec Tryz.prog 46 [pp (.agg [.int .i64 13, .int .i64 0, .str ByteArray.empty, .slice ((arL (arK 4)).map encK), .slice [], .slice [.agg [.int .i64 11, .int .i64 0, .str ByteArray.empty, .slice [], .slice [], .slice [.agg [.int .i64 11, .int .i64 0, .str ByteArray.empty, .slice [], .slice [], .slice [.agg [.int .i64 11, .int .i64 0, .str ByteArray.empty, .slice [], .slice [], .slice [.agg [.int .i64 11, .int .i64 0, .str ByteArray.empty, .slice [], .slice [], .slice [.agg [.int .i64 8, .int .i64 0, .str ByteArray.empty, .slice [], .slice (.str y0.1 :: (s'.map (·.1)).map .str), .slice (encC d0 :: ds.map encC)]]]]]]]]]]])] [] (.bool v2) [] := by have h := hV2'; simp only [muOf, lamP, sumC, encC_mk, e0, List.map_cons, List.map_nil] at h; exact h
        simp only [go_sem, zcx, accE_cons, accX_cons, z6, z7, hsl3, Nat.reduceLT, List.map_cons, List.length_cons, List.length_map, List.length_append, Int.toNat_natCast, Int.natCast_nonneg, hpl, lt_false (Int.le_refl _), List.map_nil, List.append_nil]
        have hlz : ((encC d0 :: ds.map encC).length) = s'.length + 1 := by simp [hdl]
        refine aCall_intro (Spec.lazy 9 hV3 (hbt v2) (by simp only [lzArgs, lzSV, lzSC, lzL, List.length_cons, List.length_map, hdl, List.getElem?_cons_zero, List.getElem?_cons_succ, ↓reduceIte, Option.map_some])) ?_
        cases v2 with
        | false =>
          rw [if_pos rfl] at hres
          obtain ⟨rfl, rfl⟩ := Prod.mk.inj hres
          rw [encC_zero]
          simp only [go_sem, zcx, accE_cons, accX_cons, z6, z7, hsl3, Nat.reduceLT, List.map_cons, List.length_cons, List.length_map, List.length_append, Int.toNat_natCast, Int.natCast_nonneg, hdl]
        | true =>
          rw [if_neg (by decide)] at hres
          obtain ⟨rfl, rfl⟩ := Prod.mk.inj hres
          simp only [go_sem, zcx, accE_cons, accX_cons, z6, z7, hsl3, Nat.reduceLT, List.map_cons, List.length_cons, List.length_map, List.length_append, Int.toNat_natCast, Int.natCast_nonneg, hdl]
          refine aFlipOr_ops ?_
          simp only [go_sem, zcx, accE_cons, accX_cons, z6, z7, hsl3, Nat.reduceLT, List.map_cons, List.length_cons, List.length_map, List.length_append, Int.toNat_natCast, Int.natCast_nonneg, hdl, List.length_cons]
          simp only [muOf, lamP, sumC, encC_mk, e0, List.map_cons, List.map_nil]
      · rintro x rest ⟨pre, done⟩ ⟨h4, h5, h6, h7⟩ K hK
        simp only at h4 h5 h6 h7
        have hpl : pre.length < s'.length + 1 := by
          have := congrArg List.length h4
          simp at this
          omega
        have hx : (done.map encC ++ encC x :: rest.map encC)[pre.length]? = some (encC x) := by rw [← h5]; simp
        have hdd : decide ((pre.length : Int) < ((s'.length + 1 : Nat) : Int)) = true := decide_eq_true (by omega)
        have hdi : (pre.length : Int) < ((s'.length + 1 : Nat) : Int) := by omega
        have w5 : IntKind.i64.wrap ((pre.length : Int) + 1) = ((pre ++ [x]).length : Int) := by rw [wrap_id (by omega) (by omega)]; simp
        have hxs := encC_sz x
        have hS := hN' x (by rw [h4]; simp)
        rw [nrmL] at h6 h7
        generalize nrm x = y at hS h6 h7
        obtain ⟨y1, y2⟩ := y
        simp only at hS h6 h7
        have hys := encC_sz y1
        have hrl : (done.map encC ++ encC x :: rest.map encC).length = s'.length + 1 := by
          have := congrArg List.length h4
          simp at this ⊢
          omega
        have hset : (done.map encC ++ encC x :: rest.map encC).set pre.length (encC y1) = (done ++ [y1]).map encC ++ rest.map encC := by
          rw [← h5, List.set_append_right _ _ (by simp)]
          simp
        have hlen2 : pre.length < (done.map encC ++ encC x :: rest.map encC).length := by rw [hrl]; exact hpl
        simp only [List.map_cons]
        generalize hrow : done.map encC ++ encC x :: rest.map encC = row at hx hrl hset hlen2 ⊢
        cases hy : (y2 != 0) with
        | true =>
          have hy' : y2 ≠ 0 := by simpa using hy
          rw [if_neg hy'] at h6 h7
          simp only at h6
          rw [if_pos (by rw [h6]; exact hy')] at hres
          obtain ⟨rfl, rfl⟩ := Prod.mk.inj hres
          rw [h6, encC_zero]
          simp only [go_sem, zcx, accE_cons, accX_cons, z6, z7, hsl3, Nat.reduceLT, List.map_cons, List.length_cons, List.length_map, List.length_append, Int.toNat_natCast, Int.natCast_nonneg, hdd, hdi, hx, hxs]
          refine aCall_intro hS ?_
          simp only [go_sem, hys, hy]
        | false =>
          have hy' : y2 = 0 := by simpa using hy
          rw [if_pos hy'] at h6 h7
          simp only at h6 h7
          simp only [go_sem, zcx, accE_cons, accX_cons, z6, z7, hsl3, Nat.reduceLT, List.map_cons, List.length_cons, List.length_map, List.length_append, Int.toNat_natCast, Int.natCast_nonneg, hdd, hdi, hx, hxs]
          refine aCall_intro hS ?_
          simp only [go_sem, zcx, accE_cons, accX_cons, z6, z7, hsl3, Nat.reduceLT, List.map_cons, List.length_cons, List.length_map, List.length_append, Int.toNat_natCast, Int.natCast_nonneg, hys, hy, hdd, hdi, hx, w5, hlen2, hset]
          refine hK (pre ++ [x], done ++ [y1]) _ ?_ ⟨by simpa using h4, by simp [h5], h6, fun h => by rw [h7 h]; simp⟩
          simp only [go_sem, zcx, accE_cons, accX_cons, z6, z7, hsl3, Nat.reduceLT, List.map_cons, List.length_cons, List.length_map, List.length_append, Int.toNat_natCast, Int.natCast_nonneg]
      · simp only [go_sem, zcx, accE_cons, accX_cons, z6, z7, hsl3, Nat.reduceLT, List.map_cons, List.length_cons, List.length_map, List.length_append, Int.toNat_natCast, Int.natCast_nonneg, List.length_nil, Int.natCast_zero, List.map_nil, List.nil_append]
  · rintro x rest ⟨pre, last⟩ ⟨h4, h5, h6, h7⟩ K hK
    simp only at h4 h5 h6 h7
    have hx : (s.map encCt)[pre.length]? = some (encCt x) := by simp [h4]
    have hpl : pre.length < s.length := by rw [h4]; simp
    have hdd : decide ((pre.length : Int) < s.length) = true := decide_eq_true (by omega)
    have w5 : IntKind.i64.wrap ((pre.length : Int) + 1) = ((pre ++ [x]).length : Int) := by rw [wrap_id (by omega) (by omega)]; simp
    have hb1 : (pre.length + 1) * 104 ≤ 140737488355328 := by omega
    have hb2 : pre.length + 1 ≤ maxLen := by rw [maxLen_eq]; omega
    have hb3 : (pre.length + 1) * 16 ≤ 140737488355328 := by omega
    have hcx := encCt_sz x
    have ex : encCt x = .agg [.str x.1, .int .i64 x.2.op, .int .i64 x.2.n, .str x.2.s, .slice (x.2.k.map encK), .slice (x.2.names.map .str), .slice (x.2.l.map encC)] := rfl
    rw [ex] at hx hcx
    have hSt := fun s' hs => hK (pre ++ [x], some x) s' hs
    clear hK hV1 hV2 hN hAr
    cases last with
    | none =>
      obtain rfl := h6 rfl
      have g4 : s = [x] ++ rest := by simpa using h4
      have hJ := fun s' hs => hSt s' hs ⟨by simpa using h4, fun y h => ⟨[], by cases h; rfl⟩, (fun h => by cases h), h7⟩
      simp only [List.length_nil, Int.natCast_zero] at hdd hx
      have d0 : decide ((0 : Int) > 0) = false := rfl
      by_cases ho : x.2.op = 0
      · have o1 : (x.2.op == 0) = true := by simpa using ho
        have ea : encC (argOf x) = .agg [.int .i64 7, .int .i64 0, .str ByteArray.empty, .slice [], .slice [], .slice []] := by rw [argOf, if_pos ho]; rfl
        simp only [go_sem, zcx, accE_nil, accX_nil, hdd, d0, hx, hcx, o1, List.map_nil, List.length_nil, Int.natCast_zero]
        refine aCall_intro hU ?_
        simp only [go_sem, zcx, hcx, w1, one_le_maxLen, List.length_nil]
        iterate 3 (try (refine ⟨by kernel_rfl, ?_⟩; try simp only [go_sem, zcx, hcx, w1, one_le_maxLen, List.length_nil]))
        refine hJ _ ?_
        simp only [go_sem, zcx, accE_cons, accX_cons, List.map_append, List.map_cons, List.map_nil, List.nil_append, ea, List.length_cons, List.length_nil, Nat.zero_add, Int.natCast_one, Int.cast_ofNat_Int]
      · have o1 : (x.2.op == 0) = false := by simpa using ho
        have ea : encC (argOf x) = .agg [.int .i64 x.2.op, .int .i64 x.2.n, .str x.2.s, .slice (x.2.k.map encK), .slice (x.2.names.map .str), .slice (x.2.l.map encC)] := by rw [argOf, if_neg ho]; exact encC_cells _
        simp only [go_sem, zcx, accE_nil, accX_nil, hdd, d0, hx, hcx, o1, w1, one_le_maxLen, List.map_nil, List.length_nil, Int.natCast_zero]
        iterate 3 (try (refine ⟨by kernel_rfl, ?_⟩; try simp only [go_sem, zcx, hcx, w1, one_le_maxLen, List.length_nil]))
        refine hJ _ ?_
        simp only [go_sem, zcx, accE_cons, accX_cons, List.map_append, List.map_cons, List.map_nil, List.nil_append, ea, List.length_cons, List.length_nil, Nat.zero_add, Int.natCast_one, Int.cast_ofNat_Int]
    | some y =>
      obtain ⟨q, rfl⟩ := h5 y rfl
      have h7' : dupF s = ((y.1.toList == x.1.toList) || dupF (x :: rest)) := by rw [h7]; rfl
      have hq : (q ++ [y]).length = q.length + 1 := by simp
      have w6 : IntKind.i64.wrap (((q.length + 1 : Nat) : Int) - 1) = (q.length : Int) := by rw [wrap_id (by omega) (by omega)]; omega
      have d0 : decide (((q.length + 1 : Nat) : Int) > 0) = true := decide_eq_true (by omega)
      have hy : (s.map encCt)[q.length]? = some (encCt y) := by simp [h4]
      have ey : encCt y = .agg [.str y.1, .int .i64 y.2.op, .int .i64 y.2.n, .str y.2.s, .slice (y.2.k.map encK), .slice (y.2.names.map .str), .slice (y.2.l.map encC)] := rfl
      have hcy := encCt_sz y
      rw [ey] at hy hcy
      rw [hq] at hpl hdd w5 hb1 hb2 hb3 hx
      obtain ⟨c0, cs, hcs⟩ : ∃ c0 cs, q ++ [y] = c0 :: cs := by
        cases q with
        | nil => exact ⟨y, [], rfl⟩
        | cons a r => exact ⟨a, r ++ [y], rfl⟩
      have hcl : cs.length + 1 = q.length + 1 := by rw [← hq, hcs]; simp
      cases he : (y.1.toList == x.1.toList) with
      | true =>
        rw [he, Bool.true_or] at h7'
        rw [if_pos h7'] at hres
        obtain ⟨rfl, rfl⟩ := Prod.mk.inj hres
        rw [encC_zero]
        simp only [hq]
        simp only [hcs, List.map_cons]
        simp only [go_sem, zcx, accE_cons, accX_cons, hdd, d0, w6, hx, hcx, hy, hcy, he, Int.toNat_natCast, Int.natCast_nonneg]
      | false =>
        rw [he, Bool.false_or] at h7'
        have hJ := fun s' hs => hSt s' hs ⟨by simpa using h4, fun y h => ⟨_, by cases h; rfl⟩, (fun h => by cases h), h7'⟩
        by_cases ho : x.2.op = 0
        · have o1 : (x.2.op == 0) = true := by simpa using ho
          have ea : encC (argOf x) = .agg [.int .i64 7, .int .i64 0, .str ByteArray.empty, .slice [], .slice [], .slice []] := by rw [argOf, if_pos ho]; rfl
          simp only [hq]
          simp only [hcs, List.map_cons]
          simp only [go_sem, zcx, accE_cons, accX_cons, hdd, d0, w6, hx, hcx, hy, hcy, he, o1, Int.toNat_natCast, Int.natCast_nonneg]
          refine aCall_intro hU ?_
          simp only [go_sem, zcx, hcx, w5, hcl, hb1, hb2, hb3, List.length_cons, List.length_map]
          iterate 3 (try (refine ⟨by kernel_rfl, ?_⟩; try simp only [go_sem, zcx, hcx, w5, hcl, hb1, hb2, hb3, List.length_cons, List.length_map]))
          refine hJ _ ?_
          simp only [hcs, List.map_append, List.map_cons, List.map_nil, List.cons_append, ea]
          simp only [go_sem, zcx, accE_cons, accX_cons, List.map_append, List.map_cons, List.map_nil, List.cons_append, ea]
        · have o1 : (x.2.op == 0) = false := by simpa using ho
          have ea : encC (argOf x) = .agg [.int .i64 x.2.op, .int .i64 x.2.n, .str x.2.s, .slice (x.2.k.map encK), .slice (x.2.names.map .str), .slice (x.2.l.map encC)] := by rw [argOf, if_neg ho]; exact encC_cells _
          simp only [hq]
          simp only [hcs, List.map_cons]
          simp only [go_sem, zcx, accE_cons, accX_cons, hdd, d0, w6, hx, hcx, hy, hcy, he, o1, w5, hcl, hb1, hb2, hb3, Int.toNat_natCast, Int.natCast_nonneg, List.length_cons, List.length_map]
          iterate 3 (try (refine ⟨by kernel_rfl, ?_⟩; try simp only [go_sem, zcx, hcx, w5, hcl, hb1, hb2, hb3, List.length_cons, List.length_map]))
          refine hJ _ ?_
          simp only [hcs, List.map_append, List.map_cons, List.map_nil, List.cons_append, ea]
          simp only [go_sem, zcx, accE_cons, accX_cons, List.map_append, List.map_cons, List.map_nil, List.cons_append, ea]
  · simp only [go_sem, zcx, accE_nil, accX_nil, List.length_nil, Int.natCast_zero, List.map_nil]
end Go.Abs.Kon
