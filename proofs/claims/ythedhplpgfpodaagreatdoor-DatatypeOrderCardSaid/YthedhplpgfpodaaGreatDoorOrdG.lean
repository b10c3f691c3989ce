/- The order of constructors: lists side by side; the guard; Make. -/
import Derived.Test.YthedhplpgfpodaaGreatDoorKonC
import Derived.Test.YthedhplpgfpodaaGreatDoorShelfA
import Derived.Test.YthedhplpgfpodaaGreatDoorAbsC
import Derived.Test.YthedhplpgfpodaaGreatDoorDataF
import Derived.Test.YthedhplpgfpodaaGreatDoorOrdD
import Derived.Test.YthedhplpgfpodaaGreatDoorFacts
import Derived.Test.YthedhplpgfpodaaGreatDoorOrdE
import Derived.Test.YthedhplpgfpodaaGreatDoorOrdA
import Derived.Test.YthedhplpgfpodaaGreatDoorDataC
set_option linter.unusedSimpArgs false
set_option linter.unusedVariables false
namespace Go.Abs.Kon
open Go Go.Proofs Go.Abs
set_option maxRecDepth 100000
set_option maxHeartbeats 4000000

def annCat : Ann := ⟨ann39.imm, [9000024, 2000015, 6000015], ann39.live, ann39.head⟩
@[go_sem] theorem annCat_imm : annCat.imm = ann39.imm := rfl
@[go_sem] theorem annCat_frz : annCat.frz = [9000024, 2000015, 6000015] := rfl
@[go_sem] theorem annCat_live : annCat.live = ann39.live := rfl
@[go_sem] theorem annCat_head : annCat.head = ann39.head := rfl
theorem GrowCt_spec (n : Nat) (h0 : 0 < n) (hn : n ≤ 1000000) : SpecX Tryz.prog 54 [pp .nilsl, ii n] (.agg 7) [] := by
  refine ⟨by kernel_rfl, by simp, fun G w vs hW hT hB hr => ?_⟩
  have hvs : vs = #[.slice none 0 0, .int .i64 n] := by
    simp only [RepSVs, pp, ii, RepSV, RepSC, Rep] at hr
    obtain ⟨v, rest, h1, rfl, v2, rest2, rfl, rfl, rfl⟩ := hr
    exact Array.toList_inj.1 h1
  subst hvs
  obtain ⟨e, i, z, hu, hsz, hi, hsi, hby, hpos, hz, hzo⟩ := elemSz_spec (P := Tryz.prog) (t := 36) es36
  have he : e = 40 := by
    have h := Tryz.underlying36
    rw [hu] at h
    cases h
    rfl
  subst he
  have hs1 : i.size = 7 := hsi
  have hge := grownCap_ge w n 0 40
  have hcm := grownCap_le_maxLen w n 0 40 (by rw [maxLen_eq]; omega)
  have hC := Any8.slices_Grow_grow Tryz.growCt i z hi hz (by omega) none 0 0 n [] w (Nat.le_refl _) (by omega) (by rw [hby]; omega) (by omega) (by simp) (fun _ => rfl) (fun a h => by cases h)
  refine hC.mono ?_
  rintro e w' ⟨rfl, rfl⟩
  simp only [Nat.zero_add, Nat.sub_zero]
  obtain ⟨G', g1, g2, g3, g4, g5, g6⟩ := lay_row_x (w := w.drew) hW.drew (([] : List Value).toArray ++ Builtin.zeroCells z.cells n ++ Builtin.zeroCells z.cells (grownCap w n 0 40 - n)) 40 0 (grownCap w n 0 40) (.agg 7) 0 (hT 0) (Nat.zero_le _) hcm (by
    have hzs : z.cells.size = 7 := Sz.size_of_ok (k := .agg 7) hzo
    simp only [Array.size_append, List.size_toArray, size_zeroCells, hzs, List.length_nil, Sz.size]
    omega) [] (by simp)
  exact ⟨_, G', 0, _, rfl, g3, ⟨rfl, rfl, _, _, [], rfl, rfl, by simp [RepL], by simp, rfl⟩, g1, (g2.weaken (fun _ h => h) (fun _ h => by simp at h)).drew⟩

def annCatC : Ann := ⟨ann15.imm, [9000024, 2000015, 6000015], ann15.live, ann15.head⟩
@[go_sem] theorem annCatC_imm : annCatC.imm = ann15.imm := rfl
@[go_sem] theorem annCatC_frz : annCatC.frz = [9000024, 2000015, 6000015] := rfl
@[go_sem] theorem annCatC_live : annCatC.live = ann15.live := rfl
@[go_sem] theorem annCatC_head : annCatC.head = ann15.head := rfl
theorem cts_all (l : List CtT) : ((l.map encCt).all fun x => PV.hasSz (.agg 7) x) = true := by
  rw [List.all_eq_true]
  intro x hx
  obtain ⟨n, _, rfl⟩ := List.mem_map.1 hx
  exact encCt_sz n
theorem ConcatC_spec (o r : List CtT) (ho : o.length ≤ 100000) (hr : r.length ≤ 100000) (h0 : 0 < o.length + r.length) : Spec Tryz.prog 15 [pp (.slice [.slice (o.map encCt), .slice (r.map encCt)])] [] (.slice ((o ++ r).map encCt)) [] := by
  have t1 : decide ((0 : Int) < ((2 : Nat) : Int)) = true := rfl
  have t2 : decide ((1 : Int) < ((2 : Nat) : Int)) = true := rfl
  have t3 : decide ((2 : Int) < ((2 : Nat) : Int)) = false := rfl
  have w1 : IntKind.i64.wrap (0 + 1) = 1 := by decide
  have w2 : IntKind.i64.wrap (1 + 1) = 2 := by decide
  have w3 : IntKind.i64.wrap (0 + (o.length : Int)) = o.length := by rw [Int.zero_add]; exact wrap_id (by omega) (by omega)
  have w4 : IntKind.i64.wrap ((o.length : Int) + r.length) = ((o.length + r.length : Nat) : Int) := by rw [wrap_id (by omega) (by omega)]; omega
  have d1 : decide ((o.length : Int) < 0) = false := decide_eq_false (by omega)
  have d2 : decide (((o.length + r.length : Nat) : Int) < 0) = false := decide_eq_false (by omega)
  rw [List.map_append]
  have hG := GrowCt_spec (o.length + r.length) h0 (by omega)
  have ha := cts_all o
  have hb := cts_all r
  have hb1 : o.length * 120 ≤ 140737488355328 := by omega
  have hb2 : o.length ≤ maxLen := by rw [maxLen_eq]; omega
  have hb3 : (o.length + r.length) * 120 ≤ 140737488355328 := by omega
  have hb4 : o.length + r.length ≤ maxLen := by rw [maxLen_eq]; omega
  have hz : 0 < (Sz.agg 7).size := by decide
  have hall : ((o.map encCt ++ r.map encCt).all fun x => PV.hasSz (.agg 7) x) = true := by rw [List.all_append, ha, hb]; rfl
  refine wk (rv := [.tmp 2]) annCatC 36 Tryz.func15 ?_
  simp only [go_sem, List.length_cons, List.length_nil]
  refine ⟨3, ?_⟩
  rw [aLoop_succ]
  simp only [go_sem, t1, List.length_map, w1, w3, d1]
  rw [aLoop_succ]
  simp only [go_sem, t2, List.length_map, w2, w4, d2]
  rw [aLoop_succ]
  simp only [go_sem, t3]
  refine aCallX_intro hG ?_
  simp only [go_sem]
  refine ⟨3, ?_⟩
  rw [aLoop_succ]
  simp only [go_sem, t1, List.length_map, ha, hb1, hb2, w1]
  rw [aLoop_succ]
  simp only [go_sem, t2, List.length_map, hb, hb3, hb4, w2]
  rw [aLoop_succ]
  simp only [go_sem, t3]
  refine aFlipOr_ops ?_
  simp only [go_sem, hall, hz, Nat.zero_lt_succ, List.length_append, List.length_map]

theorem Make_range (p : Int) (l : List CtT) (h : p < 0 ∨ 4 < p) : Spec Tryz.prog 16 [ii p, pp (.slice (l.map encCt))] [] (.tuple [encC zeroC, .int .i64 2]) [] := by
  rw [encC_zero]
  rcases h with h | h
  · have d1 : decide (p < 0) = true := decide_eq_true h
    refine wk (rv := [.cell 4 28, .tmp 5]) annMkG 134 Tryz.func16 ?_
    simp only [go_sem, d1]
  · have d1 : decide (p < 0) = false := decide_eq_false (by omega)
    have d2 : decide (p > 4) = true := decide_eq_true h
    refine wk (rv := [.cell 4 28, .tmp 5]) annMkG 134 Tryz.func16 ?_
    simp only [go_sem, d1, d2]
theorem Make_bad (p : Int) (l : List CtT) (h : ¬ (p < 0 ∨ 4 < p)) (h0 : 0 < l.length) (hl : l.length ≤ 10) (hd : ∀ x ∈ l, okD x.2 ∧ sizeF x.2 ≤ 20000) (hb : l.any badCt = true) : Spec Tryz.prog 16 [ii p, pp (.slice (l.map encCt))] [] (.tuple [encC zeroC, .int .i64 1]) [] := by
  have hA := Make1_any l (fun x hx => ⟨by have := (hd x hx).2; omega, (hd x hx).1.1⟩)
  rw [hb] at hA
  rw [encC_zero]
  have d1 : decide (p < 0) = false := decide_eq_false (by omega)
  have d2 : decide (p > 4) = false := decide_eq_false (by omega)
  have hL0 : ((l.length : Int) == 0) = false := beq_false_of_ne (by omega)
  have hL1 : decide ((l.length : Int) > 1000) = false := decide_eq_false (by omega)
  refine wk (rv := [.cell 4 28, .tmp 5]) annMkG 134 Tryz.func16 ?_
  simp only [go_sem, d1, d2, hL0, hL1, List.length_map]
  refine aCall_intro hA ?_
  simp only [go_sem]
theorem Make_gen (p : Int) (l : List CtT) (h0 : 0 < l.length) (hl : l.length ≤ 10) (hd : ∀ x ∈ l, okD x.2 ∧ sizeF x.2 ≤ 20000) : Spec Tryz.prog 16 [ii p, pp (.slice (l.map encCt))] [] (.tuple [encC (mkF p l).1, .int .i64 (mkF p l).2]) [] := by
  rw [mkF]
  by_cases h : p < 0 ∨ 4 < p
  · rw [if_pos h]; exact Make_range p l h
  rw [if_neg h]
  cases hb : l.any badCt with
  | true => rw [if_pos rfl]; exact Make_bad p l h h0 hl hd hb
  | false =>
    rw [if_neg (by decide)]
    have hp : p = 0 ∨ p = 1 ∨ p = 2 ∨ p = 3 ∨ p = 4 := by omega
    rcases hp with rfl | rfl | rfl | rfl | rfl
    · exact Make_p0 l h0 hl hd hb
    · exact Make_p1 l h0 hl hd hb
    · exact Make_p2 l h0 hl hd hb
    · exact Make_p3 l h0 hl hd hb
    · exact Make_p4 l h0 hl hd hb
def longN (x : CtT) : Bool := decide ((x.1.size : Int) > 60)
theorem small1_spec (x : CtT) : Spec Tryz.prog 53 [pp (encCt x)] [] (.bool (longN x)) [] := by
  rw [longN, encCt, ConT.cells]
  refine wk (rv := [.tmp 2]) ann53 7 Tryz.func53 ?_
  simp only [go_sem]
theorem small1_any (l : List CtT) : Spec Tryz.prog 21 [pp (.slice (l.map encCt)), pp (.fn 53 [])] [] (.bool (l.any longN)) [] :=
  ContainsFuncCt encCt l 53 [] longN (fun x _ => encCt_sz x) fun x _ => small1_spec x
theorem args_spec (l : List CtT) (hl : l.length ≤ 10) : Spec Tryz.prog 52 [pp (.slice (l.map encCt))] [] (.slice ((l.map (·.2)).map encC)) [] := by
  refine wk (rv := [.tmp 2]) ann52 19 Tryz.func52 ?_
  simp only [go_sem, List.length_map]
  refine aLoop_list (α := CtT) (β := List CtT) (fun rest b => ⟨[(8, ii b.length), (3, .one (accE 32 (.agg 6) ((b.map (·.2)).map encC))), (6, pp (.slice (l.map encCt))), (7, ii l.length)], [], []⟩) (fun rest b => l = b ++ rest) ?_ ?_ l [] _ ?_ rfl
  · rintro pre h4 K
    rw [List.append_nil] at h4
    subst h4
    rcases l with _ | ⟨x, l⟩
    · simp only [go_sem, lt_false (Int.le_refl _), accE_nil, List.map_nil]
    · simp only [go_sem, lt_false (Int.le_refl _), accE_cons, List.map_cons]
  · rintro x rest pre h4 K hK
    have hx : (l.map encCt)[pre.length]? = some (encCt x) := by simp [h4]
    have hpl : pre.length < l.length := by rw [h4]; simp
    have hdd : decide ((pre.length : Int) < l.length) = true := decide_eq_true (by omega)
    have w4 : IntKind.i64.wrap ((pre.length : Int) + 1) = ((pre ++ [x]).length : Int) := by rw [wrap_id (by omega) (by omega)]; simp
    have hb1 : (pre.length + 1) * 104 ≤ 140737488355328 := by omega
    have hb2 : pre.length + 1 ≤ maxLen := by rw [maxLen_eq]; omega
    have ex : encCt x = .agg [.str x.1, .int .i64 x.2.op, .int .i64 x.2.n, .str x.2.s, .slice (x.2.k.map encK), .slice (x.2.names.map .str), .slice (x.2.l.map encC)] := rfl
    have ey : encC x.2 = .agg [.int .i64 x.2.op, .int .i64 x.2.n, .str x.2.s, .slice (x.2.k.map encK), .slice (x.2.names.map .str), .slice (x.2.l.map encC)] := encC_cells _
    rw [ex] at hx
    have hK' := fun s' hs => hK (pre ++ [x]) s' hs (by simp [h4])
    clear hK
    rcases pre with _ | ⟨a0, az⟩
    · simp only [List.length_nil, Int.natCast_zero] at hdd hx w4
      simp only [go_sem, hdd, Int.toNat_natCast, Int.natCast_nonneg, hx, accE_nil, List.map_nil, w4, one_le_maxLen, List.length_nil, Int.natCast_zero]
      refine hK' _ ?_
      simp only [go_sem, accE_cons, List.map_append, List.map_cons, List.map_nil, List.nil_append, ey]
    · simp only [List.length_cons] at hb1 hb2 hdd hx w4
      simp only [go_sem, hdd, Int.toNat_natCast, Int.natCast_nonneg, hx, accE_cons, List.map_cons, List.length_cons, List.length_map, w4, hb1, hb2]
      refine hK' _ ?_
      simp only [go_sem, accE_cons, List.map_append, List.map_cons, List.map_nil, List.cons_append, ey, List.length_cons]
  · simp only [go_sem, accE_nil, List.length_nil, Int.natCast_zero, List.map_nil]
def smallF (l : List CtT) : Bool := fitsT (l.map (·.2)) && !(l.any longN)
theorem small_spec (l : List CtT) (hl : l.length ≤ 10) : Spec Tryz.prog 14 [pp (.slice (l.map encCt))] [] (.bool (smallF l)) [] := by
  have hA := args_spec l hl
  have hF := fits_spec (l.map (·.2))
  have hC := small1_any l
  have d1 : decide ((l.length : Int) > 1000) = false := decide_eq_false (by omega)
  have d2 : decide ((l.length : Int) ≤ 10) = true := decide_eq_true (by omega)
  rw [smallF]
  cases hf : fitsT (l.map (·.2)) with
  | false =>
    rw [hf] at hF
    refine wk (rv := [.tmp 2]) ann14 24 Tryz.func14 ?_
    simp only [go_sem, d1, d2, List.length_map]
    refine aCall_intro hA ?_
    simp only [go_sem]
    refine aCall_intro hF ?_
    simp only [go_sem, Bool.false_and]
  | true =>
    rw [hf] at hF
    refine wk (rv := [.tmp 2]) ann14 24 Tryz.func14 ?_
    simp only [go_sem, d1, d2, List.length_map]
    refine aCall_intro hA ?_
    simp only [go_sem]
    refine aCall_intro hF ?_
    simp only [go_sem]
    refine aCall_intro hC ?_
    simp only [go_sem, Bool.true_and]
theorem order1_spec (x y : CtT) : Spec Tryz.prog 22 [pp (encCt y), pp (.ep (encCt x) 0)] [] (.bool (y.1.toList == x.1.toList)) [] := by
  rw [encCt, encCt, ConT.cells, ConT.cells]
  refine wk (rv := [.tmp 3]) ann22 9 Tryz.func22 ?_
  simp only [go_sem]
theorem order1_any (l : List CtT) (x : CtT) : Spec Tryz.prog 21 [pp (.slice (l.map encCt)), pp (.fn 22 [.ep (encCt x) 0])] [] (.bool (l.any fun y => y.1.toList == x.1.toList)) [] :=
  ContainsFuncCt encCt l 22 [.ep (encCt x) 0] (fun y => y.1.toList == x.1.toList) (fun x _ => encCt_sz x) fun y _ => order1_spec x y
theorem bytesLess_eq : ∀ a b : List UInt8, Op.bytesLess a b = decide (a < b)
  | [], [] => by simp [Op.bytesLess]
  | [], _ :: _ => by simp [Op.bytesLess]
  | _ :: _, [] => by simp [Op.bytesLess]
  | a :: ar, b :: br => by
    rw [Op.bytesLess, bytesLess_eq ar br]
    rw [Bool.eq_iff_iff]
    simp [List.cons_lt_cons_iff]
end Go.Abs.Kon
