/- Terms. -/
import Derived.Test.YthedhplpgfpodaaGreatDoorTermA
import Derived.Test.YthedhplpgfpodaaGreatDoorTermB
set_option linter.unusedSimpArgs false
set_option linter.unusedVariables false
namespace Go.Abs.Kon
open Go Go.Proofs Go.Abs
set_option maxRecDepth 100000
set_option maxHeartbeats 4000000
theorem tparts_spec (op n : Int) (s : ByteArray) (con to : ConT) (k : List KindT) (names : List ByteArray) (l : List TermT) (h : names.length ≤ 100000000) : Spec Tryz.prog 267 [pp (encT (.mk op n s con to k names l))] [] (.int .i64 (qb5 op n names.length)) [] := by
 have hA := tarity_spec n
 have w1 : IntKind.i64.wrap ((names.length : Int) + 1) = names.length + 1 := wId (by omega) (by omega)
 refine wf (rv := [.tmp 2]) ann267 40 Tryz.func267 fun hfit => ?_
 clear hfit h
 simp only [go_sem, eTm, List.length_map]
 generalize hres : qb5 op n names.length = res
 rw [qb5] at hres
 by_cases c1 : op = 1 ∨ op = 2 ∨ op = 3 ∨ op = 19
 ·rw [if_pos c1] at hres
  subst hres
  rcases c1 with rfl | rfl | rfl | rfl <;> simp only [go_sem, Int.reduceBEq]
 ·rw [if_neg c1] at hres
  by_cases c2 : op = 4 ∨ op = 6 ∨ op = 7 ∨ op = 8 ∨ op = 11 ∨ op = 12 ∨ op = 14 ∨ op = 15 ∨ op = 16
  ·rw [if_pos c2] at hres
   subst hres
   rcases c2 with rfl | rfl | rfl | rfl | rfl | rfl | rfl | rfl | rfl <;> simp only [go_sem, Int.reduceBEq]
  ·rw [if_neg c2] at hres
   by_cases c3 : op = 5 ∨ op = 9 ∨ op = 17
   ·rw [if_pos c3] at hres
    subst hres
    rcases c3 with rfl | rfl | rfl <;> simp only [go_sem, Int.reduceBEq]
   ·rw [if_neg c3] at hres
    by_cases c4 : op = 10
    ·rw [if_pos c4] at hres
     subst hres c4
     simp only [go_sem, Int.reduceBEq, List.length_map]
    ·rw [if_neg c4] at hres
     by_cases c5 : op = 13
     ·rw [if_pos c5] at hres
      subst hres c5
      simp only [go_sem, Int.reduceBEq, List.length_map, w1]
     ·rw [if_neg c5] at hres
      by_cases c6 : op = 18
      ·rw [if_pos c6] at hres
       subst c6
       try rw [if_pos rfl] at hres
       subst hres
       simp only [go_sem, Int.reduceBEq]
       refine aC hA ?_
       simp only [go_sem, Int.reduceBEq]
      ·rw [if_neg c6] at hres
       subst hres
       have f : ∀ m : Int, op ≠ m → (op == m) = false := fun m h => by simp [h]
       simp only [go_sem, f 1 (by omega), f 2 (by omega), f 3 (by omega), f 19 (by omega), f 4 (by omega), f 6 (by omega), f 7 (by omega), f 8 (by omega), f 11 (by omega), f 12 (by omega), f 14 (by omega), f 15 (by omega), f 16 (by omega), f 5 (by omega), f 9 (by omega), f 17 (by omega), f 10 (by omega), f 13 (by omega), f 18 (by omega)]
theorem tempty_spec (c : ConT) : Spec Tryz.prog 295 [pp (encC c)] [] (.bool (eqC c zeroC)) [] := by
 have hE := Equal_spec c zeroC
 rw [show encC zeroC = .agg [.int .i64 0, .int .i64 0, .str ByteArray.empty, .slice [], .slice [], .slice []] from rfl] at hE
 generalize eqC c zeroC = b at hE
 refine wk (rv := [.tmp 2]) ann295 6 Tryz.func295 ?_
 simp only [go_sem, eCz]
 refine aC hE ?_
 simp only [go_sem]
theorem tfits_spec (c : ConT) (b : Bool) (h1 : sizeF c ≤ 1000000000) (h2 : okS c) : Spec Tryz.prog 270 [pp (encC c), bb b] [] (.bool (qav c b)) [] := by
 have hV := Valid_spec c h1 h2
 have hE := tempty_spec c
 refine wk (rv := [.tmp 4]) ann270 10 Tryz.func270 ?_
 cases b with
 | true =>
   simp only [go_sem, eCz]
   refine aC hV ?_
   simp only [go_sem, qav]
 | false =>
   simp only [go_sem, eCz]
   refine aC hE ?_
   simp only [go_sem, qav]
theorem tnumber_spec (op n : Int) (s : ByteArray) (con to : ConT) (k : List KindT) (names : List ByteArray) (l : List TermT) : Spec Tryz.prog 266 [pp (encT (.mk op n s con to k names l))] [] (.bool (numT op n)) [] := by
 refine wk (rv := [.tmp 2]) ann266 48 Tryz.func266 ?_
 simp only [go_sem, eTm]
 repeat' ((first | refine cKi (fun _ => ?_) (fun _ => ?_) | refine gKi (fun _ => ?_) (fun _ => ?_)) <;> simp only [go_sem, List.length_map])
 all_goals (simp only [numT]; simp_all <;> omega)
theorem ttext_spec (op n : Int) (s : ByteArray) (con to : ConT) (k : List KindT) (names : List ByteArray) (l : List TermT) : Spec Tryz.prog 268 [pp (encT (.mk op n s con to k names l))] [] (.bool (textT op s)) [] := by
 have hL := IsLabel_spec s
 generalize hres : textT op s = res
 rw [textT, qbg] at hres
 generalize qb2 s = lb at hL hres
 refine wk (rv := [.tmp 2]) ann268 20 Tryz.func268 ?_
 simp only [go_sem, eTm]
 repeat' ((first | refine cKi (fun _ => ?_) (fun _ => ?_) | refine gKi (fun _ => ?_) (fun _ => ?_) | refine aC hL ?_) <;> simp only [go_sem, List.length_map])
 all_goals (clear hL; subst hres; simp_all)
theorem tnames1_spec (s : ByteArray) : Spec Tryz.prog 294 [pp (.str s)] [] (.bool (!qb2 s)) [] := by
 refine wk (rv := [.tmp 2]) ann294 6 Tryz.func294 ?_
 simp only [go_sem]
 refine aC (IsLabel_spec s) ?_
 simp only [go_sem]
theorem tnames_spec (op n : Int) (s : ByteArray) (con to : ConT) (k : List KindT) (names : List ByteArray) (l : List TermT) : Spec Tryz.prog 269 [pp (encT (.mk op n s con to k names l))] [] (.bool (qdx op names)) [] := by
 have hA := Ascending_spec names
 have hN : Spec Tryz.prog 73 [pp (.slice (names.map .str)), pp (.fn 294 [])] [] (.bool (names.any fun x => !qb2 x)) [] :=
  ContainsFuncS PV.str names 294 [] _ (fun e _ => rfl) fun x _ => tnames1_spec x
 generalize hres : qdx op names = res
 rw [qdx] at hres
 generalize (names.any fun x => !qb2 x) = b1 at hN hres
 generalize ascF names = b2 at hA hres
 have e0 : (names.length = 0) ↔ ((names.length : Int) = 0) := by omega
 have e1 : (names.length > 1000) ↔ ((names.length : Int) > 1000) := by omega
 simp only [e0, e1] at hres
 generalize hnl : (names.length : Int) = nl at hres
 refine wf (rv := [.tmp 2]) ann269 41 Tryz.func269 fun hfit => ?_
 clear hfit e0 e1
 simp only [go_sem, eTm, List.length_map, hnl]
 repeat' ((first | refine cKi (fun _ => ?_) (fun _ => ?_) | refine gKi (fun _ => ?_) (fun _ => ?_) | refine aC hA ?_ | refine aC hN ?_) <;> simp only [go_sem, List.length_map, hnl])
 all_goals (clear hA hN; subst hres; simp_all <;> (rw [Bool.eq_iff_iff]; simp))
theorem tnode_spec (op n : Int) (s : ByteArray) (con to : ConT) (k : List KindT) (names : List ByteArray) (l : List TermT) (h : okT (.mk op n s con to k names l)) : Spec Tryz.prog 210 [pp (encT (.mk op n s con to k names l))] [] (.bool (qbw op n s con to k names l.length)) [] := by
 simp only [okT] at h
 obtain ⟨hs, ⟨hc1, hc2⟩, ⟨ht1, ht2⟩, hk, hns, hnl, hll, _⟩ := h
 have hN := tnumber_spec op n s con to k names l
 have hP := tparts_spec op n s con to k names l hnl
 have hT := ttext_spec op n s con to k names l
 have hNm := tnames_spec op n s con to k names l
 have hK := kValid_spec (.mk k)
 have hH := thasCon_spec op
 have hF1 := tfits_spec con (qad op) hc1 hc2
 have hF2 := tfits_spec to (op == 8) ht1 ht2
 generalize hres : qbw op n s con to k names l.length = res
 rw [qbw, qdt] at hres
 have e1 : decide (1 ≤ op) = !decide (op < 1) := by rw [Bool.eq_iff_iff]; simp only [Bool.not_eq_true', decide_eq_true_iff, decide_eq_false_iff_not]; omega
 have e2 : decide (op ≤ 19) = !decide (op > 19) := by rw [Bool.eq_iff_iff]; simp only [Bool.not_eq_true', decide_eq_true_iff, decide_eq_false_iff_not]; omega
 have e3 : decide ((l.length : Int) = qb5 op n names.length) = !((l.length : Int) != qb5 op n names.length) := by rw [Bool.eq_iff_iff]; simp
 have e4 : decide (k.length = 0) = ((k.length : Int) == 0) := by rw [Bool.eq_iff_iff]; simp
 rw [e1, e2, e3, e4] at hres
 clear e1 e2 e3 e4 hs hc1 hc2 ht1 ht2 hns hnl hll
 simp only [eTm, qb4, qal, ConT.cells] at hN hP hT hNm hK hF1 hF2
 generalize numT op n = b1 at hN hres
 generalize qb5 op n names.length = p at hP hres
 generalize textT op s = b3 at hT hres
 generalize qdx op names = b4 at hNm hres
 generalize (sizeK (.mk k) 20000 1).isSome = b5 at hK hres
 generalize qad op = b6 at hH hF1 hres
 generalize qav con b6 = b7 at hF1 hres
 generalize qav to (op == 8) = b8 at hF2 hres
 refine wk (rv := [.tmp 2]) ann210 67 Tryz.func210 ?_
 simp only [go_sem, eTm, List.length_map]
 repeat' ((first | refine cKi (fun _ => ?_) (fun _ => ?_) | refine gKi (fun _ => ?_) (fun _ => ?_) | refine aC hN ?_ | refine aC hP ?_ | refine aC hT ?_ | refine aC hNm ?_ | refine aC hK ?_ | refine aC hH ?_ | refine aC hF1 ?_ | refine aC hF2 ?_ | refine ⟨by kernel_rfl, ?_⟩ | fail) <;> simp only [go_sem, List.length_map])
 all_goals (clear hN hP hT hNm hK hH hF1 hF2; subst hres; simp_all <;> (rw [show decide (op < 1) = false from by simp; omega, show decide (19 < op) = false from by simp; omega]; simp))
theorem measure_spec (t : TermT) : okT t → ∀ left depth : Int, -3000000000 ≤ left → left ≤ 1000000000 → 0 ≤ depth → depth ≤ 401 → Spec Tryz.prog 138 [pp (encT t), ii left, ii depth] [] (.tuple [.int .i64 (measT t left depth).1, .bool (measT t left depth).2]) [] := by
 revert t
 refine TermT.ind1 fun op n s con to k names l ih => ?_
 intro hok left depth h1 h2 h3 h4
 have hN := tnode_spec op n s con to k names l hok
 have hH := thasCon_spec op
 simp only [okT] at hok
 obtain ⟨_, ⟨hc1, _⟩, ⟨ht1, _⟩, _, _, _, hll, hokl⟩ := hok
 have hS1 := Size_spec con hc1
 have hS2 := Size_spec to ht1
 have hout : ∀ h : left ≤ 0 ∨ depth > 400 ∨ qbw op n s con to k names l.length = false, (0, false) = measT (.mk op n s con to k names l) left depth := fun h => by rw [measT, if_pos h]
 have hin : ∀ h : ¬ (left ≤ 0 ∨ depth > 400 ∨ qbw op n s con to k names l.length = false), measTL l left (1 + (if qad op then (sizeF con : Int) else 0) + (if op = 8 then (sizeF to : Int) else 0)) depth = measT (.mk op n s con to k names l) left depth := fun h => by rw [measT, if_neg h]
 generalize measT (.mk op n s con to k names l) left depth = res at hout hin
 have e8 : (op = 8) ↔ (op == 8) = true := by simp
 simp only [e8] at hin
 generalize qbw op n s con to k names l.length = nd at hN hout hin
 have w1 : IntKind.i64.wrap (1 + (sizeF con : Int)) = 1 + (sizeF con : Int) := wId (by omega) (by omega)
 have w2 : IntKind.i64.wrap (1 + (sizeF con : Int) + (sizeF to : Int)) = 1 + (sizeF con : Int) + (sizeF to : Int) := wId (by omega) (by omega)
 have w3 : IntKind.i64.wrap (1 + (sizeF to : Int)) = 1 + (sizeF to : Int) := wId (by omega) (by omega)
 simp only [eTm, qal, ConT.cells] at hN hS1 hS2
 generalize qad op = q at hH hin
 obtain ⟨n0, hn0⟩ : ∃ n0, n0 = (1 + (if q = true then (sizeF con : Int) else 0) + (if (op == 8) = true then (sizeF to : Int) else 0)) := ⟨_, rfl⟩
 rw [← hn0] at hin
 generalize sizeF con = sc at *
 generalize sizeF to = st at *
 refine wk (rv := [.tmp 6, .tmp 7]) ann138 67 Tryz.func138 ?_
 simp only [go_sem, eTm, List.length_map]
 repeat' (first | (refine cKi (fun _ => ?_) (fun _ => ?_) <;> simp only [go_sem, List.length_map, w1, w2, w3]) | (refine gKi (fun _ => ?_) (fun _ => ?_) <;> simp only [go_sem, List.length_map]) | (refine aC hN ?_; simp only [go_sem, List.length_map]) | (refine aC hH ?_; simp only [go_sem, List.length_map]) | (refine aC hS1 ?_; simp only [go_sem, List.length_map, w1, w2, w3]) | (refine aC hS2 ?_; simp only [go_sem, List.length_map, w1, w2, w3]))
 all_goals first
  | (have ho : left ≤ 0 ∨ depth > 400 ∨ nd = false := by (simp_all <;> omega)
     rw [← hout ho]
     done)
  | skip
 all_goals
  have hc := hin (by simp_all <;> omega)
  have hleft : 1 ≤ left := by simp_all; omega
  have hdep : depth ≤ 400 := by simp_all
  clear hout hin hN hH hS1 hS2 w1 w2 w3 e8
  first
   | (have e0 : n0 = 1 + (sc : Int) + (st : Int) := by rw [hn0]; simp_all
      clear hn0; subst e0)
   | (have e0 : n0 = 1 + (sc : Int) := by rw [hn0]; simp_all
      clear hn0; subst e0)
   | (have e0 : n0 = 1 + (st : Int) := by rw [hn0]; simp_all
      clear hn0; subst e0)
   | (have e0 : n0 = 1 := by rw [hn0]; simp_all
      clear hn0; subst e0)
  refine aLl (α := TermT) (β := List TermT × Int) (fun rest b => ⟨[(43, ii b.1.length), (8, ii b.2), (2, ii depth), (1, ii left), (41, pp (.slice (l.map encT))), (42, ii l.length)], [], []⟩)
   (fun rest b => l = b.1 ++ rest ∧ 1 ≤ b.2 ∧ (b.2 ≤ left ∨ b.2 ≤ 2000000001) ∧ measTL rest left b.2 depth = res) ?_ ?_ l ([], _) _ ?_ ⟨rfl, ?_, ?_, hc⟩
  ·rintro ⟨pre, m⟩ ⟨g1, g2, g3, g4⟩ K
   simp only [List.append_nil] at g1
   simp only [measTL] at g4
   simp only [go_sem, g1, ltF (Int.le_refl _)]
   rw [← g4]
  ·rintro x rest ⟨pre, m⟩ ⟨g1, g2, g3, g4⟩ K hK
   simp only at g1 g2 g3 g4
   have hx : (l.map encT)[pre.length]? = some (encT x) := by simp [g1]
   have hlt : (pre.length : Int) < l.length := by rw [g1]; simp; omega
   have hmem : x ∈ l := by simp [g1]
   have v1 : IntKind.i64.wrap (left - m) = left - m := wId (by omega) (by omega)
   have v2 : IntKind.i64.wrap (depth + 1) = depth + 1 := wId (by omega) (by omega)
   have hI := ih x hmem (okTs_mem.1 hokl x hmem) (left - m) (depth + 1) (by omega) (by omega) (by omega) (by omega)
   have hle := measT_le x (left - m) (depth + 1)
   rw [measTL] at g4
   generalize measT x (left - m) (depth + 1) = y at hI hle g4
   have v4 : IntKind.i64.wrap ((pre.length : Int) + 1) = ((pre ++ [x]).length : Int) := by rw [wId (by omega) (by omega)]; simp
   simp only [go_sem, decide_eq_true hlt, Int.toNat_natCast, Int.natCast_nonneg, hx, eTz, v1, v2]
   refine aC hI ?_
   simp only [go_sem]
   refine cKi (fun hb => ?_) (fun hb => ?_)
   ·have hb' : y.2 = false := by simpa using hb
    rw [if_pos hb'] at g4
    simp only [go_sem]
    rw [← g4]
   ·have hb' : y.2 = true := by simpa using hb
    have hle2 := hle.2 hb'
    have v3 : IntKind.i64.wrap (m + y.1) = m + y.1 := wId (by omega) (by omega)
    rw [if_neg (by rw [hb']; decide)] at g4
    simp only [go_sem, v3, v4]
    refine hK (pre ++ [x], m + y.1) _ ?_ ⟨by simp [g1], by simp only; omega, by simp only; omega, g4⟩
    simp only [go_sem]
  ·simp only [go_sem, List.length_nil, Int.natCast_zero]
  ·simp only; omega
  ·simp only; omega
theorem qcl (t : TermT) (h : okT t) : Spec Tryz.prog 89 [pp (encT t)] [] (.bool (qab t)) [] := by
 have hM := measure_spec t h 20000 1 (by decide) (by decide) (by decide) (by decide)
 rw [qab]
 generalize measT t 20000 1 = r at hM
 refine wk (rv := [.tmp 2]) ann89 11 Tryz.func89 ?_
 simp only [go_sem, eTz]
 refine aC hM ?_
 simp only [go_sem]
abbrev uEnc (uc ut : Int) : PV := .agg [.int .i64 uc, .int .i64 ut]
theorem tinside_spec (op n : Int) (s : ByteArray) (con to : ConT) (k : List KindT) (names : List ByteArray) (l : List TermT) (uc ut : Int) (i : Nat) (h1 : 0 ≤ uc) (h2 : uc ≤ 1000000000000) (h3 : 0 ≤ ut) (h4 : ut ≤ 1000000000000) (h5 : i ≤ 1000000000) :
  Spec Tryz.prog 247 [pp (uEnc uc ut), pp (encT (.mk op n s con to k names l)), ii i] [] (uEnc (uc + insC op i) (ut + insT op i)) [] := by
 have w1 : IntKind.i64.wrap (uc + 1) = uc + 1 := wId (by omega) (by omega)
 have w2 : IntKind.i64.wrap (ut + 1) = ut + 1 := wId (by omega) (by omega)
 have w3 : IntKind.i64.wrap (uc + i) = uc + i := wId (by omega) (by omega)
 have w4 : IntKind.i64.wrap (ut + i) = ut + i := wId (by omega) (by omega)
 have w5 : IntKind.i64.wrap (ut + (if (1 : Int) < i then 1 else (i : Int))) = ut + (if i < 1 then (i : Int) else 1) := by
  have : (if (1 : Int) < i then 1 else (i : Int)) = (if i < 1 then (i : Int) else 1) := by split <;> split <;> omega
  rw [this]
  exact wId (by split <;> omega) (by split <;> omega)
 by_cases c1 : op = 6
 ·subst c1
  have e1 : insC 6 i = 1 := by simp [insC]
  have e2 : insT 6 i = 0 := by simp [insT]
  rw [e1, e2]
  refine wk (rv := [.cell 6 194]) ann247 51 Tryz.func247 ?_
  simp only [go_sem, Int.reduceBEq, eTm, w1, Int.add_zero]
 ·by_cases c2 : op = 4 ∨ op = 16
  ·have e1 : insC op i = 0 := by rw [insC, if_neg c1, if_neg (by omega)]
   have e2 : insT op i = 1 := by rw [insT, if_pos c2]
   rw [e1, e2]
   refine wk (rv := [.cell 6 194]) ann247 51 Tryz.func247 ?_
   rcases c2 with rfl | rfl <;> simp only [go_sem, Int.reduceBEq, eTm, w2, Int.add_zero]
  ·by_cases c3 : op = 17 ∨ op = 13
   ·have e1 : insC op i = 0 := by rw [insC, if_neg c1, if_neg (by omega)]
    have e2 : insT op i = (if i < 1 then (i : Int) else 1) := by rw [insT, if_neg c2, if_pos c3]
    rw [e1, e2]
    refine wk (rv := [.cell 6 194]) ann247 51 Tryz.func247 ?_
    rcases c3 with rfl | rfl <;> simp only [go_sem, Int.reduceBEq, eTm, w5, Int.add_zero]
   ·by_cases c4 : op = 9
    ·subst c4
     have e1 : insC 9 i = i := by simp [insC]
     have e2 : insT 9 i = i := by simp [insT]
     rw [e1, e2]
     refine wk (rv := [.cell 6 194]) ann247 51 Tryz.func247 ?_
     simp only [go_sem, Int.reduceBEq, eTm, w3, w4]
    ·have e1 : insC op i = 0 := by rw [insC, if_neg c1, if_neg c4]
     have e2 : insT op i = 0 := by rw [insT, if_neg c2, if_neg c3, if_neg c4]
     rw [e1, e2]
     have f : ∀ m : Int, op ≠ m → (op == m) = false := fun m h => by simp [h]
     refine wk (rv := [.cell 6 194]) ann247 51 Tryz.func247 ?_
     simp only [go_sem, eTm, f 6 c1, f 4 (by omega), f 16 (by omega), f 17 (by omega), f 9 c4, f 13 (by omega), Int.add_zero]
abbrev addAll (ks l : List Int) : List Int := l.foldl addK ks
theorem above_cons (x : Int) (r : List Int) (u : Int) : qbd (x :: r) u = (if x ≥ u then [x - u] else []) ++ qbd r u := by
 rw [qbd, List.filterMap_cons]
 by_cases h : x ≥ u
 ·rw [if_pos h, if_pos h]; rfl
 ·rw [if_neg h, if_neg h]; rfl
theorem asc_len : ∀ (l : List Int) (a b : Int), l.Pairwise (· < ·) → (∀ x ∈ l, a ≤ x ∧ x ≤ b) → (l.length : Int) ≤ max (b - a + 1) 0
 | [], a, b, _, _ => by simp; omega
 | x :: r, a, b, h, hx => by
   have h0 := List.pairwise_cons.1 h
   have h1 := hx x (by simp)
   have := asc_len r (x + 1) b h0.2 fun y hy => ⟨by have := h0.1 y hy; omega, (hx y (by simp [hy])).2⟩
   rw [List.length_cons]
   omega
theorem freeF_asc (c : ConT) : (qd3 c).Pairwise (· < ·) := by
 rw [qd3]
 split
 ·exact sortU_asc _
 ·exact List.Pairwise.nil
theorem freeF_n {c : ConT} {i : Int} (h : i ∈ qd3 c) : 0 ≤ i ∧ i ≤ 20000 := by
 rw [qd3] at h
 split at h
 ·rename_i hv
  rw [qc0] at h
  obtain ⟨x, b, h1, h2, h3, rfl⟩ := mem_freeL.1 h
  obtain ⟨_, _, g3, g4, _⟩ := leaves_mem c 0 x b h1
  have := qdj (g3 (qah hv))
  omega
 ·cases h
abbrev mpB (n : Nat) : Box := ⟨.one, .one (.mp (.ref n))⟩
abbrev mcB (ks : List Int) : Box := ⟨.one, .one (.mpc ks)⟩
theorem free1_spec (c : ConT) (uc ut : Int) (ka : List Int) (h1 : wtF c ≤ 900000000) (h2 : okS c) (h3 : 0 ≤ uc) (h4 : uc ≤ 1000000000) :
  Spec Tryz.prog 241 [pp (encC c), pp (uEnc uc ut), .one (.ptr (.ref 0) 0)] [mpB 1, mcB ka] (.tuple []) [mpB 1, mcB (addAll ka (qbd (qd3 c) uc))] := by
 have hF := tFree_spec c h1 h2
 have hn : ∀ i ∈ qd3 c, 0 ≤ i ∧ i ≤ 20000 := fun i hi => freeF_n hi
 have hlen := asc_len (qd3 c) 0 20000 (freeF_asc c) hn
 generalize hres : addAll ka (qbd (qd3 c) uc) = res
 generalize qd3 c = l at hF hn hres hlen
 refine wk (rv := []) ann241 30 Tryz.func241 ?_
 simp only [go_sem, eCz]
 refine aC hF ?_
 simp only [go_sem, List.length_map]
 refine aLl (α := Int) (β := Nat × List Int) (fun rest b => ⟨[(16, ii b.1), (4, pp (.ep (uEnc uc ut) 0)), (2, .one (.ptr (.ref 0) 0)), (14, pp (.slice (ints l))), (15, ii l.length)], [(.ref 0, mpB 1), (.ref 1, mcB b.2)], []⟩)
  (fun rest b => ∃ pre, l = pre ++ rest ∧ b.1 = pre.length ∧ addAll b.2 (qbd rest uc) = res) ?_ ?_ l (0, ka) _ ?_ ⟨[], rfl, rfl, hres⟩
 ·rintro ⟨m, cur⟩ ⟨pre, g1, g2, g3⟩ K
  simp only [List.append_nil] at g1 g2 g3
  subst g1
  simp only [qbd, List.filterMap_nil, List.foldl_nil] at g3
  subst g3
  simp only [go_sem, g2, ltF (Int.le_refl _)]
 ·rintro x rest ⟨m, cur⟩ ⟨pre, g1, g2, g3⟩ K hK
  simp only at g2 g3
  have hx : (ints l)[m]? = some (.int .i64 x) := by simp [ints, g1, g2]
  have hlt : (m : Int) < l.length := by rw [g1, g2]; simp; omega
  have hxb := hn x (by simp [g1])
  have hll : m < l.length := by rw [g1, g2]; simp
  have w1 : IntKind.i64.wrap (x - uc) = x - uc := wId (by omega) (by omega)
  have w4 : IntKind.i64.wrap ((m : Int) + 1) = ((m + 1 : Nat) : Int) := by rw [wId (by omega) (by omega)]; simp
  rw [above_cons] at g3
  simp only [go_sem, decide_eq_true hlt, Int.toNat_natCast, Int.natCast_nonneg, hx]
  refine cKi (fun hb => ?_) (fun hb => ?_)
  ·rw [if_pos (of_decide_eq_true hb)] at g3
   simp only [go_sem, w1, w4]
   refine hK (m + 1, addK cur (x - uc)) _ ?_ ⟨pre ++ [x], by simp [g1], by simp [g2], g3⟩
   simp only [go_sem]
  ·rw [if_neg (of_decide_eq_false hb)] at g3
   simp only [go_sem, w4]
   refine hK (m + 1, cur) _ ?_ ⟨pre ++ [x], by simp [g1], by simp [g2], g3⟩
   simp only [go_sem]
 ·simp only [go_sem, Int.natCast_zero]
theorem free2_spec (n uc ut : Int) (kb : List Int) (h1 : -1000000000000 ≤ n) (h2 : n ≤ 1000000000000) (h3 : 0 ≤ ut) (h4 : ut ≤ 1000000000000) :
  Spec Tryz.prog 243 [ii n, pp (uEnc uc ut), .one (.ptr (.ref 0) 0)] [mpB 1, mcB kb] (.tuple []) [mpB 1, mcB (addAll kb (qbd [n] ut))] := by
 have w1 : IntKind.i64.wrap (n - ut) = n - ut := wId (by omega) (by omega)
 rw [above_cons]
 refine wk (rv := []) ann243 14 Tryz.func243 ?_
 simp only [go_sem]
 refine cKi (fun hb => ?_) (fun hb => ?_)
 ·rw [if_pos (of_decide_eq_true hb)]
  simp only [go_sem, w1, qbd, List.filterMap_nil, List.append_nil, List.foldl_cons, List.foldl_nil]
 ·rw [if_neg (of_decide_eq_false hb)]
  simp only [go_sem, qbd, List.filterMap_nil, List.append_nil, List.foldl_nil]
mutual
def wtT : TermT → Nat
 | .mk _ _ _ _ _ _ _ l => 1 + wtTL l
def wtTL : List TermT → Nat
 | [] => 0
 | x :: r => wtT x + wtTL r
end
theorem qbo {op n : Int} {s : ByteArray} {con to : ConT} {k : List KindT} {names : List ByteArray} {l : List TermT} (h : okT (.mk op n s con to k names l)) : okS con ∧ okS to ∧ l.length ≤ 1000000000 ∧ okTs l := by
 simp only [okT] at h
 exact ⟨h.2.1.2, h.2.2.1.2, h.2.2.2.2.2.2.1, h.2.2.2.2.2.2.2⟩
mutual
def wcT : TermT → Prop
 | .mk _ _ _ con to _ _ l => wtF con ≤ 900000000 ∧ wtF to ≤ 900000000 ∧ wcTs l
def wcTs : List TermT → Prop
 | [] => True
 | x :: r => wcT x ∧ wcTs r
end
theorem wcTs_mem : ∀ {l : List TermT}, wcTs l ↔ ∀ x ∈ l, wcT x
 | [] => by simp [wcTs]
 | x :: r => by simp [wcTs, wcTs_mem (l := r)]
theorem qd6 (a b c : List Int) : addAll a (b ++ c) = addAll (addAll a b) c := List.foldl_append
theorem walk_spec (t : TermT) : ∀ (uc ut : Int) (ka kb : List Int), wfT t = true → okT t → wcT t → 0 ≤ uc → uc + depthT t ≤ 1000000000 → 0 ≤ ut → ut + depthT t ≤ 1000000000 →
  Spec Tryz.prog 240 [pp (uEnc uc ut), pp (encT t), .one (.fn 241 [.ptr (.ref 0) 0]), .one (.fn 243 [.ptr (.ref 1) 0])] [mpB 2, mpB 3, mcB ka, mcB kb] (.tuple [])
   [mpB 2, mpB 3, mcB (addAll ka (consF t uc)), mcB (addAll kb (termsF t ut))] := by
 revert t
 refine TermT.ind1 fun op n s con to k names l ih => ?_
 intro uc ut ka kb hwf hok hwc h1 h2 h3 h4
 rw [wfT, Bool.and_eq_true] at hwf
 obtain ⟨hnode, hwl⟩ := hwf
 obtain ⟨o1, o2, o3, o4⟩ := qbo hok
 simp only [wcT] at hwc
 obtain ⟨c1, c2, c3⟩ := hwc
 rw [depthT] at h2 h4
 have hH := thasCon_spec op
 have hF1 := fun ka => free1_spec con uc ut ka c1 o1 h1 (by omega)
 have hF2 := fun ka => free1_spec to uc ut ka c2 o2 h1 (by omega)
 have hV : op = 1 → ∀ kb, Spec Tryz.prog 243 [ii n, pp (uEnc uc ut), .one (.ptr (.ref 0) 0)] [mpB 1, mcB kb] (.tuple []) [mpB 1, mcB (addAll kb (qbd [n] ut))] := fun e kb => by
  obtain ⟨_, _, _, _, _, _, g1, g2⟩ := qbh hnode e
  exact free2_spec n uc ut kb (by omega) (by omega) h3 (by omega)
 have hIn := fun i hi => tinside_spec op n s con to k names l uc ut i h1 (by omega) h3 (by omega) hi
 have h9 : op = 9 → l.length ≤ 2 := fun e => by subst e; have := qde hnode; omega
 simp only [qal, ConT.cells] at hF1 hF2
 simp only [eTm, qal, ConT.cells] at hIn
 rw [consF, termsF, qd6, qd6, qd6]
 have e8 : (op = 8) ↔ (op == 8) = true := by simp
 have e1 : (op = 1) ↔ (op == 1) = true := by simp
 simp only [e8, e1]
 rw [e1] at hV
 generalize hq : qad op = q at hH
 generalize h8 : (op == 8) = q8
 generalize h11 : (op == 1) = q1 at hV
 generalize qbd (qd3 con) uc = a1 at hF1
 generalize qbd (qd3 to) uc = a2 at hF2
 generalize qbd [n] ut = a3 at hV
 have hcase : (q = true ∧ q8 = true ∧ q1 = false) ∨ (q = true ∧ q8 = false ∧ q1 = false) ∨ (q = false ∧ q8 = false ∧ q1 = true) ∨ (q = false ∧ q8 = false ∧ q1 = false) := by
  subst hq h8 h11
  by_cases e8 : op = 8
  ·subst e8; exact .inl ⟨by decide, by decide, by decide⟩
  ·by_cases e1 : op = 1
   ·subst e1; exact .inr (.inr (.inl ⟨by decide, by decide, by decide⟩))
   ·have f8 : (op == 8) = false := by simp [e8]
    have f1 : (op == 1) = false := by simp [e1]
    rw [f8, f1]
    cases qad op
    ·exact .inr (.inr (.inr ⟨rfl, rfl, rfl⟩))
    ·exact .inr (.inl ⟨rfl, rfl, rfl⟩)
 generalize hra : addAll (addAll (addAll ka (if q = true then a1 else [])) (if q8 = true then a2 else [])) (consL op l 0 uc) = RA
 generalize hrb : addAll (addAll kb (if q1 = true then a3 else [])) (qd0 op l 0 ut) = RB
 refine wk (rv := []) ann240 51 Tryz.func240 ?_
 simp only [go_sem, eTm]
 refine aC hH ?_
 rcases hcase with ⟨rfl, rfl, rfl⟩ | ⟨rfl, rfl, rfl⟩ | ⟨rfl, rfl, rfl⟩ | ⟨rfl, rfl, rfl⟩
 all_goals
  simp only [Bool.false_eq_true, if_true, if_false, List.foldl_nil] at hra hrb
  simp only [go_sem, h8, h11]
  try (refine aC (hF1 _) ?_; simp only [go_sem, h8, h11])
  try (refine aC (hF2 _) ?_; simp only [go_sem, h8, h11])
  try (refine aC (hV rfl _) ?_; simp only [go_sem, h8, h11])
  simp only [List.length_map]
  clear hH hF1 hF2 hV h8 h11 hq hnode
  refine aLl (α := TermT) (β := Nat × List Int × List Int) (fun rest b => ⟨[(37, ii b.1), (3, .one (.fn 243 [.ptr (.ref 1) 0])), (2, .one (.fn 241 [.ptr (.ref 0) 0])), (5, pp (.ep (encT (.mk op n s con to k names l)) 0)), (4, pp (.ep (uEnc uc ut) 0)), (35, pp (.slice (l.map encT))), (36, ii l.length)],
    [(.ref 0, mpB 2), (.ref 1, mpB 3), (.ref 2, mcB b.2.1), (.ref 3, mcB b.2.2)], []⟩)
   (fun rest b => ∃ pre, l = pre ++ rest ∧ b.1 = pre.length ∧ addAll b.2.1 (consL op rest b.1 uc) = RA ∧ addAll b.2.2 (qd0 op rest b.1 ut) = RB) ?_ ?_ l (0, _, _) _ ?_ ⟨[], rfl, rfl, hra, hrb⟩
  ·rintro ⟨m, ca, cb⟩ ⟨pre, g1, g2, g3, g4⟩ K
   simp only [List.append_nil] at g1 g2
   simp only [consL, qd0, List.foldl_nil] at g3 g4
   subst g1 g3 g4
   simp only [go_sem, g2, ltF (Int.le_refl _)]
  ·rintro x rest ⟨m, ca, cb⟩ ⟨pre, g1, g2, g3, g4⟩ K hK
   simp only at g2 g3 g4
   have hx : (l.map encT)[m]? = some (encT x) := by simp [g1, g2]
   have hlt : (m : Int) < l.length := by rw [g1, g2]; simp; omega
   have hll : m < l.length := by rw [g1, g2]; simp
   have hm : x ∈ l := by simp [g1]
   have hdx := qb1 hm
   have w4 : IntKind.i64.wrap ((m : Int) + 1) = ((m + 1 : Nat) : Int) := by rw [wId (by omega) (by omega)]; simp
   have hIn := hIn m (by omega)
   have b1 : 0 ≤ insC op m ∧ insC op m ≤ 1 := by
    rw [insC]
    by_cases e9 : op = 9
    ·have := h9 e9
     rw [if_neg (by omega), if_pos e9]; omega
    ·rw [if_neg e9]; split <;> omega
   have b2 : 0 ≤ insT op m ∧ insT op m ≤ 1 := by
    rw [insT]
    by_cases e9 : op = 9
    ·have := h9 e9
     rw [if_neg (by omega), if_neg (by omega), if_pos e9]; omega
    ·rw [if_neg e9]; (repeat' split) <;> omega
   have hI := ih x hm (uc + insC op m) (ut + insT op m) ca cb (wfL_mem.1 hwl x hm) (okTs_mem.1 o4 x hm) (wcTs_mem.1 c3 x hm) (by omega) (by omega) (by omega) (by omega)
   rw [consL, qd6] at g3
   rw [qd0, qd6] at g4
   have hK' := fun s' hs => hK (m + 1, addAll ca (consF x (uc + insC op m)), addAll cb (termsF x (ut + insT op m))) s' hs ⟨pre ++ [x], by simp [g1], by simp [g2], g3, g4⟩
   clear hK
   generalize addAll ca (consF x (uc + insC op m)) = ca2 at hI hK'
   generalize addAll cb (termsF x (ut + insT op m)) = cb2 at hI hK'
   generalize uc + insC op m = uc2 at hI hIn
   generalize ut + insT op m = ut2 at hI hIn
   simp only [go_sem, decide_eq_true hlt, Int.toNat_natCast, Int.natCast_nonneg, hx, eTz, eTm]
   refine aC hIn ?_
   simp only [go_sem, eTz]
   try (refine ⟨by kernel_rfl, ?_⟩; try simp only [go_sem, eTz])
   refine aC hI ?_
   simp only [go_sem, w4]
   try (refine ⟨by kernel_rfl, ?_⟩; try simp only [go_sem, w4])
   refine hK' _ ?_
   simp only [go_sem, eTm]
  ·simp only [go_sem, Int.natCast_zero, eTm]
/-! free, and Free -/
theorem addK_mem (ks : List Int) (i y : Int) : y ∈ addK ks i ↔ y ∈ ks ∨ y = i := by
 rw [addK]
 split
 ·rename_i h
  constructor
  ·exact .inl
  ·rintro (h' | rfl)
   ·exact h'
   ·exact h
 ·simp
theorem addAll_mem (l : List Int) : ∀ (ks : List Int) (y : Int), y ∈ addAll ks l ↔ y ∈ ks ∨ y ∈ l := by
 induction l with
 | nil => intro ks y; simp
 | cons x r ih =>
   intro ks y
   rw [show addAll ks (x :: r) = addAll (addK ks x) r from rfl, ih, addK_mem, List.mem_cons]
   constructor
   ·rintro ((h | h) | h)
    ·exact .inl h
    ·exact .inr (.inl h)
    ·exact .inr (.inr h)
   ·rintro (h | h | h)
    ·exact .inl (.inl h)
    ·exact .inl (.inr h)
    ·exact .inr h
theorem addAll_sort (l : List Int) : qar (addAll [] l) = qar l := sortU_congr fun x => by rw [addAll_mem]; simp
theorem addK_len (ks : List Int) (i : Int) : (addK ks i).length ≤ ks.length + 1 := by
 rw [addK]; split <;> simp
theorem addAll_len (l : List Int) : ∀ ks, (addAll ks l).length ≤ ks.length + l.length := by
 induction l with
 | nil => intro ks; simp
 | cons x r ih =>
   intro ks
   have h1 := ih (addK ks x)
   have h2 := addK_len ks x
   rw [show addAll ks (x :: r) = addAll (addK ks x) r from rfl, List.length_cons]
   omega
theorem free_spec (t : TermT) (h1 : wfT t = true) (h2 : okT t) (h3 : wcT t) (h4 : depthT t ≤ 1000000000) (h5 : (consF t 0).length ≤ 1000000000) (h6 : (termsF t 0).length ≤ 1000000000) :
  Spec Tryz.prog 192 [pp (encT t)] [] (.tuple [.slice (ints (qar (consF t 0))), .slice (ints (qar (termsF t 0)))]) [] := by
 have hWk := walk_spec t 0 0 [] [] h1 h2 h3 (by decide) (by omega) (by decide) (by omega)
 have l1 := addAll_len (consF t 0) []
 have l2 := addAll_len (termsF t 0) []
 rw [← addAll_sort (consF t 0), ← addAll_sort (termsF t 0)]
 simp only [List.length_nil, Nat.zero_add] at l1 l2
 generalize addAll [] (consF t 0) = ca at hWk l1 ⊢
 generalize addAll [] (termsF t 0) = cb at hWk l2 ⊢
 have hS1 := sorted_spec ca (by omega)
 have hS2 := sorted_spec cb (by omega)
 refine wk (rv := [.tmp 2, .tmp 3]) ann192 17 Tryz.func192 ?_
 simp only [go_sem, eTz]
 try (refine ⟨by kernel_rfl, ?_⟩; try simp only [go_sem, eTz])
 refine aC hWk ?_
 simp only [go_sem]
 refine aC hS1 ?_
 simp only [go_sem]
 try (refine ⟨by kernel_rfl, ?_⟩; try simp only [go_sem])
 refine aC hS2 ?_
 simp only [go_sem]
 try (refine ⟨by kernel_rfl, ?_⟩; try simp only [go_sem])
end Go.Abs.Kon
