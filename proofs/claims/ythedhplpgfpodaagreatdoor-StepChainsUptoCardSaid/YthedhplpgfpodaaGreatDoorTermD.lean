/- Terms. -/
import Derived.Test.YthedhplpgfpodaaGreatDoorTermC
set_option linter.unusedSimpArgs false
set_option linter.unusedVariables false
namespace Go.Abs.Kon
open Go Go.Proofs Go.Abs
set_option maxRecDepth 100000
set_option maxHeartbeats 4000000
def ccell : Bool → ConT → List SC
 | true, c => [.pv (.int .i64 c.op), .pv (.int .i64 c.n), .pv (.str c.s), .pv (.slice (c.k.map encK)), .pv (.slice (c.names.map .str)), .pv (.slice (c.l.map encC))]
 | false, _ => [.pv (.int .i64 0), .pv (.int .i64 0), .pv (.str ByteArray.empty), .nilS, .nilS, .nilS]
theorem qbe (c : ConT) : ccell true c = [.pv (.int .i64 c.op), .pv (.int .i64 c.n), .pv (.str c.s), .pv (.slice (c.k.map encK)), .pv (.slice (c.names.map .str)), .pv (.slice (c.l.map encC))] := rfl
theorem qbf (c : ConT) : ccell false c = [.pv (.int .i64 0), .pv (.int .i64 0), .pv (.str ByteArray.empty), .nilS, .nilS, .nilS] := rfl
theorem eT0 : encT zeroT = .agg [.int .i64 0, .int .i64 0, .str ByteArray.empty, .int .i64 0, .int .i64 0, .str ByteArray.empty, .slice [], .slice [], .slice [], .int .i64 0, .int .i64 0, .str ByteArray.empty, .slice [], .slice [], .slice [], .slice [], .slice [], .slice []] := rfl
def zboxT : Box := ⟨.agg 18, .agg [.pv (.int .i64 0), .pv (.int .i64 0), .pv (.str ByteArray.empty), .pv (.int .i64 0), .pv (.int .i64 0), .pv (.str ByteArray.empty), .nilS, .nilS, .nilS, .pv (.int .i64 0), .pv (.int .i64 0), .pv (.str ByteArray.empty), .nilS, .nilS, .nilS, .nilS, .nilS, .nilS]⟩
abbrev chE (fc : FuncId) (capsC : List PV) (fv : FuncId) (capsV : List PV) : PV := .agg [.fn fc capsC, .fn fv capsV]
theorem change_spec (fc fv : FuncId) (capsC capsV : List PV) (cf : ConT → Int → Int → ConT × Int) (vf : Int → Int → Int → TermT × Int)
  (HC : ∀ c uc ut, okS c → 0 ≤ uc → uc ≤ 1000000 → (qac c = true ∨ c = zeroC) → Spec Tryz.prog fc (pp (encC c) :: pp (uEnc uc ut) :: capsC.map pp) [] (.tuple [encC (cf c uc ut).1, .int .i64 (cf c uc ut).2]) [])
  (HV : ∀ n uc ut, 0 ≤ n → n ≤ 20000 → 0 ≤ uc → uc ≤ 1000000 → 0 ≤ ut → ut ≤ 1000000 → Spec Tryz.prog fv (ii n :: pp (uEnc uc ut) :: capsV.map pp) [] (.tuple [encT (vf n uc ut).1, .int .i64 (vf n uc ut).2]) []) (t : TermT) :
  ∀ uc ut : Int, wfT t = true → okT t → 0 ≤ uc → uc + depthT t ≤ 1000000 → 0 ≤ ut → ut + depthT t ≤ 1000000 →
  Spec Tryz.prog 196 [pp (chE fc capsC fv capsV), pp (encT t), pp (uEnc uc ut)] [] (.tuple [encT (chT cf vf t uc ut).1, .int .i64 (chT cf vf t uc ut).2]) [] := by
 revert t
 refine TermT.ind1 fun op n s con to k names l ih => ?_
 intro uc ut hwf hok h1 h2 h3 h4
 rw [wfT, Bool.and_eq_true] at hwf
 obtain ⟨hnode, hwl⟩ := hwf
 obtain ⟨o1, o2, o3, o4⟩ := qbo hok
 simp only [okT] at hok
 have hCl := Clone_spec names (by omega)
 rw [depthT] at h2 h4
 by_cases hop : op = 1
 ·obtain ⟨_, _, _, _, _, _, g1, g2⟩ := qbh hnode hop
  have hV := HV n uc ut g1 g2 h1 (by omega) h3 (by omega)
  rw [chT, if_pos hop]
  generalize vf n uc ut = r at hV
  have e1 : (op == 1) = true := by simp [hop]
  refine wf (rv := [.cell 6 52, .tmp 7]) ann196 101 Tryz.func196 fun hfit => ?_
  clear hfit ih
  simp only [go_sem, eTm, e1]
  refine aC hV ?_
  simp only [go_sem, eTz]
 ·have e1 : (op == 1) = false := by simp [hop]
  have hH := thasCon_spec op
  have hnc := qbi hnode
  have hC1 := HC con uc ut o1 h1 (by omega) (by
   cases hh : qad op with
   | true => exact .inl (hnc.1 hh)
   | false => exact .inr (hnc.2.1 hh))
  have hC2 := HC to uc ut o2 h1 (by omega) (by
   by_cases hh : op = 8
   ·exact .inl (hnc.2.2.1 hh)
   ·exact .inr (hnc.2.2.2 hh))
  clear hnc
  have hIn := fun i hi => tinside_spec op n s con to k names l uc ut i h1 (by omega) h3 (by omega) hi
  have h9 : op = 9 → l.length ≤ 2 := fun e => by subst e; have := qde hnode; omega
  simp only [qal, ConT.cells] at hC1 hC2
  simp only [eTm, qal, ConT.cells] at hIn
  have e8 : (op = 8) ↔ (op == 8) = true := by simp
  have hq8 : (op == 8) = true → qad op = true := fun e => by rw [eq_of_beq e]; decide
  generalize hres : chT cf vf (.mk op n s con to k names l) uc ut = res
  rw [chT, if_neg hop] at hres
  simp only [e8] at hres
  clear HC HV e8
  generalize cf con uc ut = y1 at hC1 hres
  generalize cf to uc ut = y2 at hC2 hres
  generalize qad op = q at hH hres hq8
  generalize h8 : (op == 8) = q8 at hres hq8
  have hcase : (q = true ∧ q8 = true) ∨ (q = true ∧ q8 = false) ∨ (q = false ∧ q8 = false) := by
   cases q8
   ·cases q
    ·exact .inr (.inr ⟨rfl, rfl⟩)
    ·exact .inr (.inl ⟨rfl, rfl⟩)
   ·exact .inl ⟨hq8 rfl, rfl⟩
  by_cases hb1 : q = true ∧ y1.2 ≠ 0
  ·rw [if_pos hb1] at hres
   subst hres
   obtain ⟨rfl, hb1⟩ := hb1
   have f1 : (y1.2 != 0) = true := by simp [hb1]
   rw [eT0]
   refine wf (rv := [.cell 6 52, .tmp 7]) ann196 101 Tryz.func196 fun hfit => ?_
   clear hfit ih
   simp only [go_sem, eTm, e1]
   refine aC hCl ?_
   simp only [go_sem]
   try (refine ⟨by kernel_rfl, ?_⟩; try simp only [go_sem])
   refine aC hH ?_
   simp only [go_sem]
   refine aC hC1 ?_
   simp only [go_sem, f1]
  ·rw [if_neg hb1] at hres
   by_cases hb2 : q8 = true ∧ y2.2 ≠ 0
   ·rw [if_pos hb2] at hres
    subst hres
    obtain ⟨rfl, hb2⟩ := hb2
    have hqt := hq8 rfl
    subst hqt
    have f1 : (y1.2 != 0) = false := by
     cases hd : (y1.2 != 0) with
     | false => rfl
     | true => exact absurd ⟨rfl, by simpa using hd⟩ hb1
    have f2 : (y2.2 != 0) = true := by simp [hb2]
    rw [eT0]
    refine wf (rv := [.cell 6 52, .tmp 7]) ann196 101 Tryz.func196 fun hfit => ?_
    clear hfit ih
    simp only [go_sem, eTm, e1]
    refine aC hCl ?_
    simp only [go_sem]
    try (refine ⟨by kernel_rfl, ?_⟩; try simp only [go_sem])
    refine aC hH ?_
    simp only [go_sem]
    refine aC hC1 ?_
    simp only [go_sem, f1, h8]
    refine aC hC2 ?_
    simp only [go_sem, f2]
   ·rw [if_neg hb2] at hres
    have f1 : q = true → (y1.2 != 0) = false := fun e => by
     cases hd : (y1.2 != 0) with
     | false => rfl
     | true => exact absurd ⟨e, by simpa using hd⟩ hb1
    have f2 : q8 = true → (y2.2 != 0) = false := fun e => by
     cases hd : (y2.2 != 0) with
     | false => rfl
     | true => exact absurd ⟨e, by simpa using hd⟩ hb2
    clear hb1 hb2 hq8 hnode
    generalize hz1 : y1.1 = z1 at hC1 hres
    generalize hz2 : y2.1 = z2 at hC2 hres
    -- what the loop yields
    have hfin : ∀ out : List TermT, (out, (0 : Int)) = chL cf vf op l 0 uc ut → res = (.mk op n s (if q = true then z1 else zeroC) (if q8 = true then z2 else zeroC) k names out, 0) := fun out e => by
     rw [← e, if_neg (by simp)] at hres
     exact hres.symm
    have hbad : ∀ e : Int, e ≠ 0 → (chL cf vf op l 0 uc ut).2 = e → res = (zeroT, e) := fun e he hE => by
     rw [if_pos (by rw [hE]; exact he), hE] at hres
     exact hres.symm
    clear hres hz1 hz2
    rcases hcase with ⟨rfl, rfl⟩ | ⟨rfl, rfl⟩ | ⟨rfl, rfl⟩
    ·simp only [Bool.false_eq_true, if_true, if_false] at hfin
     try have f1 := f1 rfl
     try have f2 := f2 rfl
     refine wk (rv := [.cell 6 52, .tmp 7]) ann196 101 Tryz.func196 ?_
     simp only [go_sem, eTm, e1]
     refine aC hCl ?_
     simp only [go_sem]
     try (refine ⟨by kernel_rfl, ?_⟩; try simp only [go_sem])
     refine aC hH ?_
     simp only [go_sem, h8]
     try (refine aC hC1 ?_; simp only [go_sem, f1, h8])
     try (refine aC hC2 ?_; simp only [go_sem, f2, h8])
     simp only [List.length_map]
     clear hCl hH hC1 hC2 e1
     generalize hG : chL cf vf op l 0 uc ut = G0 at hfin hbad
     refine aLl (α := TermT) (β := Nat × List TermT) (fun rest b => ⟨[(6, .one (.ptr (.loc 6) 0)), (74, ii b.1), (8, .one (.ptr (.loc 8) 0)), (4, pp (.ep (encT (.mk op n s con to k names l)) 0)), (5, pp (.ep (uEnc uc ut) 0)), (3, pp (.ep (chE fc capsC fv capsV) 0)), (72, pp (.slice (l.map encT))), (73, ii l.length)],
       [(.loc 6, zboxT), (.loc 8, ⟨.agg 18, .agg ([.pv (.int .i64 op), .pv (.int .i64 n), .pv (.str s)] ++ (ccell true z1 ++ (ccell true z2 ++ [.pv (.slice (k.map encK)), .pv (.slice (names.map .str)), acc 194 (.agg 18) (b.2.map encT)])))⟩)], []⟩)
      (fun rest b => ∃ pre, l = pre ++ rest ∧ b.1 = pre.length ∧ b.2.length = pre.length ∧ ((chL cf vf op rest b.1 uc ut).2 = 0 → G0 = (b.2 ++ (chL cf vf op rest b.1 uc ut).1, 0)) ∧ ((chL cf vf op rest b.1 uc ut).2 ≠ 0 → G0.2 = (chL cf vf op rest b.1 uc ut).2)) ?_ ?_ l (0, []) _ ?_ ⟨[], rfl, rfl, rfl, fun e => ?_, fun e => ?_⟩
     ·rintro ⟨m, out⟩ ⟨pre, g1, g2, g3, g4, g5⟩ K
      simp only [List.append_nil] at g1 g2 g3
      simp only [chL, List.append_nil] at g4
      have hr := hfin out (g4 trivial).symm
      subst g1
      rw [hr]
      cases out <;> simp only [go_sem, g2, ltF (Int.le_refl _), acc, zboxT, qbe, qbf, List.cons_append, List.nil_append, eTm, List.map_nil, List.map_cons, zeroC, ConT.op, ConT.n, ConT.s, ConT.k, ConT.names, ConT.l]
     ·rintro x rest ⟨m, out⟩ ⟨pre, g1, g2, g3, g4, g5⟩ K hK
      simp only at g2 g3 g4 g5
      have hx : (l.map encT)[m]? = some (encT x) := by simp [g1, g2]
      have hlt : (m : Int) < l.length := by rw [g1, g2]; simp; omega
      have hll : m < l.length := by rw [g1, g2]; simp
      have hm : x ∈ l := by simp [g1]
      have hdx := qb1 hm
      have w4 : IntKind.i64.wrap ((m : Int) + 1) = ((m + 1 : Nat) : Int) := by rw [wId (by omega) (by omega)]; simp
      have hIn := hIn m (by omega)
      have b1 : 0 ≤ insC op m ∧ insC op m ≤ 1 := by
       rw [insC]
       by_cases e9 : op = 9
       ·have := h9 e9
        rw [if_neg (by omega), if_pos e9]; omega
       ·rw [if_neg e9]; split <;> omega
      have b2 : 0 ≤ insT op m ∧ insT op m ≤ 1 := by
       rw [insT]
       by_cases e9 : op = 9
       ·have := h9 e9
        rw [if_neg (by omega), if_neg (by omega), if_pos e9]; omega
       ·rw [if_neg e9]; (repeat' split) <;> omega
      have hI := ih x hm (uc + insC op m) (ut + insT op m) (wfL_mem.1 hwl x hm) (okTs_mem.1 o4 x hm) (by omega) (by omega) (by omega) (by omega)
      rw [chL] at g4 g5
      generalize chT cf vf x (uc + insC op m) (ut + insT op m) = y at hI g4 g5
      have hbadx : (y.2 != 0) = true → res = (zeroT, y.2) := fun e => by
       have e' : y.2 ≠ 0 := by simpa using e
       rw [if_pos e'] at g5
       exact hbad y.2 e' (g5 e')
      have hK' := fun (e : (y.2 != 0) = false) s' hs => by
       have e' : ¬ y.2 ≠ 0 := by simpa using e
       refine hK (m + 1, out ++ [y.1]) s' hs ⟨pre ++ [x], by simp [g1], by simp [g2], by simp [g3], fun h => ?_, fun h => ?_⟩
       ·rw [if_neg e', if_neg (by simpa using h)] at g4
        simpa using g4 rfl
       ·rw [if_neg e', if_pos h] at g5
        exact g5 h
      clear hK g4 g5 hfin hbad
      have hb1 : (out.length + 1) * 312 ≤ 140737488355328 := by omega
      have hb2 : out.length + 1 ≤ maxLen := by rw [mLe]; omega
      generalize uc + insC op m = uc2 at hI hIn
      generalize ut + insT op m = ut2 at hI hIn
      clear b1 b2 h1 h2 h3 h4 ih hdx
      cases hyb : (y.2 != 0)
      ·have hK' := hK' hyb
       cases out
       ·simp only [go_sem, decide_eq_true hlt, Int.toNat_natCast, Int.natCast_nonneg, hx, eTz, eTm, acc, zboxT, qbe, qbf, List.cons_append, List.nil_append, List.map_nil]
        refine aC hIn ?_
        simp only [go_sem, eTz]
        try (refine ⟨by kernel_rfl, ?_⟩; try simp only [go_sem, eTz])
        refine aC hI ?_
        simp only [go_sem, eTz, hyb, w4, oneM]
        try (refine ⟨by kernel_rfl, ?_⟩; try simp only [go_sem, eTz, hyb, w4, oneM])
        refine hK' _ ?_
        simp only [go_sem, acc, zboxT, qbe, qbf, List.cons_append, List.nil_append, eTm, List.map_cons, List.map_nil]
       ·simp only [List.length_cons] at hb1 hb2
        simp only [go_sem, decide_eq_true hlt, Int.toNat_natCast, Int.natCast_nonneg, hx, eTz, eTm, acc, zboxT, qbe, qbf, List.cons_append, List.nil_append, List.map_cons]
        refine aC hIn ?_
        simp only [go_sem, eTz]
        try (refine ⟨by kernel_rfl, ?_⟩; try simp only [go_sem, eTz])
        refine aC hI ?_
        simp only [go_sem, eTz, hyb, w4, List.length_map, hb1, hb2]
        try (refine ⟨by kernel_rfl, ?_⟩; try simp only [go_sem, eTz, hyb, w4, List.length_map, hb1, hb2])
        refine hK' _ ?_
        simp only [go_sem, acc, zboxT, qbe, qbf, List.cons_append, List.nil_append, eTm, List.map_cons, List.map_append, List.map_nil]
      ·rw [hbadx hyb, eT0]
       cases out <;> (
        simp only [go_sem, decide_eq_true hlt, Int.toNat_natCast, Int.natCast_nonneg, hx, eTz, eTm, acc, zboxT, qbe, qbf, List.cons_append, List.nil_append, List.map_nil, List.map_cons]
        refine aC hIn ?_
        simp only [go_sem, eTz]
        try (refine ⟨by kernel_rfl, ?_⟩; try simp only [go_sem, eTz])
        refine aC hI ?_
        simp only [go_sem, eTz, hyb]
        try (first | kernel_rfl | (refine ⟨by kernel_rfl, ?_⟩; try simp only [go_sem, eTz, hyb])))
     ·simp only [go_sem, acc, zboxT, qbe, qbf, List.cons_append, List.nil_append, eTm, Int.natCast_zero, List.map_nil]
     ·rw [hG] at e ⊢
      rw [List.nil_append, ← e]
     ·rw [hG]
    ·simp only [Bool.false_eq_true, if_true, if_false] at hfin
     try have f1 := f1 rfl
     try have f2 := f2 rfl
     refine wk (rv := [.cell 6 52, .tmp 7]) ann196 101 Tryz.func196 ?_
     simp only [go_sem, eTm, e1]
     refine aC hCl ?_
     simp only [go_sem]
     try (refine ⟨by kernel_rfl, ?_⟩; try simp only [go_sem])
     refine aC hH ?_
     simp only [go_sem, h8]
     try (refine aC hC1 ?_; simp only [go_sem, f1, h8])
     try (refine aC hC2 ?_; simp only [go_sem, f2, h8])
     simp only [List.length_map]
     clear hCl hH hC1 hC2 e1
     generalize hG : chL cf vf op l 0 uc ut = G0 at hfin hbad
     refine aLl (α := TermT) (β := Nat × List TermT) (fun rest b => ⟨[(6, .one (.ptr (.loc 6) 0)), (74, ii b.1), (8, .one (.ptr (.loc 8) 0)), (4, pp (.ep (encT (.mk op n s con to k names l)) 0)), (5, pp (.ep (uEnc uc ut) 0)), (3, pp (.ep (chE fc capsC fv capsV) 0)), (72, pp (.slice (l.map encT))), (73, ii l.length)],
       [(.loc 6, zboxT), (.loc 8, ⟨.agg 18, .agg ([.pv (.int .i64 op), .pv (.int .i64 n), .pv (.str s)] ++ (ccell true z1 ++ (ccell false z2 ++ [.pv (.slice (k.map encK)), .pv (.slice (names.map .str)), acc 194 (.agg 18) (b.2.map encT)])))⟩)], []⟩)
      (fun rest b => ∃ pre, l = pre ++ rest ∧ b.1 = pre.length ∧ b.2.length = pre.length ∧ ((chL cf vf op rest b.1 uc ut).2 = 0 → G0 = (b.2 ++ (chL cf vf op rest b.1 uc ut).1, 0)) ∧ ((chL cf vf op rest b.1 uc ut).2 ≠ 0 → G0.2 = (chL cf vf op rest b.1 uc ut).2)) ?_ ?_ l (0, []) _ ?_ ⟨[], rfl, rfl, rfl, fun e => ?_, fun e => ?_⟩
     ·rintro ⟨m, out⟩ ⟨pre, g1, g2, g3, g4, g5⟩ K
      simp only [List.append_nil] at g1 g2 g3
      simp only [chL, List.append_nil] at g4
      have hr := hfin out (g4 trivial).symm
      subst g1
      rw [hr]
      cases out <;> simp only [go_sem, g2, ltF (Int.le_refl _), acc, zboxT, qbe, qbf, List.cons_append, List.nil_append, eTm, List.map_nil, List.map_cons, zeroC, ConT.op, ConT.n, ConT.s, ConT.k, ConT.names, ConT.l]
     ·rintro x rest ⟨m, out⟩ ⟨pre, g1, g2, g3, g4, g5⟩ K hK
      simp only at g2 g3 g4 g5
      have hx : (l.map encT)[m]? = some (encT x) := by simp [g1, g2]
      have hlt : (m : Int) < l.length := by rw [g1, g2]; simp; omega
      have hll : m < l.length := by rw [g1, g2]; simp
      have hm : x ∈ l := by simp [g1]
      have hdx := qb1 hm
      have w4 : IntKind.i64.wrap ((m : Int) + 1) = ((m + 1 : Nat) : Int) := by rw [wId (by omega) (by omega)]; simp
      have hIn := hIn m (by omega)
      have b1 : 0 ≤ insC op m ∧ insC op m ≤ 1 := by
       rw [insC]
       by_cases e9 : op = 9
       ·have := h9 e9
        rw [if_neg (by omega), if_pos e9]; omega
       ·rw [if_neg e9]; split <;> omega
      have b2 : 0 ≤ insT op m ∧ insT op m ≤ 1 := by
       rw [insT]
       by_cases e9 : op = 9
       ·have := h9 e9
        rw [if_neg (by omega), if_neg (by omega), if_pos e9]; omega
       ·rw [if_neg e9]; (repeat' split) <;> omega
      have hI := ih x hm (uc + insC op m) (ut + insT op m) (wfL_mem.1 hwl x hm) (okTs_mem.1 o4 x hm) (by omega) (by omega) (by omega) (by omega)
      rw [chL] at g4 g5
      generalize chT cf vf x (uc + insC op m) (ut + insT op m) = y at hI g4 g5
      have hbadx : (y.2 != 0) = true → res = (zeroT, y.2) := fun e => by
       have e' : y.2 ≠ 0 := by simpa using e
       rw [if_pos e'] at g5
       exact hbad y.2 e' (g5 e')
      have hK' := fun (e : (y.2 != 0) = false) s' hs => by
       have e' : ¬ y.2 ≠ 0 := by simpa using e
       refine hK (m + 1, out ++ [y.1]) s' hs ⟨pre ++ [x], by simp [g1], by simp [g2], by simp [g3], fun h => ?_, fun h => ?_⟩
       ·rw [if_neg e', if_neg (by simpa using h)] at g4
        simpa using g4 rfl
       ·rw [if_neg e', if_pos h] at g5
        exact g5 h
      clear hK g4 g5 hfin hbad
      have hb1 : (out.length + 1) * 312 ≤ 140737488355328 := by omega
      have hb2 : out.length + 1 ≤ maxLen := by rw [mLe]; omega
      generalize uc + insC op m = uc2 at hI hIn
      generalize ut + insT op m = ut2 at hI hIn
      clear b1 b2 h1 h2 h3 h4 ih hdx
      cases hyb : (y.2 != 0)
      ·have hK' := hK' hyb
       cases out
       ·simp only [go_sem, decide_eq_true hlt, Int.toNat_natCast, Int.natCast_nonneg, hx, eTz, eTm, acc, zboxT, qbe, qbf, List.cons_append, List.nil_append, List.map_nil]
        refine aC hIn ?_
        simp only [go_sem, eTz]
        try (refine ⟨by kernel_rfl, ?_⟩; try simp only [go_sem, eTz])
        refine aC hI ?_
        simp only [go_sem, eTz, hyb, w4, oneM]
        try (refine ⟨by kernel_rfl, ?_⟩; try simp only [go_sem, eTz, hyb, w4, oneM])
        refine hK' _ ?_
        simp only [go_sem, acc, zboxT, qbe, qbf, List.cons_append, List.nil_append, eTm, List.map_cons, List.map_nil]
       ·simp only [List.length_cons] at hb1 hb2
        simp only [go_sem, decide_eq_true hlt, Int.toNat_natCast, Int.natCast_nonneg, hx, eTz, eTm, acc, zboxT, qbe, qbf, List.cons_append, List.nil_append, List.map_cons]
        refine aC hIn ?_
        simp only [go_sem, eTz]
        try (refine ⟨by kernel_rfl, ?_⟩; try simp only [go_sem, eTz])
        refine aC hI ?_
        simp only [go_sem, eTz, hyb, w4, List.length_map, hb1, hb2]
        try (refine ⟨by kernel_rfl, ?_⟩; try simp only [go_sem, eTz, hyb, w4, List.length_map, hb1, hb2])
        refine hK' _ ?_
        simp only [go_sem, acc, zboxT, qbe, qbf, List.cons_append, List.nil_append, eTm, List.map_cons, List.map_append, List.map_nil]
      ·rw [hbadx hyb, eT0]
       cases out <;> (
        simp only [go_sem, decide_eq_true hlt, Int.toNat_natCast, Int.natCast_nonneg, hx, eTz, eTm, acc, zboxT, qbe, qbf, List.cons_append, List.nil_append, List.map_nil, List.map_cons]
        refine aC hIn ?_
        simp only [go_sem, eTz]
        try (refine ⟨by kernel_rfl, ?_⟩; try simp only [go_sem, eTz])
        refine aC hI ?_
        simp only [go_sem, eTz, hyb]
        try (first | kernel_rfl | (refine ⟨by kernel_rfl, ?_⟩; try simp only [go_sem, eTz, hyb])))
     ·simp only [go_sem, acc, zboxT, qbe, qbf, List.cons_append, List.nil_append, eTm, Int.natCast_zero, List.map_nil]
     ·rw [hG] at e ⊢
      rw [List.nil_append, ← e]
     ·rw [hG]
    ·simp only [Bool.false_eq_true, if_true, if_false] at hfin
     try have f1 := f1 rfl
     try have f2 := f2 rfl
     refine wk (rv := [.cell 6 52, .tmp 7]) ann196 101 Tryz.func196 ?_
     simp only [go_sem, eTm, e1]
     refine aC hCl ?_
     simp only [go_sem]
     try (refine ⟨by kernel_rfl, ?_⟩; try simp only [go_sem])
     refine aC hH ?_
     simp only [go_sem, h8]
     try (refine aC hC1 ?_; simp only [go_sem, f1, h8])
     try (refine aC hC2 ?_; simp only [go_sem, f2, h8])
     simp only [List.length_map]
     clear hCl hH hC1 hC2 e1
     generalize hG : chL cf vf op l 0 uc ut = G0 at hfin hbad
     refine aLl (α := TermT) (β := Nat × List TermT) (fun rest b => ⟨[(6, .one (.ptr (.loc 6) 0)), (74, ii b.1), (8, .one (.ptr (.loc 8) 0)), (4, pp (.ep (encT (.mk op n s con to k names l)) 0)), (5, pp (.ep (uEnc uc ut) 0)), (3, pp (.ep (chE fc capsC fv capsV) 0)), (72, pp (.slice (l.map encT))), (73, ii l.length)],
       [(.loc 6, zboxT), (.loc 8, ⟨.agg 18, .agg ([.pv (.int .i64 op), .pv (.int .i64 n), .pv (.str s)] ++ (ccell false z1 ++ (ccell false z2 ++ [.pv (.slice (k.map encK)), .pv (.slice (names.map .str)), acc 194 (.agg 18) (b.2.map encT)])))⟩)], []⟩)
      (fun rest b => ∃ pre, l = pre ++ rest ∧ b.1 = pre.length ∧ b.2.length = pre.length ∧ ((chL cf vf op rest b.1 uc ut).2 = 0 → G0 = (b.2 ++ (chL cf vf op rest b.1 uc ut).1, 0)) ∧ ((chL cf vf op rest b.1 uc ut).2 ≠ 0 → G0.2 = (chL cf vf op rest b.1 uc ut).2)) ?_ ?_ l (0, []) _ ?_ ⟨[], rfl, rfl, rfl, fun e => ?_, fun e => ?_⟩
     ·rintro ⟨m, out⟩ ⟨pre, g1, g2, g3, g4, g5⟩ K
      simp only [List.append_nil] at g1 g2 g3
      simp only [chL, List.append_nil] at g4
      have hr := hfin out (g4 trivial).symm
      subst g1
      rw [hr]
      cases out <;> simp only [go_sem, g2, ltF (Int.le_refl _), acc, zboxT, qbe, qbf, List.cons_append, List.nil_append, eTm, List.map_nil, List.map_cons, zeroC, ConT.op, ConT.n, ConT.s, ConT.k, ConT.names, ConT.l]
     ·rintro x rest ⟨m, out⟩ ⟨pre, g1, g2, g3, g4, g5⟩ K hK
      simp only at g2 g3 g4 g5
      have hx : (l.map encT)[m]? = some (encT x) := by simp [g1, g2]
      have hlt : (m : Int) < l.length := by rw [g1, g2]; simp; omega
      have hll : m < l.length := by rw [g1, g2]; simp
      have hm : x ∈ l := by simp [g1]
      have hdx := qb1 hm
      have w4 : IntKind.i64.wrap ((m : Int) + 1) = ((m + 1 : Nat) : Int) := by rw [wId (by omega) (by omega)]; simp
      have hIn := hIn m (by omega)
      have b1 : 0 ≤ insC op m ∧ insC op m ≤ 1 := by
       rw [insC]
       by_cases e9 : op = 9
       ·have := h9 e9
        rw [if_neg (by omega), if_pos e9]; omega
       ·rw [if_neg e9]; split <;> omega
      have b2 : 0 ≤ insT op m ∧ insT op m ≤ 1 := by
       rw [insT]
       by_cases e9 : op = 9
       ·have := h9 e9
        rw [if_neg (by omega), if_neg (by omega), if_pos e9]; omega
       ·rw [if_neg e9]; (repeat' split) <;> omega
      have hI := ih x hm (uc + insC op m) (ut + insT op m) (wfL_mem.1 hwl x hm) (okTs_mem.1 o4 x hm) (by omega) (by omega) (by omega) (by omega)
      rw [chL] at g4 g5
      generalize chT cf vf x (uc + insC op m) (ut + insT op m) = y at hI g4 g5
      have hbadx : (y.2 != 0) = true → res = (zeroT, y.2) := fun e => by
       have e' : y.2 ≠ 0 := by simpa using e
       rw [if_pos e'] at g5
       exact hbad y.2 e' (g5 e')
      have hK' := fun (e : (y.2 != 0) = false) s' hs => by
       have e' : ¬ y.2 ≠ 0 := by simpa using e
       refine hK (m + 1, out ++ [y.1]) s' hs ⟨pre ++ [x], by simp [g1], by simp [g2], by simp [g3], fun h => ?_, fun h => ?_⟩
       ·rw [if_neg e', if_neg (by simpa using h)] at g4
        simpa using g4 rfl
       ·rw [if_neg e', if_pos h] at g5
        exact g5 h
      clear hK g4 g5 hfin hbad
      have hb1 : (out.length + 1) * 312 ≤ 140737488355328 := by omega
      have hb2 : out.length + 1 ≤ maxLen := by rw [mLe]; omega
      generalize uc + insC op m = uc2 at hI hIn
      generalize ut + insT op m = ut2 at hI hIn
      clear b1 b2 h1 h2 h3 h4 ih hdx
      cases hyb : (y.2 != 0)
      ·have hK' := hK' hyb
       cases out
       ·simp only [go_sem, decide_eq_true hlt, Int.toNat_natCast, Int.natCast_nonneg, hx, eTz, eTm, acc, zboxT, qbe, qbf, List.cons_append, List.nil_append, List.map_nil]
        refine aC hIn ?_
        simp only [go_sem, eTz]
        try (refine ⟨by kernel_rfl, ?_⟩; try simp only [go_sem, eTz])
        refine aC hI ?_
        simp only [go_sem, eTz, hyb, w4, oneM]
        try (refine ⟨by kernel_rfl, ?_⟩; try simp only [go_sem, eTz, hyb, w4, oneM])
        refine hK' _ ?_
        simp only [go_sem, acc, zboxT, qbe, qbf, List.cons_append, List.nil_append, eTm, List.map_cons, List.map_nil]
       ·simp only [List.length_cons] at hb1 hb2
        simp only [go_sem, decide_eq_true hlt, Int.toNat_natCast, Int.natCast_nonneg, hx, eTz, eTm, acc, zboxT, qbe, qbf, List.cons_append, List.nil_append, List.map_cons]
        refine aC hIn ?_
        simp only [go_sem, eTz]
        try (refine ⟨by kernel_rfl, ?_⟩; try simp only [go_sem, eTz])
        refine aC hI ?_
        simp only [go_sem, eTz, hyb, w4, List.length_map, hb1, hb2]
        try (refine ⟨by kernel_rfl, ?_⟩; try simp only [go_sem, eTz, hyb, w4, List.length_map, hb1, hb2])
        refine hK' _ ?_
        simp only [go_sem, acc, zboxT, qbe, qbf, List.cons_append, List.nil_append, eTm, List.map_cons, List.map_append, List.map_nil]
      ·rw [hbadx hyb, eT0]
       cases out <;> (
        simp only [go_sem, decide_eq_true hlt, Int.toNat_natCast, Int.natCast_nonneg, hx, eTz, eTm, acc, zboxT, qbe, qbf, List.cons_append, List.nil_append, List.map_nil, List.map_cons]
        refine aC hIn ?_
        simp only [go_sem, eTz]
        try (refine ⟨by kernel_rfl, ?_⟩; try simp only [go_sem, eTz])
        refine aC hI ?_
        simp only [go_sem, eTz, hyb]
        try (first | kernel_rfl | (refine ⟨by kernel_rfl, ?_⟩; try simp only [go_sem, eTz, hyb])))
     ·simp only [go_sem, acc, zboxT, qbe, qbf, List.cons_append, List.nil_append, eTm, Int.natCast_zero, List.map_nil]
     ·rw [hG] at e ⊢
      rw [List.nil_append, ← e]
     ·rw [hG]
/-! Sizes -/
mutual
theorem measT_wt : ∀ (t : TermT) (left depth : Int), (measT t left depth).2 = true → (wtT t : Int) ≤ (measT t left depth).1
 | .mk op n s con to k names l, left, depth => by
   rw [measT, wtT]
   split
   ·intro h; cases h
   ·intro h
    have := measTL_wt l left _ depth h
    have h1 : (0 : Int) ≤ (if qad op = true then (sizeF con : Int) else 0) := by split <;> omega
    have h2 : (0 : Int) ≤ (if op = 8 then (sizeF to : Int) else 0) := by split <;> omega
    omega
theorem measTL_wt : ∀ (l : List TermT) (left n depth : Int), (measTL l left n depth).2 = true → n + wtTL l ≤ (measTL l left n depth).1
 | [], left, n, depth => by rw [measTL, wtTL]; intro _; simp
 | x :: r, left, n, depth => by
   rw [measTL, wtTL]
   split
   ·intro h; cases h
   ·rename_i h
    intro h1
    have h2 := measT_wt x _ _ (by simpa using h)
    have h3 := measTL_wt r _ _ _ h1
    omega
end
theorem valid_wt {t : TermT} (h : qab t = true) : wtT t ≤ 20000 := by
 have h1 := measT_wt t 20000 1 h
 have h2 := (measT_le t 20000 1).2 h
 omega
theorem above_len (l : List Int) (u : Int) : (qbd l u).length ≤ l.length := List.length_filterMap_le _ _
theorem freeF_len (c : ConT) : (qd3 c).length ≤ 20001 := by
 have := asc_len (qd3 c) 0 20000 (freeF_asc c) (fun i hi => freeF_n hi)
 omega
mutual
theorem consF_len : ∀ (t : TermT) (uc : Int), (consF t uc).length ≤ 40002 * wtT t
 | .mk op n s con to k names l, uc => by
   rw [consF, wtT, List.length_append, List.length_append]
   have h1 : (if qad op = true then qbd (qd3 con) uc else []).length ≤ 20001 := by
    split
    ·exact Nat.le_trans (above_len _ _) (freeF_len con)
    ·simp
   have h2 : (if op = 8 then qbd (qd3 to) uc else []).length ≤ 20001 := by
    split
    ·exact Nat.le_trans (above_len _ _) (freeF_len to)
    ·simp
   have h3 := consL_len op l 0 uc
   omega
theorem consL_len (op : Int) : ∀ (l : List TermT) (i : Nat) (uc : Int), (consL op l i uc).length ≤ 40002 * wtTL l
 | [], i, uc => by rw [consL]; simp
 | x :: r, i, uc => by
   rw [consL, wtTL, List.length_append]
   have h1 := consF_len x (uc + insC op i)
   have h2 := consL_len op r (i + 1) uc
   omega
end
mutual
theorem termsF_len : ∀ (t : TermT) (ut : Int), (termsF t ut).length ≤ wtT t
 | .mk op n s con to k names l, ut => by
   rw [termsF, wtT, List.length_append]
   have h1 : (if op = 1 then qbd [n] ut else []).length ≤ 1 := by
    split
    ·exact Nat.le_trans (above_len _ _) (by simp)
    ·simp
   have h3 := termsL_len op l 0 ut
   omega
theorem termsL_len (op : Int) : ∀ (l : List TermT) (i : Nat) (ut : Int), (qd0 op l i ut).length ≤ wtTL l
 | [], i, ut => by rw [qd0]; simp
 | x :: r, i, ut => by
   rw [qd0, wtTL, List.length_append]
   have h1 := termsF_len x (ut + insT op i)
   have h2 := termsL_len op r (i + 1) ut
   omega
end
theorem insC_nn (op : Int) (i : Nat) : 0 ≤ insC op i := by rw [insC]; (repeat' split) <;> omega
theorem insT_nn (op : Int) (i : Nat) : 0 ≤ insT op i := by rw [insT]; (repeat' split) <;> omega
mutual
theorem consF_n : ∀ (t : TermT) (uc : Int), 0 ≤ uc → ∀ i ∈ consF t uc, 0 ≤ i ∧ i ≤ 20000
 | .mk op n s con to k names l, uc, h, i, hi => by
   rw [consF] at hi
   have hab : ∀ c, i ∈ qbd (qd3 c) uc → 0 ≤ i ∧ i ≤ 20000 := by
    intro c hc
    obtain ⟨m, h1, h2, rfl⟩ := mem_above.1 hc
    have := freeF_n h1
    omega
   rcases List.mem_append.1 hi with hi | hi
   ·split at hi
    ·exact hab _ hi
    ·cases hi
   ·rcases List.mem_append.1 hi with hi | hi
    ·split at hi
     ·exact hab _ hi
     ·cases hi
    ·exact consL_n op l 0 uc h i hi
theorem consL_n (op : Int) : ∀ (l : List TermT) (j : Nat) (uc : Int), 0 ≤ uc → ∀ i ∈ consL op l j uc, 0 ≤ i ∧ i ≤ 20000
 | [], j, uc, h, i, hi => by rw [consL] at hi; cases hi
 | x :: r, j, uc, h, i, hi => by
   rw [consL] at hi
   rcases List.mem_append.1 hi with hi | hi
   ·exact consF_n x _ (by have := insC_nn op j; omega) i hi
   ·exact consL_n op r (j + 1) uc h i hi
end
mutual
theorem termsF_n : ∀ (t : TermT) (ut : Int), wfT t = true → 0 ≤ ut → ∀ i ∈ termsF t ut, 0 ≤ i ∧ i ≤ 20000
 | .mk op n s con to k names l, ut, hwf, h, i, hi => by
   rw [wfT, Bool.and_eq_true] at hwf
   rw [termsF] at hi
   rcases List.mem_append.1 hi with hi | hi
   ·split at hi
    ·rename_i h1
     obtain ⟨_, _, _, _, _, _, g1, g2⟩ := qbh hwf.1 h1
     obtain ⟨m, h1, h2, rfl⟩ := mem_above.1 hi
     rw [List.mem_singleton] at h1
     omega
    ·cases hi
   ·exact termsL_n op l 0 ut hwf.2 h i hi
theorem termsL_n (op : Int) : ∀ (l : List TermT) (j : Nat) (ut : Int), wfL l = true → 0 ≤ ut → ∀ i ∈ qd0 op l j ut, 0 ≤ i ∧ i ≤ 20000
 | [], j, ut, hwf, h, i, hi => by rw [qd0] at hi; cases hi
 | x :: r, j, ut, hwf, h, i, hi => by
   rw [wfL, Bool.and_eq_true] at hwf
   rw [qd0] at hi
   rcases List.mem_append.1 hi with hi | hi
   ·exact termsF_n x _ hwf.1 (by have := insT_nn op j; omega) i hi
   ·exact termsL_n op r (j + 1) ut hwf.2 h i hi
end
/-! What is rebuilt is such as memory allows -/
abbrev okCon (c : ConT) : Prop := sizeF c ≤ 1000000000 ∧ okS c
theorem okS_zero : okS zeroC := by
 simp only [zeroC, okS, okSs, and_true]
 exact ⟨by decide, fun x hx => by simp at hx⟩
theorem okCon_zero : okCon zeroC := ⟨by decide, okS_zero⟩
theorem okT_zero : okT zeroT := by
 simp only [zeroT, okT, okTs, knL]
 exact ⟨by decide, okCon_zero, okCon_zero, by decide, fun x hx => by simp at hx, by decide, by decide, trivial⟩
theorem okT_var (n : Int) : okT (varT n) := by
 simp only [varT, okT, okTs, knL]
 exact ⟨by decide, okCon_zero, okCon_zero, by decide, fun x hx => by simp at hx, by decide, by decide, trivial⟩
mutual
theorem chT_ok (cf : ConT → Int → Int → ConT × Int) (vf : Int → Int → Int → TermT × Int) (HC : ∀ c uc ut, wtF c ≤ 900000000 → okS c → okCon (cf c uc ut).1) (HV : ∀ n uc ut, okT (vf n uc ut).1) :
  ∀ (t : TermT) (uc ut : Int), okT t → wcT t → okT (chT cf vf t uc ut).1
 | .mk op n s con to k names l, uc, ut, hok, hwc => by
   have hL := chL_ok cf vf HC HV op l 0 uc ut (qbo hok).2.2.2 (by simp only [wcT] at hwc; exact hwc.2.2)
   simp only [okT] at hok
   simp only [wcT] at hwc
   rw [chT]
   split
   ·exact HV _ _ _
   ·split
    ·exact okT_zero
    ·split
     ·exact okT_zero
     ·split
      ·exact okT_zero
      ·simp only [okT]
       refine ⟨hok.1, ?_, ?_, hok.2.2.2.1, hok.2.2.2.2.1, hok.2.2.2.2.2.1, Nat.le_trans hL.1 hok.2.2.2.2.2.2.1, hL.2⟩
       ·split
        ·exact HC _ _ _ hwc.1 hok.2.1.2
        ·exact okCon_zero
       ·split
        ·exact HC _ _ _ hwc.2.1 hok.2.2.1.2
        ·exact okCon_zero
theorem chL_ok (cf : ConT → Int → Int → ConT × Int) (vf : Int → Int → Int → TermT × Int) (HC : ∀ c uc ut, wtF c ≤ 900000000 → okS c → okCon (cf c uc ut).1) (HV : ∀ n uc ut, okT (vf n uc ut).1) (op : Int) :
  ∀ (l : List TermT) (i : Nat) (uc ut : Int), okTs l → wcTs l → (chL cf vf op l i uc ut).1.length ≤ l.length ∧ okTs (chL cf vf op l i uc ut).1
 | [], i, uc, ut, _, _ => by rw [chL]; exact ⟨Nat.le_refl _, trivial⟩
 | x :: r, i, uc, ut, hok, hwc => by
   simp only [okTs] at hok
   simp only [wcTs] at hwc
   have h1 := chT_ok cf vf HC HV x (uc + insC op i) (ut + insT op i) hok.1 hwc.1
   have h2 := chL_ok cf vf HC HV op r (i + 1) uc ut hok.2 hwc.2
   rw [chL]
   split
   ·exact ⟨by simp, trivial⟩
   ·split
    ·exact ⟨by simp, trivial⟩
    ·simp only [okTs, List.length_cons]
     exact ⟨by omega, h1, h2.2⟩
end
theorem shiftF_ok (c : ConT) (n f : Int) (h2 : okS c) : okCon (qcj c n f).1 := by
 rw [qcj]
 split
 ·exact okCon_zero
 ·split
  ·exact okCon_zero
  ·rw [replF_eq]
   split
   ·rename_i hv
    refine ⟨?_, mapF_okS _ c 0 h2 fun x b hx => qe4 n f x b ((leaves_mem c 0 x b hx).2.1 h2)⟩
    rw [qac] at hv
    simp only [Bool.and_eq_true, decide_eq_true_iff] at hv
    have := hv.1
    simp only
    omega
   ·exact okCon_zero
mutual
theorem chT_okW (cf : ConT → Int → Int → ConT × Int) (vf : Int → Int → Int → TermT × Int) (HC : ∀ c uc ut, qac c = true → okS c → okCon (cf c uc ut).1) (HV : ∀ n uc ut, okT (vf n uc ut).1) :
  ∀ (t : TermT) (uc ut : Int), okT t → wfT t = true → okT (chT cf vf t uc ut).1
 | .mk op n s con to k names l, uc, ut, hok, hwf => by
   rw [wfT, Bool.and_eq_true] at hwf
   obtain ⟨n1, _, n3, _⟩ := qbi hwf.1
   have hL := chL_okW cf vf HC HV op l 0 uc ut (qbo hok).2.2.2 hwf.2
   simp only [okT] at hok
   rw [chT]
   split
   ·exact HV _ _ _
   ·split
    ·exact okT_zero
    ·split
     ·exact okT_zero
     ·split
      ·exact okT_zero
      ·simp only [okT]
       refine ⟨hok.1, ?_, ?_, hok.2.2.2.1, hok.2.2.2.2.1, hok.2.2.2.2.2.1, Nat.le_trans hL.1 hok.2.2.2.2.2.2.1, hL.2⟩
       ·split
        ·rename_i e; exact HC _ _ _ (n1 e) hok.2.1.2
        ·exact okCon_zero
       ·split
        ·rename_i e; exact HC _ _ _ (n3 e) hok.2.2.1.2
        ·exact okCon_zero
theorem chL_okW (cf : ConT → Int → Int → ConT × Int) (vf : Int → Int → Int → TermT × Int) (HC : ∀ c uc ut, qac c = true → okS c → okCon (cf c uc ut).1) (HV : ∀ n uc ut, okT (vf n uc ut).1) (op : Int) :
  ∀ (l : List TermT) (i : Nat) (uc ut : Int), okTs l → wfL l = true → (chL cf vf op l i uc ut).1.length ≤ l.length ∧ okTs (chL cf vf op l i uc ut).1
 | [], i, uc, ut, _, _ => by rw [chL]; exact ⟨Nat.le_refl _, trivial⟩
 | x :: r, i, uc, ut, hok, hwf => by
   simp only [okTs] at hok
   rw [wfL, Bool.and_eq_true] at hwf
   have h1 := chT_okW cf vf HC HV x (uc + insC op i) (ut + insT op i) hok.1 hwf.1
   have h2 := chL_okW cf vf HC HV op r (i + 1) uc ut hok.2 hwf.2
   rw [chL]
   split
   ·exact ⟨by simp, trivial⟩
   ·split
    ·exact ⟨by simp, trivial⟩
    ·simp only [okTs, List.length_cons]
     exact ⟨by omega, h1, h2.2⟩
end
theorem shT_okV (n m : Int) (t : TermT) (uc ut : Int) (h1 : okT t) (h2 : wfT t = true) : okT (chT (shCf n) (shVf m) t uc ut).1 :=
 chT_okW _ _ (fun c uc _ _ h => shiftF_ok c n uc h) (fun _ _ _ => okT_var _) t uc ut h1 h2
theorem shT_ok (n m : Int) (t : TermT) (uc ut : Int) (h1 : okT t) (h2 : wcT t) : okT (chT (shCf n) (shVf m) t uc ut).1 :=
 chT_ok _ _ (fun c uc _ _ h => shiftF_ok c n uc h) (fun _ _ _ => okT_var _) t uc ut h1 h2
/-! The closures -/
theorem sizeF_or {c : ConT} (h : qac c = true ∨ c = zeroC) : sizeF c ≤ 1000000000 := by
 rcases h with h | rfl
 ·rw [qac, Bool.and_eq_true] at h
  have := of_decide_eq_true h.1
  omega
 ·decide
theorem shift1_spec (n : Int) (c : ConT) (uc ut : Int) (h1 : sizeF c ≤ 1000000000) (h2 : okS c) : Spec Tryz.prog 245 (pp (encC c) :: pp (uEnc uc ut) :: [capI n].map pp) [] (.tuple [encC (shCf n c uc ut).1, .int .i64 (shCf n c uc ut).2]) [] := by
 have hS := Shift_specV c n uc h1 h2
 rw [shCf]
 generalize qcj c n uc = r at hS
 refine wk (rv := [.cell 5 28, .tmp 6]) ann245 14 Tryz.func245 ?_
 simp only [go_sem, eCz, capI, List.map_cons, List.map_nil]
 refine aC hS ?_
 simp only [go_sem, eCz]
theorem encT_var (n : Int) : encT (varT n) = .agg [.int .i64 1, .int .i64 n, .str ByteArray.empty, .int .i64 0, .int .i64 0, .str ByteArray.empty, .slice [], .slice [], .slice [], .int .i64 0, .int .i64 0, .str ByteArray.empty, .slice [], .slice [], .slice [], .slice [], .slice [], .slice []] := rfl
theorem shift2_spec (m n uc ut : Int) (h1 : -1000000000 ≤ m) (h2 : m ≤ 1000000000) (h3 : 0 ≤ n) (h4 : n ≤ 20000) : Spec Tryz.prog 246 (ii n :: pp (uEnc uc ut) :: [capI m].map pp) [] (.tuple [encT (shVf m n uc ut).1, .int .i64 (shVf m n uc ut).2]) [] := by
 have w1 : IntKind.i64.wrap (n + m) = n + m := wId (by omega) (by omega)
 rw [shVf, encT_var]
 refine wk (rv := [.cell 5 52, .tmp 6]) ann246 16 Tryz.func246 ?_
 simp only [go_sem, capI, List.map_cons, List.map_nil]
 refine cKi (fun hb => ?_) (fun hb => ?_)
 ·rw [if_pos (of_decide_eq_true hb)]
  simp only [go_sem, w1]
 ·rw [if_neg (of_decide_eq_false hb)]
  simp only [go_sem]
theorem shifting_spec (n m : Int) : Spec Tryz.prog 195 [ii n, ii m] [] (chE 245 [capI n] 246 [capI m]) [] := by
 refine wk (rv := [.cell 4 190]) ann195 8 Tryz.func195 ?_
 simp only [go_sem, capI]
theorem change_shiftV (n m : Int) (h1 : -1000000000 ≤ m) (h2 : m ≤ 1000000000) (t : TermT) (hwf : wfT t = true) (hok : okT t) (hd : depthT t ≤ 1000) :
  Spec Tryz.prog 196 [pp (chE 245 [capI n] 246 [capI m]), pp (encT t), pp (uEnc 0 0)] [] (.tuple [encT (chT (shCf n) (shVf m) t 0 0).1, .int .i64 (chT (shCf n) (shVf m) t 0 0).2]) [] :=
 change_spec _ _ [capI n] [capI m] (shCf n) (shVf m) (fun c uc ut g2 _ _ g5 => shift1_spec n c uc ut (sizeF_or g5) g2) (fun i uc ut g1 g2 _ _ _ _ => shift2_spec m i uc ut h1 h2 g1 g2) t 0 0 hwf hok (by decide) (by omega) (by decide) (by omega)
theorem change_shift (n m : Int) (h1 : -1000000000 ≤ m) (h2 : m ≤ 1000000000) (t : TermT) (hwf : wfT t = true) (hok : okT t) (_hwc : wcT t) (hd : depthT t ≤ 1000) :
  Spec Tryz.prog 196 [pp (chE 245 [capI n] 246 [capI m]), pp (encT t), pp (uEnc 0 0)] [] (.tuple [encT (chT (shCf n) (shVf m) t 0 0).1, .int .i64 (chT (shCf n) (shVf m) t 0 0).2]) [] :=
 change_shiftV n m h1 h2 t hwf hok hd
theorem finish_spec (r : TermT × Int) (h : okT r.1) : Spec Tryz.prog 194 [pp (encT r.1), ii r.2] [] (.tuple [encT (finT r).1, .int .i64 (finT r).2]) [] := by
 have hV := qcl r.1 h
 rw [finT]
 refine wk (rv := [.cell 4 52, .tmp 5]) ann194 15 Tryz.func194 ?_
 simp only [go_sem, eTz]
 refine gKi (fun hb => ?_) (fun hb => ?_)
 ·have hb' : ¬ r.2 ≠ 0 := by simpa using hb
  simp only [go_sem, eTz]
  refine aC hV ?_
  cases hv : qab r.1 with
  | true =>
    have hn : ¬ (r.2 ≠ 0 ∨ true = false) := by rintro (e | e); exact hb' e; cases e
    rw [if_neg hn]
    simp only [go_sem, eTz]
  | false =>
    have hn : (r.2 ≠ 0 ∨ (false : Bool) = false) := .inr rfl
    rw [if_pos hn, eT0]
    simp only [go_sem, eTz]
 ·have hb' : r.2 ≠ 0 := by simpa using hb
  have hn : (r.2 ≠ 0 ∨ qab r.1 = false) := .inl hb'
  rw [if_pos hn, eT0]
  simp only [go_sem, eTz]
theorem in_spec (n : Int) : Spec Tryz.prog 193 [ii n] [] (.bool (inB n)) [] := by
 refine wk (rv := [.tmp 2]) ann193 9 Tryz.func193 ?_
 simp only [go_sem]
 repeat' ((first | refine cKi (fun _ => ?_) (fun _ => ?_) | refine gKi (fun _ => ?_) (fun _ => ?_)) <;> simp only [go_sem, List.length_map])
 all_goals (simp only [inB]; simp_all <;> omega)
/-! Shift -/
theorem tShift_spec (t : TermT) (cons terms : Int) (hok : okT t) (hwc : wcT t) : Spec Tryz.prog 127 [pp (encT t), ii cons, ii terms] [] (.tuple [encT (ShiftT t cons terms).1, .int .i64 (ShiftT t cons terms).2]) [] := by
 have hV := qcl t hok
 rw [ShiftT]
 cases hv : qab t with
 | false =>
   rw [hv] at hV
   rw [if_pos rfl, eT0]
   refine wk (rv := [.cell 6 52, .tmp 7]) ann127 65 Tryz.func127 ?_
   simp only [go_sem, eTz]
   refine aC hV ?_
   simp only [go_sem]
 | true =>
   rw [hv] at hV
   obtain ⟨hwf, hd⟩ := qae hv
   have hwt := valid_wt hv
   have hl1 := consF_len t 0
   have hl2 := termsF_len t 0
   have hF := free_spec t hwf hok hwc (by omega) (by omega) (by omega)
   have hb1 : ∀ x ∈ qar (consF t 0), 0 ≤ x ∧ x ≤ 20000 := fun x hx => consF_n t 0 (by decide) x (qc0 _ |>.1 hx)
   have hb2 : ∀ x ∈ qar (termsF t 0), 0 ≤ x ∧ x ≤ 20000 := fun x hx => termsF_n t 0 hwf (by decide) x (qc0 _ |>.1 hx)
   have hI1 := in_spec cons
   have hI2 := in_spec terms
   rw [if_neg (by decide : ¬ (true = false))]
   generalize hres : (if inB cons = false ∨ inB terms = false ∨ headLt (qar (consF t 0)) cons = true ∨ headLt (qar (termsF t 0)) terms = true then (zeroT, (2 : Int)) else finT (shT cons terms t)) = res
   generalize qar (consF t 0) = la at hF hb1 hres
   generalize qar (termsF t 0) = lb at hF hb2 hres
   have hgood : inB cons = true → inB terms = true → Spec Tryz.prog 196 [pp (chE 245 [capI cons] 246 [capI terms]), pp (encT t), pp (uEnc 0 0)] [] (.tuple [encT (shT cons terms t).1, .int .i64 (shT cons terms t).2]) [] := fun e1 e2 => by
    rw [inB, Bool.and_eq_true] at e2
    have := of_decide_eq_true e2.1
    have := of_decide_eq_true e2.2
    exact change_shift cons terms (by omega) (by omega) t hwf hok hwc (by omega)
   have hSh := shifting_spec cons terms
   have hFi := finish_spec (shT cons terms t) (shT_ok cons terms t 0 0 hok hwc)
   generalize shT cons terms t = r at hgood hFi hres
   have hin : ∀ n, inB n = true → -20000 ≤ n ∧ n ≤ 20000 := fun n h => by
    rw [inB, Bool.and_eq_true] at h
    exact ⟨of_decide_eq_true h.1, of_decide_eq_true h.2⟩
   cases hi1 : inB cons with
   | false =>
     rw [hi1] at hI1
     rw [if_pos (.inl hi1)] at hres
     subst hres
     rw [eT0]
     refine wk (rv := [.cell 6 52, .tmp 7]) ann127 65 Tryz.func127 ?_
     simp only [go_sem, eTz]
     refine aC hV ?_
     simp only [go_sem, eTz]
     refine aC hF ?_
     simp only [go_sem]
     refine aC hI1 ?_
     simp only [go_sem]
   | true =>
     rw [hi1] at hI1
     obtain ⟨n1, n2⟩ := hin cons hi1
     cases hi2 : inB terms with
     | false =>
       rw [hi2] at hI2
       rw [if_pos (.inr (.inl hi2))] at hres
       subst hres
       rw [eT0]
       refine wk (rv := [.cell 6 52, .tmp 7]) ann127 65 Tryz.func127 ?_
       simp only [go_sem, eTz]
       refine aC hV ?_
       simp only [go_sem, eTz]
       refine aC hF ?_
       simp only [go_sem]
       refine aC hI1 ?_
       simp only [go_sem]
       refine aC hI2 ?_
       simp only [go_sem]
     | true =>
       rw [hi2] at hI2
       obtain ⟨n3, n4⟩ := hin terms hi2
       have hgood := hgood hi1 hi2
       have i1 : inB cons ≠ false := by rw [hi1]; decide
       have i2 : inB terms ≠ false := by rw [hi2]; decide
       -- the heads of both lists
       have tail : ∀ la lb, (∀ x ∈ la, 0 ≤ x ∧ x ≤ 20000) → (∀ x ∈ lb, 0 ≤ x ∧ x ≤ 20000) → Spec Tryz.prog 192 [pp (encT t)] [] (.tuple [.slice (ints la), .slice (ints lb)]) [] →
         (if inB cons = false ∨ inB terms = false ∨ headLt la cons = true ∨ headLt lb terms = true then (zeroT, (2 : Int)) else finT r) = res →
         Spec Tryz.prog 127 [pp (encT t), ii cons, ii terms] [] (.tuple [encT res.1, .int .i64 res.2]) [] := by
        intro la lb hb1 hb2 hF hres
        have hz : (headLt la cons = true ∨ headLt lb terms = true) → res = (zeroT, 2) := fun h => by rw [if_pos (.inr (.inr h))] at hres; exact hres.symm
        have hn : headLt la cons = false → headLt lb terms = false → res = finT r := fun h h' => by
         rw [if_neg (by rintro (e | e | e | e); exact i1 e; exact i2 e; rw [h] at e; cases e; rw [h'] at e; cases e)] at hres
         exact hres.symm
        clear hres
        have n0 : decide (((0 : Nat) : Int) > 0) = false := rfl
        have n1 : ∀ m : Nat, decide (((m + 1 : Nat) : Int) > 0) = true := fun m => by first | (simp; done) | (simp; omega)
        cases la with
        | nil =>
          cases lb with
          | nil =>
            rw [hn (rfl) (rfl)]
            refine wk (rv := [.cell 6 52, .tmp 7]) ann127 65 Tryz.func127 ?_
            simp only [go_sem, eTz]
            refine aC hV ?_
            simp only [go_sem, eTz]
            refine aC hF ?_
            simp only [go_sem]
            refine aC hI1 ?_
            simp only [go_sem]
            refine aC hI2 ?_
            simp only [go_sem, List.length_map, List.length_nil, List.length_cons, List.map_cons, List.map_nil, n0]
            refine aC hSh ?_
            simp only [go_sem, eTz]
            try (refine ⟨by kernel_rfl, ?_⟩; try simp only [go_sem, eTz])
            refine aC hgood ?_
            simp only [go_sem, eTz]
            try (refine ⟨by kernel_rfl, ?_⟩; try simp only [go_sem, eTz])
            refine aC hFi ?_
            simp only [go_sem, eTz]
            try (first | kernel_rfl | (refine ⟨by kernel_rfl, ?_⟩; try simp only [go_sem, eTz]))
          | cons y q =>
            have hy := hb2 y (by simp)
            have w2 : IntKind.i64.wrap (y + terms) = y + terms := wId (by omega) (by omega)
            by_cases d2 : y + terms < 0
            ·rw [hz (.inr (decide_eq_true d2)), eT0]
             refine wk (rv := [.cell 6 52, .tmp 7]) ann127 65 Tryz.func127 ?_
             simp only [go_sem, eTz]
             refine aC hV ?_
             simp only [go_sem, eTz]
             refine aC hF ?_
             simp only [go_sem]
             refine aC hI1 ?_
             simp only [go_sem]
             refine aC hI2 ?_
             simp only [go_sem, List.length_map, List.length_nil, List.length_cons, List.map_cons, List.map_nil, n0, n1, w2, decide_eq_true d2]
            ·rw [hn (rfl) (decide_eq_false d2)]
             refine wk (rv := [.cell 6 52, .tmp 7]) ann127 65 Tryz.func127 ?_
             simp only [go_sem, eTz]
             refine aC hV ?_
             simp only [go_sem, eTz]
             refine aC hF ?_
             simp only [go_sem]
             refine aC hI1 ?_
             simp only [go_sem]
             refine aC hI2 ?_
             simp only [go_sem, List.length_map, List.length_nil, List.length_cons, List.map_cons, List.map_nil, n0, n1, w2, decide_eq_false d2]
             refine aC hSh ?_
             simp only [go_sem, eTz]
             try (refine ⟨by kernel_rfl, ?_⟩; try simp only [go_sem, eTz])
             refine aC hgood ?_
             simp only [go_sem, eTz]
             try (refine ⟨by kernel_rfl, ?_⟩; try simp only [go_sem, eTz])
             refine aC hFi ?_
             simp only [go_sem, eTz]
             try (first | kernel_rfl | (refine ⟨by kernel_rfl, ?_⟩; try simp only [go_sem, eTz]))
        | cons x p =>
          have hx := hb1 x (by simp)
          have w1 : IntKind.i64.wrap (x + cons) = x + cons := wId (by omega) (by omega)
          by_cases d1 : x + cons < 0
          ·rw [hz (.inl (decide_eq_true d1)), eT0]
           refine wk (rv := [.cell 6 52, .tmp 7]) ann127 65 Tryz.func127 ?_
           simp only [go_sem, eTz]
           refine aC hV ?_
           simp only [go_sem, eTz]
           refine aC hF ?_
           simp only [go_sem]
           refine aC hI1 ?_
           simp only [go_sem]
           refine aC hI2 ?_
           simp only [go_sem, List.length_map, List.length_nil, List.length_cons, List.map_cons, List.map_nil, n0, n1, w1, decide_eq_true d1]
          ·cases lb with
           | nil =>
             rw [hn (decide_eq_false d1) (rfl)]
             refine wk (rv := [.cell 6 52, .tmp 7]) ann127 65 Tryz.func127 ?_
             simp only [go_sem, eTz]
             refine aC hV ?_
             simp only [go_sem, eTz]
             refine aC hF ?_
             simp only [go_sem]
             refine aC hI1 ?_
             simp only [go_sem]
             refine aC hI2 ?_
             simp only [go_sem, List.length_map, List.length_nil, List.length_cons, List.map_cons, List.map_nil, n0, n1, w1, decide_eq_false d1]
             refine aC hSh ?_
             simp only [go_sem, eTz]
             try (refine ⟨by kernel_rfl, ?_⟩; try simp only [go_sem, eTz])
             refine aC hgood ?_
             simp only [go_sem, eTz]
             try (refine ⟨by kernel_rfl, ?_⟩; try simp only [go_sem, eTz])
             refine aC hFi ?_
             simp only [go_sem, eTz]
             try (first | kernel_rfl | (refine ⟨by kernel_rfl, ?_⟩; try simp only [go_sem, eTz]))
           | cons y q =>
             have hy := hb2 y (by simp)
             have w2 : IntKind.i64.wrap (y + terms) = y + terms := wId (by omega) (by omega)
             by_cases d2 : y + terms < 0
             ·rw [hz (.inr (decide_eq_true d2)), eT0]
              refine wk (rv := [.cell 6 52, .tmp 7]) ann127 65 Tryz.func127 ?_
              simp only [go_sem, eTz]
              refine aC hV ?_
              simp only [go_sem, eTz]
              refine aC hF ?_
              simp only [go_sem]
              refine aC hI1 ?_
              simp only [go_sem]
              refine aC hI2 ?_
              simp only [go_sem, List.length_map, List.length_nil, List.length_cons, List.map_cons, List.map_nil, n0, n1, w1, w2, decide_eq_false d1, decide_eq_true d2]
             ·rw [hn (decide_eq_false d1) (decide_eq_false d2)]
              refine wk (rv := [.cell 6 52, .tmp 7]) ann127 65 Tryz.func127 ?_
              simp only [go_sem, eTz]
              refine aC hV ?_
              simp only [go_sem, eTz]
              refine aC hF ?_
              simp only [go_sem]
              refine aC hI1 ?_
              simp only [go_sem]
              refine aC hI2 ?_
              simp only [go_sem, List.length_map, List.length_nil, List.length_cons, List.map_cons, List.map_nil, n0, n1, w1, w2, decide_eq_false d1, decide_eq_false d2]
              refine aC hSh ?_
              simp only [go_sem, eTz]
              try (refine ⟨by kernel_rfl, ?_⟩; try simp only [go_sem, eTz])
              refine aC hgood ?_
              simp only [go_sem, eTz]
              try (refine ⟨by kernel_rfl, ?_⟩; try simp only [go_sem, eTz])
              refine aC hFi ?_
              simp only [go_sem, eTz]
              try (first | kernel_rfl | (refine ⟨by kernel_rfl, ?_⟩; try simp only [go_sem, eTz]))
       exact tail la lb hb1 hb2 hF hres
end Go.Abs.Kon
