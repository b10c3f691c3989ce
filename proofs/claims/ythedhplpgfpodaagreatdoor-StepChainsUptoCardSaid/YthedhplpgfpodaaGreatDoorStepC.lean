/- Small steps. -/
import Derived.Test.YthedhplpgfpodaaGreatDoorStepB
import Derived.Test.YthedhplpgfpodaaGreatDoorStepA
set_option linter.unusedSimpArgs false
set_option linter.unusedVariables false
namespace Go.Abs.Kon
open Go Go.Proofs Go.Abs
set_option maxRecDepth 100000
set_option maxHeartbeats 4000000
theorem qcw (t : TermT) : encT t = .agg [.int .i64 t.op, .int .i64 t.n, .str t.s, .int .i64 t.con.op, .int .i64 t.con.n, .str t.con.s, .slice (t.con.k.map encK), .slice (t.con.names.map .str), .slice (t.con.l.map encC),
 .int .i64 t.to.op, .int .i64 t.to.n, .str t.to.s, .slice (t.to.k.map encK), .slice (t.to.names.map .str), .slice (t.to.l.map encC), .slice (t.k.map encK), .slice (t.names.map .str), .slice (t.l.map encT)] := by cases t; rw [eTm]; rfl
def encR (r : TermT × List ByteArray × Int) : PV := .tuple [encT r.1, .slice (r.2.1.map .str), .int .i64 r.2.2]
theorem qaq (a : TermT) (b : List ByteArray) (c : Int) : encR (a, b, c) = .tuple [encT a, .slice (b.map .str), .int .i64 c] := rfl
theorem hd_get {l : List TermT} (h : 0 < l.length) : (l.map encT)[0]? = some (encT (hdT l)) := by
 cases l with
 | nil => cases h
 | cons x r => simp [hdT]
theorem snd_get {l : List TermT} (h : 1 < l.length) : (l.map encT)[1]? = some (encT (sndT l)) := by
 cases l with
 | nil => cases h
 | cons x r =>
   cases r with
   | nil => simp at h
   | cons y r => simp [sndT, hdT]
theorem lastD_get : ∀ (r : List TermT) (x : TermT), (x :: r)[r.length]? = some (r.getLastD x)
 | [], x => rfl
 | y :: r, x => by rw [List.getLastD_cons, List.length_cons, List.getElem?_cons_succ]; exact lastD_get r y
theorem last_get {l : List TermT} (h : 0 < l.length) : (l.map encT)[l.length - 1]? = some (encT (qcg l)) := by
 cases l with
 | nil => cases h
 | cons x r =>
   rw [List.getElem?_map, List.length_cons, Nat.add_sub_cancel, lastD_get, qcg, List.getLastD_cons]; rfl
theorem get_getD {l : List TermT} {i : Nat} (h : i < l.length) : (l.map encT)[i]? = some (encT (l.getD i zeroT)) := by
 simp [List.getD, h]
def operOk (n : Int) (l : List TermT) : Prop := 0 < l.length ∧ (¬ l.any (fun x => x.op != qdl n) = true →
 (qco n = true → ((hdT l).s.size : Int) ≤ 16384 ∧ ((qcg l).s.size : Int) ≤ 16384) ∧ (¬ qco n = true → (-mostN ≤ (hdT l).n ∧ (hdT l).n ≤ mostN) ∧ (-mostN ≤ (qcg l).n ∧ (qcg l).n ≤ mostN)))
theorem operOk_of {n : Int} {s : ByteArray} {con to : ConT} {k : List KindT} {names : List ByteArray} {l : List TermT} (h : qab (.mk 18 n s con to k names l) = true) : operOk n l := by
 have hl : (l.length : Int) = arityF n := len18 h rfl
 have := arityF_le n
 refine ⟨by omega, fun e => ?_⟩
 obtain ⟨_, g1, g2, g3, g4⟩ := prim_args h e
 refine ⟨fun ht => ?_, fun ht => ?_⟩
 ·rw [want_text ht] at g3 g4
  exact ⟨txt_rng g1 g3, txt_rng g2 g4⟩
 ·rw [want_int ht] at g3 g4
  exact ⟨int_rng g1 g3, int_rng g2 g4⟩
theorem oper_spec (n : Int) (s : ByteArray) (con to : ConT) (k : List KindT) (names : List ByteArray) (l : List TermT) (h : operOk n l) :
  Spec Tryz.prog 203 [pp (encT (.mk 18 n s con to k names l))] [] (encR (operT n l)) [] := by
 obtain ⟨hl, hk⟩ := h
 have hg0 := hd_get hl
 have hgl := last_get hl
 generalize hres : operT n l = res
 have hd1 := qcw (hdT l)
 have hd2 := qcw (qcg l)
 cases ht : qco n with
 | false =>
   have hw : qdl n = 2 := want_int (by rw [ht]; decide)
   have hf := ht
   simp only [qco, Bool.or_eq_false_iff] at hf
   obtain ⟨⟨⟨f10, f11⟩, f12⟩, f14⟩ := hf
   refine wf (rv := [.cell 2 52, .tmp 3, .tmp 4]) ann203 65 Tryz.func203 fun hfit => ?_
   have hlen : l.length ≤ 9223372036854775807 := by
    simp only [argsFit, SV.pv?, SC.pv?, eTm, PV.fit, fitL, List.length_map, mLe] at hfit
    exact hfit.1.2.2.2.2.2.2.2.2.2.2.2.2.2.2.2.2.2.1.1
   clear hfit
   have wl : IntKind.i64.wrap ((l.length : Int) - 1) = ((l.length - 1 : Nat) : Int) := by rw [wId (by omega) (by omega)]; omega
   simp only [go_sem, eTm, f10, f11, f12, f14, List.length_map]
   refine aLl (α := TermT) (β := Nat) (fun rest m => ⟨[(2, .one (.ptr (.loc 2) 0)), (22, ii m), (5, ii 2), (20, pp (.slice (l.map encT))), (1, pp (.ep (encT (.mk 18 n s con to k names l)) 0)), (21, ii l.length)], [(.loc 2, zboxT)], []⟩)
    (fun rest m => ∃ pre, l = pre ++ rest ∧ m = pre.length ∧ (rest.any fun x => x.op != 2) = l.any fun x => x.op != 2) ?_ ?_ l 0 _ ?_ ⟨[], rfl, rfl, rfl⟩
   ·rintro m ⟨pre, g1, g2, g3⟩ K
    simp only [List.append_nil] at g1
    have e : m = l.length := by rw [g2, ← g1]
    rw [List.any_nil] at g3
    have hne : ¬ (l.any fun x => x.op != 2) = true := by rw [← g3]; decide
    obtain ⟨q1, q2⟩ := (hk (by rw [hw]; exact hne)).2 (by rw [ht]; decide)
    have hN := nums_spec n (hdT l).n (qcg l).n q1 q2
    obtain rfl : res = (qdq n (hdT l).n (qcg l).n, [], 0) := by rw [← hres, operT, hw, if_neg hne, if_neg (by rw [ht]; decide)]
    rw [qaq, List.map_nil]
    generalize qdq n (hdT l).n (qcg l).n = tx at hN ⊢
    simp only [go_sem, Int.reduceBEq, e, ltF (Int.le_refl _), hg0, hgl, wl, Int.toNat_natCast, Int.natCast_nonneg, eTz, eTm, hd1, hd2, List.length_map, zboxT]
    repeat (refine ⟨by kernel_rfl, ?_⟩; try simp only [go_sem, Int.reduceBEq, e, ltF (Int.le_refl _), hg0, hgl, wl, Int.toNat_natCast, Int.natCast_nonneg, eTz, eTm, hd1, hd2, List.length_map, zboxT])
    refine aC hN ?_
    simp only [go_sem, eTz]
   ·rintro x rest m ⟨pre, g1, g2, g3⟩ K hK
    have hx : (l.map encT)[m]? = some (encT x) := by simp [g1, g2]
    have hlt : (m : Int) < l.length := by rw [g1, g2]; simp; omega
    have w4 : IntKind.i64.wrap ((m : Int) + 1) = ((m + 1 : Nat) : Int) := by rw [wId (by omega) (by omega)]; simp
    have hxc := qcw x
    rw [List.any_cons] at g3
    cases hv : (x.op != 2) with
    | true =>
      rw [hv, Bool.true_or] at g3
      obtain rfl : res = (zeroT, [], 23) := by rw [← hres, operT, hw, if_pos g3.symm]
      rw [qaq, eT0]
      simp only [go_sem, decide_eq_true hlt, Int.toNat_natCast, Int.natCast_nonneg, hx, eTz, hxc, hv, zboxT, List.map_nil]
    | false =>
      rw [hv, Bool.false_or] at g3
      simp only [go_sem, decide_eq_true hlt, Int.toNat_natCast, Int.natCast_nonneg, hx, eTz, hxc, hv, w4, zboxT]
      refine hK (m + 1) _ ?_ ⟨pre ++ [x], by simp [g1], by simp [g2], g3⟩
      simp only [go_sem, zboxT]
   ·simp only [go_sem, Int.natCast_zero, zboxT, eTm]
 | true =>
   have hw : qdl n = 3 := want_text ht
   have htt : qco n = true := ht
   have hf : n = 10 ∨ n = 11 ∨ n = 12 ∨ n = 14 := by simp only [qco, Bool.or_eq_true, beq_iff_eq] at ht; omega
   refine wf (rv := [.cell 2 52, .tmp 3, .tmp 4]) ann203 65 Tryz.func203 fun hfit => ?_
   have hlen : l.length ≤ 9223372036854775807 := by
    simp only [argsFit, SV.pv?, SC.pv?, eTm, PV.fit, fitL, List.length_map, mLe] at hfit
    exact hfit.1.2.2.2.2.2.2.2.2.2.2.2.2.2.2.2.2.2.1.1
   clear hfit
   have wl : IntKind.i64.wrap ((l.length : Int) - 1) = ((l.length - 1 : Nat) : Int) := by rw [wId (by omega) (by omega)]; omega
   rcases hf with hf | hf | hf | hf
   all_goals
    have f10 : (n == 10) = _ := congrArg (fun z : Int => z == 10) hf
    have f11 : (n == 11) = _ := congrArg (fun z : Int => z == 11) hf
    have f12 : (n == 12) = _ := congrArg (fun z : Int => z == 12) hf
    have f14 : (n == 14) = _ := congrArg (fun z : Int => z == 14) hf
    simp only [go_sem, eTm, f10, f11, f12, f14, Int.reduceBEq, List.length_map]
    clear f10 f11 f12 f14 hf
    refine aLl (α := TermT) (β := Nat) (fun rest m => ⟨[(2, .one (.ptr (.loc 2) 0)), (22, ii m), (5, ii 3), (20, pp (.slice (l.map encT))), (1, pp (.ep (encT (.mk 18 n s con to k names l)) 0)), (21, ii l.length)], [(.loc 2, zboxT)], []⟩)
     (fun rest m => ∃ pre, l = pre ++ rest ∧ m = pre.length ∧ (rest.any fun x => x.op != 3) = l.any fun x => x.op != 3) ?_ ?_ l 0 _ ?_ ⟨[], rfl, rfl, rfl⟩
    ·rintro m ⟨pre, g1, g2, g3⟩ K
     simp only [List.append_nil] at g1
     have e : m = l.length := by rw [g2, ← g1]
     rw [List.any_nil] at g3
     have hne : ¬ (l.any fun x => x.op != 3) = true := by rw [← g3]; decide
     obtain ⟨q1, q2⟩ := (hk (by rw [hw]; exact hne)).1 htt
     have hT := texts_spec n (hdT l).s (qcg l).s q1 q2
     obtain rfl : res = ((qci n (hdT l).s (qcg l).s).1, (qci n (hdT l).s (qcg l).s).2, 0) := by rw [← hres, operT, hw, if_neg hne, if_pos htt]
     rw [qaq]
     generalize qci n (hdT l).s (qcg l).s = tx at hT ⊢
     simp only [go_sem, Int.reduceBEq, e, ltF (Int.le_refl _), hg0, hgl, wl, Int.toNat_natCast, Int.natCast_nonneg, eTz, eTm, hd1, hd2, List.length_map, zboxT]
     repeat (refine ⟨by kernel_rfl, ?_⟩; try simp only [go_sem, Int.reduceBEq, e, ltF (Int.le_refl _), hg0, hgl, wl, Int.toNat_natCast, Int.natCast_nonneg, eTz, eTm, hd1, hd2, List.length_map, zboxT])
     refine aC hT ?_
     simp only [go_sem, eTz]
    ·rintro x rest m ⟨pre, g1, g2, g3⟩ K hK
     have hx : (l.map encT)[m]? = some (encT x) := by simp [g1, g2]
     have hlt : (m : Int) < l.length := by rw [g1, g2]; simp; omega
     have w4 : IntKind.i64.wrap ((m : Int) + 1) = ((m + 1 : Nat) : Int) := by rw [wId (by omega) (by omega)]; simp
     have hxc := qcw x
     rw [List.any_cons] at g3
     cases hv : (x.op != 3) with
     | true =>
       rw [hv, Bool.true_or] at g3
       obtain rfl : res = (zeroT, [], 23) := by rw [← hres, operT, hw, if_pos g3.symm]
       rw [qaq, eT0]
       simp only [go_sem, decide_eq_true hlt, Int.toNat_natCast, Int.natCast_nonneg, hx, eTz, hxc, hv, zboxT, List.map_nil]
     | false =>
       rw [hv, Bool.false_or] at g3
       simp only [go_sem, decide_eq_true hlt, Int.toNat_natCast, Int.natCast_nonneg, hx, eTz, hxc, hv, w4, zboxT]
       refine hK (m + 1) _ ?_ ⟨pre ++ [x], by simp [g1], by simp [g2], g3⟩
       simp only [go_sem, zboxT]
    ·simp only [go_sem, Int.natCast_zero, zboxT, eTm]
theorem qdp {t : TermT} (h : qab t = true) (ho : t.op = 4 ∨ t.op = 6 ∨ t.op = 7 ∨ t.op = 8 ∨ t.op = 11 ∨ t.op = 12 ∨ t.op = 14 ∨ t.op = 15 ∨ t.op = 16) : ∃ x, t.l = [x] := by
 have := len1 h ho
 match hl : t.l with
 | [] => rw [hl] at this; cases this
 | [x] => exact ⟨x, rfl⟩
 | x :: y :: r => rw [hl] at this; simp at this
theorem two_of {t : TermT} (h : qab t = true) (ho : t.op = 5 ∨ t.op = 9 ∨ t.op = 17) : ∃ x y, t.l = [x, y] := by
 have := len2 h ho
 match hl : t.l with
 | [] => rw [hl] at this; cases this
 | [x] => rw [hl] at this; simp at this
 | [x, y] => exact ⟨x, y, rfl⟩
 | x :: y :: z :: r => rw [hl] at this; simp at this
theorem appl_spec (v w : TermT) (hv : qab v = true) (hok : okT v) (hokw : okT w) : Spec Tryz.prog 204 [pp (encT v), pp (encT w)] [] (.tuple [encT (applT v w).1, .int .i64 (applT v w).2]) [] := by
 by_cases h4 : v.op = 4
 ·obtain ⟨x, hx⟩ := qdp hv (.inl h4)
  have hS := qcp x w (okT_l hok x (by rw [hx]; simp)) hokw
  rw [applT, if_pos h4, hx, show hdT [x] = x from rfl]
  obtain ⟨op, n, s, con, to, k, names, l⟩ := v
  simp only [TermT.op, TermT.l] at h4 hx
  subst h4 hx
  clear hv hok
  generalize SubstT x w = r at hS ⊢
  refine wk (rv := [.cell 4 52, .tmp 5]) ann204 47 Tryz.func204 ?_
  simp only [go_sem, eTm, Int.reduceBEq, List.map_cons, List.map_nil, eTz]
  refine aC hS ?_
  simp only [go_sem, eTz]
  repeat (refine ⟨by kernel_rfl, ?_⟩; try simp only [go_sem, eTz])
  try kernel_rfl
 ·rw [applT, if_neg h4]
  by_cases h16 : v.op = 16
  ·obtain ⟨x, hx⟩ := qdp hv (by omega)
   have hokx := okT_l hok x (by rw [hx]; simp)
   rw [hx, show hdT [x] = x from rfl]
   by_cases hx4 : x.op = 4
   ·have hS := qcp x v hokx hok
    rw [if_pos ⟨h16, hx4⟩, encT_nodeL]
    generalize SubstT x v = r at hS ⊢
    obtain ⟨op, n, s, con, to, k, names, l⟩ := v
    obtain ⟨op2, n2, s2, con2, to2, k2, names2, l2⟩ := x
    simp only [TermT.op, TermT.l] at h16 hx hx4
    subst h16 hx hx4
    clear hv hok hokx h4
    simp only [eTm, List.map_cons, List.map_nil] at hS
    refine wk (rv := [.cell 4 52, .tmp 5]) ann204 47 Tryz.func204 ?_
    simp only [go_sem, eTm, Int.reduceBEq, List.map_cons, List.map_nil, eTz]
    refine aC hS ?_
    simp only [go_sem, eTz]
    repeat (refine ⟨by kernel_rfl, ?_⟩; try simp only [go_sem, eTz, List.map_cons, List.map_nil])
    try kernel_rfl
   ·rw [if_neg (fun h => hx4 h.2), eT0]
    obtain ⟨op, n, s, con, to, k, names, l⟩ := v
    obtain ⟨op2, n2, s2, con2, to2, k2, names2, l2⟩ := x
    simp only [TermT.op, TermT.l] at h16 hx hx4
    subst h16 hx
    replace hx4 := nbeq hx4
    clear hv hok hokx h4
    refine wk (rv := [.cell 4 52, .tmp 5]) ann204 47 Tryz.func204 ?_
    simp only [go_sem, eTm, Int.reduceBEq, List.map_cons, List.map_nil, eTz, hx4]
  ·rw [if_neg (fun h => h16 h.1), eT0]
   obtain ⟨op, n, s, con, to, k, names, l⟩ := v
   simp only [TermT.op] at h4 h16
   replace h4 := nbeq h4
   replace h16 := nbeq h16
   clear hv hok
   refine wk (rv := [.cell 4 52, .tmp 5]) ann204 47 Tryz.func204 ?_
   simp only [go_sem, eTm, h4, h16]
theorem encT_tappT (c : ConT) (x : TermT) : encT (tappT c x) = .agg [.int .i64 7, .int .i64 0, .str ByteArray.empty, .int .i64 c.op, .int .i64 c.n, .str c.s, .slice (c.k.map encK), .slice (c.names.map .str), .slice (c.l.map encC), .int .i64 0, .int .i64 0, .str ByteArray.empty, .slice [], .slice [], .slice [], .slice [], .slice [], .slice [encT x]] := by rw [tappT, eTm]; rfl
theorem inst_spec (v : TermT) (c : ConT) (hv : qab v = true) (hok : okT v) (hc : wtF c ≤ 900000000 ∧ okS c) : Spec Tryz.prog 205 [pp (encT v), pp (encC c)] [] (.tuple [encT (instT v c).1, .int .i64 (instT v c).2]) [] := by
 rw [qal, ConT.cells]
 by_cases h4 : v.op = 6
 ·obtain ⟨x, hx⟩ := qdp hv (.inr (.inl h4))
  have hS := tSubstCons_specV x [c] (okT_l hok x (by rw [hx]; simp)) (fun y hy => by simp at hy; subst hy; exact hc) (by simp)
  rw [instT, if_pos h4, hx, show hdT [x] = x from rfl]
  obtain ⟨op, n, s, con, to, k, names, l⟩ := v
  simp only [TermT.op, TermT.l] at h4 hx
  subst h4 hx
  clear hv hok
  generalize SubstConsT x [c] = r at hS ⊢
  simp only [List.map_cons, List.map_nil, qal, ConT.cells] at hS
  refine wk (rv := [.cell 4 52, .tmp 5]) ann205 48 Tryz.func205 ?_
  simp only [go_sem, eTm, Int.reduceBEq, List.map_cons, List.map_nil, eTz]
  repeat (refine ⟨by kernel_rfl, ?_⟩; try simp only [go_sem, eTz])
  try kernel_rfl
  refine aC hS ?_
  simp only [go_sem, eTz]
  repeat (refine ⟨by kernel_rfl, ?_⟩; try simp only [go_sem, eTz])
  try kernel_rfl
 ·rw [instT, if_neg h4]
  by_cases h16 : v.op = 16
  ·obtain ⟨x, hx⟩ := qdp hv (by omega)
   have hokx := okT_l hok x (by rw [hx]; simp)
   rw [hx, show hdT [x] = x from rfl]
   by_cases hx4 : x.op = 6
   ·have hS := qcp x v hokx hok
    rw [if_pos ⟨h16, hx4⟩, encT_tappT]
    generalize SubstT x v = r at hS ⊢
    obtain ⟨op, n, s, con, to, k, names, l⟩ := v
    obtain ⟨op2, n2, s2, con2, to2, k2, names2, l2⟩ := x
    simp only [TermT.op, TermT.l] at h16 hx hx4
    subst h16 hx hx4
    clear hv hok hokx h4
    simp only [eTm, List.map_cons, List.map_nil] at hS
    refine wk (rv := [.cell 4 52, .tmp 5]) ann205 48 Tryz.func205 ?_
    simp only [go_sem, eTm, Int.reduceBEq, List.map_cons, List.map_nil, eTz]
    refine aC hS ?_
    simp only [go_sem, eTz]
    repeat (refine ⟨by kernel_rfl, ?_⟩; try simp only [go_sem, eTz, List.map_cons, List.map_nil])
    try kernel_rfl
   ·rw [if_neg (fun h => hx4 h.2), eT0]
    obtain ⟨op, n, s, con, to, k, names, l⟩ := v
    obtain ⟨op2, n2, s2, con2, to2, k2, names2, l2⟩ := x
    simp only [TermT.op, TermT.l] at h16 hx hx4
    subst h16 hx
    replace hx4 := nbeq hx4
    clear hv hok hokx h4
    refine wk (rv := [.cell 4 52, .tmp 5]) ann205 48 Tryz.func205 ?_
    simp only [go_sem, eTm, Int.reduceBEq, List.map_cons, List.map_nil, eTz, hx4]
  ·rw [if_neg (fun h => h16 h.1), eT0]
   obtain ⟨op, n, s, con, to, k, names, l⟩ := v
   simp only [TermT.op] at h4 h16
   replace h4 := nbeq h4
   replace h16 := nbeq h16
   clear hv hok
   refine wk (rv := [.cell 4 52, .tmp 5]) ann205 48 Tryz.func205 ?_
   simp only [go_sem, eTm, h4, h16]
theorem okT_kept {a : TermT} (h : okT a) : okT (keptT a).1 := by
 rcases kept_or a with ⟨_, h2, _⟩ | ⟨_, h2, _⟩
 ·rw [h2]; exact h
 ·rw [h2]; exact okT_zero
theorem con_of {t : TermT} (h : qab t = true) (hok : okT t) (ho : qad t.op = true) : wtF t.con ≤ 900000000 ∧ okS t.con := ⟨(qdz (vcon h ho)).2, okT_con8 hok⟩
theorem contr_spec (t : TermT) (hv : qab t = true) (hok : okT t) : Spec Tryz.prog 136 [pp (encT t)] [] (encR (contrT t)) [] := by
 have hlen := vlen hv
 have hpv := vpart hv
 have hpo := okT_l hok
 obtain ⟨op, n, s, con, to, k, names, l⟩ := t
 have hA := act_spec op n s con to k names l
 simp only [TermT.op, TermT.n, TermT.names, TermT.l] at hlen hpv hpo
 rw [contrT]
 by_cases h18 : op = 18
 ·subst h18
  have hO := oper_spec n s con to k names l (operOk_of hv)
  rw [if_pos rfl]
  generalize operT n l = r at hO ⊢
  obtain ⟨r1, r2, r3⟩ := r
  simp only [eTm, encR] at hO ⊢
  clear hv hok hpv hpo hA hlen
  refine wk (rv := [.cell 2 52, .tmp 3, .tmp 4]) ann136 164 Tryz.func136 ?_
  simp only [go_sem, eTm, Int.reduceBEq]
  refine aC hO ?_
  simp only [go_sem, eTz]
 rw [if_neg h18]
 have f18 : (op == 18) = false := by simpa using h18
 simp only [eTm] at hA
 by_cases ha : actT op l.length = 0
 ·rw [if_pos ha, qaq, eT0]
  rw [ha] at hA
  clear hv hok hpv hpo hlen
  refine wk (rv := [.cell 2 52, .tmp 3, .tmp 4]) ann136 164 Tryz.func136 ?_
  simp only [go_sem, eTm, f18]
  refine aC hA ?_
  simp only [go_sem, Int.natCast_zero, Int.reduceBEq, List.map_nil]
 rw [if_neg ha]
 have e0 : (((actT op l.length : Nat) : Int) == 0) = false := by
  have : ((actT op l.length : Nat) : Int) ≠ 0 := by omega
  simpa using this
 have hops : op = 5 ∨ op = 7 ∨ op = 9 ∨ op = 11 ∨ op = 13 ∨ op = 15 ∨ op = 17 ∨ (op = 8 ∨ op = 10 ∨ op = 12 ∨ op = 14) := by
  rw [actT] at ha
  split at ha
  ·omega
  ·split at ha
   ·omega
   ·exact absurd rfl ha
 have h10l : op = 10 → 0 < l.length := fun e => by rw [actT, if_pos (.inr (.inl e))] at ha; omega
 generalize actT op l.length = a at hA e0
 clear ha
 rcases hops with h | h | h | h | h | h | h | h
 ·subst h
  obtain ⟨v, w, hl⟩ := two_of hv (.inl rfl)
  simp only [TermT.l] at hl
  subst hl
  have hP := appl_spec v w (hpv v (by simp)) (hpo v (by simp)) (hpo w (by simp))
  rw [qbj, if_pos rfl, show hdT [v, w] = v from rfl, show sndT [v, w] = w from rfl, qaq]
  generalize applT v w = r at hP ⊢
  clear hv hok hpv hpo hlen h10l
  refine wk (rv := [.cell 2 52, .tmp 3, .tmp 4]) ann136 164 Tryz.func136 ?_
  simp only [List.map_cons, List.map_nil] at hA
  simp only [go_sem, eTm, f18, List.map_cons, List.map_nil]
  refine aC hA ?_
  simp only [go_sem, e0, Int.reduceBEq, eTz, eTm, List.map_cons, List.map_nil]
  refine aC hP ?_
  simp only [go_sem, eTz]
  repeat (refine ⟨by kernel_rfl, ?_⟩; try simp only [go_sem, eTz])
  try kernel_rfl
 ·subst h
  obtain ⟨v, hl⟩ := qdp hv (.inr (.inr (.inl rfl)))
  simp only [TermT.l] at hl
  subst hl
  have hc := con_of hv hok (show qad 7 = true by decide)
  have hP := inst_spec v con (hpv v (by simp)) (hpo v (by simp)) hc
  rw [qal, ConT.cells] at hP
  rw [qbj, if_neg (by decide), if_pos rfl, show hdT [v] = v from rfl, qaq]
  generalize instT v con = r at hP ⊢
  clear hv hok hpv hpo hlen h10l
  refine wk (rv := [.cell 2 52, .tmp 3, .tmp 4]) ann136 164 Tryz.func136 ?_
  simp only [List.map_cons, List.map_nil] at hA
  simp only [go_sem, eTm, f18, List.map_cons, List.map_nil]
  refine aC hA ?_
  simp only [go_sem, e0, Int.reduceBEq, eTz, eTm, List.map_cons, List.map_nil]
  refine aC hP ?_
  simp only [go_sem, eTz]
  repeat (refine ⟨by kernel_rfl, ?_⟩; try simp only [go_sem, eTz])
  try kernel_rfl
 ·subst h
  obtain ⟨v, w, hl⟩ := two_of hv (.inr (.inl rfl))
  simp only [TermT.l] at hl
  subst hl
  have hvv := hpv v (by simp)
  have hvo := hpo v (by simp)
  have hwv := hpv w (by simp)
  have hwo := hpo w (by simp)
  rw [qbj, if_neg (by decide), if_neg (by decide), if_neg (by decide), show hdT [v, w] = v from rfl, show sndT [v, w] = w from rfl]
  by_cases h8 : v.op = 8
  ·obtain ⟨x, hx⟩ := qdp hvv (by omega)
   have hS := tSubstCons_specV w [v.con] hwo (fun y hy => by simp at hy; subst hy; exact con_of hvv hvo (by rw [h8]; decide)) (by simp)
   have hr : okT (SubstConsT w [v.con]).1 := by
    rw [subC_both hwv (vcon hvv (by rw [h8]; decide))]
    exact okT_kept (okT_rsubC (vcon hvv (by rw [h8]; decide)) (okT_con8 hvo) (qae hwv).1 hwo)
   have hS2 := qcp (SubstConsT w [v.con]).1 x hr (okT_l hvo x (by rw [hx]; simp))
   rw [if_pos ⟨rfl, h8⟩, hx, show hdT [x] = x from rfl]
   generalize SubstConsT w [v.con] = r at hS hr hS2 ⊢
   obtain ⟨op2, n2, s2, con2, to2, k2, names2, l2⟩ := v
   simp only [TermT.op, TermT.l, TermT.con] at h8 hx hS
   subst h8 hx
   simp only [List.map_cons, List.map_nil, qal, ConT.cells] at hS
   clear hv hok hpv hpo hlen h10l hvv hvo hwv hwo hr
   simp only [List.map_cons, List.map_nil, eTm] at hA
   by_cases hz : r.2 = 0
   ·have ez : (r.2 == 0) = true := by simpa using hz
    rw [if_pos hz, qaq]
    generalize SubstT r.1 x = q at hS2 ⊢
    refine wk (rv := [.cell 2 52, .tmp 3, .tmp 4]) ann136 164 Tryz.func136 ?_
    simp only [go_sem, eTm, f18, List.map_cons, List.map_nil]
    refine aC hA ?_
    simp only [go_sem, e0, Int.reduceBEq, eTz, eTm, List.map_cons, List.map_nil]
    repeat (refine ⟨by kernel_rfl, ?_⟩; try simp only [go_sem, eTz])
    try kernel_rfl
    refine aC hS ?_
    simp only [go_sem, eTz, ez]
    repeat (refine ⟨by kernel_rfl, ?_⟩; try simp only [go_sem, eTz, ez])
    try kernel_rfl
    refine aC hS2 ?_
    simp only [go_sem, eTz]
    repeat (refine ⟨by kernel_rfl, ?_⟩; try simp only [go_sem, eTz])
    try kernel_rfl
   ·have ez : (r.2 == 0) = false := by simpa using hz
    rw [if_neg hz, qaq]
    clear hS2
    refine wk (rv := [.cell 2 52, .tmp 3, .tmp 4]) ann136 164 Tryz.func136 ?_
    simp only [go_sem, eTm, f18, List.map_cons, List.map_nil]
    refine aC hA ?_
    simp only [go_sem, e0, Int.reduceBEq, eTz, eTm, List.map_cons, List.map_nil]
    repeat (refine ⟨by kernel_rfl, ?_⟩; try simp only [go_sem, eTz])
    try kernel_rfl
    refine aC hS ?_
    simp only [go_sem, eTz, ez]
    repeat (refine ⟨by kernel_rfl, ?_⟩; try simp only [go_sem, eTz, ez])
    try kernel_rfl
  ·rw [if_neg (fun h => h8 h.2), if_neg (fun h => absurd h.1 (by decide)), if_neg (fun h => absurd h.1 (by decide)), if_neg (fun h => absurd h.1 (by decide)), qaq, eT0]
   obtain ⟨op2, n2, s2, con2, to2, k2, names2, l2⟩ := v
   simp only [TermT.op] at h8
   replace h8 := nbeq h8
   clear hv hok hpv hpo hlen h10l hvv hvo hwv hwo
   simp only [List.map_cons, List.map_nil, eTm] at hA
   refine wk (rv := [.cell 2 52, .tmp 3, .tmp 4]) ann136 164 Tryz.func136 ?_
   simp only [go_sem, eTm, f18, List.map_cons, List.map_nil]
   refine aC hA ?_
   simp only [go_sem, e0, h8, Int.reduceBEq, eTz, eTm, List.map_cons, List.map_nil]
 ·subst h
  obtain ⟨v, hl⟩ := qdp hv (.inr (.inr (.inr (.inr (.inl rfl)))))
  simp only [TermT.l] at hl
  subst hl
  have hvv := hpv v (by simp)
  rw [qbj, if_neg (by decide), if_neg (by decide), if_neg (by decide), if_neg (fun h => absurd h.1 (by decide)), show hdT [v] = v from rfl]
  by_cases h10 : v.op = 10
  ·have hI := Index_spec v.names s
   have hC := Contains_spec v.names s
   have hf := find_lt v.names s 0 (Int.le_refl _)
   have hll := len10 hvv h10
   have hg : 0 ≤ findS v.names s 0 → (v.l.map encT)[(findS v.names s 0).toNat]? = some (encT (v.l.getD (findS v.names s 0).toNat zeroT)) := fun g => get_getD (by have := hf g; omega)
   by_cases hz : 0 ≤ findS v.names s 0
   ·have hgg := hg hz
    clear hg
    rw [if_pos ⟨rfl, h10, hz⟩, qaq]
    rw [decide_eq_true hz] at hC
    generalize findS v.names s 0 = f at hI hz hgg ⊢
    generalize v.l.getD f.toNat zeroT = q at hgg ⊢
    obtain ⟨op2, n2, s2, con2, to2, k2, names2, l2⟩ := v
    simp only [TermT.op, TermT.l, TermT.names] at h10 hI hC hgg
    subst h10
    clear hv hok hpv hpo hlen h10l hvv hf hll
    simp only [List.map_cons, List.map_nil, eTm] at hA
    refine wk (rv := [.cell 2 52, .tmp 3, .tmp 4]) ann136 164 Tryz.func136 ?_
    simp only [go_sem, eTm, f18, List.map_cons, List.map_nil]
    refine aC hA ?_
    simp only [go_sem, e0, Int.reduceBEq, eTz, eTm, List.map_cons, List.map_nil]
    refine aC hC ?_
    simp only [go_sem, eTz]
    refine aC hI ?_
    simp only [go_sem, hgg, hz, eTz]
    repeat (refine ⟨by kernel_rfl, ?_⟩; try simp only [go_sem, hgg, hz, eTz])
    try kernel_rfl
   ·rw [if_neg (fun h => hz h.2.2), if_neg (fun h => absurd h.1 (by decide)), if_neg (fun h => absurd h.1 (by decide)), qaq, eT0]
    rw [decide_eq_false hz] at hC
    obtain ⟨op2, n2, s2, con2, to2, k2, names2, l2⟩ := v
    simp only [TermT.op, TermT.l, TermT.names] at h10 hC
    subst h10
    clear hv hok hpv hpo hlen h10l hvv hf hll hg hI
    simp only [List.map_cons, List.map_nil, eTm] at hA
    refine wk (rv := [.cell 2 52, .tmp 3, .tmp 4]) ann136 164 Tryz.func136 ?_
    simp only [go_sem, eTm, f18, List.map_cons, List.map_nil]
    refine aC hA ?_
    simp only [go_sem, e0, Int.reduceBEq, eTz, eTm, List.map_cons, List.map_nil]
    refine aC hC ?_
    simp only [go_sem, eTz, Int.reduceBEq]
  ·rw [if_neg (fun h => h10 h.2.1), if_neg (fun h => absurd h.1 (by decide)), if_neg (fun h => absurd h.1 (by decide)), qaq, eT0]
   obtain ⟨op2, n2, s2, con2, to2, k2, names2, l2⟩ := v
   simp only [TermT.op] at h10
   replace h10 := nbeq h10
   clear hv hok hpv hpo hlen h10l hvv
   simp only [List.map_cons, List.map_nil, eTm] at hA
   refine wk (rv := [.cell 2 52, .tmp 3, .tmp 4]) ann136 164 Tryz.func136 ?_
   simp only [go_sem, eTm, f18, List.map_cons, List.map_nil]
   refine aC hA ?_
   simp only [go_sem, e0, h10, Int.reduceBEq, eTz, eTm, List.map_cons, List.map_nil]
 ·subst h
  have hll : l.length = names.length + 1 := len13 hv rfl
  obtain ⟨v, r, hl⟩ : ∃ v r, l = v :: r := by
   cases l with
   | nil => simp at hll
   | cons v r => exact ⟨v, r, rfl⟩
  have hvv := hpv v (by simp [hl])
  have hvo := hpo v (by simp [hl])
  have hh : hdT l = v := by rw [hl]; rfl
  have hg0 : (l.map encT)[0]? = some (encT v) := by rw [hl]; rfl
  rw [qbj, if_neg (by decide), if_neg (by decide), if_neg (by decide), if_neg (fun h => absurd h.1 (by decide)), if_neg (fun h => absurd h.1 (by decide)), hh]
  by_cases h12 : v.op = 12
  ·obtain ⟨x, hx⟩ := qdp hvv (by omega)
   have hI := Index_spec names v.s
   have hC := Contains_spec names v.s
   have hf := find_lt names v.s 0 (Int.le_refl _)
   have hxo := okT_l hvo x (by rw [hx]; simp)
   have hg : 0 ≤ findS names v.s 0 → (l.map encT)[(findS names v.s 0).toNat + 1]? = some (encT (l.getD ((findS names v.s 0).toNat + 1) zeroT)) ∧ okT (l.getD ((findS names v.s 0).toNat + 1) zeroT) ∧ findS names v.s 0 ≤ 1000000000 := fun g => by
    have h1 := hf g
    have h2 := (qbo hok).2.2.1
    exact ⟨get_getD (by omega), hpo _ (getD_mem (by omega)), by omega⟩
   rw [hx, show hdT [x] = x from rfl]
   by_cases hz : 0 ≤ findS names v.s 0
   ·obtain ⟨hgg, hyo, hfl⟩ := hg hz
    clear hg
    have hS := qcp _ x hyo hxo
    rw [if_pos ⟨rfl, h12, hz⟩, qaq]
    rw [decide_eq_true hz] at hC
    generalize findS names v.s 0 = f at hI hz hgg hfl hS ⊢
    generalize l.getD (f.toNat + 1) zeroT = y at hgg hS ⊢
    generalize SubstT y x = q at hS ⊢
    have w1 : IntKind.i64.wrap (f + 1) = f + 1 := wId (by omega) (by omega)
    have w2 : (f + 1).toNat = f.toNat + 1 := by omega
    have w3 : 0 ≤ f + 1 := by omega
    clear hv hok hpv hpo hlen h10l hvv hvo hf hxo hll hyo hl hh
    obtain ⟨op2, n2, s2, con2, to2, k2, names2, l2⟩ := v
    simp only [TermT.op, TermT.l, TermT.s] at h12 hx hI hC
    subst h12 hx
    refine wk (rv := [.cell 2 52, .tmp 3, .tmp 4]) ann136 164 Tryz.func136 ?_
    simp only [go_sem, eTm, f18]
    refine aC hA ?_
    simp only [go_sem, e0, Int.reduceBEq, Int.reduceToNat, hg0, eTz, eTm, List.map_cons, List.map_nil]
    refine aC hC ?_
    simp only [go_sem, eTz]
    refine aC hI ?_
    simp only [go_sem, hgg, w1, w2, w3, eTz, eTm, List.map_cons, List.map_nil]
    repeat (refine ⟨by kernel_rfl, ?_⟩; try simp only [go_sem, eTz])
    try kernel_rfl
    refine aC hS ?_
    simp only [go_sem, eTz]
    repeat (refine ⟨by kernel_rfl, ?_⟩; try simp only [go_sem, eTz])
    try kernel_rfl
   ·rw [if_neg (fun h => hz h.2.2), if_neg (fun h => absurd h.1 (by decide)), qaq, eT0]
    rw [decide_eq_false hz] at hC
    clear hv hok hpv hpo hlen h10l hvv hvo hf hxo hll hg hI hl hh
    obtain ⟨op2, n2, s2, con2, to2, k2, names2, l2⟩ := v
    simp only [TermT.op, TermT.l, TermT.s] at h12 hx hC
    subst h12 hx
    refine wk (rv := [.cell 2 52, .tmp 3, .tmp 4]) ann136 164 Tryz.func136 ?_
    simp only [go_sem, eTm, f18]
    refine aC hA ?_
    simp only [go_sem, e0, Int.reduceBEq, Int.reduceToNat, hg0, eTz, eTm, List.map_cons, List.map_nil]
    refine aC hC ?_
    simp only [go_sem, eTz, Int.reduceBEq]
  ·rw [if_neg (fun h => h12 h.2.1), if_neg (fun h => absurd h.1 (by decide)), qaq, eT0]
   obtain ⟨op2, n2, s2, con2, to2, k2, names2, l2⟩ := v
   simp only [TermT.op] at h12
   replace h12 := nbeq h12
   clear hv hok hpv hpo hlen h10l hvv hvo hh hll
   clear hl
   refine wk (rv := [.cell 2 52, .tmp 3, .tmp 4]) ann136 164 Tryz.func136 ?_
   simp only [go_sem, eTm, f18]
   refine aC hA ?_
   simp only [go_sem, e0, h12, Int.reduceBEq, Int.reduceToNat, hg0, eTz, eTm, List.map_cons, List.map_nil]
 ·subst h
  obtain ⟨v, hl⟩ := qdp hv (.inr (.inr (.inr (.inr (.inr (.inr (.inr (.inl rfl))))))))
  simp only [TermT.l] at hl
  subst hl
  have hvv := hpv v (by simp)
  rw [qbj, if_neg (by decide), if_neg (by decide), if_neg (by decide), if_neg (fun h => absurd h.1 (by decide)), if_neg (fun h => absurd h.1 (by decide)), if_neg (fun h => absurd h.1 (by decide)), show hdT [v] = v from rfl]
  by_cases h14 : v.op = 14
  ·obtain ⟨x, hx⟩ := qdp hvv (by omega)
   rw [if_pos ⟨rfl, h14⟩, hx, show hdT [x] = x from rfl, qaq]
   obtain ⟨op2, n2, s2, con2, to2, k2, names2, l2⟩ := v
   simp only [TermT.op, TermT.l] at h14 hx
   subst h14 hx
   clear hv hok hpv hpo hlen h10l hvv
   simp only [List.map_cons, List.map_nil, eTm] at hA
   refine wk (rv := [.cell 2 52, .tmp 3, .tmp 4]) ann136 164 Tryz.func136 ?_
   simp only [go_sem, eTm, f18, List.map_cons, List.map_nil]
   refine aC hA ?_
   simp only [go_sem, e0, Int.reduceBEq, eTz, eTm, List.map_cons, List.map_nil]
  ·rw [if_neg (fun h => h14 h.2), qaq, eT0]
   obtain ⟨op2, n2, s2, con2, to2, k2, names2, l2⟩ := v
   simp only [TermT.op] at h14
   replace h14 := nbeq h14
   clear hv hok hpv hpo hlen h10l hvv
   simp only [List.map_cons, List.map_nil, eTm] at hA
   refine wk (rv := [.cell 2 52, .tmp 3, .tmp 4]) ann136 164 Tryz.func136 ?_
   simp only [go_sem, eTm, f18, List.map_cons, List.map_nil]
   refine aC hA ?_
   simp only [go_sem, e0, h14, Int.reduceBEq, eTz, eTm, List.map_cons, List.map_nil]
 ·subst h
  obtain ⟨v, w, hl⟩ := two_of hv (.inr (.inr rfl))
  simp only [TermT.l] at hl
  subst hl
  have hP := qcp w v (hpo w (by simp)) (hpo v (by simp))
  rw [qbj, if_neg (by decide), if_neg (by decide), if_pos rfl, show hdT [v, w] = v from rfl, show sndT [v, w] = w from rfl, qaq]
  generalize SubstT w v = r at hP ⊢
  clear hv hok hpv hpo hlen h10l
  simp only [List.map_cons, List.map_nil] at hA
  refine wk (rv := [.cell 2 52, .tmp 3, .tmp 4]) ann136 164 Tryz.func136 ?_
  simp only [go_sem, eTm, f18, List.map_cons, List.map_nil]
  refine aC hA ?_
  simp only [go_sem, e0, Int.reduceBEq, eTz, eTm, List.map_cons, List.map_nil]
  refine aC hP ?_
  simp only [go_sem, eTz]
  repeat (refine ⟨by kernel_rfl, ?_⟩; try simp only [go_sem, eTz])
  try kernel_rfl
 ·have hl0 : 0 < l.length := by
   rcases h with rfl | rfl | rfl | rfl
   ·have := len1 hv (.inr (.inr (.inr (.inl rfl)))); simp only [TermT.l] at this; omega
   ·exact h10l rfl
   ·have := len1 hv (.inr (.inr (.inr (.inr (.inr (.inl rfl)))))); simp only [TermT.l] at this; omega
   ·have := len1 hv (.inr (.inr (.inr (.inr (.inr (.inr (.inl rfl))))))); simp only [TermT.l] at this; omega
  have hg0 := hd_get hl0
  have hcn : qbj op s con names l = (zeroT, 23) := by rcases h with rfl | rfl | rfl | rfl <;> simp [qbj]
  rw [hcn, qaq, eT0]
  clear hv hok hpv hpo hlen hcn h10l hl0
  generalize hdT l = v at hg0
  refine wk (rv := [.cell 2 52, .tmp 3, .tmp 4]) ann136 164 Tryz.func136 ?_
  rcases h with rfl | rfl | rfl | rfl
  all_goals
   simp only [go_sem, eTm, Int.reduceBEq]
   refine aC hA ?_
   simp only [go_sem, e0, Int.reduceBEq, Int.reduceToNat, hg0, eTz, eTm, List.map_nil]
end Go.Abs.Kon
