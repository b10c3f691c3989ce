/- Small steps. -/
import Derived.Test.YthedhplpgfpodaaGreatDoorStepA
import Derived.Test.YthedhplpgfpodaaGreatDoorFacts
import Derived.Test.YthedhplpgfpodaaGreatDoorTermI
import Derived.Test.YthedhplpgfpodaaGreatDoorTermF
set_option linter.unusedSimpArgs false
set_option linter.unusedVariables false
namespace Go.Abs.Kon
open Go Go.Proofs Go.Abs
set_option maxRecDepth 100000
set_option maxHeartbeats 4000000
theorem IndexFuncT {α : Type} (enc : α → PV) (l : List α) (f : FuncId) (caps : List PV) (p : α → Bool) (hes : ∀ e ∈ l, PV.hasSz (.agg 18) (enc e) = true) (hp : PredOn enc f caps p l) : Spec Tryz.prog 202 [pp (.slice (l.map enc)), pp (.fn f caps)] [] (.int .i64 (qdu p l 0)) [] := by
 refine wf (rv := [.tmp 4]) ann202 19 Tryz.func202 fun hfit => ?_
 have hlen : l.length ≤ 9223372036854775807 := by
  simp only [argsFit, SV.pv?, SC.pv?, PV.fit, mLe, List.length_map] at hfit
  exact hfit.1.1
 clear hfit
 generalize h0 : qdu p l 0 = res
 simp only [go_sem, List.length_map]
 refine aLl (α := α) (β := List α) (fun rest pre => ⟨[(8, ii pre.length), (0, pp (.slice (l.map enc))), (1, pp (.fn f caps)), (7, ii l.length)], [], []⟩) (fun rest pre => l = pre ++ rest ∧ qdu p rest pre.length = res) ?_ ?_ l [] _ ?_ ⟨rfl, h0⟩
 ·rintro pre ⟨h4, h5⟩ K
  rw [List.append_nil] at h4
  simp only [go_sem, h4, ltF (Int.le_refl _)]
  simp only [qdu] at h5
  rw [h5]
 ·rintro x rest pre ⟨h4, h5⟩ K hK
  have hx : (l.map enc)[pre.length]? = some (enc x) := by simp [h4]
  have hlt : (pre.length : Int) < l.length := by rw [h4]; simp; omega
  have hm : x ∈ l := by simp [h4]
  simp only [go_sem, decide_eq_true hlt, Int.toNat_natCast, Int.natCast_nonneg, hx, hes x hm]
  refine aC (hp x hm) ?_
  simp only [go_sem]
  refine cKi (fun hb => ?_) (fun hb => ?_)
  ·simp only [qdu, hb, if_true] at h5
   simp only [go_sem, h5]
  ·have w4 : IntKind.i64.wrap ((pre.length : Int) + 1) = ((pre ++ [x]).length : Int) := by rw [wId (by omega) (by omega)]; simp
   simp only [qdu, hb, Bool.false_eq_true, if_false] at h5
   simp only [go_sem, w4]
   refine hK (pre ++ [x]) _ ?_ ⟨by simp [h4], by simpa using h5⟩
   simp only [go_sem]
 ·simp only [go_sem, List.length_nil, Int.natCast_zero]
theorem ContainsFuncT {α : Type} (enc : α → PV) (es : List α) (f : FuncId) (caps : List PV) (p : α → Bool) (hes : ∀ e ∈ es, PV.hasSz (.agg 18) (enc e) = true) (hp : PredOn enc f caps p es) : Spec Tryz.prog 132 [pp (.slice (es.map enc)), pp (.fn f caps)] [] (.bool (es.any p)) [] := by
 refine wk (rv := [.tmp 4]) ann132 9 Tryz.func132 ?_
 simp only [go_sem]
 refine aC (IndexFuncT enc es f caps p hes hp) ?_
 have : decide (qdu p es 0 ≥ 0) = es.any p := by
  rw [Bool.eq_iff_iff, decide_eq_true_iff]; exact findP_ge p es 0
 simp only [go_sem, this]
theorem nbeq {a b : Int} (h : ¬ a = b) : (a == b) = false := by simpa using h
theorem act_spec (op n : Int) (s : ByteArray) (con to : ConT) (k : List KindT) (names : List ByteArray) (l : List TermT) : Spec Tryz.prog 134 [pp (encT (.mk op n s con to k names l))] [] (.int .i64 (actT op l.length)) [] := by
 generalize hr : (actT op l.length : Int) = r
 refine wk (rv := [.tmp 2]) ann134 22 Tryz.func134 ?_
 simp only [go_sem, eTm, List.length_map]
 repeat' ((first | refine cKi (fun _ => ?_) (fun _ => ?_) | refine gKi (fun _ => ?_) (fun _ => ?_)) <;> simp only [go_sem, List.length_map])
 all_goals (rw [← hr]; simp only [actT]; simp_all)
theorem ract_spec (op n : Int) (s : ByteArray) (con to : ConT) (k : List KindT) (names : List ByteArray) (l : List TermT) : Spec Tryz.prog 135 [pp (encT (.mk op n s con to k names l))] [] (.int .i64 (actT op l.length)) [] := by
 generalize hr : (actT op l.length : Int) = r
 refine wk (rv := [.tmp 2]) ann135 22 Tryz.func135 ?_
 simp only [go_sem, eTm, List.length_map]
 repeat' ((first | refine cKi (fun _ => ?_) (fun _ => ?_) | refine gKi (fun _ => ?_) (fun _ => ?_)) <;> simp only [go_sem, List.length_map])
 all_goals (rw [← hr]; simp only [actT]; simp_all)
theorem fun_spec (t : TermT) : Spec Tryz.prog 131 [pp (encT t)] [] (.bool (funT t)) [] := by
 obtain ⟨op, n, s, con, to, k, names, l⟩ := t
 generalize hr : funT (.mk op n s con to k names l) = r
 refine wk (rv := [.tmp 2]) ann131 11 Tryz.func131 ?_
 simp only [go_sem, eTm]
 repeat' ((first | refine cKi (fun _ => ?_) (fun _ => ?_) | refine gKi (fun _ => ?_) (fun _ => ?_)) <;> simp only [go_sem, List.length_map])
 all_goals (rw [← hr]; simp only [funT, TermT.op]; simp_all)
theorem any_res : ∀ l : List TermT, resL l = !(l.any fun x => !resT x)
 | [] => rfl
 | x :: r => by rw [resL, any_res r, List.any_cons]; cases resT x <;> simp
theorem res_cases (op n : Int) (s : ByteArray) (con to : ConT) (k : List KindT) (names : List ByteArray) (l : List TermT) :
  ((op = 2 ∨ op = 3 ∨ op = 4 ∨ op = 6) ∧ resT (.mk op n s con to k names l) = true) ∨ (op = 16 ∧ ∀ x r, l = x :: r → resT (.mk op n s con to k names l) = funT x) ∨
  ((op = 10 ∨ op = 12 ∨ op = 14 ∨ op = 8) ∧ resT (.mk op n s con to k names l) = !(l.any fun x => !resT x)) ∨ ((op ≠ 2 ∧ op ≠ 3 ∧ op ≠ 4 ∧ op ≠ 6 ∧ op ≠ 16 ∧ op ≠ 10 ∧ op ≠ 12 ∧ op ≠ 14 ∧ op ≠ 8) ∧ resT (.mk op n s con to k names l) = false) := by
 by_cases h1 : op = 2 ∨ op = 3 ∨ op = 4 ∨ op = 6
 ·exact .inl ⟨h1, by rw [resT, if_pos h1]⟩
 ·by_cases h2 : op = 16
  ·exact .inr (.inl ⟨h2, fun x r e => by subst e; rw [resT, if_neg h1, if_pos h2]; rfl⟩)
  ·by_cases h3 : op = 10 ∨ op = 12 ∨ op = 14 ∨ op = 8
   ·exact .inr (.inr (.inl ⟨h3, by rw [resT, if_neg h1, if_neg h2, if_pos h3, any_res]⟩))
   ·exact .inr (.inr (.inr ⟨by omega, by rw [resT, if_neg h1, if_neg h2, if_neg h3]⟩))
theorem res1_spec (t : TermT) (b : Bool) (h : Spec Tryz.prog 84 [pp (encT t)] [] (.bool b) []) : Spec Tryz.prog 133 [pp (encT t)] [] (.bool (!b)) [] := by
 refine wk (rv := [.tmp 2]) ann133 6 Tryz.func133 ?_
 simp only [go_sem, eTz]
 refine aC h ?_
 simp only [go_sem]
theorem fix_cons {n : Int} {s : ByteArray} {con to : ConT} {k : List KindT} {names : List ByteArray} {l : List TermT} (h : qbw 16 n s con to k names l.length = true) : ∃ x, l = [x] := by
 have := (qc5 h).2.2.2.1
 rw [qb5, if_neg (by decide), if_pos (by decide)] at this
 cases l with
 | nil => simp at this
 | cons x r =>
   cases r with
   | nil => exact ⟨x, rfl⟩
   | cons y r => simp at this; omega
theorem result_spec (t : TermT) : wfT t = true → Spec Tryz.prog 84 [pp (encT t)] [] (.bool (resT t)) [] := by
 revert t
 refine TermT.ind1 fun op n s con to k names l ih => ?_
 intro hwf
 rw [wfT, Bool.and_eq_true] at hwf
 obtain ⟨hnode, hwl⟩ := hwf
 have hA : Spec Tryz.prog 132 [pp (.slice (l.map encT)), pp (.fn 133 [])] [] (.bool (l.any fun x => !resT x)) [] :=
  ContainsFuncT encT l 133 [] _ (fun e _ => eTz e) fun x hx => res1_spec x _ (ih x hx (wfL_mem.1 hwl x hx))
 clear ih hwl
 rcases res_cases op n s con to k names l with ⟨h, hr⟩ | ⟨h, hr⟩ | ⟨h, hr⟩ | ⟨h, hr⟩
 ·rw [hr]
  clear hr hA
  refine wk (rv := [.tmp 2]) ann84 26 Tryz.func84 ?_
  rcases h with rfl | rfl | rfl | rfl <;> simp only [go_sem, eTm, Int.reduceBEq]
 ·subst h
  obtain ⟨x, rfl⟩ := fix_cons hnode
  rw [hr x [] rfl]
  have hF := fun_spec x
  clear hr hA
  refine wk (rv := [.tmp 2]) ann84 26 Tryz.func84 ?_
  simp only [go_sem, eTm, Int.reduceBEq, List.map_cons, List.map_nil, eTz]
  refine aC hF ?_
  simp only [go_sem]
 ·rw [hr]
  generalize (l.any fun x => !resT x) = b at hA
  clear hr
  refine wk (rv := [.tmp 2]) ann84 26 Tryz.func84 ?_
  rcases h with rfl | rfl | rfl | rfl
  all_goals
   simp only [go_sem, eTm, Int.reduceBEq]
   refine aC hA ?_
   simp only [go_sem]
 ·rw [hr]
  clear hr hA
  obtain ⟨e2, e3, e4, e6, e16, e10, e12, e14, e8⟩ := h
  rw [← beq_eq_false_iff_ne] at e2 e3 e4 e6 e16 e10 e12 e14 e8
  refine wk (rv := [.tmp 2]) ann84 26 Tryz.func84 ?_
  simp only [go_sem, eTm, e2, e3, e4, e6, e16, e10, e12, e14, e8]
theorem encT_nodeL (op : Int) (l : List TermT) : encT (nodeL op l) = .agg [.int .i64 op, .int .i64 0, .str ByteArray.empty, .int .i64 0, .int .i64 0, .str ByteArray.empty, .slice [], .slice [], .slice [], .int .i64 0, .int .i64 0, .str ByteArray.empty, .slice [], .slice [], .slice [], .slice [], .slice [], .slice (l.map encT)] := by rw [nodeL, eTm]; rfl
theorem qdg (n c : Int) : encT (failT n c) = .agg [.int .i64 19, .int .i64 n, .str ByteArray.empty, .int .i64 c, .int .i64 0, .str ByteArray.empty, .slice [], .slice [], .slice [], .int .i64 0, .int .i64 0, .str ByteArray.empty, .slice [], .slice [], .slice [], .slice [], .slice [], .slice []] := by rw [failT, eTm]; rfl
theorem encT_intT (n : Int) : encT (intT n) = .agg [.int .i64 2, .int .i64 n, .str ByteArray.empty, .int .i64 0, .int .i64 0, .str ByteArray.empty, .slice [], .slice [], .slice [], .int .i64 0, .int .i64 0, .str ByteArray.empty, .slice [], .slice [], .slice [], .slice [], .slice [], .slice []] := by rw [intT, eTm]; rfl
theorem encT_txtT (s : ByteArray) : encT (txtT s) = .agg [.int .i64 3, .int .i64 0, .str s, .int .i64 0, .int .i64 0, .str ByteArray.empty, .slice [], .slice [], .slice [], .int .i64 0, .int .i64 0, .str ByteArray.empty, .slice [], .slice [], .slice [], .slice [], .slice [], .slice []] := by rw [txtT, eTm]; rfl
theorem unit_spec : Spec Tryz.prog 290 [] [] (encT unitT) [] := by
 rw [unitT, encT_nodeL]
 refine wk (rv := [.cell 0 52]) ann290 2 Tryz.func290 ?_
 simp only [go_sem, List.map_nil]
theorem encT_truth (b : Bool) : encT (truthT b) = .agg [.int .i64 14, .int .i64 0, .str ByteArray.empty, .int .i64 13, .int .i64 0, .str ByteArray.empty, .slice [], .slice [], .slice [encC sumC], .int .i64 0, .int .i64 0, .str ByteArray.empty, .slice [], .slice [], .slice [], .slice [], .slice [],
  .slice [.agg [.int .i64 12, .int .i64 0, .str (if b then strT else strF), .int .i64 8, .int .i64 0, .str ByteArray.empty, .slice [], .slice [.str strF, .str strT], .slice [encC unitC, encC unitC], .int .i64 0, .int .i64 0, .str ByteArray.empty, .slice [], .slice [], .slice [], .slice [], .slice [], .slice [encT unitT]]]] := by
 rw [truthT, eTm, List.map_cons, List.map_nil, eTm, List.map_cons, List.map_nil]; rfl
theorem encC_bool : encC boolC = .agg [.int .i64 13, .int .i64 0, .str ByteArray.empty, .slice [], .slice [], .slice [.agg [.int .i64 8, .int .i64 0, .str ByteArray.empty, .slice [], .slice [.str strF, .str strT], .slice [encC unitC, encC unitC]]]] := by
 rw [boolC, eCm, List.map_cons, List.map_nil, eCm]; rfl
theorem encC_sum : encC sumC = .agg [.int .i64 8, .int .i64 0, .str ByteArray.empty, .slice [], .slice [.str strF, .str strT], .slice [encC unitC, encC unitC]] := by
 rw [sumC, eCm]; rfl
theorem truth_spec (b : Bool) : Spec Tryz.prog 289 [.one (.pv (.bool b))] [] (encT (truthT b)) [] := by
 have hB := Bool_spec
 have hU := unit_spec
 rw [encT_truth, encC_sum]
 rw [encC_bool] at hB
 generalize encC unitC = u at hB ⊢
 cases b
 all_goals
  refine wk (rv := [.cell 2 52]) ann289 18 Tryz.func289 ?_
  simp only [go_sem, eTz]
  refine aC hB ?_
  simp only [go_sem, eTz]
  try (refine ⟨by kernel_rfl, ?_⟩; try simp only [go_sem, eTz])
  refine aC hB ?_
  simp only [go_sem, eTz]
  try (refine ⟨by kernel_rfl, ?_⟩; try simp only [go_sem, eTz])
  refine aC hU ?_
  simp only [go_sem, eTz]
  try rfl
theorem rtruth_spec (b : Bool) : Spec Tryz.prog 214 [.one (.pv (.bool b))] [] (encT (truthT b)) [] := by
 have hB := rBool_spec
 rw [encT_truth, encC_sum, unitT, encT_nodeL]
 rw [encC_bool] at hB
 generalize encC unitC = u at hB ⊢
 cases b
 all_goals
  refine wk (rv := [.cell 2 52]) ann214 20 Tryz.func214 ?_
  simp only [go_sem, eTz]
  refine aC hB ?_
  simp only [go_sem, eTz]
  try (refine ⟨by kernel_rfl, ?_⟩; try simp only [go_sem, eTz])
  try rfl
theorem qcm (n : Int) (ok : Bool) : Spec Tryz.prog 288 [ii n, .one (.pv (.bool ok))] [] (encT (qcy n ok)) [] := by
 by_cases h : ok = false ∨ n < -mostN ∨ n > mostN
 ·rw [qcy, if_pos h, qdg]
  unfold mostN at h
  cases ok with
  | false =>
    refine wk (rv := [.cell 4 52]) ann288 19 Tryz.func288 ?_
    simp only [go_sem]
  | true =>
    have h := h.resolve_left (by decide)
    by_cases h1 : n < -4503599627370496
    ·refine wk (rv := [.cell 4 52]) ann288 19 Tryz.func288 ?_
     simp only [go_sem, decide_eq_true h1]
    ·refine wk (rv := [.cell 4 52]) ann288 19 Tryz.func288 ?_
     simp only [go_sem, decide_eq_false h1, decide_eq_true (h.resolve_left h1)]
 ·rw [qcy, if_neg h, encT_intT]
  unfold mostN at h
  cases ok with
  | false => exact absurd (.inl rfl) h
  | true =>
    have h1 : ¬ n < -4503599627370496 := fun e => h (.inr (.inl e))
    have h2 : ¬ n > 4503599627370496 := fun e => h (.inr (.inr e))
    refine wk (rv := [.cell 4 52]) ann288 19 Tryz.func288 ?_
    simp only [go_sem, decide_eq_false h1, decide_eq_false h2]
theorem qbb (n : Int) : Spec Tryz.prog 212 [ii n] [] (encT (qcy n true)) [] := by
 by_cases h : n < -mostN ∨ n > mostN
 ·rw [qcy, if_pos (.inr h), qdg]
  unfold mostN at h
  by_cases h1 : n > 4503599627370496
  ·refine wk (rv := [.cell 2 52]) ann212 13 Tryz.func212 ?_
   simp only [go_sem, decide_eq_true h1]
  ·refine wk (rv := [.cell 2 52]) ann212 13 Tryz.func212 ?_
   simp only [go_sem, decide_eq_false h1, decide_eq_true (h.resolve_right h1)]
 ·rw [qcy, if_neg (by rintro (e | e); cases e; exact h e), encT_intT]
  unfold mostN at h
  have h1 : ¬ n < -4503599627370496 := fun e => h (.inl e)
  have h2 : ¬ n > 4503599627370496 := fun e => h (.inr e)
  refine wk (rv := [.cell 2 52]) ann212 13 Tryz.func212 ?_
  simp only [go_sem, decide_eq_false h1, decide_eq_false h2]
theorem size_spec (n : Int) (h1 : -mostN ≤ n) (h2 : n ≤ mostN) : Spec Tryz.prog 291 [ii n] [] (.int .i64 (absI n)) [] := by
 unfold mostN at h1 h2
 have w : IntKind.i64.wrap (0 - n) = -n := by rw [wId (by omega) (by omega)]; omega
 rw [absI]
 refine wk (rv := [.tmp 2]) ann291 7 Tryz.func291 ?_
 simp only [go_sem, w]
theorem magnitude_spec (n : Int) (h1 : -mostN ≤ n) (h2 : n ≤ mostN) : Spec Tryz.prog 213 [ii n] [] (.int .i64 (absI n)) [] := by
 unfold mostN at h1 h2
 have w : IntKind.i64.wrap (0 - n) = -n := by rw [wId (by omega) (by omega)]; omega
 by_cases h : n < 0
 ·rw [absI, if_pos (by omega)]
  refine wk (rv := [.tmp 2]) ann213 8 Tryz.func213 ?_
  simp only [go_sem, w, decide_eq_true h]
 ·rw [absI, if_neg (by omega)]
  refine wk (rv := [.tmp 2]) ann213 8 Tryz.func213 ?_
  simp only [go_sem, decide_eq_false h]
theorem show_spec (n : Int) (h1 : -mostN ≤ n) (h2 : n ≤ mostN) : Spec Tryz.prog 215 [ii n] [] (.str (showB n)) [] := by
 unfold mostN at h1 h2
 by_cases h : n < 0
 ·have hD := DecimalAll_spec n.natAbs (by omega)
  have e1 : ((n.natAbs : Nat) : Int) = 0 - n := by omega
  have w : IntKind.i64.wrap (0 - n) = 0 - n := wId (by omega) (by omega)
  have e2 : showB n = ByteArray.mk #[45] ++ showB (0 - n) := by
   rw [← e1, show_nat, bytes_cons, ← Lib.itoa_neg _ (by omega), e1, showB]
   rw [show -(0 - n) = n by omega]
  have hsz : (ByteArray.mk #[45]).size + (showB (0 - n)).size ≤ 9223372036854775807 := by
   have := Lib.itoa_length_le (0 - n) (by omega) (by omega)
   have e1 : (showB (0 - n)).size = (Lib.itoa (0 - n)).length := by rw [showB]; simp [ByteArray.size]
   have e2 : (ByteArray.mk #[45]).size = 1 := rfl
   rw [e1, e2]; omega
  rw [e2]
  rw [e1] at hD
  generalize showB (0 - n) = r at hD hsz ⊢
  refine wk (rv := [.tmp 2]) ann215 11 Tryz.func215 ?_
  simp only [go_sem, decide_eq_true h, w]
  have hsz' : 1 + r.size ≤ 9223372036854775807 := hsz
  refine aC hD ?_
  simp only [go_sem, hsz, hsz', if_true]
 ·have hD := DecimalAll_spec n.toNat (by omega)
  rw [Int.toNat_of_nonneg (by omega)] at hD
  refine wk (rv := [.tmp 2]) ann215 11 Tryz.func215 ?_
  simp only [go_sem, decide_eq_false h]
  refine aC hD ?_
  simp only [go_sem]
theorem absI_nat (n : Int) : absI n = (n.natAbs : Int) := by rw [absI]; split <;> omega
theorem mul_fits {a b : Int} (h : mulOk a b = true) (_hb : -mostN ≤ b ∧ b ≤ mostN) : -mostN ≤ a * b ∧ a * b ≤ mostN := by
 by_cases h0 : a = 0
 ·subst h0; rw [Int.zero_mul]; unfold mostN; omega
 ·rw [mulOk] at h
  have e0 : (a == 0) = false := by simpa using h0
  rw [e0, Bool.false_or] at h
  have h := of_decide_eq_true h
  rw [absI_nat, absI_nat] at h
  unfold mostN at h ⊢
  have e1 : (4503599627370496 : Int).tdiv (a.natAbs : Int) = ((4503599627370496 / a.natAbs : Nat) : Int) := rfl
  rw [e1] at h
  have h2 : b.natAbs ≤ 4503599627370496 / a.natAbs := by omega
  have hp : 0 < a.natAbs := by omega
  have h3 := (Nat.le_div_iff_mul_le hp).1 h2
  have h4 : (a * b).natAbs = a.natAbs * b.natAbs := Int.natAbs_mul a b
  rw [Nat.mul_comm] at h3
  rw [← h4] at h3
  omega
theorem numb_wrap (a b : Int) (hb : -mostN ≤ b ∧ b ≤ mostN) : qcy (IntKind.i64.wrap (a * b)) (mulOk a b) = qcy (a * b) (mulOk a b) := by
 cases h : mulOk a b with
 | false => rw [qcy, qcy, if_pos (.inl rfl), if_pos (.inl rfl)]
 | true =>
   have := mul_fits h hb
   unfold mostN at this
   rw [wId (by omega) (by omega)]
theorem quo_rng (a b : Int) (ha : -mostN ≤ a ∧ a ≤ mostN) : -mostN ≤ a.tdiv b ∧ a.tdiv b ≤ mostN := by
 have : (a.tdiv b).natAbs = a.natAbs / b.natAbs := Int.natAbs_tdiv a b
 have h2 := Nat.div_le_self a.natAbs b.natAbs
 unfold mostN at *
 omega
theorem nums_spec (op a b : Int) (ha : -mostN ≤ a ∧ a ≤ mostN) (hb : -mostN ≤ b ∧ b ≤ mostN) : Spec Tryz.prog 259 [ii op, ii a, ii b] [] (encT (qdq op a b)) [] := by
 have ha' := ha
 have hb' := hb
 unfold mostN at ha' hb'
 have w1 : IntKind.i64.wrap (a + b) = a + b := wId (by omega) (by omega)
 have w2 : IntKind.i64.wrap (a - b) = a - b := wId (by omega) (by omega)
 have w3 : IntKind.i64.wrap (0 - a) = 0 - a := wId (by omega) (by omega)
 by_cases h1 : op = 1
 ·subst h1
  have hN := qcm (a + b) true
  rw [qdq, if_pos rfl]
  refine wk (rv := [.cell 6 52]) ann259 78 Tryz.func259 ?_
  simp only [go_sem, Int.reduceBEq, w1]
  refine aC hN ?_
  simp only [go_sem, eTz]
 rw [qdq, if_neg h1]
 by_cases h2 : op = 2
 ·subst h2
  have hN := qcm (a - b) true
  rw [if_pos rfl]
  refine wk (rv := [.cell 6 52]) ann259 78 Tryz.func259 ?_
  simp only [go_sem, Int.reduceBEq, w2]
  refine aC hN ?_
  simp only [go_sem, eTz]
 rw [if_neg h2]
 by_cases h3 : op = 3
 ·subst h3
  rw [if_pos rfl, ← numb_wrap a b hb]
  have hN := qcm (IntKind.i64.wrap (a * b)) (mulOk a b)
  rw [mulOk] at hN ⊢
  by_cases h0 : a = 0
  ·subst h0
   simp only [BEq.rfl, Bool.true_or] at hN ⊢
   refine wk (rv := [.cell 6 52]) ann259 78 Tryz.func259 ?_
   simp only [go_sem, Int.reduceBEq]
   refine aC hN ?_
   simp only [go_sem, eTz]
  ·have e0 : (a == 0) = false := by simpa using h0
   rw [e0, Bool.false_or] at hN ⊢
   have hS1 := size_spec a ha.1 ha.2
   have hS2 := size_spec b hb.1 hb.2
   have hp : absI a ≠ 0 := by rw [absI_nat]; omega
   have wq := quo_rng mostN (absI a) ⟨by decide, by decide⟩
   unfold mostN at hN wq ⊢
   have w5 : IntKind.i64.wrap ((4503599627370496 : Int).tdiv (absI a)) = (4503599627370496 : Int).tdiv (absI a) := wId (by omega) (by omega)
   generalize absI a = x at hS1 hp w5 hN ⊢
   generalize absI b = y at hS2 hN ⊢
   refine wk (rv := [.cell 6 52]) ann259 78 Tryz.func259 ?_
   simp only [go_sem, Int.reduceBEq, e0]
   refine aC hS2 ?_
   simp only [go_sem]
   refine aC hS1 ?_
   simp only [go_sem, hp, if_false, w5]
   refine aC hN ?_
   simp only [go_sem, eTz]
 rw [if_neg h3]
 by_cases h6 : op = 6
 ·subst h6
  have hN := qcm (0 - a) true
  rw [if_pos rfl]
  refine wk (rv := [.cell 6 52]) ann259 78 Tryz.func259 ?_
  simp only [go_sem, Int.reduceBEq, w3]
  refine aC hN ?_
  simp only [go_sem, eTz]
 rw [if_neg h6]
 by_cases h7 : op = 7
 ·subst h7
  have hN := truth_spec (decide (a < b))
  rw [if_pos rfl]
  refine wk (rv := [.cell 6 52]) ann259 78 Tryz.func259 ?_
  simp only [go_sem, Int.reduceBEq]
  refine aC hN ?_
  simp only [go_sem, eTz]
 rw [if_neg h7]
 by_cases h8 : op = 8
 ·subst h8
  have hN := truth_spec (decide (a ≤ b))
  rw [if_pos rfl]
  refine wk (rv := [.cell 6 52]) ann259 78 Tryz.func259 ?_
  simp only [go_sem, Int.reduceBEq]
  refine aC hN ?_
  simp only [go_sem, eTz]
 rw [if_neg h8]
 by_cases h9 : op = 9
 ·subst h9
  have hN := truth_spec (a == b)
  rw [if_pos rfl]
  refine wk (rv := [.cell 6 52]) ann259 78 Tryz.func259 ?_
  simp only [go_sem, Int.reduceBEq]
  refine aC hN ?_
  simp only [go_sem, eTz]
 rw [if_neg h9]
 by_cases h13 : op = 13
 ·subst h13
  have hN := ItoaAll_spec a (by omega) (by omega)
  rw [show showB a = showS a from rfl] at hN
  rw [if_pos rfl, encT_txtT]
  refine wk (rv := [.cell 6 52]) ann259 78 Tryz.func259 ?_
  simp only [go_sem, Int.reduceBEq]
  refine aC hN ?_
  simp only [go_sem]
 rw [if_neg h13]
 replace h1 := nbeq h1
 replace h2 := nbeq h2
 replace h3 := nbeq h3
 replace h6 := nbeq h6
 replace h7 := nbeq h7
 replace h8 := nbeq h8
 replace h9 := nbeq h9
 replace h13 := nbeq h13
 by_cases h0 : b = 0
 ·subst h0
  rw [if_pos rfl, qdg]
  refine wk (rv := [.cell 6 52]) ann259 78 Tryz.func259 ?_
  simp only [go_sem, Int.reduceBEq, h1, h2, h3, h6, h7, h8, h9, h13]
 rw [if_neg h0]
 have e0 : (b == 0) = false := by simpa using h0
 by_cases h4 : op = 4
 ·subst h4
  have wq := quo_rng a b ha
  unfold mostN at wq
  have w5 : IntKind.i64.wrap (a.tdiv b) = a.tdiv b := wId (by omega) (by omega)
  have hN := qcm (a.tdiv b) true
  rw [if_pos rfl]
  refine wk (rv := [.cell 6 52]) ann259 78 Tryz.func259 ?_
  simp only [go_sem, Int.reduceBEq, e0, h0, if_false, w5]
  refine aC hN ?_
  simp only [go_sem, eTz]
 ·have hN := qcm (a.tmod b) true
  rw [if_neg h4]
  replace h4 := nbeq h4
  refine wk (rv := [.cell 6 52]) ann259 78 Tryz.func259 ?_
  simp only [go_sem, h1, h2, h3, h4, h6, h7, h8, h9, h13, e0, h0, if_false]
  refine aC hN ?_
  simp only [go_sem, eTz]
theorem texts_spec (op : Int) (a b : ByteArray) (ha : (a.size : Int) ≤ 16384) (hb : (b.size : Int) ≤ 16384) : Spec Tryz.prog 258 [ii op, pp (.str a), pp (.str b)] [] (.tuple [encT (qci op a b).1, .slice ((qci op a b).2.map .str)]) [] := by
 have w1 : IntKind.i64.wrap ((a.size : Int) + b.size) = (a.size : Int) + b.size := wId (by omega) (by omega)
 by_cases h1 : op = 10
 ·subst h1
  rw [qci, if_pos rfl]
  have hsz : a.size + b.size ≤ 9223372036854775807 := by omega
  by_cases h2 : (a.size : Int) + b.size > 16384
  ·rw [if_pos h2, qdg]
   refine wk (rv := [.cell 6 52, .tmp 7]) ann258 37 Tryz.func258 ?_
   simp only [go_sem, Int.reduceBEq, w1, decide_eq_true h2, List.map_nil]
  ·rw [if_neg h2, encT_txtT]
   refine wk (rv := [.cell 6 52, .tmp 7]) ann258 37 Tryz.func258 ?_
   simp only [go_sem, Int.reduceBEq, w1, decide_eq_false h2, hsz, List.map_nil]
 rw [qci, if_neg h1]
 by_cases h2 : op = 11
 ·subst h2
  have hN := qcm a.size true
  rw [if_pos rfl]
  refine wk (rv := [.cell 6 52, .tmp 7]) ann258 37 Tryz.func258 ?_
  simp only [go_sem, Int.reduceBEq]
  refine aC hN ?_
  simp only [go_sem, eTz, List.map_nil]
 rw [if_neg h2]
 by_cases h3 : op = 12
 ·subst h3
  have hN := truth_spec (a.toList == b.toList)
  rw [if_pos rfl]
  refine wk (rv := [.cell 6 52, .tmp 7]) ann258 37 Tryz.func258 ?_
  simp only [go_sem, Int.reduceBEq]
  refine aC hN ?_
  simp only [go_sem, eTz, List.map_nil]
 rw [if_neg h3]
 replace h1 := nbeq h1
 replace h2 := nbeq h2
 replace h3 := nbeq h3
 have hU := unit_spec
 refine wk (rv := [.cell 6 52, .tmp 7]) ann258 37 Tryz.func258 ?_
 simp only [go_sem, h1, h2, h3]
 refine aC hU ?_
 simp only [go_sem, eTz, List.map_nil, List.map_cons]
/-! Searching -/
theorem beq_sym (a b : List UInt8) : (a == b) = (b == a) := by
 rw [Bool.eq_iff_iff, beq_iff_eq, beq_iff_eq]; exact eq_comm
theorem Index_spec (l : List ByteArray) (s : ByteArray) : Spec Tryz.prog 209 [pp (.slice (l.map .str)), pp (.str s)] [] (.int .i64 (findS l s 0)) [] := by
 generalize hres : findS l s 0 = res
 refine wf (rv := [.tmp 4]) ann209 19 Tryz.func209 fun hfit => ?_
 have hlen : l.length ≤ 9223372036854775807 := by
  simp only [argsFit, SV.pv?, SC.pv?, PV.fit, mLe, List.length_map] at hfit
  exact hfit.1.1
 clear hfit
 simp only [go_sem, List.length_map]
 refine aLl (α := ByteArray) (β := Nat) (fun rest m => ⟨[(8, ii m), (0, pp (.slice (l.map .str))), (1, pp (.str s)), (7, ii l.length)], [], []⟩) (fun rest m => ∃ pre, l = pre ++ rest ∧ m = pre.length ∧ findS rest s m = res) ?_ ?_ l 0 _ ?_ ⟨[], rfl, rfl, hres⟩
 ·rintro m ⟨pre, g1, g2, g3⟩ K
  simp only [List.append_nil] at g1
  subst g1
  rw [findS] at g3
  subst g3
  simp only [go_sem, g2, ltF (Int.le_refl _)]
 ·rintro x rest m ⟨pre, g1, g2, g3⟩ K hK
  have hx : (l.map PV.str)[m]? = some (.str x) := by simp [g1, g2]
  have hlt : (m : Int) < l.length := by rw [g1, g2]; simp; omega
  have hll : m < l.length := by rw [g1, g2]; simp
  have w4 : IntKind.i64.wrap ((m : Int) + 1) = ((m + 1 : Nat) : Int) := by rw [wId (by omega) (by omega)]; simp
  rw [findS] at g3
  have hs := beq_sym s.toList x.toList
  cases hb : (x.toList == s.toList) with
  | true =>
    rw [if_pos hb] at g3
    subst g3
    rw [hb] at hs
    simp only [go_sem, decide_eq_true hlt, Int.toNat_natCast, Int.natCast_nonneg, hx, hs]
  | false =>
    rw [if_neg (by rw [hb]; decide)] at g3
    rw [hb] at hs
    simp only [go_sem, decide_eq_true hlt, Int.toNat_natCast, Int.natCast_nonneg, hx, hs, w4]
    refine hK (m + 1) _ ?_ ⟨pre ++ [x], by simp [g1], by simp [g2], by simpa using g3⟩
    simp only [go_sem]
 ·simp only [go_sem, Int.natCast_zero]
theorem Contains_spec (l : List ByteArray) (s : ByteArray) : Spec Tryz.prog 208 [pp (.slice (l.map .str)), pp (.str s)] [] (.bool (decide (0 ≤ findS l s 0))) [] := by
 have hI := Index_spec l s
 generalize findS l s 0 = r at hI
 refine wk (rv := [.tmp 4]) ann208 9 Tryz.func208 ?_
 simp only [go_sem]
 refine aC hI ?_
 simp only [go_sem, ge_iff_le]
theorem Find_spec (l : List ByteArray) (s : ByteArray) : Spec Tryz.prog 142 [pp (.slice (l.map .str)), pp (.str s)] [] (.int .i64 (findS l s 0)) [] := by
 generalize hres : findS l s 0 = res
 refine wf (rv := [.tmp 4]) ann142 19 Tryz.func142 fun hfit => ?_
 have hlen : l.length ≤ 9223372036854775807 := by
  simp only [argsFit, SV.pv?, SC.pv?, PV.fit, mLe, List.length_map] at hfit
  exact hfit.1.1
 clear hfit
 simp only [go_sem]
 refine aLl (α := ByteArray) (β := Nat) (fun rest m => ⟨[(5, ii m), (1, pp (.str s)), (0, pp (.slice (l.map .str)))], [], []⟩) (fun rest m => ∃ pre, l = pre ++ rest ∧ m = pre.length ∧ findS rest s m = res) ?_ ?_ l 0 _ ?_ ⟨[], rfl, rfl, hres⟩
 ·rintro m ⟨pre, g1, g2, g3⟩ K
  simp only [List.append_nil] at g1
  subst g1
  rw [findS] at g3
  subst g3
  simp only [go_sem, g2, ltF (Int.le_refl _), List.length_map]
 ·rintro x rest m ⟨pre, g1, g2, g3⟩ K hK
  have hx : (l.map PV.str)[m]? = some (.str x) := by simp [g1, g2]
  have hlt : (m : Int) < l.length := by rw [g1, g2]; simp; omega
  have hll : m < l.length := by rw [g1, g2]; simp
  have w4 : IntKind.i64.wrap ((m : Int) + 1) = ((m + 1 : Nat) : Int) := by rw [wId (by omega) (by omega)]; simp
  rw [findS] at g3
  cases hb : (x.toList == s.toList) with
  | true =>
    rw [if_pos hb] at g3
    subst g3
    simp only [go_sem, decide_eq_true hlt, Int.toNat_natCast, Int.natCast_nonneg, hx, hb, List.length_map]
  | false =>
    rw [if_neg (by rw [hb]; decide)] at g3
    simp only [go_sem, decide_eq_true hlt, Int.toNat_natCast, Int.natCast_nonneg, hx, hb, w4, List.length_map]
    refine hK (m + 1) _ ?_ ⟨pre ++ [x], by simp [g1], by simp [g2], by simpa using g3⟩
    simp only [go_sem]
 ·simp only [go_sem, Int.natCast_zero]
/-! The part that is gone into -/
theorem qdr {t : TermT} (h : qan t = true) : qab t = true := by
 rw [qan, Bool.and_eq_true] at h; exact h.1
theorem act_le {op n : Int} {s : ByteArray} {con to : ConT} {k : List KindT} {names : List ByteArray} {l : List TermT} (h : qbw op n s con to k names l.length = true) : actT op l.length ≤ l.length := by
 have hv := (qc5 h).2.2.2.1
 rw [actT]
 split
 ·exact Nat.le_refl _
 ·split
  ·rename_i g
   have h13 : op = 13 → 1 ≤ l.length := fun e => by
    subst e
    rw [qb5, if_neg (by decide), if_neg (by decide), if_neg (by decide), if_neg (by decide), if_pos rfl] at hv
    omega
   by_cases e : op = 13
   ·exact h13 e
   ·rw [qb5, if_neg (by omega)] at hv
    repeat' split at hv
    all_goals omega
  ·exact Nat.zero_le _
theorem innL_take : ∀ (l : List TermT) (a : Nat) (i : Int), innL l a i = innL (l.take a) (l.take a).length i
 | [], a, i => by rw [List.take_nil]; rw [innL, innL]
 | x :: r, 0, i => by rw [List.take_zero]; rw [innL, innL]
 | x :: r, a + 1, i => by
   rw [List.take_succ_cons, List.length_cons, innL, innL, innL_take r a]
theorem inner_spec (t : TermT) (hwf : wfT t = true) : Spec Tryz.prog 85 [pp (encT t)] [] (.int .i64 (innL t.l (actT t.op t.l.length) 0)) [] := by
 obtain ⟨op, n, s, con, to, k, names, l⟩ := t
 rw [wfT, Bool.and_eq_true] at hwf
 have hA := act_spec op n s con to k names l
 have hle := act_le hwf.1
 simp only [TermT.l, TermT.op]
 generalize actT op l.length = a at hA hle
 rw [innL_take]
 generalize hres : innL (l.take a) (l.take a).length 0 = res
 have hwl := wfL_mem.1 hwf.2
 have hla : (l.take a).length = a := by rw [List.length_take]; omega
 refine wf (rv := [.tmp 2]) ann85 18 Tryz.func85 fun hfit => ?_
 have hlen : l.length ≤ 9223372036854775807 := by
  simp only [argsFit, SV.pv?, SC.pv?, eTm, PV.fit, fitL, List.length_map, mLe] at hfit
  exact hfit.1.2.2.2.2.2.2.2.2.2.2.2.2.2.2.2.2.2.1.1
 clear hfit
 simp only [go_sem, eTz]
 refine aC hA ?_
 simp only [go_sem]
 refine aLl (α := TermT) (β := Nat) (fun rest m => ⟨[(6, ii m), (1, pp (.ep (encT (.mk op n s con to k names l)) 0)), (5, ii a)], [], []⟩)
  (fun rest m => ∃ pre, l.take a = pre ++ rest ∧ m = pre.length ∧ innL rest rest.length m = res) ?_ ?_ (l.take a) 0 _ ?_ ⟨[], rfl, rfl, hres⟩
 ·rintro m ⟨pre, g1, g2, g3⟩ K
  simp only [List.append_nil] at g1
  have e : m = a := by rw [g2, ← g1, hla]
  rw [innL] at g3
  subst g3
  simp only [go_sem, e, ltF (Int.le_refl _)]
 ·rintro x rest m ⟨pre, g1, g2, g3⟩ K hK
  have hlt' : m < a := by have := congrArg List.length g1; rw [hla, List.length_append, List.length_cons] at this; omega
  have hlt : (m : Int) < a := by omega
  have hxl : l[m]? = some x := by
   have : (l.take a)[m]? = some x := by rw [g1]; simp [g2]
   rwa [List.getElem?_take_of_lt hlt'] at this
  have hx : (l.map encT)[m]? = some (encT x) := by simp [hxl]
  have w4 : IntKind.i64.wrap ((m : Int) + 1) = ((m + 1 : Nat) : Int) := by rw [wId (by omega) (by omega)]; simp
  have hR := result_spec x (hwl x (List.mem_of_getElem? hxl))
  rw [List.length_cons, innL] at g3
  cases hb : resT x with
  | false =>
    rw [hb] at hR
    rw [if_neg (by rw [hb]; decide)] at g3
    subst g3
    simp only [go_sem, decide_eq_true hlt, Int.toNat_natCast, Int.natCast_nonneg, hx, eTz, eTm]
    refine aC hR ?_
    simp only [go_sem]
  | true =>
    rw [hb] at hR
    rw [if_pos hb] at g3
    simp only [go_sem, decide_eq_true hlt, Int.toNat_natCast, Int.natCast_nonneg, hx, eTz, eTm]
    refine aC hR ?_
    simp only [go_sem, w4]
    refine hK (m + 1) _ ?_ ⟨pre ++ [x], by simp [g1], by simp [g2], by simpa using g3⟩
    simp only [go_sem, eTm]
 ·simp only [go_sem, Int.natCast_zero, eTm]
/-! Closed terms; results -/
theorem closed_spec (t : TermT) (hok : okT t) (hwc : wcT t) : Spec Tryz.prog 77 [pp (encT t)] [] (.bool (qan t)) [] := by
 have hF := tFreeX_spec t hok hwc
 rw [FreeT] at hF
 rw [qan]
 cases hv : qab t with
 | false =>
   rw [hv, if_neg (by decide)] at hF
   simp only [ints, List.map_nil] at hF
   refine wk (rv := [.tmp 2]) ann77 24 Tryz.func77 ?_
   simp only [go_sem, eTz]
   refine aC hF ?_
   simp only [go_sem, Int.reduceBEq, Bool.false_and]
 | true =>
   rw [hv, if_pos rfl] at hF
   generalize qar (consF t 0) = la at hF ⊢
   generalize qar (termsF t 0) = lb at hF ⊢
   simp only [ints] at hF
   have z : ∀ l : List Int, (((l.length : Nat) : Int) == 0) = decide (l.length = 0) := fun l => by
    rw [Bool.eq_iff_iff, beq_iff_eq, decide_eq_true_iff]; omega
   refine wk (rv := [.tmp 2]) ann77 24 Tryz.func77 ?_
   simp only [go_sem, eTz]
   refine aC hF ?_
   simp only [go_sem, List.length_map, z, Int.reduceBEq, Bool.true_and]
   cases decide (la.length = 0) <;> simp only [go_sem, List.length_map, z, Int.reduceBEq, Bool.true_and, Bool.false_and]
theorem rClosed_spec (t : TermT) (hv : qab t = true) (hok : okT t) : Spec Tryz.prog 83 [pp (encT t)] [] (.bool (decide ((qar (consF t 0)).length = 0) && decide ((qar (termsF t 0)).length = 0))) [] := by
 obtain ⟨hwf, hd⟩ := qae hv
 have h1 := rFreeCons_spec t hwf hok (wf_wc t hwf) (by omega)
 have h2 := rFreeTerms_spec t hwf hok (by omega)
 generalize qar (consF t 0) = la at h1 ⊢
 generalize qar (termsF t 0) = lb at h2 ⊢
 simp only [ints] at h1 h2
 have z : ∀ l : List Int, (((l.length : Nat) : Int) == 0) = decide (l.length = 0) := fun l => by
  rw [Bool.eq_iff_iff, beq_iff_eq, decide_eq_true_iff]; omega
 refine wk (rv := [.tmp 2]) ann83 13 Tryz.func83 ?_
 simp only [go_sem, eTz]
 refine aC h1 ?_
 simp only [go_sem, eTz, List.length_map, z]
 cases decide (la.length = 0)
 ·simp only [go_sem, Bool.false_and]
 ·simp only [go_sem, eTz]
  refine aC h2 ?_
  simp only [go_sem, List.length_map, z, Bool.true_and]
theorem Whole_spec (t : TermT) (hok : okT t) : Spec Tryz.prog 27 [pp (encT t)] [] (.bool (qan t)) [] := by
 have hV := rtValid_spec t hok
 rw [qan]
 cases hv : qab t with
 | false =>
   rw [hv] at hV
   refine wk (rv := [.tmp 2]) ann27 9 Tryz.func27 ?_
   simp only [go_sem, eTz]
   refine aC hV ?_
   simp only [go_sem, Bool.false_and]
 | true =>
   have hC := rClosed_spec t hv hok
   rw [hv] at hV
   generalize (decide ((qar (consF t 0)).length = 0) && decide ((qar (termsF t 0)).length = 0)) = b at hC ⊢
   refine wk (rv := [.tmp 2]) ann27 9 Tryz.func27 ?_
   simp only [go_sem, eTz]
   refine aC hV ?_
   simp only [go_sem, eTz]
   refine aC hC ?_
   simp only [go_sem, Bool.true_and]
theorem form_spec (t : TermT) : wfT t = true → Spec Tryz.prog 86 [pp (encT t)] [] (.bool (resT t)) [] := by
 revert t
 refine TermT.ind1 fun op n s con to k names l ih => ?_
 intro hwf
 rw [wfT, Bool.and_eq_true] at hwf
 obtain ⟨hnode, hwl⟩ := hwf
 have hwl := wfL_mem.1 hwl
 rcases res_cases op n s con to k names l with ⟨h, hr⟩ | ⟨h, hr⟩ | ⟨h, hr⟩ | ⟨h, hr⟩
 ·rw [hr]
  clear hr ih
  refine wk (rv := [.tmp 2]) ann86 46 Tryz.func86 ?_
  rcases h with rfl | rfl | rfl | rfl <;> simp only [go_sem, eTm, Int.reduceBEq]
 ·subst h
  obtain ⟨x, rfl⟩ := fix_cons hnode
  rw [hr x [] rfl]
  clear hr ih
  obtain ⟨op2, n2, s2, con2, to2, k2, names2, l2⟩ := x
  simp only [funT, TermT.op]
  refine wk (rv := [.tmp 2]) ann86 46 Tryz.func86 ?_
  cases h4 : (op2 == 4) with
  | true => simp only [go_sem, eTm, Int.reduceBEq, List.map_cons, List.map_nil, h4, Bool.true_or]
  | false => simp only [go_sem, eTm, Int.reduceBEq, List.map_cons, List.map_nil, h4, Bool.false_or]
 ·rw [hr]
  generalize hres : (!(l.any fun x => !resT x)) = res
  clear hr
  refine wf (rv := [.tmp 2]) ann86 46 Tryz.func86 fun hfit => ?_
  have hlen : l.length ≤ 9223372036854775807 := by
   simp only [argsFit, SV.pv?, SC.pv?, eTm, PV.fit, fitL, List.length_map, mLe] at hfit
   exact hfit.1.2.2.2.2.2.2.2.2.2.2.2.2.2.2.2.2.2.1.1
  clear hfit
  have e2 : (op == 2) = false := by rcases h with rfl | rfl | rfl | rfl <;> rfl
  have e3 : (op == 3) = false := by rcases h with rfl | rfl | rfl | rfl <;> rfl
  have e4 : (op == 4) = false := by rcases h with rfl | rfl | rfl | rfl <;> rfl
  have e6 : (op == 6) = false := by rcases h with rfl | rfl | rfl | rfl <;> rfl
  have e16 : (op == 16) = false := by rcases h with rfl | rfl | rfl | rfl <;> rfl
  rcases h with h | h | h | h
  all_goals
   have e10 : (op == 10) = _ := congrArg (fun z : Int => z == 10) h
   have e12 : (op == 12) = _ := congrArg (fun z : Int => z == 12) h
   have e14 : (op == 14) = _ := congrArg (fun z : Int => z == 14) h
   have e8 : (op == 8) = _ := congrArg (fun z : Int => z == 8) h
   simp only [go_sem, eTm, e2, e3, e4, e6, e16, e10, e12, e14, e8, Int.reduceBEq]
   clear e2 e3 e4 e6 e16 e10 e12 e14 e8 h
   refine aLl (α := TermT) (β := Nat) (fun rest b => ⟨[(3, ii b), (1, pp (.ep (encT (.mk op n s con to k names l)) 0))], [], []⟩)
    (fun rest b => ∃ pre, l = pre ++ rest ∧ b = pre.length ∧ (!(rest.any fun x => !resT x)) = res) ?_ ?_ l 0 _ ?_ ⟨[], rfl, rfl, hres⟩
   ·rintro m ⟨pre, g1, g2, g3⟩ K
    simp only [List.append_nil] at g1
    subst g1
    rw [List.any_nil] at g3
    subst g3
    simp only [go_sem, g2, ltF (Int.le_refl _), List.length_map, eTm]
   ·rintro x rest m ⟨pre, g1, g2, g3⟩ K hK
    have hx : (l.map encT)[m]? = some (encT x) := by simp [g1, g2]
    have hlt : (m : Int) < l.length := by rw [g1, g2]; simp; omega
    have hll : m < l.length := by rw [g1, g2]; simp
    have hm : x ∈ l := by simp [g1]
    have w4 : IntKind.i64.wrap ((m : Int) + 1) = ((m + 1 : Nat) : Int) := by rw [wId (by omega) (by omega)]; simp
    have hI := ih x hm (hwl x hm)
    rw [List.any_cons] at g3
    cases hv : resT x with
    | false =>
      rw [hv, Bool.not_false, Bool.true_or, Bool.not_true] at g3
      rw [hv] at hI
      subst g3
      simp only [go_sem, decide_eq_true hlt, Int.toNat_natCast, Int.natCast_nonneg, hx, eTz, List.length_map, eTm]
      refine aC hI ?_
      simp only [go_sem]
    | true =>
      rw [hv, Bool.not_true, Bool.false_or] at g3
      rw [hv] at hI
      simp only [go_sem, decide_eq_true hlt, Int.toNat_natCast, Int.natCast_nonneg, hx, eTz, List.length_map, eTm]
      refine aC hI ?_
      simp only [go_sem, w4]
      refine hK (m + 1) _ ?_ ⟨pre ++ [x], by simp [g1], by simp [g2], g3⟩
      simp only [go_sem, eTm]
   ·simp only [go_sem, Int.natCast_zero, eTm]
 ·rw [hr]
  clear hr ih
  obtain ⟨e2, e3, e4, e6, e16, e10, e12, e14, e8⟩ := h
  rw [← beq_eq_false_iff_ne] at e2 e3 e4 e6 e16 e10 e12 e14 e8
  refine wk (rv := [.tmp 2]) ann86 46 Tryz.func86 ?_
  simp only [go_sem, eTm, e2, e3, e4, e6, e16, e10, e12, e14, e8]
end Go.Abs.Kon
