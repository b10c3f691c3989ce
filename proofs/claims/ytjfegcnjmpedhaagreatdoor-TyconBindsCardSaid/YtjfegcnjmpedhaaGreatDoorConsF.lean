/- Constants: what the program collects. -/
import Derived.Test.YtjfegcnjmpedhaaGreatDoorAbsC
import Derived.Test.YtjfegcnjmpedhaaGreatDoorConsC
import Derived.Test.YtjfegcnjmpedhaaGreatDoorConsB
set_option linter.unusedSimpArgs false
set_option linter.unusedVariables false
namespace Go.Abs
open Go
def pvB (p : PV) : Box := ⟨.one, .one (.pv p)⟩
theorem pvB_solo {G : Gh} {w : World} {n : Nm} {t1 t2 : Nat} {p : PV} (h : BoxAt G [] w n (pvB p)) : BoxAt (G.solo t1 t2) [] w n (pvB p) := by
  rcases h with ⟨b, vs, T, u, h1, h2, h3, h4, h5⟩ | ⟨b, ks, es', clock, _, _, h3, _⟩ | ⟨b, k', es', cur, T, vs, _, _, h3, _⟩
  · refine .inl ⟨b, vs, T, u, h1, h2, h3, h4, ?_⟩
    simp only [pvB, RepSV, RepSC] at h5 ⊢; exact h5
  · cases h3
  · cases h3
theorem Spec.in_exP {P : Program} {f : FuncId} {args : List SV} {k : Sz} {es : List PV} {r p : PV} {refs' : List Box} {t1 : Nat} (t2 : Nat) (h1 : t1 % 2 = 0) (ha : args.flatMap svToks = []) (h : Spec P f args [exB t1 k es, pvB p] r refs') : Spec P f args [exB t2 k es, pvB p] r refs' := by
  refine ⟨h.1, h.2.1, fun G w vs hW hev hbl hbx hr => ?_⟩
  have hb0 := hbx 0 _ rfl
  have hb1 := hbx 1 _ rfl
  refine (h.2.2 (G.solo t1 t2) w vs (solo_inv hW) (fun t ht => ?_) hbl (fun j bx hj => ?_) (RepSVs.notok (G := G) (G1 := G.solo t1 t2) rfl rfl rfl ha hr)).mono ?_
  · cases hk : (G.solo t1 t2).tok t with
    | none => exact absurd hk ht
    | some tk => rw [(solo_src hk).1]; exact h1
  · cases j with
    | zero => simp at hj; subst hj; exact exB_solo hb0
    | succ j =>
      cases j with
      | zero => simp at hj; subst hj; exact pvB_solo hb1
      | succ j => simp at hj
  · rintro e w' ⟨v, G', rfl, g1, g2, g3, g4⟩
    refine ⟨v, G', rfl, g1, g2, ⟨g3.I, fun b o v hv => (g3.INew b o v hv).imp id (Or.imp id solo_tokBlk), g3.blk, g3.mono, fun n b hn => (g3.blkNew n b hn).imp id (Or.imp id solo_tokBlk), fun t ht => absurd trivial ht, fun t tk g h3 h4 => ?_, fun b hb h3 h4 => g3.heap b hb h3 fun h5 => h4 (solo_tokBlk h5), g3.size, g3.os, g3.tape, g3.output, g3.cap⟩, g4⟩
    rcases g3.tokNew t tk g h3 h4 with h5 | h5 | h5
    · exact .inr (.inr ⟨t2, tk, trivial, (solo_src h5).2, h4⟩)
    · exact .inr (.inl h5)
    · exact .inr (.inr (solo_tokBlk h5))
theorem Spec.out_exP {P : Program} {f : FuncId} {args : List SV} {k : Sz} {es : List PV} {r p : PV} {refs : List Box} {t1 : Nat} (t2 : Nat) (h : Spec P f args refs r [exB t1 k es, pvB p]) : Spec P f args refs r [exB t2 k es, pvB p] := by
  refine ⟨h.1, h.2.1, fun G w vs hW hev hbl hbx hr => (h.2.2 G w vs hW hev hbl hbx hr).mono ?_⟩
  rintro e w' ⟨v, G', rfl, g1, g2, g3, g4⟩
  refine ⟨v, G'.solo t2 t1, rfl, g1, solo_inv g2, ⟨g3.I, g3.INew, g3.blk, g3.mono, g3.blkNew, fun t ht => absurd trivial ht, fun t tk g h3 h4 => ?_, g3.heap, g3.size, g3.os, g3.tape, g3.output, g3.cap⟩, fun j bx hj => ?_⟩
  · rcases g3.tokNew t1 tk g (solo_src h3).2 h4 with h5 | h5 | h5
    · exact .inr (.inr ⟨t1, tk, trivial, h5, h4⟩)
    · exact .inr (.inl h5)
    · exact .inr (.inr h5)
  · cases j with
    | zero => simp at hj; subst hj; exact exB_solo (g4 0 _ rfl)
    | succ j =>
      cases j with
      | zero => simp at hj; subst hj; exact pvB_solo (g4 1 _ rfl)
      | succ j => simp at hj
theorem aFlipOr_loadG {P : Program} {A : Ann} {id : Nat} {ops : Array Oper} {Q : AX → AS → Prop} {s : AS} {o1 o2 : Oper} {rest : List Oper} {x y d : Nat} {T : TypeId} {n : Nm} {f : FuncId} {gs : List FuncId} {tys : Array TypeId} {t : Nat} {k : Sz} {es : List PV} {c' : Nat → SC} {r : SC} (h0 : ops.toList = o1 :: o2 :: rest)
    (h1 : o1.dst = some y ∧ o1.op = .load T (.tmp x) ∧ o1.guard = none) (h2 : o2.dst = some d ∧ o2.op = .call { callee := .value (.func f), args := (Operand.tmp y :: gs.map Operand.func).toArray, argTypes := tys } ∧ o2.guard = none) (hT : szOf P T = some .one) (h3 : getT s.tmps x = .one (.ptr n 0)) (h4 : getB s.boxes n = some ⟨.one, .one (.ex t k es)⟩)
    (hP : TurnG P f gs k es c' r) (hK : aOps P A ops false (regK A id Q) rest 2 ((s.flip t (c' t) y d r).pre A rest) []) : aFlipOr P A id ops false Q s :=
  .inl ⟨o1, o2, rest, y, d, f, gs, tys, t, k, es, c', r, h0, ⟨h1.1, .inr ⟨T, x, n, h1.2.1, hT, h3, h4⟩, h1.2.2⟩, h2, rfl, hP, hK⟩
end Go.Abs

namespace Go.Abs.Kon
open Go Go.Proofs Go.Abs
set_option maxRecDepth 100000
set_option maxHeartbeats 8000000

theorem findP_find {α : Type} (p : α → Bool) : ∀ (l : List α) (j : Nat), (l.find? p = none ∧ findP p l j = -1) ∨ ∃ (i : Nat) (y : α), l.find? p = some y ∧ findP p l j = ((j + i : Nat) : Int) ∧ l[i]? = some y
  | [], j => .inl ⟨rfl, rfl⟩
  | x :: r, j => by
    rw [List.find?_cons, findP]
    cases hx : p x with
    | true => exact .inr ⟨0, x, rfl, by simp, rfl⟩
    | false =>
      rcases findP_find p r (j + 1) with ⟨h1, h2⟩ | ⟨i, y, h1, h2, h3⟩
      · exact .inl ⟨h1, by simpa using h2⟩
      · refine .inr ⟨i + 1, y, h1, ?_, by simpa using h3⟩
        simp only [Bool.false_eq_true, if_false, h2]
        omega
theorem cons11_spec (y : CsT) (op n : Int) (s : ByteArray) (k : List KindT) (names : List ByteArray) (cl : List ConT) :
    Spec Tryz.prog 49 [pp (encX y), pp (.ep (rawC op n s k names cl) 0)] [] (.bool (strEq y.1 s)) [] := by
  refine wk (rv := [.tmp 3]) ann49 9 Tryz.func49 ?_
  simp only [go_sem, encX_eq, strEq]
def outB (t : Nat) : List CsT → Box
  | [] => ⟨.one, .one .nilS⟩
  | x :: r => exB t (.agg 2) ((x :: r).map encX)
def annC1 : Ann := ⟨ann48.imm, [2000002, 7000002, 5000002, 2000005, 7000005, 5000005, 1000023], ann48.live, ann48.head⟩
@[go_sem] theorem annC1_imm : annC1.imm = ann48.imm := rfl
@[go_sem] theorem annC1_frz : annC1.frz = [2000002, 7000002, 5000002, 2000005, 7000005, 5000005, 1000023] := rfl
@[go_sem] theorem annC1_live : annC1.live = ann48.live := rfl
@[go_sem] theorem annC1_head : annC1.head = ann48.head := rfl
def annC0 : Ann := ⟨ann48.imm, [1000023], ann48.live, ann48.head⟩
@[go_sem] theorem annC0_imm : annC0.imm = ann48.imm := rfl
@[go_sem] theorem annC0_frz : annC0.frz = [1000023] := rfl
@[go_sem] theorem annC0_live : annC0.live = ann48.live := rfl
@[go_sem] theorem annC0_head : annC0.head = ann48.head := rfl
theorem cons1_nil (n : Int) (s : ByteArray) (k : List KindT) (names : List ByteArray) (cl : List ConT) (b : Int) (d : Bool) (hk : knL k ≤ 900000000) :
    Spec Tryz.prog 48 [pp (encC (.mk 2 n s k names cl)), ii b, .one (.ptr (.ref 0) 0), .one (.ptr (.ref 1) 0)] [outB 0 [], pvB (.bool d)] (.tuple []) [outB 46 [(s, k)], pvB (.bool d)] := by
  have hI := IndexFuncX encX [] 49 [.ep (rawC 2 n s k names cl) 0] (fun y => strEq y.1 s) (fun _ h => by cases h) (fun y h => by cases h)
  have hK := kindOf_spec (.mk k) (by rw [knF]; omega)
  rw [encK_mk] at hK
  simp only [rawC, List.map_nil, findP] at hI
  have e2 : ((2 : Int) != 2) = false := rfl
  have d1 : decide ((-1 : Int) < 0) = true := rfl
  refine wk (rv := []) annC0 33 Tryz.func48 ?_
  simp only [go_sem, encC_mk, outB, pvB, e2]
  refine aCall_intro hI ?_
  simp only [go_sem, d1]
  refine aCall_intro hK ?_
  simp only [go_sem, one_le_maxLen, exB, encX_eq, List.map_cons, List.map_nil]
  try kernel_rfl
theorem cons1_other (op n : Int) (ho : op ≠ 2) (s : ByteArray) (k : List KindT) (names : List ByteArray) (cl : List ConT) (b : Int) (d : Bool) (l : List CsT) :
    Spec Tryz.prog 48 [pp (encC (.mk op n s k names cl)), ii b, .one (.ptr (.ref 0) 0), .one (.ptr (.ref 1) 0)] [outB 0 l, pvB (.bool d)] (.tuple []) [outB 0 l, pvB (.bool d)] := by
  have e2 : (op != 2) = true := by simpa using ho
  cases l with
  | nil =>
    refine wk (rv := []) annC0 33 Tryz.func48 ?_
    simp only [go_sem, encC_mk, outB, pvB, e2]
  | cons x r =>
    refine wk (rv := []) annC0 33 Tryz.func48 ?_
    simp only [go_sem, encC_mk, outB, exB, pvB, e2]
theorem cons1_cons (n : Int) (s : ByteArray) (k : List KindT) (names : List ByteArray) (cl : List ConT) (b : Int) (d : Bool) (x : CsT) (r : List CsT) (hk : knL k ≤ 900000000) (hr : r.length ≤ 900000000) :
    ∃ t, Spec Tryz.prog 48 [pp (encC (.mk 2 n s k names cl)), ii b, .one (.ptr (.ref 0) 0), .one (.ptr (.ref 1) 0)] [outB 0 (x :: r), pvB (.bool d)] (.tuple []) [outB t (pstepX (x :: r, d) (s, k)).1, pvB (.bool (pstepX (x :: r, d) (s, k)).2)] := by
  have hI := IndexFuncX encX (x :: r) 49 [.ep (rawC 2 n s k names cl) 0] (fun y => strEq y.1 s) (fun y _ => encX_sz' y) (fun y _ => cons11_spec y 2 n s k names cl)
  have hK := kindOf_spec (.mk k) (by rw [knF]; omega)
  rw [encK_mk] at hK
  simp only [rawC] at hI
  have hbt : ∀ (i : Int) I I' v, Rep I (.int .i64 i) v → Rep I' (.int .i64 i) v := fun i I I' v h => by rw [Rep] at h ⊢; exact h
  have e2 : ((2 : Int) != 2) = false := rfl
  have hall : ((x :: r).map encX).all (fun y => PV.hasSz (.agg 2) y) = true := by
    rw [List.all_eq_true]
    intro y hy
    obtain ⟨z, _, rfl⟩ := List.mem_map.1 hy
    exact encX_sz' z
  rcases findP_find (fun y : CsT => strEq y.1 s) (x :: r) 0 with ⟨h1, h2⟩ | ⟨i, y, h1, h2, h3⟩
  · have hp : pstepX (x :: r, d) (s, k) = (x :: r ++ [(s, k)], d) := by rw [pstepX]; simp only; rw [h1]
    rw [hp]
    rw [h2] at hI
    have d1 : decide ((-1 : Int) < 0) = true := rfl
    have hb1 : (r.length + 1 + 1) * 40 ≤ 140737488355328 := by omega
    have hb2 : r.length + 1 + 1 ≤ maxLen := by rw [maxLen_eq]; omega
    refine ⟨46, ?_⟩
    simp only [List.map_cons] at hI hall
    refine wk (rv := []) annC1 33 Tryz.func48 ?_
    simp only [go_sem, encC_mk, outB, exB, pvB, e2, hall, Nat.reduceLT]
    refine aFlipOr_ops ?_
    simp only [go_sem, hall, Nat.reduceLT]
    refine aCall_intro (Spec.lazy 9 hI (hbt _) (by simp [lzArgs, lzSV, lzSC, pp])) ?_
    simp only [go_sem, d1, hall, Nat.reduceLT]
    refine aCall_intro hK ?_
    simp only [go_sem, hb1, hb2, List.length_map, encX_eq, List.map_cons, List.map_nil, List.map_append, List.cons_append]
    try kernel_rfl
  · have hp : pstepX (x :: r, d) (s, k) = (x :: r, d || !sameK (.mk y.2) (.mk k)) := by rw [pstepX]; simp only; rw [h1]
    rw [hp]
    rw [h2, Nat.zero_add] at hI
    have d1 : decide ((i : Int) < 0) = false := decide_eq_false (by omega)
    have hil : i < (x :: r).length := (List.getElem?_eq_some_iff.1 h3).1
    have hlt : (i : Int) < (((x :: r).length : Nat) : Int) := by omega
    have hy : ((x :: r).map encX)[i]? = some (.agg [.str y.1, .slice (y.2.map encK)]) := by rw [List.getElem?_map, h3]; rfl
    have hS := same_spec (.mk y.2) (.mk k)
    simp only [encK_mk] at hS
    have q1 : (i * 2 + 1) / 2 = i := by omega
    have q2 : (i * 2 + 1) % 2 = 1 := by omega
    refine ⟨6000000, ?_⟩
    simp only [List.map_cons, List.length_cons] at hI hall hy hlt
    refine wk (rv := []) annC1 33 Tryz.func48 ?_
    simp only [go_sem, encC_mk, outB, exB, pvB, e2, hall, Nat.reduceLT]
    refine aFlipOr_ops ?_
    simp only [go_sem, hall, Nat.reduceLT]
    refine aCall_intro (Spec.lazy 9 hI (hbt _) (by simp [lzArgs, lzSV, lzSC, pp])) ?_
    simp only [go_sem, d1, hall, Nat.reduceLT]
    refine aFlipOr_ops ?_
    have szne : (Sz.agg 2 = Sz.agg 1) = False := by simp
    simp only [go_sem, hall, Nat.reduceLT, Int.toNat_natCast, Int.natCast_nonneg, hlt, decide_eq_true hlt, hy, q1, q2, szne, List.length_cons, List.length_map]
    refine aCall_intro hS ?_
    cases sameK (.mk y.2) (.mk k) with
    | true =>
      simp only [go_sem, hall, Nat.reduceLT, Bool.not_true, Bool.or_false, List.length_map]
      try kernel_rfl
    | false =>
      simp only [go_sem, hall, Nat.reduceLT, Bool.not_false, Bool.or_true, List.length_map]
      try kernel_rfl
end Go.Abs.Kon

namespace Go.Abs.Kon
open Go Go.Proofs Go.Abs
set_option maxRecDepth 100000
set_option maxHeartbeats 40000000

theorem outB_out {f : FuncId} {args : List SV} {r p : PV} {refs : List Box} {l : List CsT} (t t' : Nat) (h : Spec Tryz.prog f args refs r [outB t l, pvB p]) : Spec Tryz.prog f args refs r [outB t' l, pvB p] := by
  cases l with
  | nil => exact h
  | cons x q => exact Spec.out_exP t' h
theorem outB_in {f : FuncId} {args : List SV} {r p : PV} {refs' : List Box} {l : List CsT} (t : Nat) (ha : args.flatMap svToks = []) (h : Spec Tryz.prog f args [outB 0 l, pvB p] r refs') : Spec Tryz.prog f args [outB t l, pvB p] r refs' := by
  cases l with
  | nil => exact h
  | cons x q => exact Spec.in_exP t (by decide) ha h
def stepO (op : Int) (st : List CsT × Bool) (x : CsT) : List CsT × Bool := if op = 2 then pstepX st x else st
theorem cons1_all (op n : Int) (s : ByteArray) (k : List KindT) (names : List ByteArray) (cl : List ConT) (b : Int) (d : Bool) (l : List CsT) (hk : knL k ≤ 900000000) (hl : l.length ≤ 900000000) :
    Spec Tryz.prog 48 [pp (encC (.mk op n s k names cl)), ii b, .one (.ptr (.ref 0) 0), .one (.ptr (.ref 1) 0)] [outB 0 l, pvB (.bool d)] (.tuple []) [outB 0 (stepO op (l, d) (s, k)).1, pvB (.bool (stepO op (l, d) (s, k)).2)] := by
  rw [stepO]
  by_cases ho : op = 2
  · subst ho
    rw [if_pos rfl]
    cases l with
    | nil => exact outB_out 46 0 (cons1_nil n s k names cl b d hk)
    | cons x r =>
      obtain ⟨t, h⟩ := cons1_cons n s k names cl b d x r hk (by simp at hl; omega)
      exact outB_out t 0 h
  · rw [if_neg ho]
    exact cons1_other op n ho s k names cl b d l
theorem pstep_len (s : List CsT × Bool) (x : CsT) : (pstepX s x).1.length ≤ s.1.length + 1 := by
  rw [pstepX]
  split <;> simp
theorem pfold_len : ∀ (S : List CsT) (s : List CsT × Bool), (S.foldl pstepX s).1.length ≤ s.1.length + S.length
  | [], s => by simp
  | x :: S, s => by
    have h1 := pfold_len S (pstepX s x)
    have h2 := pstep_len s x
    rw [List.foldl_cons, List.length_cons]
    omega
theorem csts_leaf {op : Int} (ho : op = 1 ∨ op = 2) (n : Int) (s : ByteArray) (k : List KindT) (names : List ByteArray) (cl : List ConT) (b : Int) (st : List CsT × Bool) : (cstsF (.mk op n s k names cl) b).foldl pstepX st = stepO op st (s, k) := by
  rcases ho with rfl | rfl
  · rw [csts_var]; rfl
  · rw [csts_const]; rfl

theorem each_consts (c : ConT) : ∀ (binders : Int) (l : List CsT) (d : Bool), 0 ≤ binders → binders + depthF c ≤ 100000000 → formedF c = true → l.length + wtF c ≤ 900000000 →
    Spec Tryz.prog 47 [pp (encC c), ii binders, .one (.fn 48 [.ptr (.ref 0) 0, .ptr (.ref 1) 0])] [outB 0 l, pvB (.bool d)] (.tuple []) [outB 0 ((cstsF c binders).foldl pstepX (l, d)).1, pvB (.bool ((cstsF c binders).foldl pstepX (l, d)).2)] := by
  revert c
  refine ConT.ind1 fun op n s k names cl ih => ?_
  intro binders l d h1 h2 h3 h4
  have hB := binder_spec (.mk op n s k names cl)
  simp only [ConT.op] at hB
  rw [encC_mk] at hB
  rw [depthF] at h2
  rw [wtF] at h4
  have w2 : IntKind.i64.wrap (binders + 1) = binders + 1 := wrap_id (by omega) (by omega)
  by_cases ho : op = 1 ∨ op = 2
  · have hl := leaf_nil h3 ho
    subst hl
    have e2 : isBinder op = false := by simp [isBinder]; omega
    rw [csts_leaf ho]
    have hS := cons1_all op n s k names [] binders d l (by omega) (by omega)
    generalize stepO op (l, d) (s, k) = st2 at hS ⊢
    obtain ⟨l2, d2⟩ := st2
    simp only at hS ⊢
    refine outB_out 38 0 ?_
    rw [e2] at hB
    rw [encC_mk] at hS
    have h12 : (op == 1) = true ∨ ((op == 1) = false ∧ (op == 2) = true) := by
      rcases ho with h | h <;> simp [h]
    cases l <;> cases l2 <;> (
      simp only [outB, exB, pvB] at hS ⊢
      refine wf (rv := []) ann47 36 Tryz.func47 fun hfit => ?_
      clear hfit ih
      simp only [go_sem, encC_mk]
      rcases h12 with h12 | ⟨h12, h13⟩
      all_goals
        simp only [go_sem, h12]
        try simp only [go_sem, h13]
        refine aCall_intro hS ?_
        simp only [go_sem]
        refine aCall_intro hB ?_
        simp only [go_sem]
        refine ⟨1, ?_⟩
        rw [aLoop_succ]
        simp only [go_sem, List.map_nil, List.length_nil, Int.natCast_zero, lt_false (Int.le_refl _)])
  · have hfm : formedL cl = true := by rw [formedF, Bool.and_eq_true] at h3; exact h3.2
    rw [formedL_all] at hfm
    have e1 : (op == 1) = false := by simp; omega
    have e3 : (op == 2) = false := by simp; omega
    rw [csts_node ho]
    obtain ⟨bb, hbb⟩ : ∃ bb, (if isBinder op then binders + 1 else binders) = bb := ⟨_, rfl⟩
    rw [hbb]
    have hbb0 : 0 ≤ bb := by rw [← hbb]; split <;> omega
    have hbb1 : bb + depthL cl ≤ 100000000 := by rw [← hbb]; split <;> omega
    have hlen : l.length + wtL cl ≤ 900000000 := by omega
    have hwl := wtL_len cl
    cases hcl : cl with
    | nil =>
      subst hcl
      rw [cstsL_nil, List.foldl_nil]
      cases l <;> (
        simp only [outB, exB, pvB]
        refine wk (rv := []) ann47 36 Tryz.func47 ?_
        simp only [go_sem, encC_mk, e1, e3]
        refine aCall_intro hB ?_
        simp only [go_sem]
        refine condK_intro (fun hc => ?_) (fun hc => ?_)
        all_goals
          simp only [go_sem, List.length_map]
          refine ⟨1, ?_⟩
          rw [aLoop_succ]
          simp only [go_sem, List.map_nil, List.length_nil, Int.natCast_zero, lt_false (Int.le_refl _)])
    | cons c0 cl0 =>
      rw [← hcl]
      have hne : cl ≠ [] := by rw [hcl]; simp
      clear hcl
      generalize hres : (cstsL cl bb).foldl pstepX (l, d) = res
      obtain ⟨rl, rd⟩ := res
      simp only
      refine outB_out 68 0 ?_
      have hstart : ∃ b0, b0 = outB 0 l := ⟨_, rfl⟩
      obtain ⟨b0, hb0⟩ := hstart
      have hb0' : (∃ x r, l = x :: r ∧ b0 = ⟨.one, .one (.ex 0 (.agg 2) ((x :: r).map encX))⟩) ∨ (l = [] ∧ b0 = ⟨.one, .one .nilS⟩) := by
        cases l with
        | nil => exact .inr ⟨rfl, hb0⟩
        | cons x r => exact .inl ⟨x, r, rfl, hb0⟩
      rw [← hb0]
      have step : ∀ (x : ConT), x ∈ cl → ∀ (cur : List CsT) (dd : Bool), cur.length + wtF x ≤ 900000000 → Spec Tryz.prog 47 [pp (encC x), ii bb, .one (.fn 48 [.ptr (.ref 0) 0, .ptr (.ref 1) 0])] [outB 0 cur, pvB (.bool dd)] (.tuple []) [outB 0 ((cstsF x bb).foldl pstepX (cur, dd)).1, pvB (.bool ((cstsF x bb).foldl pstepX (cur, dd)).2)] := by
        intro x hx cur dd hcur
        exact ih x hx bb cur dd hbb0 (by have := depthF_mem hx; omega) (List.all_eq_true.1 hfm x hx) hcur
      rcases hb0' with ⟨x0, r0, hl, hb0'⟩ | ⟨hl, hb0'⟩
      all_goals
        rw [hb0']
        simp only [pvB]
        refine Spec.walk (rv := []) ann47 36 Tryz.func47 mixed rfl rfl (by kernel_rfl) rfl (by cases rl <;> rfl) fun hfit => ?_
        clear hfit
        simp only [go_sem, encC_mk, e1, e3]
        refine aCall_intro hB ?_
        simp only [go_sem]
        refine condK_intro (fun hc => ?_) (fun hc => ?_)
        all_goals
          first
            | (have e : IntKind.i64.wrap (binders + 1) = bb := by rw [w2, ← hbb, hc]; rfl
               simp only [go_sem, e, List.length_map])
            | (have e : binders = bb := by rw [← hbb, hc]; rfl
               simp only [go_sem, e, List.length_map])
          refine aLoop_list (α := ConT) (β := Nat × Bool × List CsT × Bool) (fun rest b => ⟨[(27, ii b.1), (2, .one (.fn 48 [.ptr (.ref 0) 0, .ptr (.ref 1) 0])), (1, ii bb), (25, pp (.slice (cl.map encC))), (26, ii cl.length)], [(.ref 0, outB (if b.2.1 = true then 68 else 0) b.2.2.1), (.ref 1, ⟨.one, .one (.pv (.bool b.2.2.2))⟩)], []⟩)
            (fun rest b => ∃ pre, cl = pre ++ rest ∧ b.1 = pre.length ∧ b.2.2.1.length + wtL rest ≤ 900000000 ∧ (rest = [] → b.2.1 = true) ∧ (cstsL rest bb).foldl pstepX b.2.2 = (rl, rd)) ?_ ?_ cl (0, false, l, d) _ ?_ ⟨[], rfl, rfl, hlen, fun e => absurd e hne, hres⟩
          · rintro ⟨m, st, cur, dd⟩ ⟨pre, g1, g2, g3, g4, g5⟩ K
            simp only [List.append_nil] at g1 g2 g4 g5
            have g4 := g4 trivial
            subst g1 g4
            rw [cstsL_nil, List.foldl_nil] at g5
            obtain ⟨rfl, rfl⟩ := Prod.mk.inj g5
            cases cur <;> simp only [go_sem, g2, lt_false (Int.le_refl _), outB, exB]
          · rintro x rest ⟨m, st, cur, dd⟩ ⟨pre, g1, g2, g3, g4, g5⟩ K hK
            simp only at g2 g3 g4 g5
            have hx : (cl.map encC)[m]? = some (encC x) := by simp [g1, g2]
            have hlt : (m : Int) < cl.length := by rw [g1, g2]; simp; omega
            have hll : m < cl.length := by rw [g1, g2]; simp
            have hm : x ∈ cl := by simp [g1]
            rw [wtL] at g3
            have hI := step x hm cur dd (by omega)
            have hln := pfold_len (cstsF x bb) (cur, dd)
            have hcl := csts_len x bb
            have hsw := sizeF_wt x
            have w4 : IntKind.i64.wrap ((m : Int) + 1) = ((m + 1 : Nat) : Int) := by rw [wrap_id (by omega) (by omega)]; simp
            rw [cstsL_cons, List.foldl_append] at g5
            have hK' := fun s' hs => hK (m + 1, true, (cstsF x bb).foldl pstepX (cur, dd)) s' hs ⟨pre ++ [x], by simp [g1], by simp [g2], by simp only at hln ⊢; omega, fun _ => rfl, g5⟩
            clear hK g5
            replace hI := outB_in (if st = true then 68 else 0) rfl hI
            generalize (cstsF x bb).foldl pstepX (cur, dd) = cs2 at hI hK'
            obtain ⟨cur2, d2⟩ := cs2
            cases st <;> cases cur <;> cases cur2 <;> (
              simp only [outB, exB, pvB, Bool.false_eq_true, if_true, if_false, List.map_cons] at hI hK' ⊢
              simp only [go_sem, decide_eq_true hlt, Int.toNat_natCast, Int.natCast_nonneg, hx, encC_sz]
              refine aCall_intro hI ?_
              simp only [go_sem, encC_sz, w4]
              refine hK' _ ?_
              simp only [go_sem])
          · first
              | (subst hl; simp only [go_sem, Int.natCast_zero, outB, exB, Bool.false_eq_true, if_false])

/-! Consts -/
def constsF (c : ConT) : List CsT × Int :=
  if validF c = false then ([], 1) else if ((cstsF c 0).foldl pstepX ([], false)).2 = true then ([], 11) else (sortX ((cstsF c 0).foldl pstepX ([], false)).1, 0)
def annCo : Ann := ⟨ann12.imm, [2000008, 2000009, 6000009], ann12.live, ann12.head⟩
@[go_sem] theorem annCo_imm : annCo.imm = ann12.imm := rfl
@[go_sem] theorem annCo_frz : annCo.frz = [2000008, 2000009, 6000009] := rfl
@[go_sem] theorem annCo_live : annCo.live = ann12.live := rfl
@[go_sem] theorem annCo_head : annCo.head = ann12.head := rfl
def annCo0 : Ann := ⟨ann12.imm, [], ann12.live, ann12.head⟩
@[go_sem] theorem annCo0_imm : annCo0.imm = ann12.imm := rfl
@[go_sem] theorem annCo0_frz : annCo0.frz = [] := rfl
@[go_sem] theorem annCo0_live : annCo0.live = ann12.live := rfl
@[go_sem] theorem annCo0_head : annCo0.head = ann12.head := rfl
theorem insertionF_0 : Spec Tryz.prog 125 [pp (.slice []), ii 0, ii 0, pp (.fn 53 [])] [] (.tuple []) [] := by
  refine wk (rv := []) ann125 53 Tryz.func125 ?_
  have w1 : IntKind.i64.wrap (0 + 1) = 1 := by decide
  have t1 : decide ((1 : Int) < 0) = false := rfl
  simp only [go_sem, w1]
  refine ⟨1, ?_⟩
  rw [aLoop_succ]
  simp only [go_sem, t1]
theorem pdqF_0 (n : Int) : Spec Tryz.prog 97 [pp (.slice []), ii 0, ii 0, ii n, pp (.fn 53 [])] [] (.tuple []) [] := by
  have hI := insertionF_0
  refine wk (rv := []) ann97 148 Tryz.func97 ?_
  have w1 : IntKind.i64.wrap (0 - 0) = 0 := by decide
  simp only [go_sem, w1]
  refine ⟨1, ?_⟩
  rw [aLoop_succ]
  simp only [go_sem, w1]
  refine aCall_intro hI ?_
  simp only [go_sem]
theorem SortFuncX_0 : Spec Tryz.prog 52 [pp (.slice []), pp (.fn 53 [])] [] (.tuple []) [] := by
  have hI := Len_0
  have hP := pdqF_0 (Lib.bitLen 0)
  refine wk (rv := []) ann52 14 Tryz.func52 ?_
  have n1 : ((0 : Nat) : Int) = 0 := rfl
  have w1 : IntKind.u64.wrap 0 = 0 := by decide
  simp only [go_sem, n1, w1, List.length_nil]
  refine aCall_intro hI ?_
  simp only [go_sem, n1, List.length_nil]
  refine aCall_intro hP ?_
  simp only [go_sem]
theorem tConsts_spec (c : ConT) (h1 : wtF c ≤ 800000000) (h2 : okS c) : Spec Tryz.prog 12 [pp (encC c)] [] (.tuple [.slice ((constsF c).1.map encX), .int .i64 (constsF c).2]) [] := by
  have hsc := sizeF_wt c
  have hV := Valid_spec c (by omega) h2
  rw [constsF]
  cases hv : validF c with
  | false =>
    rw [hv] at hV
    rw [if_pos rfl]
    refine wk (rv := [.tmp 2, .tmp 3]) annCo0 16 Tryz.func12 ?_
    simp only [go_sem, encC_sz]
    refine aCall_intro hV ?_
    simp only [go_sem, List.map_nil]
  | true =>
    rw [hv] at hV
    have hf := validF_formed hv
    have hd := (valid_dw hv).1
    rw [if_neg (by decide)]
    have hE := each_consts c 0 [] false (by decide) (by omega) hf (by simpa using (by omega : wtF c ≤ 900000000))
    have hfl := pfold_len (cstsF c 0) ([], false)
    have hcl := csts_len c 0
    generalize (cstsF c 0).foldl pstepX ([], false) = st at hE hfl ⊢
    obtain ⟨l, d⟩ := st
    simp only at hE hfl ⊢
    cases d with
    | true =>
      rw [if_pos rfl]
      cases l with
      | nil =>
        simp only [outB, pvB] at hE
        refine wk (rv := [.tmp 2, .tmp 3]) annCo0 16 Tryz.func12 ?_
        simp only [go_sem, encC_sz]
        refine aCall_intro hV ?_
        simp only [go_sem, encC_sz]
        refine aCall_intro hE ?_
        simp only [go_sem, List.map_nil]
      | cons x r =>
        simp only [outB, exB, pvB] at hE
        refine wk (rv := [.tmp 2, .tmp 3]) annCo0 16 Tryz.func12 ?_
        simp only [go_sem, encC_sz]
        refine aCall_intro hV ?_
        simp only [go_sem, encC_sz]
        refine aCall_intro hE ?_
        simp only [go_sem, List.map_nil]
    | false =>
      rw [if_neg (by decide)]
      cases l with
      | nil =>
        have hS := SortFuncX_0
        have hs0 : sortX [] = [] := List.eq_nil_of_length_eq_zero (by rw [sortX_length]; rfl)
        simp only [outB, pvB] at hE
        rw [hs0]
        refine wk (rv := [.tmp 2, .tmp 3]) annCo0 16 Tryz.func12 ?_
        simp only [go_sem, encC_sz]
        refine aCall_intro hV ?_
        simp only [go_sem, encC_sz]
        refine aCall_intro hE ?_
        simp only [go_sem]
        refine aCall_intro hS ?_
        simp only [go_sem, List.map_nil]
      | cons x r =>
        have hS := SortFunc_turn (x :: r) (by simp at hfl ⊢; omega)
        have hne : ∃ y q, sortX (x :: r) = y :: q := by
          cases hq : sortX (x :: r) with
          | nil => have := congrArg List.length hq; rw [sortX_length] at this; simp at this
          | cons y q => exact ⟨y, q, rfl⟩
        generalize sortX (x :: r) = so at hS hne ⊢
        have hall : (so.map encX).all (fun y => PV.hasSz (.agg 2) y) = true := by
          rw [List.all_eq_true]
          intro y hy
          obtain ⟨z, _, rfl⟩ := List.mem_map.1 hy
          exact encX_sz' z
        simp only [outB, exB, pvB] at hE
        refine wk (rv := [.tmp 2, .tmp 3]) annCo 16 Tryz.func12 ?_
        simp only [go_sem, encC_sz]
        refine aCall_intro hV ?_
        simp only [go_sem, encC_sz]
        refine aCall_intro hE ?_
        simp only [go_sem]
        refine aFlipOr_loadG rfl ⟨rfl, rfl, rfl⟩ ⟨rfl, rfl, rfl⟩ (by simp only [go_sem]) rfl rfl hS ?_
        simp only [go_sem, AS.flip, flipT, flipB, flipSV, flipSC, hall, Nat.reduceLT]
        refine aFlipOr_ops ?_
        simp only [go_sem, hall, Nat.reduceLT, List.length_map]
end Go.Abs.Kon
