/- The reference's applications, spines, and tuples. -/
import Derived.Test.YthbfnaaminlopaaGreatDoorVBuildsA
import Derived.Test.YthbfnaaminlopaaGreatDoorVShelfA
set_option linter.unusedSimpArgs false
set_option linter.unusedVariables false
namespace Go.Abs.Kon
open Go Go.Proofs Go.Abs
set_option maxRecDepth 100000
set_option maxHeartbeats 4000000

def decF (n : Nat) : ByteArray := ByteArray.empty.push (UInt8.ofNat (48 + n))
theorem Decimal_spec (n : Nat) (h : n ≤ 9) : Spec Tryz.prog 66 [ii n] [] (.str (decF n)) [] := by
  have d1 : decide ((n : Int) < 0) = false := decide_eq_false (by omega)
  have d2 : decide ((n : Int) < 10) = true := decide_eq_true (by omega)
  have w1 : IntKind.i64.wrap (48 + (n : Int)) = 48 + n := wrap_id (by omega) (by omega)
  have w2 : IntKind.u8.wrap (48 + (n : Int)) = 48 + n := by
    rcases (show n = 0 ∨ n = 1 ∨ n = 2 ∨ n = 3 ∨ n = 4 ∨ n = 5 ∨ n = 6 ∨ n = 7 ∨ n = 8 ∨ n = 9 by omega) with rfl | rfl | rfl | rfl | rfl | rfl | rfl | rfl | rfl | rfl <;> rfl
  have w3 : (48 + (n : Int)).toNat = 48 + n := by omega
  refine Spec.walk (rv := [.tmp 2]) ann66 26 Tryz.func66 mixed rfl rfl (by kernel_rfl) rfl rfl fun hfit => ?_
  clear hfit
  simp only [go_sem, reduceCtorEq, ↓reduceIte, Nat.reduceEqDiff, Nat.reduceAdd, Nat.reduceMul, Nat.reduceSub, Nat.reduceLeDiff, Nat.reduceBEq, Int.reduceToNat, Int.reduceLE, Int.reduceLT, d1, d2, w1, w2, w3, List.isEmpty_cons, List.foldl_cons, List.foldl_nil, decF]
theorem Itoa_spec (n : Nat) (h : n ≤ 9) : Spec Tryz.prog 65 [ii n] [] (.str (decF n)) [] := by
  refine Spec.of_below (by kernel_rfl) fun G w vs hW hr => ?_
  have hv : vs = #[.int .i64 n] := by
    simp only [RepSVs, ii, RepSV, RepSC, Rep] at hr
    obtain ⟨v, rest, h1, rfl, h3⟩ := hr
    subst h3
    exact Array.toList_inj.1 h1
  subst hv
  refine (Tryz.strconv_Itoa_small n (by omega) w).mono ?_
  rintro e w' ⟨rfl, rfl⟩
  refine ⟨_, rfl, ?_, RowKit.Below.refl _ _⟩
  rw [Rep]
  clear hr hW
  refine congrArg Value.string ?_
  rcases (show n = 0 ∨ n = 1 ∨ n = 2 ∨ n = 3 ∨ n = 4 ∨ n = 5 ∨ n = 6 ∨ n = 7 ∨ n = 8 ∨ n = 9 by omega) with rfl | rfl | rfl | rfl | rfl | rfl | rfl | rfl | rfl | rfl <;> kernel_rfl

def appBox (f : ConT) : Option (ConT × ConT) → SV
  | none => pp (encC f)
  | some (g, x) => .agg [.pv (.int .i64 12), .pv (.int .i64 0), .pv (.str ByteArray.empty), .nilS, .nilS, .own 34 (.agg 6) [encC g, encC x]]
def appCur (f : ConT) : Option (ConT × ConT) → ConT
  | none => f
  | some (g, x) => appC g x
theorem rApps_spec (f : ConT) (l : List ConT) (h : l.length ≤ 1000000) : Spec Tryz.prog 34 [pp (encC f), pp (.slice (l.map encC))] [] (encC (l.foldl appC f)) [] := by
  generalize h0 : l.foldl appC f = res
  refine Spec.walk (rv := [.cell 4 28]) ann34 20 Tryz.func34 mixed rfl rfl (by kernel_rfl) rfl rfl fun hfit => ?_
  clear hfit
  simp only [go_sem, reduceCtorEq, ↓reduceIte, Nat.reduceEqDiff, Nat.reduceAdd, Nat.reduceMul, Nat.reduceSub, Nat.reduceLeDiff, Nat.reduceBEq, Int.reduceToNat, Int.reduceLE, Int.reduceLT, encC_sz]
  refine aLoop_list (α := ConT) (β := Option (ConT × ConT) × List ConT) (fun rest b => ⟨[(5, ii b.2.length), (2, .one (.ptr (.loc 2) 0)), (1, pp (.slice (l.map encC))), (4, .one (.ptr (.loc 4) 0))],
    [(.loc 2, ⟨.agg 6, appBox f b.1⟩), (.loc 4, ⟨.agg 6, .agg [.pv (.int .i64 0), .pv (.int .i64 0), .pv (.str ByteArray.empty), .nilS, .nilS, .nilS]⟩)], []⟩)
    (fun rest b => l = b.2 ++ rest ∧ rest.foldl appC (appCur f b.1) = res) ?_ ?_ l (none, []) _ ?_ ⟨rfl, h0⟩
  · rintro ⟨g, pre⟩ ⟨h1, h2⟩ K
    simp only [List.append_nil] at h1
    simp only [List.foldl_nil] at h2
    subst h1 h2
    cases g with
    | none => simp only [go_sem, reduceCtorEq, ↓reduceIte, Nat.reduceEqDiff, Nat.reduceAdd, Nat.reduceMul, Nat.reduceSub, Nat.reduceLeDiff, Nat.reduceBEq, Int.reduceToNat, Int.reduceLE, Int.reduceLT, List.length_map, lt_false (Int.le_refl _), encC_sz, appBox, appCur]
    | some g =>
      obtain ⟨g, x⟩ := g
      simp only [go_sem, reduceCtorEq, ↓reduceIte, Nat.reduceEqDiff, Nat.reduceAdd, Nat.reduceMul, Nat.reduceSub, Nat.reduceLeDiff, Nat.reduceBEq, Int.reduceToNat, Int.reduceLE, Int.reduceLT, List.length_map, lt_false (Int.le_refl _), encC_sz, appBox, appCur, appC, encC_mk]
  · rintro x rest ⟨g, pre⟩ ⟨h1, h2⟩ K hK
    simp only at h1 h2 hK
    have hx : (l.map encC)[pre.length]? = some (encC x) := by simp [h1]
    have hlt : (pre.length : Int) < l.length := by rw [h1]; simp; omega
    have hll : pre.length + 1 ≤ l.length := by omega
    have w4 : IntKind.i64.wrap ((pre.length : Int) + 1) = ((pre ++ [x]).length : Int) := by rw [wrap_id (by omega) (by omega)]; simp
    have hK' := fun s' hs => hK (some (appCur f g, x), pre ++ [x]) s' hs ⟨by simp [h1], by simpa [appCur] using h2⟩
    clear hK
    cases g with
    | none =>
      simp only [go_sem, reduceCtorEq, ↓reduceIte, Nat.reduceEqDiff, Nat.reduceAdd, Nat.reduceMul, Nat.reduceSub, Nat.reduceLeDiff, Nat.reduceBEq, Int.reduceToNat, Int.reduceLE, Int.reduceLT, List.length_map, decide_eq_true hlt, Int.toNat_natCast, Int.natCast_nonneg, hx, encC_sz, w4, appBox]
      refine ⟨by kernel_rfl, hK' _ ?_⟩
      simp only [go_sem, reduceCtorEq, ↓reduceIte, Nat.reduceEqDiff, Nat.reduceAdd, Nat.reduceMul, Nat.reduceSub, Nat.reduceLeDiff, Nat.reduceBEq, Int.reduceToNat, Int.reduceLE, Int.reduceLT, appBox, appCur]
    | some g =>
      obtain ⟨g, y⟩ := g
      simp only [go_sem, reduceCtorEq, ↓reduceIte, Nat.reduceEqDiff, Nat.reduceAdd, Nat.reduceMul, Nat.reduceSub, Nat.reduceLeDiff, Nat.reduceBEq, Int.reduceToNat, Int.reduceLE, Int.reduceLT, List.length_map, decide_eq_true hlt, Int.toNat_natCast, Int.natCast_nonneg, hx, encC_sz, w4, appBox]
      refine ⟨by kernel_rfl, hK' _ ?_⟩
      simp only [go_sem, reduceCtorEq, ↓reduceIte, Nat.reduceEqDiff, Nat.reduceAdd, Nat.reduceMul, Nat.reduceSub, Nat.reduceLeDiff, Nat.reduceBEq, Int.reduceToNat, Int.reduceLE, Int.reduceLT, appBox, appCur, appC, encC_mk]
  · simp only [go_sem, reduceCtorEq, ↓reduceIte, Nat.reduceEqDiff, Nat.reduceAdd, Nat.reduceMul, Nat.reduceSub, Nat.reduceLeDiff, Nat.reduceBEq, Int.reduceToNat, Int.reduceLE, Int.reduceLT, List.length_nil, Int.natCast_zero, appBox]

theorem SameAll_spec (a b : List ConT) (h : a.length ≤ 1000000) : Spec Tryz.prog 33 [pp (.slice (a.map encC)), pp (.slice (b.map encC))] [] (.bool (eqL eqC a b)) [] := by
  generalize h0 : eqL eqC a b = res
  refine Spec.walk (rv := [.tmp 4]) ann33 27 Tryz.func33 mixed rfl rfl (by kernel_rfl) rfl rfl fun hfit => ?_
  clear hfit
  simp only [go_sem, reduceCtorEq, ↓reduceIte, Nat.reduceEqDiff, Nat.reduceAdd, Nat.reduceMul, Nat.reduceSub, Nat.reduceLeDiff, Nat.reduceBEq, Int.reduceToNat, Int.reduceLE, Int.reduceLT, List.length_map]
  refine condK_intro (fun hb => ?_) (fun hb => ?_)
  · simp only [go_sem, reduceCtorEq, ↓reduceIte, Nat.reduceEqDiff, Nat.reduceAdd, Nat.reduceMul, Nat.reduceSub, Nat.reduceLeDiff, Nat.reduceBEq, Int.reduceToNat, Int.reduceLE, Int.reduceLT]
    rw [← h0, eqL_length]
    intro h; simp [h] at hb
  · have hl : a.length = b.length := by simp at hb; omega
    simp only [go_sem, reduceCtorEq, ↓reduceIte, Nat.reduceEqDiff, Nat.reduceAdd, Nat.reduceMul, Nat.reduceSub, Nat.reduceLeDiff, Nat.reduceBEq, Int.reduceToNat, Int.reduceLE, Int.reduceLT, List.length_map]
    refine aLoop_list (α := ConT) (β := List ConT × List ConT × List ConT) (fun rest b' => ⟨[(5, ii b'.1.length), (1, pp (.slice (b.map encC))), (0, pp (.slice (a.map encC)))], [], []⟩) (fun rest b' => a = b'.1 ++ rest ∧ b = b'.2.1 ++ b'.2.2 ∧ b'.1.length = b'.2.1.length ∧ eqL eqC rest b'.2.2 = res) ?_ ?_ a ([], [], b) _ ?_ ⟨rfl, rfl, rfl, h0⟩
    · rintro ⟨pre, pre', rest'⟩ ⟨h4, h4', h6, h5⟩ K
      simp only [List.append_nil] at h4 h4' h6
      simp only [go_sem, reduceCtorEq, ↓reduceIte, Nat.reduceEqDiff, Nat.reduceAdd, Nat.reduceMul, Nat.reduceSub, Nat.reduceLeDiff, Nat.reduceBEq, Int.reduceToNat, Int.reduceLE, Int.reduceLT, h4, List.length_map, lt_false (Int.le_refl _)]
      have : rest' = [] := by
        have := congrArg List.length h4'
        rw [← hl, h4] at this; simp at this
        exact List.eq_nil_of_length_eq_zero (by omega)
      rw [this] at h5
      simp only [eqL] at h5
      rw [h5]
    · rintro x rest ⟨pre, pre', rest'⟩ ⟨h4, h4', h6, h5⟩ K hK
      simp only at h4 h4' h6 h5
      cases rest' with
      | nil =>
        exfalso
        have h7 := congrArg List.length h4'
        have h8 := congrArg List.length h4
        simp at h7 h8; omega
      | cons y rest' =>
        have hx : (a.map encC)[pre.length]? = some (encC x) := by simp [h4]
        have hy : (b.map encC)[pre.length]? = some (encC y) := by simp [h4', h6]
        have hlt : (pre.length : Int) < a.length := by rw [h4]; simp; omega
        have hE := rSame_spec x y
        simp only [go_sem, reduceCtorEq, ↓reduceIte, Nat.reduceEqDiff, Nat.reduceAdd, Nat.reduceMul, Nat.reduceSub, Nat.reduceLeDiff, Nat.reduceBEq, Int.reduceToNat, Int.reduceLE, Int.reduceLT, List.length_map, decide_eq_true hlt, Int.toNat_natCast, Int.natCast_nonneg, hx, hy, encC_sz]
        refine aCall_intro hE ?_
        simp only [go_sem, reduceCtorEq, ↓reduceIte, Nat.reduceEqDiff, Nat.reduceAdd, Nat.reduceMul, Nat.reduceSub, Nat.reduceLeDiff, Nat.reduceBEq, Int.reduceToNat, Int.reduceLE, Int.reduceLT]
        refine condK_intro (fun hb => ?_) (fun hb => ?_)
        · have hb' : eqC x y = false := by simpa using hb
          simp only [eqL, hb', Bool.false_and] at h5
          subst h5
          simp only [go_sem, reduceCtorEq, ↓reduceIte, Nat.reduceEqDiff, Nat.reduceAdd, Nat.reduceMul, Nat.reduceSub, Nat.reduceLeDiff, Nat.reduceBEq, Int.reduceToNat, Int.reduceLE, Int.reduceLT]
        · have hb' : eqC x y = true := by simpa using hb
          have w4 : IntKind.i64.wrap ((pre.length : Int) + 1) = ((pre ++ [x]).length : Int) := by rw [wrap_id (by omega) (by omega)]; simp
          simp only [eqL, hb', Bool.true_and] at h5
          simp only [go_sem, reduceCtorEq, ↓reduceIte, Nat.reduceEqDiff, Nat.reduceAdd, Nat.reduceMul, Nat.reduceSub, Nat.reduceLeDiff, Nat.reduceBEq, Int.reduceToNat, Int.reduceLE, Int.reduceLT, w4]
          refine hK (pre ++ [x], pre' ++ [y], rest') _ ?_ ⟨by simp [h4], by simp [h4'], by simp [h6], h5⟩
          simp only [go_sem, reduceCtorEq, ↓reduceIte, Nat.reduceEqDiff, Nat.reduceAdd, Nat.reduceMul, Nat.reduceSub, Nat.reduceLeDiff, Nat.reduceBEq, Int.reduceToNat, Int.reduceLE, Int.reduceLT]
    · simp only [go_sem, reduceCtorEq, ↓reduceIte, Nat.reduceEqDiff, Nat.reduceAdd, Nat.reduceMul, Nat.reduceSub, Nat.reduceLeDiff, Nat.reduceBEq, Int.reduceToNat, Int.reduceLE, Int.reduceLT, List.length_nil, Int.natCast_zero]
end Go.Abs.Kon

namespace Go.Abs.Kon
open Go Go.Proofs Go.Abs
set_option maxRecDepth 100000
set_option maxHeartbeats 4000000

def namesF (n : Nat) : List ByteArray := (List.range n).map fun i => decF (i + 1)
theorem namesF_succ (n : Nat) : namesF (n + 1) = namesF n ++ [decF (n + 1)] := by simp [namesF, List.range_succ]
def tupleF (l : List ConT) : ConT := .mk 7 0 ByteArray.empty [] (namesF l.length) l

theorem rTuple_spec (l : List ConT) (h : l.length ≤ 9) : Spec Tryz.prog 35 [pp (.slice (l.map encC))] [] (encC (tupleF l)) [] := by
  refine Spec.walk (rv := [.cell 2 28]) ann35 30 Tryz.func35 mixed rfl rfl (by kernel_rfl) rfl rfl fun hfit => ?_
  clear hfit
  simp only [go_sem, reduceCtorEq, ↓reduceIte, Nat.reduceEqDiff, Nat.reduceAdd, Nat.reduceMul, Nat.reduceSub, Nat.reduceLeDiff, Nat.reduceBEq, Int.reduceToNat, Int.reduceLE, Int.reduceLT, encC_sz]
  refine aLoop_list (α := ConT) (β := List ConT × List ByteArray × Nat) (fun rest b => ⟨[(4, ii b.2.2), (3, .one (.ptr (.loc 3) 0)), (0, pp (.slice (l.map encC))), (2, .one (.ptr (.loc 2) 0))],
    [(.loc 2, ⟨.agg 6, .agg [.pv (.int .i64 0), .pv (.int .i64 0), .pv (.str ByteArray.empty), .nilS, .nilS, .nilS]⟩), (.loc 3, ⟨.agg 6, .agg [.pv (.int .i64 7), .pv (.int .i64 0), .pv (.str ByteArray.empty), .nilS, acc 36 .one (b.2.1.map .str), acc 54 (.agg 6) (b.1.map encC)]⟩)], []⟩)
    (fun rest b => l = b.1 ++ rest ∧ b.2.1 = namesF b.2.2 ∧ b.2.1.length = b.2.2 ∧ b.1.length = b.2.2) ?_ ?_ l ([], [], 0) _ ?_ ⟨rfl, rfl, rfl, rfl⟩
  · rintro ⟨pre, ns, m⟩ ⟨h1, h2, h3, h4⟩ K
    simp only [List.append_nil] at h1 h2 h3 h4
    subst h1
    rw [tupleF, h4, ← h2]
    simp only [go_sem, reduceCtorEq, ↓reduceIte, Nat.reduceEqDiff, Nat.reduceAdd, Nat.reduceMul, Nat.reduceSub, Nat.reduceLeDiff, Nat.reduceBEq, Int.reduceToNat, Int.reduceLE, Int.reduceLT, List.length_map, h4, lt_false (Int.le_refl _)]
    clear h2
    cases l with
    | nil =>
      cases ns with
      | nil => simp only [go_sem, reduceCtorEq, ↓reduceIte, Nat.reduceEqDiff, Nat.reduceAdd, Nat.reduceMul, Nat.reduceSub, Nat.reduceLeDiff, Nat.reduceBEq, Int.reduceToNat, Int.reduceLE, Int.reduceLT, encC_sz, acc, encC_mk]
      | cons n ns => rw [← h4] at h3; cases h3
    | cons p pre =>
      cases ns with
      | nil => rw [← h4] at h3; cases h3
      | cons n ns => simp only [go_sem, reduceCtorEq, ↓reduceIte, Nat.reduceEqDiff, Nat.reduceAdd, Nat.reduceMul, Nat.reduceSub, Nat.reduceLeDiff, Nat.reduceBEq, Int.reduceToNat, Int.reduceLE, Int.reduceLT, encC_sz, acc, encC_mk]
  · rintro x rest ⟨pre, ns, m⟩ ⟨h1, h2, h3, h4⟩ K hK
    simp only at h1 h2 h3 h4 hK
    have hx : (l.map encC)[m]? = some (encC x) := by simp [h1, ← h4]
    have hll : l.length = m + (rest.length + 1) := by rw [h1]; simp [h4]
    have hlt : (m : Int) < l.length := by omega
    have w4 : IntKind.i64.wrap ((m : Int) + 1) = ((m + 1 : Nat) : Int) := by rw [wrap_id (by omega) (by omega)]; simp
    have hK' := fun s' hs => hK (pre ++ [x], ns ++ [decF (m + 1)], m + 1) s' hs ⟨by simp [h1], by rw [h2]; simp [namesF_succ], by simp [h3], by simp [h4]⟩
    clear hK h2
    have hD := Decimal_spec (m + 1) (by omega)
    cases pre with
    | nil =>
      cases ns with
      | cons n ns => rw [← h4] at h3; cases h3
      | nil =>
        simp only [go_sem, reduceCtorEq, ↓reduceIte, Nat.reduceEqDiff, Nat.reduceAdd, Nat.reduceMul, Nat.reduceSub, Nat.reduceLeDiff, Nat.reduceBEq, Int.reduceToNat, Int.reduceLE, Int.reduceLT, List.length_map, decide_eq_true hlt, Int.toNat_natCast, Int.natCast_nonneg, hx, encC_sz, w4, acc]
        refine aCall_intro hD ?_
        simp only [go_sem, reduceCtorEq, ↓reduceIte, Nat.reduceEqDiff, Nat.reduceAdd, Nat.reduceMul, Nat.reduceSub, Nat.reduceLeDiff, Nat.reduceBEq, Int.reduceToNat, Int.reduceLE, Int.reduceLT, encC_sz, one_le_maxLen, List.length_map, decide_eq_true hlt, Int.toNat_natCast, Int.natCast_nonneg, hx, w4]
        refine ⟨by kernel_rfl, ?_⟩
        first
          | refine ⟨by kernel_rfl, hK' _ ?_⟩
          | refine hK' _ ?_
        simp only [go_sem, reduceCtorEq, ↓reduceIte, Nat.reduceEqDiff, Nat.reduceAdd, Nat.reduceMul, Nat.reduceSub, Nat.reduceLeDiff, Nat.reduceBEq, Int.reduceToNat, Int.reduceLE, Int.reduceLT, acc]
    | cons p pre =>
      cases ns with
      | nil => rw [← h4] at h3; cases h3
      | cons n ns =>
        have hb1 : (pre.length + 1 + 1) * 104 ≤ 140737488355328 := by simp at h4; omega
        have hb2 : pre.length + 1 + 1 ≤ maxLen := by rw [maxLen_eq]; simp at h4; omega
        have hb3 : (ns.length + 1 + 1) * 16 ≤ 140737488355328 := by simp at h3; omega
        have hb4 : ns.length + 1 + 1 ≤ maxLen := by rw [maxLen_eq]; simp at h3; omega
        simp only [go_sem, reduceCtorEq, ↓reduceIte, Nat.reduceEqDiff, Nat.reduceAdd, Nat.reduceMul, Nat.reduceSub, Nat.reduceLeDiff, Nat.reduceBEq, Int.reduceToNat, Int.reduceLE, Int.reduceLT, List.length_map, decide_eq_true hlt, Int.toNat_natCast, Int.natCast_nonneg, hx, encC_sz, w4, acc]
        refine aCall_intro hD ?_
        simp only [go_sem, reduceCtorEq, ↓reduceIte, Nat.reduceEqDiff, Nat.reduceAdd, Nat.reduceMul, Nat.reduceSub, Nat.reduceLeDiff, Nat.reduceBEq, Int.reduceToNat, Int.reduceLE, Int.reduceLT, encC_sz, List.length_map, hb1, hb2, hb3, hb4, decide_eq_true hlt, Int.toNat_natCast, Int.natCast_nonneg, hx, w4]
        refine ⟨by kernel_rfl, ?_⟩
        first
          | refine ⟨by kernel_rfl, hK' _ ?_⟩
          | refine hK' _ ?_
        simp only [go_sem, reduceCtorEq, ↓reduceIte, Nat.reduceEqDiff, Nat.reduceAdd, Nat.reduceMul, Nat.reduceSub, Nat.reduceLeDiff, Nat.reduceBEq, Int.reduceToNat, Int.reduceLE, Int.reduceLT, acc, List.map_append]
  · simp only [go_sem, reduceCtorEq, ↓reduceIte, Nat.reduceEqDiff, Nat.reduceAdd, Nat.reduceMul, Nat.reduceSub, Nat.reduceLeDiff, Nat.reduceBEq, Int.reduceToNat, Int.reduceLE, Int.reduceLT, List.length_nil, Int.natCast_zero, acc]

/-! Spines -/
mutual
def spineF : ConT → ConT × List ConT
  | .mk op n s k names l => if op = 12 then spineL (.mk op n s k names l) l else (.mk op n s k names l, [])
def spineL : ConT → List ConT → ConT × List ConT
  | c, [] => (c, [])
  | c, [_] => (c, [])
  | _, f :: a :: _ => ((spineF f).1, (spineF f).2 ++ [a])
end
theorem spineF_app (n : Int) (s : ByteArray) (k : List KindT) (names : List ByteArray) (f a : ConT) : spineF (.mk 12 n s k names [f, a]) = ((spineF f).1, (spineF f).2 ++ [a]) := by
  rw [spineF, if_pos rfl, spineL]
theorem spineF_not {c : ConT} (h : ¬ c.op = 12) : spineF c = (c, []) := by
  obtain ⟨op, n, s, k, names, l⟩ := c
  replace h : ¬ op = 12 := h
  rw [spineF, if_neg h]
theorem app_parts {n : Int} {s : ByteArray} {k : List KindT} {names : List ByteArray} {l : List ConT} (h : formedF (.mk 12 n s k names l) = true) : ∃ f a, l = [f, a] := by
  rw [formedF, nodeF] at h
  simp only [Bool.and_eq_true, decide_eq_true_eq] at h
  have h1 := h.1.1
  have h2 : (l.length : Int) = 2 := h1
  match l, h2 with
  | [f, a], _ => exact ⟨f, a, rfl⟩

theorem rSpine_spec (c : ConT) : formedF c = true → wtF c ≤ 1000000 → Spec Tryz.prog 32 [pp (encC c)] [] (.tuple [encC (spineF c).1, .slice ((spineF c).2.map encC)]) [] ∧ (spineF c).2.length ≤ wtF c := by
  revert c
  refine ConT.ind1 fun op n s k names l ih => ?_
  intro hf hw
  by_cases hop : op = 12
  · subst hop
    obtain ⟨f, a, rfl⟩ := app_parts hf
    rw [formedF, formedL, formedL, formedL] at hf
    simp only [Bool.and_eq_true] at hf
    rw [wtF, wtL, wtL, wtL] at hw ⊢
    obtain ⟨hI, hl⟩ := ih f (by simp) hf.2.1 (by omega)
    rw [spineF_app]
    refine ⟨?_, by simp; omega⟩
    generalize spineF f = r at hI hl
    obtain ⟨h, args⟩ := r
    simp only at hI hl ⊢
    refine Spec.walk (rv := [.cell 2 28, .tmp 3]) ann32 28 Tryz.func32 mixed rfl rfl (by kernel_rfl) rfl rfl fun hfit => ?_
    clear hfit ih
    have e12 : ((12 : Int) != 12) = false := rfl
    have hb1 : args.length * 104 ≤ 140737488355328 := by omega
    have hb2 : args.length ≤ maxLen := by rw [maxLen_eq]; omega
    have hb3 : (args.length + 1) * 104 ≤ 140737488355328 := by omega
    have hb4 : args.length + 1 ≤ maxLen := by rw [maxLen_eq]; omega
    have hall : (args.map encC).all (PV.hasSz (.agg 6)) = true := by
      rw [List.all_eq_true]; intro x hx; obtain ⟨y, _, rfl⟩ := List.mem_map.1 hx; exact encC_sz y
    simp only [go_sem, reduceCtorEq, ↓reduceIte, Nat.reduceEqDiff, Nat.reduceAdd, Nat.reduceMul, Nat.reduceSub, Nat.reduceLeDiff, Nat.reduceBEq, Int.reduceToNat, Int.reduceLE, Int.reduceLT, encC_mk, e12, encC_sz]
    refine aCall_intro hI ?_
    simp only [go_sem, reduceCtorEq, ↓reduceIte, Nat.reduceEqDiff, Nat.reduceAdd, Nat.reduceMul, Nat.reduceSub, Nat.reduceLeDiff, Nat.reduceBEq, Int.reduceToNat, Int.reduceLE, Int.reduceLT, encC_sz, List.length_map, hb1, hb2, hb3, hb4, hall, List.map_append]
  · rw [spineF_not (c := .mk op n s k names l) hop]
    refine ⟨?_, by simp⟩
    have hb : (op != 12) = true := by simpa using hop
    refine Spec.walk (rv := [.cell 2 28, .tmp 3]) ann32 28 Tryz.func32 mixed rfl rfl (by kernel_rfl) rfl rfl fun hfit => ?_
    clear hfit
    simp only [go_sem, reduceCtorEq, ↓reduceIte, Nat.reduceEqDiff, Nat.reduceAdd, Nat.reduceMul, Nat.reduceSub, Nat.reduceLeDiff, Nat.reduceBEq, Int.reduceToNat, Int.reduceLE, Int.reduceLT, encC_mk, hb]
end Go.Abs.Kon
