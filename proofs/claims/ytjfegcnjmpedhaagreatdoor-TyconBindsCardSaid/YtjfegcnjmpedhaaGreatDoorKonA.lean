/- Contracts of functions: sizes, counts, equality of constructors. -/
import Derived.Test.YtjfegcnjmpedhaaGreatDoorFacts
set_option linter.unusedSimpArgs false
namespace Go.Abs.Kon
open Go Go.Proofs Go.Abs
set_option maxRecDepth 100000
set_option maxHeartbeats 4000000

inductive KindT where
  | mk (l : List KindT)
mutual
def encK : KindT → PV
  | .mk l => .agg [.slice (encKs l)]
def encKs : List KindT → List PV
  | [] => []
  | k :: l => encK k :: encKs l
end
theorem encKs_map : ∀ l, encKs l = l.map encK
  | [] => rfl
  | k :: l => by simp [encKs, encKs_map l]
theorem encK_mk (l : List KindT) : encK (.mk l) = .agg [.slice (l.map encK)] := by rw [encK, encKs_map]
@[go_sem] theorem encK_sz (k : KindT) : PV.hasSz (.agg 1) (encK k) = true := by cases k; rfl
mutual
theorem KindT.ind1 {M : KindT → Prop} (h : ∀ l, (∀ x ∈ l, M x) → M (.mk l)) : ∀ k, M k
  | .mk l => h l (KindT.ind2 h l)
theorem KindT.ind2 {M : KindT → Prop} (h : ∀ l, (∀ x ∈ l, M x) → M (.mk l)) : ∀ l : List KindT, ∀ x ∈ l, M x
  | [], _, hx => absurd hx (by simp)
  | k :: l, x, hx => (List.mem_cons.1 hx).elim (fun e => e ▸ KindT.ind1 h k) (fun hx => KindT.ind2 h l x hx)
end

inductive ConT where
  | mk (op n : Int) (s : ByteArray) (k : List KindT) (names : List ByteArray) (l : List ConT)
mutual
def encC : ConT → PV
  | .mk op n s k names l => .agg [.int .i64 op, .int .i64 n, .str s, .slice (k.map encK), .slice (names.map .str), .slice (encCs l)]
def encCs : List ConT → List PV
  | [] => []
  | c :: l => encC c :: encCs l
end
theorem encCs_map : ∀ l, encCs l = l.map encC
  | [] => rfl
  | c :: l => by simp [encCs, encCs_map l]
theorem encC_mk (op n : Int) (s : ByteArray) (k : List KindT) (names : List ByteArray) (l : List ConT) : encC (.mk op n s k names l) = .agg [.int .i64 op, .int .i64 n, .str s, .slice (k.map encK), .slice (names.map .str), .slice (l.map encC)] := by rw [encC, encCs_map]
@[go_sem] theorem encC_sz (c : ConT) : PV.hasSz (.agg 6) (encC c) = true := by cases c; rfl
mutual
theorem ConT.ind1 {M : ConT → Prop} (h : ∀ op n s k names l, (∀ x ∈ l, M x) → M (.mk op n s k names l)) : ∀ c, M c
  | .mk op n s k names l => h op n s k names l (ConT.ind2 h l)
theorem ConT.ind2 {M : ConT → Prop} (h : ∀ op n s k names l, (∀ x ∈ l, M x) → M (.mk op n s k names l)) : ∀ l : List ConT, ∀ x ∈ l, M x
  | [], _, hx => absurd hx (by simp)
  | c :: l, x, hx => (List.mem_cons.1 hx).elim (fun e => e ▸ ConT.ind1 h c) (fun hx => ConT.ind2 h l x hx)
end

/-! Searching -/

def findP {α : Type} (p : α → Bool) : List α → Nat → Int
  | [], _ => -1
  | x :: r, i => if p x then (i : Int) else findP p r (i + 1)
theorem findP_ge {α : Type} (p : α → Bool) : ∀ (l : List α) (i : Nat), (0 ≤ findP p l i) ↔ l.any p = true
  | [], i => by simp [findP]
  | x :: r, i => by
    simp only [findP, List.any_cons, Bool.or_eq_true]
    split
    · rename_i h; simp [h]
    · rename_i h; rw [findP_ge p r (i + 1)]; simp [h]

def PredOn {α : Type} (enc : α → PV) (f : FuncId) (caps : List PV) (p : α → Bool) (es : List α) : Prop := ∀ e ∈ es, Spec Tryz.prog f (.one (.pv (enc e)) :: caps.map fun c => .one (.pv c)) [] (.bool (p e)) []

theorem IndexFuncC {α : Type} (enc : α → PV) (l : List α) (f : FuncId) (caps : List PV) (p : α → Bool) (hes : ∀ e ∈ l, PV.hasSz (.agg 6) (enc e) = true) (hp : PredOn enc f caps p l) : Spec Tryz.prog 91 [pp (.slice (l.map enc)), pp (.fn f caps)] [] (.int .i64 (findP p l 0)) [] := by
  refine wf (rv := [.tmp 4]) ann91 19 Tryz.func91 fun hfit => ?_
  have hlen : l.length ≤ 9223372036854775807 := by
    simp only [argsFit, SV.pv?, SC.pv?, PV.fit, maxLen_eq, List.length_map] at hfit
    exact hfit.1.1
  clear hfit
  generalize h0 : findP p l 0 = res
  simp only [go_sem, List.length_map]
  refine aLoop_list (α := α) (β := List α) (fun rest pre => ⟨[(8, ii pre.length), (0, pp (.slice (l.map enc))), (1, pp (.fn f caps)), (7, ii l.length)], [], []⟩) (fun rest pre => l = pre ++ rest ∧ findP p rest pre.length = res) ?_ ?_ l [] _ ?_ ⟨rfl, h0⟩
  · rintro pre ⟨h4, h5⟩ K
    rw [List.append_nil] at h4
    simp only [go_sem, h4, lt_false (Int.le_refl _)]
    simp only [findP] at h5
    rw [h5]
  · rintro x rest pre ⟨h4, h5⟩ K hK
    have hx : (l.map enc)[pre.length]? = some (enc x) := by simp [h4]
    have hlt : (pre.length : Int) < l.length := by rw [h4]; simp; omega
    have hm : x ∈ l := by simp [h4]
    simp only [go_sem, decide_eq_true hlt, Int.toNat_natCast, Int.natCast_nonneg, hx, hes x hm]
    refine aCall_intro (hp x hm) ?_
    simp only [go_sem]
    refine condK_intro (fun hb => ?_) (fun hb => ?_)
    · simp only [findP, hb, if_true] at h5
      simp only [go_sem, h5]
    · have w4 : IntKind.i64.wrap ((pre.length : Int) + 1) = ((pre ++ [x]).length : Int) := by rw [wrap_id (by omega) (by omega)]; simp
      simp only [findP, hb, Bool.false_eq_true, if_false] at h5
      simp only [go_sem, w4]
      refine hK (pre ++ [x]) _ ?_ ⟨by simp [h4], by simpa using h5⟩
      simp only [go_sem]
  · simp only [go_sem, List.length_nil, Int.natCast_zero]
theorem IndexFuncS {α : Type} (enc : α → PV) (l : List α) (f : FuncId) (caps : List PV) (p : α → Bool) (hes : ∀ e ∈ l, PV.hasSz (.one) (enc e) = true) (hp : PredOn enc f caps p l) : Spec Tryz.prog 44 [pp (.slice (l.map enc)), pp (.fn f caps)] [] (.int .i64 (findP p l 0)) [] := by
  refine wf (rv := [.tmp 4]) ann44 19 Tryz.func44 fun hfit => ?_
  have hlen : l.length ≤ 9223372036854775807 := by
    simp only [argsFit, SV.pv?, SC.pv?, PV.fit, maxLen_eq, List.length_map] at hfit
    exact hfit.1.1
  clear hfit
  generalize h0 : findP p l 0 = res
  simp only [go_sem, List.length_map]
  refine aLoop_list (α := α) (β := List α) (fun rest pre => ⟨[(8, ii pre.length), (0, pp (.slice (l.map enc))), (1, pp (.fn f caps)), (7, ii l.length)], [], []⟩) (fun rest pre => l = pre ++ rest ∧ findP p rest pre.length = res) ?_ ?_ l [] _ ?_ ⟨rfl, h0⟩
  · rintro pre ⟨h4, h5⟩ K
    rw [List.append_nil] at h4
    simp only [go_sem, h4, lt_false (Int.le_refl _)]
    simp only [findP] at h5
    rw [h5]
  · rintro x rest pre ⟨h4, h5⟩ K hK
    have hx : (l.map enc)[pre.length]? = some (enc x) := by simp [h4]
    have hlt : (pre.length : Int) < l.length := by rw [h4]; simp; omega
    have hm : x ∈ l := by simp [h4]
    simp only [go_sem, decide_eq_true hlt, Int.toNat_natCast, Int.natCast_nonneg, hx, hes x hm]
    refine aCall_intro (hp x hm) ?_
    simp only [go_sem]
    refine condK_intro (fun hb => ?_) (fun hb => ?_)
    · simp only [findP, hb, if_true] at h5
      simp only [go_sem, h5]
    · have w4 : IntKind.i64.wrap ((pre.length : Int) + 1) = ((pre ++ [x]).length : Int) := by rw [wrap_id (by omega) (by omega)]; simp
      simp only [findP, hb, Bool.false_eq_true, if_false] at h5
      simp only [go_sem, w4]
      refine hK (pre ++ [x]) _ ?_ ⟨by simp [h4], by simpa using h5⟩
      simp only [go_sem]
  · simp only [go_sem, List.length_nil, Int.natCast_zero]

theorem ContainsFuncC {α : Type} (enc : α → PV) (es : List α) (f : FuncId) (caps : List PV) (p : α → Bool) (hes : ∀ e ∈ es, PV.hasSz (.agg 6) (enc e) = true) (hp : PredOn enc f caps p es) : Spec Tryz.prog 41 [pp (.slice (es.map enc)), pp (.fn f caps)] [] (.bool (es.any p)) [] := by
  refine wk (rv := [.tmp 4]) ann41 9 Tryz.func41 ?_
  simp only [go_sem]
  refine aCall_intro (IndexFuncC enc es f caps p hes hp) ?_
  have : decide (findP p es 0 ≥ 0) = es.any p := by
    rw [Bool.eq_iff_iff, decide_eq_true_iff]; exact findP_ge p es 0
  simp only [go_sem, this]
theorem ContainsFuncS {α : Type} (enc : α → PV) (es : List α) (f : FuncId) (caps : List PV) (p : α → Bool) (hes : ∀ e ∈ es, PV.hasSz (.one) (enc e) = true) (hp : PredOn enc f caps p es) : Spec Tryz.prog 7 [pp (.slice (es.map enc)), pp (.fn f caps)] [] (.bool (es.any p)) [] := by
  refine wk (rv := [.tmp 4]) ann7 9 Tryz.func7 ?_
  simp only [go_sem]
  refine aCall_intro (IndexFuncS enc es f caps p hes hp) ?_
  have : decide (findP p es 0 ≥ 0) = es.any p := by
    rw [Bool.eq_iff_iff, decide_eq_true_iff]; exact findP_ge p es 0
  simp only [go_sem, this]

/-! Comparing -/

def eqL {α : Type} (q : α → α → Bool) : List α → List α → Bool
  | [], [] => true
  | x :: a, y :: b => q x y && eqL q a b
  | [], _ :: _ => false
  | _ :: _, [] => false
theorem eqL_length {α : Type} (q : α → α → Bool) : ∀ (a b : List α), a.length ≠ b.length → eqL q a b = false
  | [], [], h => absurd rfl h
  | x :: a, y :: b, h => by rw [eqL, eqL_length q a b (by simpa using h)]; simp
  | [], _ :: _, _ => rfl
  | _ :: _, [], _ => rfl
def Pred2On {α : Type} (enc : α → PV) (f : FuncId) (caps : List PV) (q : α → α → Bool) (es fs : List α) : Prop := ∀ e ∈ es, ∀ g ∈ fs, Spec Tryz.prog f (.one (.pv (enc e)) :: .one (.pv (enc g)) :: caps.map fun c => .one (.pv c)) [] (.bool (q e g)) []

theorem EqualFuncC {α : Type} (enc : α → PV) (es fs : List α) (f : FuncId) (caps : List PV) (q : α → α → Bool) (hes : ∀ e ∈ es, PV.hasSz (.agg 6) (enc e) = true) (hfs : ∀ e ∈ fs, PV.hasSz (.agg 6) (enc e) = true) (hq : Pred2On enc f caps q es fs) : Spec Tryz.prog 32 [pp (.slice (es.map enc)), pp (.slice (fs.map enc)), pp (.fn f caps)] [] (.bool (eqL q es fs)) [] := by
  refine wf (rv := [.tmp 6]) ann32 32 Tryz.func32 fun hfit => ?_
  have hlen : es.length ≤ 9223372036854775807 := by
    simp only [argsFit, SV.pv?, SC.pv?, PV.fit, maxLen_eq, List.length_map] at hfit
    exact hfit.1.1
  clear hfit
  generalize h0 : eqL q es fs = res
  simp only [go_sem, List.length_map]
  refine condK_intro (fun hb => ?_) (fun hb => ?_)
  · simp only [go_sem]
    rw [← h0, eqL_length]
    intro h; simp [h] at hb
  · have hl : es.length = fs.length := by simp at hb; omega
    simp only [go_sem, List.length_map]
    refine aLoop_list (α := α) (β := List α × List α × List α) (fun rest b => ⟨[(17, ii b.1.length), (2, pp (.fn f caps)), (1, pp (.slice (fs.map enc))), (15, pp (.slice (es.map enc))), (16, ii es.length)], [], []⟩) (fun rest b => es = b.1 ++ rest ∧ fs = b.2.1 ++ b.2.2 ∧ b.1.length = b.2.1.length ∧ eqL q rest b.2.2 = res) ?_ ?_ es ([], [], fs) _ ?_ ⟨rfl, rfl, rfl, h0⟩
    · rintro ⟨pre, pre', rest'⟩ ⟨h4, h4', h6, h5⟩ K
      simp only [List.append_nil] at h4 h4' h6
      simp only [go_sem, h4, lt_false (Int.le_refl _)]
      have : rest' = [] := by
        have := congrArg List.length h4'
        rw [← hl, h4] at this; simp at this
        exact List.eq_nil_of_length_eq_zero (by omega)
      rw [this] at h5
      simp only [eqL] at h5
      rw [h5]
    · rintro x rest ⟨pre, pre', rest'⟩ ⟨h4, h4', h6, h5⟩ K hK
      simp only at h4 h4' h6 h5
      cases rest' with
      | nil =>
        exfalso
        have h7 := congrArg List.length h4'
        have h8 := congrArg List.length h4
        simp at h7 h8; omega
      | cons y rest' =>
        have hx : (es.map enc)[pre.length]? = some (enc x) := by simp [h4]
        have hy : (fs.map enc)[pre.length]? = some (enc y) := by simp [h4', h6]
        have hlt : (pre.length : Int) < es.length := by rw [h4]; simp; omega
        have hm : x ∈ es := by simp [h4]
        have hn : y ∈ fs := by simp [h4']
        simp only [go_sem, decide_eq_true hlt, Int.toNat_natCast, Int.natCast_nonneg, hx, hy, hes x hm, hfs y hn]
        refine aCall_intro (hq x hm y hn) ?_
        simp only [go_sem]
        refine condK_intro (fun hb => ?_) (fun hb => ?_)
        · have hb' : q x y = false := by simpa using hb
          simp only [eqL, hb', Bool.false_and] at h5
          subst h5
          simp only [go_sem]
        · have hb' : q x y = true := by simpa using hb
          have w4 : IntKind.i64.wrap ((pre.length : Int) + 1) = ((pre ++ [x]).length : Int) := by rw [wrap_id (by omega) (by omega)]; simp
          simp only [eqL, hb', Bool.true_and] at h5
          simp only [go_sem, w4]
          refine hK (pre ++ [x], pre' ++ [y], rest') _ ?_ ⟨by simp [h4], by simp [h4'], by simp [h6], h5⟩
          simp only [go_sem]
    · simp only [go_sem, List.length_nil, Int.natCast_zero]
theorem EqualFuncK {α : Type} (enc : α → PV) (es fs : List α) (f : FuncId) (caps : List PV) (q : α → α → Bool) (hes : ∀ e ∈ es, PV.hasSz (.agg 1) (enc e) = true) (hfs : ∀ e ∈ fs, PV.hasSz (.agg 1) (enc e) = true) (hq : Pred2On enc f caps q es fs) : Spec Tryz.prog 96 [pp (.slice (es.map enc)), pp (.slice (fs.map enc)), pp (.fn f caps)] [] (.bool (eqL q es fs)) [] := by
  refine wf (rv := [.tmp 6]) ann96 32 Tryz.func96 fun hfit => ?_
  have hlen : es.length ≤ 9223372036854775807 := by
    simp only [argsFit, SV.pv?, SC.pv?, PV.fit, maxLen_eq, List.length_map] at hfit
    exact hfit.1.1
  clear hfit
  generalize h0 : eqL q es fs = res
  simp only [go_sem, List.length_map]
  refine condK_intro (fun hb => ?_) (fun hb => ?_)
  · simp only [go_sem]
    rw [← h0, eqL_length]
    intro h; simp [h] at hb
  · have hl : es.length = fs.length := by simp at hb; omega
    simp only [go_sem, List.length_map]
    refine aLoop_list (α := α) (β := List α × List α × List α) (fun rest b => ⟨[(17, ii b.1.length), (2, pp (.fn f caps)), (1, pp (.slice (fs.map enc))), (15, pp (.slice (es.map enc))), (16, ii es.length)], [], []⟩) (fun rest b => es = b.1 ++ rest ∧ fs = b.2.1 ++ b.2.2 ∧ b.1.length = b.2.1.length ∧ eqL q rest b.2.2 = res) ?_ ?_ es ([], [], fs) _ ?_ ⟨rfl, rfl, rfl, h0⟩
    · rintro ⟨pre, pre', rest'⟩ ⟨h4, h4', h6, h5⟩ K
      simp only [List.append_nil] at h4 h4' h6
      simp only [go_sem, h4, lt_false (Int.le_refl _)]
      have : rest' = [] := by
        have := congrArg List.length h4'
        rw [← hl, h4] at this; simp at this
        exact List.eq_nil_of_length_eq_zero (by omega)
      rw [this] at h5
      simp only [eqL] at h5
      rw [h5]
    · rintro x rest ⟨pre, pre', rest'⟩ ⟨h4, h4', h6, h5⟩ K hK
      simp only at h4 h4' h6 h5
      cases rest' with
      | nil =>
        exfalso
        have h7 := congrArg List.length h4'
        have h8 := congrArg List.length h4
        simp at h7 h8; omega
      | cons y rest' =>
        have hx : (es.map enc)[pre.length]? = some (enc x) := by simp [h4]
        have hy : (fs.map enc)[pre.length]? = some (enc y) := by simp [h4', h6]
        have hlt : (pre.length : Int) < es.length := by rw [h4]; simp; omega
        have hm : x ∈ es := by simp [h4]
        have hn : y ∈ fs := by simp [h4']
        simp only [go_sem, decide_eq_true hlt, Int.toNat_natCast, Int.natCast_nonneg, hx, hy, hes x hm, hfs y hn]
        refine aCall_intro (hq x hm y hn) ?_
        simp only [go_sem]
        refine condK_intro (fun hb => ?_) (fun hb => ?_)
        · have hb' : q x y = false := by simpa using hb
          simp only [eqL, hb', Bool.false_and] at h5
          subst h5
          simp only [go_sem]
        · have hb' : q x y = true := by simpa using hb
          have w4 : IntKind.i64.wrap ((pre.length : Int) + 1) = ((pre ++ [x]).length : Int) := by rw [wrap_id (by omega) (by omega)]; simp
          simp only [eqL, hb', Bool.true_and] at h5
          simp only [go_sem, w4]
          refine hK (pre ++ [x], pre' ++ [y], rest') _ ?_ ⟨by simp [h4], by simp [h4'], by simp [h6], h5⟩
          simp only [go_sem]
    · simp only [go_sem, List.length_nil, Int.natCast_zero]


def ConT.op : ConT → Int | .mk op _ _ _ _ _ => op
def ConT.n : ConT → Int | .mk _ n _ _ _ _ => n
def ConT.s : ConT → ByteArray | .mk _ _ s _ _ _ => s
def ConT.k : ConT → List KindT | .mk _ _ _ k _ _ => k
def ConT.names : ConT → List ByteArray | .mk _ _ _ _ names _ => names
def ConT.l : ConT → List ConT | .mk _ _ _ _ _ l => l

def isBinder (op : Int) : Bool := op == 9 || op == 10 || op == 11 || op == 13
def isLabelled (op : Int) : Bool := op == 7 || op == 8
def partsF (op : Int) (names : Nat) : Int := if op < 1 ∨ op > 13 then -1 else if isLabelled op then names else if isBinder op then 1 else if op = 6 ∨ op = 12 then 2 else 0

theorem binder_spec (c : ConT) : Spec Tryz.prog 95 [pp (encC c)] [] (.bool (isBinder c.op)) [] := by
  obtain ⟨op, n, s, k, names, l⟩ := c
  refine wk (rv := [.tmp 2]) ann95 21 Tryz.func95 ?_
  simp only [go_sem, encC_mk]
  repeat' ((first | refine condK_intro (fun _ => ?_) (fun _ => ?_) | refine guardK_intro (fun _ => ?_) (fun _ => ?_)) <;> simp only [go_sem, List.length_map])
  all_goals (simp only [isBinder, ConT.op]; simp_all)
theorem labelled_spec (c : ConT) : Spec Tryz.prog 120 [pp (encC c)] [] (.bool (isLabelled c.op)) [] := by
  obtain ⟨op, n, s, k, names, l⟩ := c
  refine wk (rv := [.tmp 2]) ann120 11 Tryz.func120 ?_
  simp only [go_sem, encC_mk]
  repeat' ((first | refine condK_intro (fun _ => ?_) (fun _ => ?_) | refine guardK_intro (fun _ => ?_) (fun _ => ?_)) <;> simp only [go_sem, List.length_map])
  all_goals (simp only [isLabelled, ConT.op]; simp_all)
theorem parts_spec (c : ConT) : Spec Tryz.prog 119 [pp (encC c)] [] (.int .i64 (partsF c.op c.names.length)) [] := by
  obtain ⟨op, n, s, k, names, l⟩ := c
  have hb := binder_spec (.mk op n s k names l)
  have hl := labelled_spec (.mk op n s k names l)
  simp only [encC_mk] at hb hl
  refine wk (rv := [.tmp 2]) ann119 30 Tryz.func119 ?_
  simp only [go_sem, encC_mk, List.length_map]
  repeat' ((first | refine condK_intro (fun _ => ?_) (fun _ => ?_) | refine guardK_intro (fun _ => ?_) (fun _ => ?_) | refine aCall_intro hb ?_ | refine aCall_intro hl ?_) <;> simp only [go_sem, List.length_map])
  all_goals (clear hb hl; simp only [partsF, ConT.op, ConT.names] at *; simp_all <;> omega)

mutual
def sizeF : ConT → Nat
  | .mk _ _ _ _ _ l => 1 + sizeL l
def sizeL : List ConT → Nat
  | [] => 0
  | c :: l => sizeF c + sizeL l
end
mutual
def depthF : ConT → Nat
  | .mk _ _ _ _ _ l => depthL l + 1
def depthL : List ConT → Nat
  | [] => 0
  | c :: l => max (depthF c) (depthL l)
end
theorem depthF_le : ∀ c : ConT, depthF c ≤ sizeF c := by
  refine ConT.ind1 fun op n s k names l ih => ?_
  have : depthL l ≤ sizeL l := by
    clear op n s k names
    induction l with
    | nil => simp [depthL]
    | cons c r ihr =>
      have h1 := ih c (by simp)
      have h2 := ihr fun x hx => ih x (by simp [hx])
      simp only [depthL, sizeL]; omega
  simp only [depthF, sizeF]; omega
theorem sizeF_mem {c : ConT} {l : List ConT} (h : c ∈ l) : sizeF c ≤ sizeL l := by
  induction l with
  | nil => cases h
  | cons x r ih =>
    simp only [sizeL]
    rcases List.mem_cons.1 h with rfl | h
    · omega
    · have := ih h; omega

theorem Size_spec (c : ConT) : sizeF c ≤ 1000000000 → Spec Tryz.prog 80 [pp (encC c)] [] (.int .i64 (sizeF c)) [] := by
  revert c
  refine ConT.ind1 fun op n s k names l ih => ?_
  intro hsz
  simp only [sizeF] at hsz
  refine wf (rv := [.tmp 2]) ann80 19 Tryz.func80 fun hfit => ?_
  have hlen : l.length ≤ 9223372036854775807 := by
    simp only [argsFit, SV.pv?, SC.pv?, encC_mk, PV.fit, fitL, List.length_map, maxLen_eq] at hfit
    exact hfit.1.2.2.2.2.2.1.1
  clear hfit
  simp only [go_sem, encC_mk, List.length_map]
  refine aLoop_list (α := ConT) (β := List ConT × Nat) (fun rest b => ⟨[(9, ii b.1.length), (3, ii b.2), (7, pp (.slice (l.map encC))), (8, ii l.length)], [], []⟩) (fun rest b => l = b.1 ++ rest ∧ b.2 + sizeL rest = 1 + sizeL l) ?_ ?_ l ([], 1) _ ?_ ⟨rfl, rfl⟩
  · rintro ⟨pre, n⟩ ⟨h4, h5⟩ K
    simp only [List.append_nil, sizeL] at h4 h5
    simp only [go_sem, h4, lt_false (Int.le_refl _)]
    rw [sizeF, ← h4, ← h5]; rfl
  · rintro x rest ⟨pre, n⟩ ⟨h4, h5⟩ K hK
    simp only [sizeL] at h4 h5
    have hx : (l.map encC)[pre.length]? = some (encC x) := by simp [h4]
    have hlt : (pre.length : Int) < l.length := by rw [h4]; simp; omega
    have hm : x ∈ l := by simp [h4]
    have hsx := sizeF_mem hm
    simp only [go_sem, decide_eq_true hlt, Int.toNat_natCast, Int.natCast_nonneg, hx, encC_sz]
    refine aCall_intro (ih x hm (by omega)) ?_
    have w3 : IntKind.i64.wrap ((n : Int) + sizeF x) = ((n + sizeF x : Nat) : Int) := by rw [wrap_id (by omega) (by omega)]; simp
    have w4 : IntKind.i64.wrap ((pre.length : Int) + 1) = ((pre ++ [x]).length : Int) := by rw [wrap_id (by omega) (by omega)]; simp
    simp only [go_sem, w3, w4]
    refine hK (pre ++ [x], n + sizeF x) _ ?_ ⟨by simp [h4], by omega⟩
    simp only [go_sem]
  · simp only [go_sem, List.length_nil, Int.natCast_zero]; rfl


theorem depth_spec (c : ConT) : sizeF c ≤ 1000000000 → Spec Tryz.prog 93 [pp (encC c)] [] (.int .i64 (depthF c)) [] := by
  revert c
  refine ConT.ind1 fun op n0 s k names l ih => ?_
  intro hsz
  simp only [sizeF] at hsz
  refine wf (rv := [.tmp 2]) ann93 20 Tryz.func93 fun hfit => ?_
  have hlen : l.length ≤ 9223372036854775807 := by
    simp only [argsFit, SV.pv?, SC.pv?, encC_mk, PV.fit, fitL, List.length_map, maxLen_eq] at hfit
    exact hfit.1.2.2.2.2.2.1.1
  clear hfit
  simp only [go_sem, encC_mk, List.length_map]
  refine aLoop_list (α := ConT) (β := List ConT × Nat) (fun rest b => ⟨[(9, ii b.1.length), (3, ii b.2), (7, pp (.slice (l.map encC))), (8, ii l.length)], [], []⟩) (fun rest b => l = b.1 ++ rest ∧ max b.2 (depthL rest) = depthL l ∧ b.2 ≤ 1000000000) ?_ ?_ l ([], 0) _ ?_ ⟨rfl, by simp, by simp⟩
  · rintro ⟨pre, n⟩ ⟨h4, h5, h6⟩ K
    simp only [List.append_nil, depthL, Nat.max_zero] at h4 h5 h6
    have w : IntKind.i64.wrap ((n : Int) + 1) = ((depthF (.mk op n0 s k names l) : Nat) : Int) := by
      rw [wrap_id (by omega) (by omega), depthF, ← h5]; rfl
    simp only [go_sem, h4, lt_false (Int.le_refl _)]
    rw [h4] at w
    rw [w]
  · rintro x rest ⟨pre, n⟩ ⟨h4, h5, h6⟩ K hK
    simp only [depthL] at h4 h5 h6
    have hx : (l.map encC)[pre.length]? = some (encC x) := by simp [h4]
    have hlt : (pre.length : Int) < l.length := by rw [h4]; simp; omega
    have hm : x ∈ l := by simp [h4]
    have hsx := sizeF_mem hm
    have hdx := depthF_le x
    simp only [go_sem, decide_eq_true hlt, Int.toNat_natCast, Int.natCast_nonneg, hx, encC_sz]
    refine aCall_intro (ih x hm (by omega)) ?_
    have w3 : (if (depthF x : Int) > (n : Int) then (depthF x : Int) else n) = ((max n (depthF x) : Nat) : Int) := by split <;> omega
    have w4 : IntKind.i64.wrap ((pre.length : Int) + 1) = ((pre ++ [x]).length : Int) := by rw [wrap_id (by omega) (by omega)]; simp
    simp only [go_sem, w3, w4]
    refine hK (pre ++ [x], max n (depthF x)) _ ?_ ⟨by simp [h4], by simp only; rw [Nat.max_assoc]; exact h5, by simp only; omega⟩
    simp only [go_sem]
  · simp only [go_sem, List.length_nil, Int.natCast_zero]

mutual
def kindsF : KindT → Int → Int → Int
  | .mk l, most, depth => if depth > 250 then most else kindsL l most depth 1
def kindsL : List KindT → Int → Int → Int → Int
  | [], most, _, n => if most < n then most else n
  | x :: r, most, depth, n => if n ≥ most then most else kindsL r most depth (n + kindsF x (most - n) (depth + 1))
end
mutual
theorem kindsF_le : ∀ (k : KindT) (most depth : Int), 0 ≤ most → 0 ≤ kindsF k most depth ∧ kindsF k most depth ≤ most
  | .mk l, most, depth, h => by
    rw [kindsF]
    split
    · omega
    · exact kindsL_le l most depth 1 h (by omega)
theorem kindsL_le : ∀ (l : List KindT) (most depth n : Int), 0 ≤ most → 0 ≤ n → 0 ≤ kindsL l most depth n ∧ kindsL l most depth n ≤ most
  | [], most, depth, n, h, h' => by rw [kindsL]; split <;> omega
  | x :: r, most, depth, n, h, h' => by
    rw [kindsL]
    split
    · omega
    · have := kindsF_le x (most - n) (depth + 1) (by omega)
      exact kindsL_le r most depth _ h (by omega)
end

theorem kinds_spec (k : KindT) : ∀ most depth : Int, 0 ≤ most → most ≤ 100000000 → 0 ≤ depth → depth ≤ 100000000 → Spec Tryz.prog 11 [pp (encK k), ii most, ii depth] [] (.int .i64 (kindsF k most depth)) [] := by
  revert k
  refine KindT.ind1 fun l ih => ?_
  intro most depth h1 h2 h3 h4
  refine wf (rv := [.tmp 6]) ann11 37 Tryz.func11 fun hfit => ?_
  have hlen : l.length ≤ 9223372036854775807 := by
    simp only [argsFit, SV.pv?, SC.pv?, encK_mk, PV.fit, fitL, List.length_map, maxLen_eq] at hfit
    exact hfit.1.1.1
  clear hfit
  simp only [go_sem, encK_mk]
  refine condK_intro (fun hb => ?_) (fun hb => ?_)
  · simp only [go_sem]
    rw [kindsF, if_pos (of_decide_eq_true hb)]
  · have hd : ¬ depth > 250 := of_decide_eq_false hb
    have h0 : kindsL l most depth 1 = kindsF (.mk l) most depth := by rw [kindsF, if_neg hd]
    generalize kindsF (.mk l) most depth = res at h0
    simp only [go_sem, List.length_map]
    refine aLoop_list (α := KindT) (β := List KindT × Int) (fun rest b => ⟨[(1, ii most), (16, ii b.1.length), (2, ii depth), (7, ii b.2), (14, pp (.slice (l.map encK))), (15, ii l.length)], [], []⟩)
      (fun rest b => l = b.1 ++ rest ∧ 0 ≤ b.2 ∧ kindsL rest most depth b.2 = res) ?_ ?_ l ([], 1) _ ?_ ⟨rfl, by omega, h0⟩
    · rintro ⟨pre, n⟩ ⟨h4, h5, h6⟩ K
      simp only [List.append_nil] at h4
      simp only [go_sem, h4, lt_false (Int.le_refl _)]
      simp only [kindsL] at h6
      rw [h6]
    · rintro x rest ⟨pre, n⟩ ⟨h4, h5, h6⟩ K hK
      simp only at h4 h5 h6
      have hx : (l.map encK)[pre.length]? = some (encK x) := by simp [h4]
      have hlt : (pre.length : Int) < l.length := by rw [h4]; simp; omega
      simp only [go_sem, decide_eq_true hlt, Int.toNat_natCast, Int.natCast_nonneg, hx, encK_sz]
      refine condK_intro (fun hb => ?_) (fun hb => ?_)
      · have hn : n ≥ most := of_decide_eq_true hb
        simp only [kindsL, if_pos hn] at h6
        simp only [go_sem]
        rw [h6]
      · have hn : ¬ n ≥ most := of_decide_eq_false hb
        simp only [kindsL, if_neg hn] at h6
        have w1 : IntKind.i64.wrap (most - n) = most - n := wrap_id (by omega) (by omega)
        have w2 : IntKind.i64.wrap (depth + 1) = depth + 1 := wrap_id (by omega) (by omega)
        simp only [go_sem, w1, w2]
        refine aCall_intro (ih x (by simp [h4]) _ _ (by omega) (by omega) (by omega) (by omega)) ?_
        have hr := kindsF_le x (most - n) (depth + 1) (by omega)
        have w3 : IntKind.i64.wrap (n + kindsF x (most - n) (depth + 1)) = n + kindsF x (most - n) (depth + 1) := wrap_id (by omega) (by omega)
        have w4 : IntKind.i64.wrap ((pre.length : Int) + 1) = ((pre ++ [x]).length : Int) := by rw [wrap_id (by omega) (by omega)]; simp
        simp only [go_sem, w3, w4]
        refine hK (pre ++ [x], n + kindsF x (most - n) (depth + 1)) _ ?_ ⟨by simp [h4], by simp only; omega, h6⟩
        simp only [go_sem]
    · simp only [go_sem, List.length_nil, Int.natCast_zero]

def longS (s : ByteArray) : Bool := decide ((s.size : Int) > 200)
theorem nodes1_spec (s : ByteArray) : Spec Tryz.prog 92 [pp (.str s)] [] (.bool (longS s)) [] := by
  refine wk (rv := [.tmp 2]) ann92 6 Tryz.func92 ?_
  simp only [go_sem, longS]

mutual
def nodesF : ConT → Int → Int → Int
  | .mk _ _ s k names l, most, depth => if depth > 250 ∨ (names.length : Int) > most ∨ (s.size : Int) > 200 ∨ names.any longS = true then most else nodesL l most depth (kindsF (.mk k) most depth + names.length)
def nodesL : List ConT → Int → Int → Int → Int
  | [], most, _, n => if most < n then most else n
  | x :: r, most, depth, n => if n ≥ most then most else nodesL r most depth (n + nodesF x (most - n) (depth + 1))
end
mutual
theorem nodesF_le : ∀ (c : ConT) (most depth : Int), 0 ≤ most → 0 ≤ nodesF c most depth ∧ nodesF c most depth ≤ most
  | .mk _ _ s k names l, most, depth, h => by
    rw [nodesF]
    split
    · omega
    · have := kindsF_le (.mk k) most depth h
      exact nodesL_le l most depth _ h (by omega)
theorem nodesL_le : ∀ (l : List ConT) (most depth n : Int), 0 ≤ most → 0 ≤ n → 0 ≤ nodesL l most depth n ∧ nodesL l most depth n ≤ most
  | [], most, depth, n, h, h' => by rw [nodesL]; split <;> omega
  | x :: r, most, depth, n, h, h' => by
    rw [nodesL]
    split
    · omega
    · have := nodesF_le x (most - n) (depth + 1) (by omega)
      exact nodesL_le r most depth _ h (by omega)
end
theorem any_nodes1 (names : List ByteArray) : Spec Tryz.prog 7 [pp (.slice (names.map .str)), pp (.fn 92 [])] [] (.bool (names.any longS)) [] :=
  ContainsFuncS PV.str names 92 [] longS (fun _ _ => rfl) fun e _ => nodes1_spec e

theorem nodes_spec (c : ConT) : ∀ most depth : Int, 0 ≤ most → most ≤ 100000000 → 0 ≤ depth → depth ≤ 100000000 → Spec Tryz.prog 43 [pp (encC c), ii most, ii depth] [] (.int .i64 (nodesF c most depth)) [] := by
  revert c
  refine ConT.ind1 fun op n0 s k names l ih => ?_
  intro most depth h1 h2 h3 h4
  refine wf (rv := [.tmp 6]) ann43 64 Tryz.func43 fun hfit => ?_
  have hlen : l.length ≤ 9223372036854775807 := by
    simp only [argsFit, SV.pv?, SC.pv?, encC_mk, PV.fit, fitL, List.length_map, maxLen_eq] at hfit
    exact hfit.1.2.2.2.2.2.1.1
  clear hfit
  have hk := kinds_spec (.mk k) most depth h1 h2 h3 h4
  simp only [encK_mk] at hk
  have hout : ∀ h : depth > 250 ∨ (names.length : Int) > most ∨ (s.size : Int) > 200 ∨ names.any longS = true, most = nodesF (.mk op n0 s k names l) most depth := fun h => by rw [nodesF, if_pos h]
  have hin : ∀ h : ¬ (depth > 250 ∨ (names.length : Int) > most ∨ (s.size : Int) > 200 ∨ names.any longS = true), nodesL l most depth (kindsF (.mk k) most depth + names.length) = nodesF (.mk op n0 s k names l) most depth := fun h => by rw [nodesF, if_neg h]
  generalize nodesF (.mk op n0 s k names l) most depth = res at hout hin
  simp only [go_sem, encC_mk, List.length_map]
  repeat' ((first | refine condK_intro (fun _ => ?_) (fun _ => ?_) | refine guardK_intro (fun _ => ?_) (fun _ => ?_) | refine aCall_intro (any_nodes1 names) ?_) <;> simp only [go_sem, List.length_map])
  rotate_left 1
  rotate_right 1
  any_goals (rw [← hout (by simp_all)]; done)
  rename_i hb4 hb3 hb2 hb1
  have hc := hin (by
    simp only [decide_eq_false_iff_not] at hb4 hb3 hb2
    simp [hb4, hb3, hb2, hb1])
  refine aCall_intro hk ?_
  have hkb := kindsF_le (.mk k) most depth h1
  have hn : (names.length : Int) ≤ most := by simp only [decide_eq_false_iff_not] at hb3; omega
  have hd : depth ≤ 250 := by simp only [decide_eq_false_iff_not] at hb4; omega
  have w0 : IntKind.i64.wrap (kindsF (.mk k) most depth + (names.length : Int)) = kindsF (.mk k) most depth + names.length := wrap_id (by omega) (by omega)
  clear hb1 hb2 hb3 hb4 hk hout hin
  simp only [go_sem, List.length_map, w0]
  refine aLoop_list (α := ConT) (β := List ConT × Int) (fun rest b => ⟨[(1, ii most), (43, ii b.1.length), (2, ii depth), (7, ii b.2), (41, pp (.slice (l.map encC))), (42, ii l.length)], [], []⟩)
    (fun rest b => l = b.1 ++ rest ∧ 0 ≤ b.2 ∧ nodesL rest most depth b.2 = res) ?_ ?_ l ([], kindsF (.mk k) most depth + names.length) _ ?_ ⟨rfl, by simp only; omega, hc⟩
  · rintro ⟨pre, n⟩ ⟨h4, h5, h6⟩ K
    simp only [List.append_nil] at h4
    simp only [go_sem, h4, lt_false (Int.le_refl _)]
    simp only [nodesL] at h6
    rw [h6]
  · rintro x rest ⟨pre, n⟩ ⟨h4, h5, h6⟩ K hK
    simp only at h4 h5 h6
    have hx : (l.map encC)[pre.length]? = some (encC x) := by simp [h4]
    have hlt : (pre.length : Int) < l.length := by rw [h4]; simp; omega
    simp only [go_sem, decide_eq_true hlt, Int.toNat_natCast, Int.natCast_nonneg, hx, encC_sz]
    refine condK_intro (fun hb => ?_) (fun hb => ?_)
    · have hn : n ≥ most := of_decide_eq_true hb
      simp only [nodesL, if_pos hn] at h6
      simp only [go_sem]
      rw [h6]
    · have hn : ¬ n ≥ most := of_decide_eq_false hb
      simp only [nodesL, if_neg hn] at h6
      have w1 : IntKind.i64.wrap (most - n) = most - n := wrap_id (by omega) (by omega)
      have w2 : IntKind.i64.wrap (depth + 1) = depth + 1 := wrap_id (by omega) (by omega)
      simp only [go_sem, w1, w2]
      refine aCall_intro (ih x (by simp [h4]) _ _ (by omega) (by omega) (by omega) (by omega)) ?_
      have hr := nodesF_le x (most - n) (depth + 1) (by omega)
      have w3 : IntKind.i64.wrap (n + nodesF x (most - n) (depth + 1)) = n + nodesF x (most - n) (depth + 1) := wrap_id (by omega) (by omega)
      have w4 : IntKind.i64.wrap ((pre.length : Int) + 1) = ((pre ++ [x]).length : Int) := by rw [wrap_id (by omega) (by omega)]; simp
      simp only [go_sem, w3, w4]
      refine hK (pre ++ [x], n + nodesF x (most - n) (depth + 1)) _ ?_ ⟨by simp [h4], by simp only; omega, h6⟩
      simp only [go_sem]
  · simp only [go_sem, List.length_nil, Int.natCast_zero]

/-! Small constructors -/

def bigP (c : ConT) : Bool := decide (nodesF c 4400 1 ≥ 400) && decide (nodesF c 4400 1 ≤ 20000) || decide (nodesF c 4400 1 ≥ 4400)
theorem small1_spec (c : ConT) : Spec Tryz.prog 42 [pp (encC c)] [] (.bool (bigP c)) [] := by
  refine wk (rv := [.tmp 2]) ann42 16 Tryz.func42 ?_
  simp only [go_sem, encC_sz]
  refine aCall_intro (nodes_spec c 4400 1 (by decide) (by decide) (by decide) (by decide)) ?_
  generalize hn : nodesF c 4400 1 = n
  simp only [go_sem]
  repeat' ((first | refine condK_intro (fun _ => ?_) (fun _ => ?_) | refine guardK_intro (fun _ => ?_) (fun _ => ?_)) <;> simp only [go_sem, List.length_map])
  all_goals (simp only [bigP, hn]; simp_all <;> omega)

theorem small_spec (l : List ConT) : Spec Tryz.prog 6 [pp (.slice (l.map encC))] [] (.bool (!l.any bigP)) [] := by
  refine wk (rv := [.tmp 2]) ann6 6 Tryz.func6 ?_
  simp only [go_sem]
  refine aCall_intro (ContainsFuncC encC l 42 [] bigP (fun e _ => encC_sz e) fun e _ => small1_spec e) ?_
  simp only [go_sem]


def strEq (a b : ByteArray) : Bool := a.toList == b.toList
abbrev encI (n : Int) : PV := .int .i64 n
def intEq (a b : Int) : Bool := a == b
theorem EqualS (es fs : List ByteArray) : Spec Tryz.prog 83 [pp (.slice (es.map PV.str)), pp (.slice (fs.map PV.str))] [] (.bool (eqL strEq es fs)) [] := by
  refine wf (rv := [.tmp 4]) ann83 26 Tryz.func83 fun hfit => ?_
  have hlen : es.length ≤ 9223372036854775807 := by
    simp only [argsFit, SV.pv?, SC.pv?, PV.fit, maxLen_eq, List.length_map] at hfit
    exact hfit.1.1
  clear hfit
  generalize h0 : eqL strEq es fs = res
  simp only [go_sem, List.length_map]
  refine condK_intro (fun hb => ?_) (fun hb => ?_)
  · simp only [go_sem]
    rw [← h0, eqL_length]
    intro h; simp [h] at hb
  · have hl : es.length = fs.length := by simp at hb; omega
    simp only [go_sem, List.length_map]
    refine aLoop_list (α := ByteArray) (β := List ByteArray × List ByteArray × List ByteArray) (fun rest b => ⟨[(13, ii b.1.length), (1, pp (.slice (fs.map PV.str))), (0, pp (.slice (es.map PV.str))), (12, ii es.length)], [], []⟩) (fun rest b => es = b.1 ++ rest ∧ fs = b.2.1 ++ b.2.2 ∧ b.1.length = b.2.1.length ∧ eqL strEq rest b.2.2 = res) ?_ ?_ es ([], [], fs) _ ?_ ⟨rfl, rfl, rfl, h0⟩
    · rintro ⟨pre, pre', rest'⟩ ⟨h4, h4', h6, h5⟩ K
      simp only [List.append_nil] at h4 h4' h6
      simp only [go_sem, h4, lt_false (Int.le_refl _)]
      have : rest' = [] := by
        have := congrArg List.length h4'
        rw [← hl, h4] at this; simp at this
        exact List.eq_nil_of_length_eq_zero (by omega)
      rw [this] at h5
      simp only [eqL] at h5
      rw [h5]
    · rintro x rest ⟨pre, pre', rest'⟩ ⟨h4, h4', h6, h5⟩ K hK
      simp only at h4 h4' h6 h5
      cases rest' with
      | nil =>
        exfalso
        have h7 := congrArg List.length h4'
        have h8 := congrArg List.length h4
        simp at h7 h8; omega
      | cons y rest' =>
        have hx : (es.map PV.str)[pre.length]? = some (PV.str x) := by simp [h4]
        have hy : (fs.map PV.str)[pre.length]? = some (PV.str y) := by simp [h4', h6]
        have hlt : (pre.length : Int) < es.length := by rw [h4]; simp; omega
        simp only [go_sem, decide_eq_true hlt, Int.toNat_natCast, Int.natCast_nonneg, hx, hy]
        refine condK_intro (fun hb => ?_) (fun hb => ?_)
        · have hb' : strEq x y = false := by simpa [strEq] using hb
          simp only [eqL, hb', Bool.false_and] at h5
          subst h5
          simp only [go_sem]
        · have hb' : strEq x y = true := by simpa [strEq] using hb
          have w4 : IntKind.i64.wrap ((pre.length : Int) + 1) = ((pre ++ [x]).length : Int) := by rw [wrap_id (by omega) (by omega)]; simp
          simp only [eqL, hb', Bool.true_and] at h5
          simp only [go_sem, w4]
          refine hK (pre ++ [x], pre' ++ [y], rest') _ ?_ ⟨by simp [h4], by simp [h4'], by simp [h6], h5⟩
          simp only [go_sem]
    · simp only [go_sem, List.length_nil, Int.natCast_zero]
theorem EqualI (es fs : List Int) : Spec Tryz.prog 40 [pp (.slice (es.map encI)), pp (.slice (fs.map encI))] [] (.bool (eqL intEq es fs)) [] := by
  refine wf (rv := [.tmp 4]) ann40 26 Tryz.func40 fun hfit => ?_
  have hlen : es.length ≤ 9223372036854775807 := by
    simp only [argsFit, SV.pv?, SC.pv?, PV.fit, maxLen_eq, List.length_map] at hfit
    exact hfit.1.1
  clear hfit
  generalize h0 : eqL intEq es fs = res
  simp only [go_sem, List.length_map]
  refine condK_intro (fun hb => ?_) (fun hb => ?_)
  · simp only [go_sem]
    rw [← h0, eqL_length]
    intro h; simp [h] at hb
  · have hl : es.length = fs.length := by simp at hb; omega
    simp only [go_sem, List.length_map]
    refine aLoop_list (α := Int) (β := List Int × List Int × List Int) (fun rest b => ⟨[(13, ii b.1.length), (1, pp (.slice (fs.map encI))), (0, pp (.slice (es.map encI))), (12, ii es.length)], [], []⟩) (fun rest b => es = b.1 ++ rest ∧ fs = b.2.1 ++ b.2.2 ∧ b.1.length = b.2.1.length ∧ eqL intEq rest b.2.2 = res) ?_ ?_ es ([], [], fs) _ ?_ ⟨rfl, rfl, rfl, h0⟩
    · rintro ⟨pre, pre', rest'⟩ ⟨h4, h4', h6, h5⟩ K
      simp only [List.append_nil] at h4 h4' h6
      simp only [go_sem, h4, lt_false (Int.le_refl _)]
      have : rest' = [] := by
        have := congrArg List.length h4'
        rw [← hl, h4] at this; simp at this
        exact List.eq_nil_of_length_eq_zero (by omega)
      rw [this] at h5
      simp only [eqL] at h5
      rw [h5]
    · rintro x rest ⟨pre, pre', rest'⟩ ⟨h4, h4', h6, h5⟩ K hK
      simp only at h4 h4' h6 h5
      cases rest' with
      | nil =>
        exfalso
        have h7 := congrArg List.length h4'
        have h8 := congrArg List.length h4
        simp at h7 h8; omega
      | cons y rest' =>
        have hx : (es.map encI)[pre.length]? = some (encI x) := by simp [h4]
        have hy : (fs.map encI)[pre.length]? = some (encI y) := by simp [h4', h6]
        have hlt : (pre.length : Int) < es.length := by rw [h4]; simp; omega
        simp only [go_sem, decide_eq_true hlt, Int.toNat_natCast, Int.natCast_nonneg, hx, hy]
        refine condK_intro (fun hb => ?_) (fun hb => ?_)
        · have hb' : intEq x y = false := by simpa [intEq] using hb
          simp only [eqL, hb', Bool.false_and] at h5
          subst h5
          simp only [go_sem]
        · have hb' : intEq x y = true := by simpa [intEq] using hb
          have w4 : IntKind.i64.wrap ((pre.length : Int) + 1) = ((pre ++ [x]).length : Int) := by rw [wrap_id (by omega) (by omega)]; simp
          simp only [eqL, hb', Bool.true_and] at h5
          simp only [go_sem, w4]
          refine hK (pre ++ [x], pre' ++ [y], rest') _ ?_ ⟨by simp [h4], by simp [h4'], by simp [h6], h5⟩
          simp only [go_sem]
    · simp only [go_sem, List.length_nil, Int.natCast_zero]

mutual
def sameK : KindT → KindT → Bool
  | .mk a, .mk b => sameKs a b
def sameKs : List KindT → List KindT → Bool
  | [], [] => true
  | x :: a, y :: b => sameK x y && sameKs a b
  | [], _ :: _ => false
  | _ :: _, [] => false
end
theorem sameKs_eq : ∀ a b, eqL sameK a b = sameKs a b
  | [], [] => rfl
  | x :: a, y :: b => by rw [eqL, sameKs, sameKs_eq a b]
  | [], _ :: _ => rfl
  | _ :: _, [] => rfl
theorem same_spec (a : KindT) : ∀ b, Spec Tryz.prog 51 [pp (encK a), pp (encK b)] [] (.bool (sameK a b)) [] := by
  revert a
  refine KindT.ind1 fun l ih => ?_
  rintro ⟨m⟩
  refine wk (rv := [.tmp 4]) ann51 10 Tryz.func51 ?_
  simp only [go_sem, encK_mk]
  refine aCall_intro (EqualFuncK encK l m 51 [] sameK (fun e _ => encK_sz e) (fun e _ => encK_sz e) fun x hx y _ => ih x hx y) ?_
  simp only [go_sem, sameKs_eq, sameK]

mutual
def eqC : ConT → ConT → Bool
  | .mk op n s k names l, .mk op' n' s' k' names' l' => op == op' && (n == n' && (strEq s s' && (sameK (.mk k) (.mk k') && (eqL strEq names names' && eqCs l l'))))
def eqCs : List ConT → List ConT → Bool
  | [], [] => true
  | x :: a, y :: b => eqC x y && eqCs a b
  | [], _ :: _ => false
  | _ :: _, [] => false
end
theorem eqCs_eq : ∀ a b, eqL eqC a b = eqCs a b
  | [], [] => rfl
  | x :: a, y :: b => by rw [eqL, eqCs, eqCs_eq a b]
  | [], _ :: _ => rfl
  | _ :: _, [] => rfl
theorem Equal_spec (a : ConT) : ∀ b, Spec Tryz.prog 31 [pp (encC a), pp (encC b)] [] (.bool (eqC a b)) [] := by
  revert a
  refine ConT.ind1 fun op n s k names l ih => ?_
  rintro ⟨op', n', s', k', names', l'⟩
  have h1 := same_spec (.mk k) (.mk k')
  have h2 := EqualS names names'
  have h3 : Spec Tryz.prog 32 [pp (.slice (l.map encC)), pp (.slice (l'.map encC)), pp (.fn 31 [])] [] (.bool (eqCs l l')) [] := by
    rw [← eqCs_eq]
    exact EqualFuncC encC l l' 31 [] eqC (fun e _ => encC_sz e) (fun e _ => encC_sz e) fun x hx y _ => ih x hx y
  simp only [encK_mk] at h1
  refine wk (rv := [.tmp 4]) ann31 45 Tryz.func31 ?_
  simp only [go_sem, encC_mk]
  repeat' ((first | refine condK_intro (fun _ => ?_) (fun _ => ?_) | refine guardK_intro (fun _ => ?_) (fun _ => ?_) | refine aCall_intro h1 ?_ | refine aCall_intro h2 ?_ | refine aCall_intro h3 ?_) <;> simp only [go_sem, List.length_map])
  all_goals (clear h1 h2 h3; simp only [eqC, strEq] at *; simp_all)
end Go.Abs.Kon
