/- Terms: functions of many arguments, and applications. -/
import Derived.Test.YtkpmnpjodiomnaaGreatDoorTermF
import Derived.Test.YtkpmnpjodiomnaaGreatDoorKonH
set_option linter.unusedSimpArgs false
set_option linter.unusedVariables false
namespace Go.Abs.Kon
open Go Go.Proofs Go.Abs
set_option maxRecDepth 100000
set_option maxHeartbeats 4000000

theorem rsh0 {c : ConT} (h : formedF c = true) (f : Int) : rShiftF c 0 f = c := by
  rw [← shift_eq 0 f c 0 f h (by rw [Int.add_zero])]
  refine map_id (fun x b hx hf => ?_) c 0 h
  rw [shiftLeaf]
  split
  · rename_i e
    rw [Int.add_zero]
    exact var_formed e.1 hf
  · exact leafC_formed hx hf
theorem csh0 {c : ConT} (h : eqC c zeroC = true ∨ validF c = true) (f : Int) : cshR c 0 f = c := by
  rw [cshR]
  rcases h with h | h
  · rw [if_pos h]
  · split
    · rfl
    · exact rsh0 (validF_formed h) f
theorem fits_or {c : ConT} {b : Bool} (h : fitsC c b = true) : eqC c zeroC = true ∨ validF c = true := by
  rw [fitsC] at h
  split at h
  · exact .inr h
  · exact .inl h
mutual
theorem rshT_id : ∀ (t : TermT) (uc ut : Int), wfT t = true → rshT 0 0 t uc ut = t
  | .mk op n s con to k names l, uc, ut, h => by
    rw [wfT, Bool.and_eq_true] at h
    obtain ⟨hn, hl⟩ := h
    obtain ⟨_, _, _, _, _, _, _, h1, h2⟩ := node_op hn
    rw [rshT, csh0 (fits_or h1), csh0 (fits_or h2), rshL_id op l 0 uc ut hl, Int.add_zero, ite_self]
theorem rshL_id (op : Int) : ∀ (l : List TermT) (i : Nat) (uc ut : Int), wfL l = true → rshL 0 0 op l i uc ut = l
  | [], i, uc, ut, h => by rw [rshL]
  | x :: r, i, uc, ut, h => by
    rw [wfL, Bool.and_eq_true] at h
    rw [rshL, rshT_id x _ _ h.1, rshL_id op r (i + 1) uc ut h.2]
end
theorem consF_n0 (t : TermT) (uc : Int) (h : 0 ≤ uc) : ∀ i ∈ consF t uc, i + 0 ≥ 0 := fun i hi => by have := consF_n t uc h i hi; omega
theorem sh0 {t : TermT} (h : wfT t = true) : shT 0 0 t = (t, 0) := by
  have h1 := sh_eq 0 0 (by decide) (by decide) t 0 0 h (Int.le_refl _) (consF_n0 t 0 (Int.le_refl _))
  rw [shT]
  have h2 : (chT (shCf 0) (shVf 0) t 0 0).2 = 0 := by
    cases Int.decEq (chT (shCf 0) (shVf 0) t 0 0).2 0 with
    | isTrue e => exact e
    | isFalse e =>
      have := h1.2 e
      rw [rshT_id t 0 0 h, h] at this
      cases this
  have h3 := h1.1 h2
  rw [rshT_id t 0 0 h] at h3
  exact Prod.ext h3 h2
theorem shc0 {c : ConT} (h : validF c = true) : shiftF c 0 0 = (c, 0) := by
  rw [shift_ok h (Int.le_refl _) (by decide) (by decide) (fun i hi => by
    obtain ⟨n, h1, h2, rfl⟩ := mem_above.1 hi
    omega), rsh0 (validF_formed h), if_pos h]

def lamT (c : ConT) (t : TermT) : TermT := .mk 4 0 ByteArray.empty c zeroC [] [] [t]
def appT (a b : TermT) : TermT := .mk 5 0 ByteArray.empty zeroC zeroC [] [] [a, b]
def lamsT (l : List ConT) (t : TermT) : TermT := l.foldr lamT t
def appsT (f : TermT) (l : List TermT) : TermT := l.foldl appT f
def LamsT (l : List ConT) (t : TermT) : TermT × Int := if validT t = false ∨ l.all validF = false then (zeroT, 1) else if l.length > 1000 then (zeroT, 5) else finT (lamsT l t, 0)
def AppsT (f : TermT) (l : List TermT) : TermT × Int := if validT f = false ∨ l.all validT = false then (zeroT, 1) else if l.length > 1000 then (zeroT, 5) else finT (appsT f l, 0)
theorem fin_kept0 (t : TermT) : finT (t, 0) = keptT t := by
  rw [finT, keptT]
  cases validT t
  · rw [if_pos (.inr rfl), if_neg (by decide)]
  · rw [if_neg (by rintro (e | e); exact e rfl; cases e), if_pos rfl]
theorem encT_lam (c : ConT) (t : TermT) : encT (lamT c t) = .agg [.int .i64 4, .int .i64 0, .str ByteArray.empty, .int .i64 c.op, .int .i64 c.n, .str c.s, .slice (c.k.map encK), .slice (c.names.map .str), .slice (c.l.map encC), .int .i64 0, .int .i64 0, .str ByteArray.empty, .slice [], .slice [], .slice [], .slice [], .slice [], .slice [encT t]] := by
  rw [lamT, encT_mk]; rfl
theorem encT_app (a b : TermT) : encT (appT a b) = .agg [.int .i64 5, .int .i64 0, .str ByteArray.empty, .int .i64 0, .int .i64 0, .str ByteArray.empty, .slice [], .slice [], .slice [], .int .i64 0, .int .i64 0, .str ByteArray.empty, .slice [], .slice [], .slice [], .slice [], .slice [], .slice [encT a, encT b]] := by
  rw [appT, encT_mk]; rfl
theorem okT_lam {c : ConT} {t : TermT} (h1 : okCon c) (h2 : okT t) : okT (lamT c t) := by
  simp only [lamT, okT, okTs, knL]
  exact ⟨by decide, h1, okCon_zero, by decide, fun x hx => by simp at hx, by decide, by simp, h2, trivial⟩
theorem okT_app {a b : TermT} (h1 : okT a) (h2 : okT b) : okT (appT a b) := by
  simp only [appT, okT, okTs, knL]
  exact ⟨by decide, okCon_zero, okCon_zero, by decide, fun x hx => by simp at hx, by decide, by simp, h1, h2, trivial⟩
theorem okT_lams {l : List ConT} {t : TermT} (h1 : ∀ c ∈ l, okCon c) (h2 : okT t) : okT (lamsT l t) := by
  induction l with
  | nil => exact h2
  | cons x r ih => exact okT_lam (h1 x (by simp)) (ih fun c hc => h1 c (by simp [hc]))
theorem okT_apps {l : List TermT} : ∀ {f : TermT}, okT f → (∀ x ∈ l, okT x) → okT (appsT f l) := by
  induction l with
  | nil => intro f h1 _; exact h1
  | cons x r ih => intro f h1 h2; exact ih (okT_app h1 (h2 x (by simp))) fun y hy => h2 y (by simp [hy])
end Go.Abs.Kon

namespace Go.Abs.Kon
open Go Go.Proofs Go.Abs
set_option maxRecDepth 100000
set_option maxHeartbeats 4000000

theorem IndexFuncT {α : Type} (enc : α → PV) (l : List α) (f : FuncId) (caps : List PV) (p : α → Bool) (hes : ∀ e ∈ l, PV.hasSz (.agg 18) (enc e) = true) (hp : PredOn enc f caps p l) : Spec Tryz.prog 98 [pp (.slice (l.map enc)), pp (.fn f caps)] [] (.int .i64 (findP p l 0)) [] := by
  refine Spec.walk (rv := [.tmp 4]) ann98 19 Tryz.func98 mixed rfl rfl (by kernel_rfl) rfl rfl fun hfit => ?_
  have hlen : l.length ≤ 9223372036854775807 := by
    simp only [argsFit, SV.pv?, SC.pv?, PV.fit, maxLen_eq, List.length_map] at hfit
    exact hfit.1.1
  clear hfit
  generalize h0 : findP p l 0 = res
  simp only [go_sem, List.length_map]
  refine aLoop_list (α := α) (β := List α) (fun rest pre => ⟨[(8, ii pre.length), (0, pp (.slice (l.map enc))), (1, pp (.fn f caps)), (7, ii l.length)], [], []⟩) (fun rest pre => l = pre ++ rest ∧ findP p rest pre.length = res) ?_ ?_ l [] _ ?_ ⟨rfl, h0⟩
  · rintro pre ⟨h4, h5⟩ K
    rw [List.append_nil] at h4
    simp only [go_sem, h4, lt_false (Int.le_refl _)]
    simp only [findP] at h5
    rw [h5]
  · rintro x rest pre ⟨h4, h5⟩ K hK
    have hx : (l.map enc)[pre.length]? = some (enc x) := by simp [h4]
    have hlt : (pre.length : Int) < l.length := by rw [h4]; simp; omega
    have hm : x ∈ l := by simp [h4]
    simp only [go_sem, decide_eq_true hlt, Int.toNat_natCast, Int.natCast_nonneg, hx, hes x hm]
    refine aCall_intro (hp x hm) ?_
    simp only [go_sem]
    refine condK_intro (fun hb => ?_) (fun hb => ?_)
    · simp only [findP, hb, if_true] at h5
      simp only [go_sem, h5]
    · have w4 : IntKind.i64.wrap ((pre.length : Int) + 1) = ((pre ++ [x]).length : Int) := by rw [wrap_id (by omega) (by omega)]; simp
      simp only [findP, hb, Bool.false_eq_true, if_false] at h5
      simp only [go_sem, w4]
      refine hK (pre ++ [x]) _ ?_ ⟨by simp [h4], by simpa using h5⟩
      simp only [go_sem]
  · simp only [go_sem, List.length_nil, Int.natCast_zero]
theorem ContainsFuncT {α : Type} (enc : α → PV) (es : List α) (f : FuncId) (caps : List PV) (p : α → Bool) (hes : ∀ e ∈ es, PV.hasSz (.agg 18) (enc e) = true) (hp : PredOn enc f caps p es) : Spec Tryz.prog 30 [pp (.slice (es.map enc)), pp (.fn f caps)] [] (.bool (es.any p)) [] := by
  refine Spec.walk (rv := [.tmp 4]) ann30 9 Tryz.func30 mixed rfl rfl (by kernel_rfl) rfl rfl fun hfit => ?_
  clear hfit
  simp only [go_sem]
  refine aCall_intro (IndexFuncT enc es f caps p hes hp) ?_
  have : decide (findP p es 0 ≥ 0) = es.any p := by
    rw [Bool.eq_iff_iff, decide_eq_true_iff]; exact findP_ge p es 0
  simp only [go_sem, this]

theorem every1_spec (t : TermT) (h : okT t) : Spec Tryz.prog 181 [pp (encT t)] [] (.bool (!validT t)) [] := by
  have hV := tValid_spec t h
  refine Spec.walk (rv := [.tmp 2]) ann181 6 Tryz.func181 mixed rfl rfl (by kernel_rfl) rfl rfl fun hfit => ?_
  clear hfit
  simp only [go_sem, encT_sz]
  refine aCall_intro hV ?_
  simp only [go_sem]
theorem every_spec (l : List TermT) (h : ∀ c ∈ l, okT c) : Spec Tryz.prog 101 [pp (.slice (l.map encT))] [] (.bool (l.all validT)) [] := by
  have hA : Spec Tryz.prog 30 [pp (.slice (l.map encT)), pp (.fn 181 [])] [] (.bool (l.any fun x => !validT x)) [] :=
    ContainsFuncT encT l 181 [] _ (fun e _ => encT_sz e) fun x hx => every1_spec x (h x hx)
  have ha : l.all validT = !(l.any fun x => !validT x) := by simp [List.all_eq_not_any_not]
  rw [ha]
  refine Spec.walk (rv := [.tmp 2]) ann101 6 Tryz.func101 mixed rfl rfl (by kernel_rfl) rfl rfl fun hfit => ?_
  clear hfit
  simp only [go_sem]
  refine aCall_intro hA ?_
  simp only [go_sem]
theorem lams1_spec (c : ConT) (h1 : sizeF c ≤ 1000000000) (h2 : okS c) : Spec Tryz.prog 99 [pp (encC c)] [] (.bool (!validF c)) [] := by
  have hV := Valid_spec c h1 h2
  refine Spec.walk (rv := [.tmp 2]) ann99 6 Tryz.func99 mixed rfl rfl (by kernel_rfl) rfl rfl fun hfit => ?_
  clear hfit
  simp only [go_sem, encC_sz]
  refine aCall_intro hV ?_
  simp only [go_sem]
theorem lamsAny_spec (l : List ConT) (h : ∀ c ∈ l, okCon c) : Spec Tryz.prog 28 [pp (.slice (l.map encC)), pp (.fn 99 [])] [] (.bool (!l.all validF)) [] := by
  have ha : (!l.all validF) = (l.any fun x => !validF x) := by simp [List.all_eq_not_any_not]
  rw [ha]
  exact ContainsFuncC encC l 99 [] _ (fun e _ => encC_sz e) fun x hx => lams1_spec x (h x hx).1 (h x hx).2

theorem rtValidAll_spec (l : List TermT) (h : ∀ c ∈ l, okT c) : Spec Tryz.prog 35 [pp (.slice (l.map encT))] [] (.bool (l.all validT)) [] := by
  refine Spec.walk (rv := [.tmp 2]) ann35 16 Tryz.func35 mixed rfl rfl (by kernel_rfl) rfl rfl fun hfit => ?_
  have hlen : l.length ≤ 9223372036854775807 := by
    simp only [argsFit, SV.pv?, SC.pv?, PV.fit, maxLen_eq, List.length_map] at hfit
    exact hfit.1.1
  clear hfit
  generalize h0 : l.all validT = res
  simp only [go_sem]
  refine aLoop_list (α := TermT) (β := List TermT) (fun rest pre => ⟨[(3, ii pre.length), (0, pp (.slice (l.map encT)))], [], []⟩)
    (fun rest pre => l = pre ++ rest ∧ rest.all validT = res) ?_ ?_ l [] _ ?_ ⟨rfl, h0⟩
  · rintro pre ⟨h4, h5⟩ K
    rw [List.append_nil] at h4
    simp only [go_sem, List.length_map, h4, lt_false (Int.le_refl _)]
    rw [← h5]; rfl
  · rintro x rest pre ⟨h4, h5⟩ K hK
    have hx : (l.map encT)[pre.length]? = some (encT x) := by simp [h4]
    have hlt : (pre.length : Int) < l.length := by rw [h4]; simp; omega
    have hm : x ∈ l := by simp [h4]
    simp only [go_sem, List.length_map, decide_eq_true hlt, Int.toNat_natCast, Int.natCast_nonneg, hx, encT_sz]
    refine aCall_intro (rtValid_spec x (h x hm)) ?_
    simp only [go_sem]
    refine condK_intro (fun hb => ?_) (fun hb => ?_)
    · have hb' : validT x = false := by simpa using hb
      rw [List.all_cons, hb', Bool.false_and] at h5
      subst h5
      simp only [go_sem]
    · have hb' : validT x = true := by simpa using hb
      have w4 : IntKind.i64.wrap ((pre.length : Int) + 1) = ((pre ++ [x]).length : Int) := by rw [wrap_id (by omega) (by omega)]; simp
      rw [List.all_cons, hb', Bool.true_and] at h5
      simp only [go_sem, w4]
      refine hK (pre ++ [x]) _ ?_ ⟨by simp [h4], h5⟩
      simp only [go_sem]
  · simp only [go_sem, List.length_nil, Int.natCast_zero]

/-! The reference's Lams and Apps -/
theorem lamsT_app (p q : List ConT) (t : TermT) : lamsT (p ++ q) t = lamsT p (lamsT q t) := List.foldr_append
theorem appsT_app (f : TermT) (p q : List TermT) : appsT f (p ++ q) = appsT (appsT f p) q := List.foldl_append

def lamBox (t0 : Nat) (t : TermT) : Option (ConT × TermT) → SV
  | none => pp (encT t)
  | some (c, x) => .agg [.pv (.int .i64 4), .pv (.int .i64 0), .pv (.str ByteArray.empty), .pv (.int .i64 c.op), .pv (.int .i64 c.n), .pv (.str c.s), .pv (.slice (c.k.map encK)), .pv (.slice (c.names.map .str)), .pv (.slice (c.l.map encC)), .pv (.int .i64 0), .pv (.int .i64 0), .pv (.str ByteArray.empty), .nilS, .nilS, .nilS, .nilS, .nilS, .own t0 (.agg 18) [encT x]]
def lamCur (t : TermT) : Option (ConT × TermT) → TermT
  | none => t
  | some (c, x) => lamT c x
theorem rtLams_spec (l : List ConT) (t : TermT) (h : l.length ≤ 100000000) : Spec Tryz.prog 34 [pp (.slice (l.map encC)), pp (encT t)] [] (encT (lamsT l t)) [] := by
  generalize h0 : lamsT l t = res
  have w0 : IntKind.i64.wrap ((l.length : Int) - 1) = (l.length : Int) - 1 := wrap_id (by omega) (by omega)
  refine Spec.walk (rv := [.cell 4 31]) ann34 21 Tryz.func34 mixed rfl rfl (by kernel_rfl) rfl rfl fun hfit => ?_
  clear hfit
  simp only [go_sem, encT_sz, List.length_map, w0]
  refine aLoop_list (α := ConT) (β := Option (ConT × TermT) × List ConT) (fun rest b => ⟨[(5, ii ((b.2.length : Int) - 1)), (3, .one (.ptr (.loc 3) 0)), (0, pp (.slice (l.map encC))), (4, .one (.ptr (.loc 4) 0))],
    [(.loc 3, ⟨.agg 18, lamBox 36 t b.1⟩), (.loc 4, zboxT)], []⟩)
    (fun rest b => b.2 = rest.reverse ∧ (∃ post, l = b.2 ++ post) ∧ lamsT b.2 (lamCur t b.1) = res) ?_ ?_ l.reverse (none, l) _ ?_ ⟨by simp, ⟨[], by simp⟩, h0⟩
  · rintro ⟨g, pre⟩ ⟨h1, h2, h3⟩ K
    simp only [List.reverse_nil] at h1
    subst h1
    simp only [lamsT, List.foldr_nil] at h3
    subst h3
    have hneg : decide ((-1 : Int) ≥ 0) = false := by decide
    cases g with
    | none => simp only [go_sem, List.length_nil, Int.natCast_zero, Int.reduceSub, Int.reduceNeg, hneg, encT_sz, lamBox, lamCur, zboxT]
    | some g =>
      obtain ⟨g, x⟩ := g
      simp only [go_sem, List.length_nil, Int.natCast_zero, Int.reduceSub, Int.reduceNeg, hneg, encT_sz, lamBox, lamCur, zboxT, encT_lam]
  · rintro x rest ⟨g, pre⟩ ⟨h1, ⟨post, h2⟩, h3⟩ K hK
    simp only at h1 h2 h3 hK
    rw [List.reverse_cons] at h1
    subst h1
    have hx : (l.map encC)[rest.reverse.length]? = some (encC x) := by simp [h2]
    have hlt : rest.reverse.length < l.length := by rw [h2]; simp
    have e1 : (((rest.reverse ++ [x]).length : Nat) : Int) - 1 = (rest.reverse.length : Nat) := by simp
    have hge : decide (((rest.reverse.length : Nat) : Int) ≥ 0) = true := decide_eq_true (Int.natCast_nonneg _)
    have w4 : IntKind.i64.wrap (((rest.reverse.length : Nat) : Int) - 1) = ((rest.reverse.length : Nat) : Int) - 1 := wrap_id (by omega) (by omega)
    have hK' := fun s' hs => hK (some (x, lamCur t g), rest.reverse) s' hs ⟨rfl, ⟨x :: post, by simp [h2]⟩, by rw [lamsT_app] at h3; exact h3⟩
    clear hK h3
    simp only [encC_cells, ConT.cells] at hx
    cases g with
    | none =>
      simp only [go_sem, e1, hge, List.length_map, Int.toNat_natCast, Int.natCast_nonneg, hx, encC_cells, ConT.cells, encT_sz, w4, lamBox, zboxT]
      refine ⟨by kernel_rfl, hK' _ ?_⟩
      simp only [go_sem, lamBox, lamCur, zboxT]
    | some g =>
      obtain ⟨g, y⟩ := g
      simp only [go_sem, e1, hge, List.length_map, Int.toNat_natCast, Int.natCast_nonneg, hx, encC_cells, ConT.cells, encT_sz, w4, lamBox, zboxT]
      refine ⟨by kernel_rfl, hK' _ ?_⟩
      simp only [go_sem, lamBox, lamCur, zboxT, encT_lam]
  · simp only [go_sem, lamBox, zboxT]

def appBoxQ (t0 : Nat) (t : TermT) : Option (TermT × TermT) → SV
  | none => pp (encT t)
  | some (g, x) => .agg [.pv (.int .i64 5), .pv (.int .i64 0), .pv (.str ByteArray.empty), .pv (.int .i64 0), .pv (.int .i64 0), .pv (.str ByteArray.empty), .nilS, .nilS, .nilS, .pv (.int .i64 0), .pv (.int .i64 0), .pv (.str ByteArray.empty), .nilS, .nilS, .nilS, .nilS, .nilS, .own t0 (.agg 18) [encT g, encT x]]
def appCurQ (t : TermT) : Option (TermT × TermT) → TermT
  | none => t
  | some (g, x) => appT g x
theorem rtApps_spec (f : TermT) (l : List TermT) (h : l.length ≤ 100000000) : Spec Tryz.prog 36 [pp (encT f), pp (.slice (l.map encT))] [] (encT (appsT f l)) [] := by
  generalize h0 : appsT f l = res
  refine Spec.walk (rv := [.cell 4 31]) ann36 20 Tryz.func36 mixed rfl rfl (by kernel_rfl) rfl rfl fun hfit => ?_
  clear hfit
  simp only [go_sem, encT_sz]
  refine aLoop_list (α := TermT) (β := Option (TermT × TermT) × List TermT) (fun rest b => ⟨[(5, ii b.2.length), (2, .one (.ptr (.loc 2) 0)), (1, pp (.slice (l.map encT))), (4, .one (.ptr (.loc 4) 0))],
    [(.loc 2, ⟨.agg 18, appBoxQ 34 f b.1⟩), (.loc 4, zboxT)], []⟩)
    (fun rest b => l = b.2 ++ rest ∧ appsT (appCurQ f b.1) rest = res) ?_ ?_ l (none, []) _ ?_ ⟨rfl, h0⟩
  · rintro ⟨g, pre⟩ ⟨h1, h2⟩ K
    simp only [List.append_nil] at h1
    simp only [appsT, List.foldl_nil] at h2
    subst h1 h2
    cases g with
    | none => simp only [go_sem, List.length_map, lt_false (Int.le_refl _), encT_sz, appBoxQ, appCurQ, zboxT]
    | some g =>
      obtain ⟨g, x⟩ := g
      simp only [go_sem, List.length_map, lt_false (Int.le_refl _), encT_sz, appBoxQ, appCurQ, encT_app, zboxT]
  · rintro x rest ⟨g, pre⟩ ⟨h1, h2⟩ K hK
    simp only at h1 h2 hK
    have hx : (l.map encT)[pre.length]? = some (encT x) := by simp [h1]
    have hlt : (pre.length : Int) < l.length := by rw [h1]; simp; omega
    have hll : pre.length + 1 ≤ l.length := by omega
    have w4 : IntKind.i64.wrap ((pre.length : Int) + 1) = ((pre ++ [x]).length : Int) := by rw [wrap_id (by omega) (by omega)]; simp
    have hK' := fun s' hs => hK (some (appCurQ f g, x), pre ++ [x]) s' hs ⟨by simp [h1], h2⟩
    clear hK
    cases g with
    | none =>
      simp only [go_sem, List.length_map, decide_eq_true hlt, Int.toNat_natCast, Int.natCast_nonneg, hx, encT_sz, w4, appBoxQ, zboxT]
      refine ⟨by kernel_rfl, hK' _ ?_⟩
      simp only [go_sem, appBoxQ, appCurQ, zboxT]
    | some g =>
      obtain ⟨g, y⟩ := g
      simp only [go_sem, List.length_map, decide_eq_true hlt, Int.toNat_natCast, Int.natCast_nonneg, hx, encT_sz, w4, appBoxQ, zboxT]
      refine ⟨by kernel_rfl, hK' _ ?_⟩
      simp only [go_sem, appBoxQ, appCurQ, encT_app, zboxT]
  · simp only [go_sem, List.length_nil, Int.natCast_zero, appBoxQ, zboxT]

/-! The program's Lams and Apps -/
theorem tLams_spec (l : List ConT) (t : TermT) (hok : okT t) (hwc : wcT t) (hl : ∀ c ∈ l, wtF c ≤ 10000000 ∧ okS c) (hn : l.length ≤ 100000000) :
    Spec Tryz.prog 31 [pp (.slice (l.map encC)), pp (encT t)] [] (.tuple [encT (LamsT l t).1, .int .i64 (LamsT l t).2]) [] := by
  have hV := tValid_spec t hok
  have hoc : ∀ c ∈ l, okCon c := fun c hc => ⟨by have := sizeF_wt c; have := (hl c hc).1; omega, (hl c hc).2⟩
  have hA := lamsAny_spec l hoc
  have w0 : IntKind.i64.wrap ((l.length : Int) - 1) = (l.length : Int) - 1 := wrap_id (by omega) (by omega)
  rw [LamsT]
  cases hv : validT t with
  | false =>
    rw [hv] at hV
    rw [if_pos (.inl rfl), encT_zero]
    refine Spec.walk (rv := [.cell 4 31, .tmp 5]) ann31 56 Tryz.func31 mixed rfl rfl (by kernel_rfl) rfl rfl fun hfit => ?_
    clear hfit
    simp only [go_sem, encT_sz]
    refine aCall_intro hV ?_
    simp only [go_sem]
  | true =>
    rw [hv] at hV
    cases hal : l.all validF with
    | false =>
      rw [hal] at hA
      rw [if_pos (.inr rfl), encT_zero]
      refine Spec.walk (rv := [.cell 4 31, .tmp 5]) ann31 56 Tryz.func31 mixed rfl rfl (by kernel_rfl) rfl rfl fun hfit => ?_
      clear hfit
      simp only [go_sem, encT_sz]
      refine aCall_intro hV ?_
      simp only [go_sem, encT_sz]
      refine aCall_intro hA ?_
      simp only [go_sem]
    | true =>
      rw [hal] at hA
      rw [if_neg (by rintro (e | e) <;> cases e)]
      by_cases h1000 : (l.length : Int) > 1000
      · rw [if_pos (by omega : l.length > 1000), encT_zero]
        refine Spec.walk (rv := [.cell 4 31, .tmp 5]) ann31 56 Tryz.func31 mixed rfl rfl (by kernel_rfl) rfl rfl fun hfit => ?_
        clear hfit
        simp only [go_sem, encT_sz]
        refine aCall_intro hV ?_
        simp only [go_sem, encT_sz]
        refine aCall_intro hA ?_
        simp only [go_sem, List.length_map, decide_eq_true h1000]
      · rw [if_neg (by omega : ¬ l.length > 1000)]
        obtain ⟨hwf, hd⟩ := valid_wf hv
        have hSh := shifting_spec 0 0
        have hCh := change_shift 0 0 (by decide) (by decide) t hwf hok hwc (by omega)
        rw [show chT (shCf 0) (shVf 0) t 0 0 = (t, 0) from sh0 hwf] at hCh
        have hFi := finish_spec (lamsT l t, 0) (okT_lams hoc hok)
        generalize finT (lamsT l t, 0) = res at hFi
        simp only at hFi
        generalize h0 : lamsT l t = r0 at hFi
        refine Spec.walk (rv := [.cell 4 31, .tmp 5]) ann31 56 Tryz.func31 mixed rfl rfl (by kernel_rfl) rfl rfl fun hfit => ?_
        clear hfit
        simp only [go_sem, encT_sz]
        refine aCall_intro hV ?_
        simp only [go_sem, encT_sz]
        refine aCall_intro hA ?_
        simp only [go_sem, List.length_map, decide_eq_false h1000]
        refine aCall_intro hSh ?_
        simp only [go_sem, encT_sz]
        try (refine ⟨by kernel_rfl, ?_⟩; try simp only [go_sem, encT_sz])
        refine aCall_intro hCh ?_
        simp only [go_sem, encT_sz, List.length_map, w0]
        try (refine ⟨by kernel_rfl, ?_⟩; try simp only [go_sem, encT_sz, List.length_map, w0])
        refine aLoop_list (α := ConT) (β := Option (ConT × TermT) × List ConT) (fun rest b => ⟨[(8, ii ((b.2.length : Int) - 1)), (6, .one (.ptr (.loc 6) 0)), (0, pp (.slice (l.map encC))), (4, .one (.ptr (.loc 4) 0)), (7, ii 0)],
          [(.loc 4, zboxT), (.loc 6, ⟨.agg 18, lamBox 98 t b.1⟩)], []⟩)
          (fun rest b => b.2 = rest.reverse ∧ (∃ post, l = b.2 ++ post) ∧ lamsT b.2 (lamCur t b.1) = r0) ?_ ?_ l.reverse (none, l) _ ?_ ⟨by simp, ⟨[], by simp⟩, h0⟩
        · rintro ⟨g, pre⟩ ⟨h1, h2, h3⟩ K
          simp only [List.reverse_nil] at h1
          subst h1
          simp only [lamsT, List.foldr_nil] at h3
          subst h3
          have hneg : decide ((-1 : Int) ≥ 0) = false := by decide
          cases g with
          | none =>
            simp only [lamCur] at hFi
            simp only [go_sem, List.length_nil, Int.natCast_zero, Int.reduceSub, Int.reduceNeg, hneg, encT_sz, lamBox, zboxT]
            refine aCall_intro hFi ?_
            simp only [go_sem, encT_sz]
          | some g =>
            obtain ⟨g, x⟩ := g
            simp only [lamCur, encT_lam] at hFi
            simp only [go_sem, List.length_nil, Int.natCast_zero, Int.reduceSub, Int.reduceNeg, hneg, encT_sz, lamBox, zboxT]
            refine aCall_intro hFi ?_
            simp only [go_sem, encT_sz]
        · rintro x rest ⟨g, pre⟩ ⟨h1, ⟨post, h2⟩, h3⟩ K hK
          simp only at h1 h2 h3 hK
          rw [List.reverse_cons] at h1
          subst h1
          have hm : x ∈ l := by simp [h2]
          have hS := Shift_spec x 0 0 (hl x hm).1 (hl x hm).2
          rw [shc0 (List.all_eq_true.1 hal x hm)] at hS
          simp only [encC_cells, ConT.cells] at hS
          have hx : (l.map encC)[rest.reverse.length]? = some (encC x) := by simp [h2]
          have hlt : rest.reverse.length < l.length := by rw [h2]; simp
          have e1 : (((rest.reverse ++ [x]).length : Nat) : Int) - 1 = (rest.reverse.length : Nat) := by simp
          have hge : decide (((rest.reverse.length : Nat) : Int) ≥ 0) = true := decide_eq_true (Int.natCast_nonneg _)
          have w4 : IntKind.i64.wrap (((rest.reverse.length : Nat) : Int) - 1) = ((rest.reverse.length : Nat) : Int) - 1 := wrap_id (by omega) (by omega)
          have hK' := fun s' hs => hK (some (x, lamCur t g), rest.reverse) s' hs ⟨rfl, ⟨x :: post, by simp [h2]⟩, by rw [lamsT_app] at h3; exact h3⟩
          clear hK h3 hFi hCh hSh
          simp only [encC_cells, ConT.cells] at hx
          cases g with
          | none =>
            simp only [go_sem, e1, hge, List.length_map, Int.toNat_natCast, Int.natCast_nonneg, hx, encC_cells, ConT.cells, encT_sz, w4, lamBox, zboxT]
            refine aCall_intro hS ?_
            simp only [go_sem, encT_sz, w4]
            first
              | refine ⟨by kernel_rfl, hK' _ ?_⟩
              | refine hK' _ ?_
            simp only [go_sem, lamBox, lamCur, zboxT]
          | some g =>
            obtain ⟨g, y⟩ := g
            simp only [go_sem, e1, hge, List.length_map, Int.toNat_natCast, Int.natCast_nonneg, hx, encC_cells, ConT.cells, encT_sz, w4, lamBox, zboxT]
            refine aCall_intro hS ?_
            simp only [go_sem, encT_sz, w4]
            first
              | refine ⟨by kernel_rfl, hK' _ ?_⟩
              | refine hK' _ ?_
            simp only [go_sem, lamBox, lamCur, zboxT, encT_lam]
        · simp only [go_sem, lamBox, zboxT]
theorem tApps_spec (f : TermT) (l : List TermT) (hok : okT f) (hwc : wcT f) (hl : ∀ c ∈ l, okT c ∧ wcT c) (hn : l.length ≤ 100000000) :
    Spec Tryz.prog 32 [pp (encT f), pp (.slice (l.map encT))] [] (.tuple [encT (AppsT f l).1, .int .i64 (AppsT f l).2]) [] := by
  have hV := tValid_spec f hok
  have hA := every_spec l fun x hx => (hl x hx).1
  rw [AppsT]
  cases hv : validT f with
  | false =>
    rw [hv] at hV
    rw [if_pos (.inl rfl), encT_zero]
    refine Spec.walk (rv := [.cell 4 31, .tmp 5]) ann32 57 Tryz.func32 mixed rfl rfl (by kernel_rfl) rfl rfl fun hfit => ?_
    clear hfit
    simp only [go_sem, encT_sz]
    refine aCall_intro hV ?_
    simp only [go_sem]
  | true =>
    rw [hv] at hV
    cases hal : l.all validT with
    | false =>
      rw [hal] at hA
      rw [if_pos (.inr rfl), encT_zero]
      refine Spec.walk (rv := [.cell 4 31, .tmp 5]) ann32 57 Tryz.func32 mixed rfl rfl (by kernel_rfl) rfl rfl fun hfit => ?_
      clear hfit
      simp only [go_sem, encT_sz]
      refine aCall_intro hV ?_
      simp only [go_sem, encT_sz]
      refine aCall_intro hA ?_
      simp only [go_sem]
    | true =>
      rw [hal] at hA
      rw [if_neg (by rintro (e | e) <;> cases e)]
      by_cases h1000 : (l.length : Int) > 1000
      · rw [if_pos (by omega : l.length > 1000), encT_zero]
        refine Spec.walk (rv := [.cell 4 31, .tmp 5]) ann32 57 Tryz.func32 mixed rfl rfl (by kernel_rfl) rfl rfl fun hfit => ?_
        clear hfit
        simp only [go_sem, encT_sz]
        refine aCall_intro hV ?_
        simp only [go_sem, encT_sz]
        refine aCall_intro hA ?_
        simp only [go_sem, List.length_map, decide_eq_true h1000]
      · rw [if_neg (by omega : ¬ l.length > 1000)]
        obtain ⟨hwf, hd⟩ := valid_wf hv
        have hSh := shifting_spec 0 0
        have hCh := change_shift 0 0 (by decide) (by decide) f hwf hok hwc (by omega)
        rw [show chT (shCf 0) (shVf 0) f 0 0 = (f, 0) from sh0 hwf] at hCh
        have hFi := finish_spec (appsT f l, 0) (okT_apps hok fun x hx => (hl x hx).1)
        generalize finT (appsT f l, 0) = res at hFi
        simp only at hFi
        generalize h0 : appsT f l = r0 at hFi
        refine Spec.walk (rv := [.cell 4 31, .tmp 5]) ann32 57 Tryz.func32 mixed rfl rfl (by kernel_rfl) rfl rfl fun hfit => ?_
        clear hfit
        simp only [go_sem, encT_sz]
        refine aCall_intro hV ?_
        simp only [go_sem, encT_sz]
        refine aCall_intro hA ?_
        simp only [go_sem, List.length_map, decide_eq_false h1000]
        refine aCall_intro hSh ?_
        simp only [go_sem, encT_sz]
        try (refine ⟨by kernel_rfl, ?_⟩; try simp only [go_sem, encT_sz])
        refine aCall_intro hCh ?_
        simp only [go_sem, encT_sz, List.length_map]
        try (refine ⟨by kernel_rfl, ?_⟩; try simp only [go_sem, encT_sz, List.length_map])
        refine aLoop_list (α := TermT) (β := Option (TermT × TermT) × List TermT) (fun rest b => ⟨[(36, ii b.2.length), (6, .one (.ptr (.loc 6) 0)), (34, pp (.slice (l.map encT))), (4, .one (.ptr (.loc 4) 0)), (7, ii 0), (35, ii l.length)],
          [(.loc 4, zboxT), (.loc 6, ⟨.agg 18, appBoxQ 98 f b.1⟩)], []⟩)
          (fun rest b => l = b.2 ++ rest ∧ appsT (appCurQ f b.1) rest = r0) ?_ ?_ l (none, []) _ ?_ ⟨rfl, h0⟩
        · rintro ⟨g, pre⟩ ⟨h1, h3⟩ K
          simp only [List.append_nil] at h1
          simp only [appsT, List.foldl_nil] at h3
          subst h1
          subst h3
          cases g with
          | none =>
            simp only [appCurQ] at hFi
            simp only [go_sem, lt_false (Int.le_refl _), encT_sz, appBoxQ, zboxT]
            refine aCall_intro hFi ?_
            simp only [go_sem, encT_sz]
          | some g =>
            obtain ⟨g, x⟩ := g
            simp only [appCurQ, encT_app] at hFi
            simp only [go_sem, lt_false (Int.le_refl _), encT_sz, appBoxQ, zboxT]
            refine aCall_intro hFi ?_
            simp only [go_sem, encT_sz]
        · rintro x rest ⟨g, pre⟩ ⟨h1, h3⟩ K hK
          simp only at h1 h3 hK
          have hm : x ∈ l := by simp [h1]
          obtain ⟨hwfx, hdx⟩ := valid_wf (List.all_eq_true.1 hal x hm)
          have hS := change_shift 0 0 (by decide) (by decide) x hwfx (hl x hm).1 (hl x hm).2 (by omega)
          rw [show chT (shCf 0) (shVf 0) x 0 0 = (x, 0) from sh0 hwfx] at hS
          have hx : (l.map encT)[pre.length]? = some (encT x) := by simp [h1]
          have hlt : (pre.length : Int) < l.length := by rw [h1]; simp; omega
          have hll : pre.length + 1 ≤ l.length := by omega
          have w4 : IntKind.i64.wrap ((pre.length : Int) + 1) = ((pre ++ [x]).length : Int) := by rw [wrap_id (by omega) (by omega)]; simp
          have hK' := fun s' hs => hK (some (appCurQ f g, x), pre ++ [x]) s' hs ⟨by simp [h1], h3⟩
          clear hK h3 hFi hCh
          cases g with
          | none =>
            simp only [go_sem, List.length_map, decide_eq_true hlt, Int.toNat_natCast, Int.natCast_nonneg, hx, encT_sz, appBoxQ, zboxT]
            refine aCall_intro hSh ?_
            simp only [go_sem, encT_sz, w4]
            try (refine ⟨by kernel_rfl, ?_⟩; try simp only [go_sem, encT_sz, w4])
            refine aCall_intro hS ?_
            simp only [go_sem, encT_sz, w4]
            try (refine ⟨by kernel_rfl, ?_⟩; try simp only [go_sem, encT_sz, w4])
            try (refine ⟨by kernel_rfl, ?_⟩; try simp only [go_sem, encT_sz, w4])
            refine hK' _ ?_
            simp only [go_sem, appBoxQ, appCurQ, zboxT]
          | some g =>
            obtain ⟨g, y⟩ := g
            simp only [go_sem, List.length_map, decide_eq_true hlt, Int.toNat_natCast, Int.natCast_nonneg, hx, encT_sz, appBoxQ, zboxT]
            refine aCall_intro hSh ?_
            simp only [go_sem, encT_sz, w4]
            try (refine ⟨by kernel_rfl, ?_⟩; try simp only [go_sem, encT_sz, w4])
            refine aCall_intro hS ?_
            simp only [go_sem, encT_sz, w4]
            try (refine ⟨by kernel_rfl, ?_⟩; try simp only [go_sem, encT_sz, w4])
            try (refine ⟨by kernel_rfl, ?_⟩; try simp only [go_sem, encT_sz, w4])
            refine hK' _ ?_
            simp only [go_sem, appBoxQ, appCurQ, encT_app, zboxT]
        · simp only [go_sem, Int.natCast_zero, List.length_nil, appBoxQ, zboxT]
end Go.Abs.Kon
