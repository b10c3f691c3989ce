/- Terms: equality, size, values. -/
import Derived.Test.YtkpmnpjodiomnaaGreatDoorTermI
import Derived.Test.YtkpmnpjodiomnaaGreatDoorTermD
set_option linter.unusedSimpArgs false
set_option linter.unusedVariables false
namespace Go.Abs.Kon
open Go Go.Proofs Go.Abs
set_option maxRecDepth 100000
set_option maxHeartbeats 4000000

theorem EqualFuncT {α : Type} (enc : α → PV) (es fs : List α) (f : FuncId) (caps : List PV) (q : α → α → Bool) (hes : ∀ e ∈ es, PV.hasSz (.agg 18) (enc e) = true) (hfs : ∀ e ∈ fs, PV.hasSz (.agg 18) (enc e) = true) (hq : Pred2On enc f caps q es fs) : Spec Tryz.prog 184 [pp (.slice (es.map enc)), pp (.slice (fs.map enc)), pp (.fn f caps)] [] (.bool (eqL q es fs)) [] := by
  refine Spec.walk (rv := [.tmp 6]) ann184 32 Tryz.func184 mixed rfl rfl (by kernel_rfl) rfl rfl fun hfit => ?_
  have hlen : es.length ≤ 9223372036854775807 := by
    simp only [argsFit, SV.pv?, SC.pv?, PV.fit, maxLen_eq, List.length_map] at hfit
    exact hfit.1.1
  clear hfit
  generalize h0 : eqL q es fs = res
  simp only [go_sem, List.length_map]
  refine condK_intro (fun hb => ?_) (fun hb => ?_)
  · simp only [go_sem]
    rw [← h0, eqL_length]
    intro h; simp [h] at hb
  · have hl : es.length = fs.length := by simp at hb; omega
    simp only [go_sem, List.length_map]
    refine aLoop_list (α := α) (β := List α × List α × List α) (fun rest b => ⟨[(17, ii b.1.length), (2, pp (.fn f caps)), (1, pp (.slice (fs.map enc))), (15, pp (.slice (es.map enc))), (16, ii es.length)], [], []⟩) (fun rest b => es = b.1 ++ rest ∧ fs = b.2.1 ++ b.2.2 ∧ b.1.length = b.2.1.length ∧ eqL q rest b.2.2 = res) ?_ ?_ es ([], [], fs) _ ?_ ⟨rfl, rfl, rfl, h0⟩
    · rintro ⟨pre, pre', rest'⟩ ⟨h4, h4', h6, h5⟩ K
      simp only [List.append_nil] at h4 h4' h6
      simp only [go_sem, h4, lt_false (Int.le_refl _)]
      have : rest' = [] := by
        have := congrArg List.length h4'
        rw [← hl, h4] at this; simp at this
        exact List.eq_nil_of_length_eq_zero (by omega)
      rw [this] at h5
      simp only [eqL] at h5
      rw [h5]
    · rintro x rest ⟨pre, pre', rest'⟩ ⟨h4, h4', h6, h5⟩ K hK
      simp only at h4 h4' h6 h5
      cases rest' with
      | nil =>
        exfalso
        have h7 := congrArg List.length h4'
        have h8 := congrArg List.length h4
        simp at h7 h8; omega
      | cons y rest' =>
        have hx : (es.map enc)[pre.length]? = some (enc x) := by simp [h4]
        have hy : (fs.map enc)[pre.length]? = some (enc y) := by simp [h4', h6]
        have hlt : (pre.length : Int) < es.length := by rw [h4]; simp; omega
        have hm : x ∈ es := by simp [h4]
        have hn : y ∈ fs := by simp [h4']
        simp only [go_sem, decide_eq_true hlt, Int.toNat_natCast, Int.natCast_nonneg, hx, hy, hes x hm, hfs y hn]
        refine aCall_intro (hq x hm y hn) ?_
        simp only [go_sem]
        refine condK_intro (fun hb => ?_) (fun hb => ?_)
        · have hb' : q x y = false := by simpa using hb
          simp only [eqL, hb', Bool.false_and] at h5
          subst h5
          simp only [go_sem]
        · have hb' : q x y = true := by simpa using hb
          have w4 : IntKind.i64.wrap ((pre.length : Int) + 1) = ((pre ++ [x]).length : Int) := by rw [wrap_id (by omega) (by omega)]; simp
          simp only [eqL, hb', Bool.true_and] at h5
          simp only [go_sem, w4]
          refine hK (pre ++ [x], pre' ++ [y], rest') _ ?_ ⟨by simp [h4], by simp [h4'], by simp [h6], h5⟩
          simp only [go_sem]
    · simp only [go_sem, List.length_nil, Int.natCast_zero]
theorem IndexFuncT2 {α : Type} (enc : α → PV) (l : List α) (f : FuncId) (caps : List PV) (p : α → Bool) (hes : ∀ e ∈ l, PV.hasSz (.agg 18) (enc e) = true) (hp : PredOn enc f caps p l) : Spec Tryz.prog 98 [pp (.slice (l.map enc)), pp (.fn f caps)] [] (.int .i64 (findP p l 0)) [] := by
  refine Spec.walk (rv := [.tmp 4]) ann98 19 Tryz.func98 mixed rfl rfl (by kernel_rfl) rfl rfl fun hfit => ?_
  have hlen : l.length ≤ 9223372036854775807 := by
    simp only [argsFit, SV.pv?, SC.pv?, PV.fit, maxLen_eq, List.length_map] at hfit
    exact hfit.1.1
  clear hfit
  generalize h0 : findP p l 0 = res
  simp only [go_sem, List.length_map]
  refine aLoop_list (α := α) (β := List α) (fun rest pre => ⟨[(8, ii pre.length), (0, pp (.slice (l.map enc))), (1, pp (.fn f caps)), (7, ii l.length)], [], []⟩) (fun rest pre => l = pre ++ rest ∧ findP p rest pre.length = res) ?_ ?_ l [] _ ?_ ⟨rfl, h0⟩
  · rintro pre ⟨h4, h5⟩ K
    rw [List.append_nil] at h4
    simp only [go_sem, h4, lt_false (Int.le_refl _)]
    simp only [findP] at h5
    rw [h5]
  · rintro x rest pre ⟨h4, h5⟩ K hK
    have hx : (l.map enc)[pre.length]? = some (enc x) := by simp [h4]
    have hlt : (pre.length : Int) < l.length := by rw [h4]; simp; omega
    have hm : x ∈ l := by simp [h4]
    simp only [go_sem, decide_eq_true hlt, Int.toNat_natCast, Int.natCast_nonneg, hx, hes x hm]
    refine aCall_intro (hp x hm) ?_
    simp only [go_sem]
    refine condK_intro (fun hb => ?_) (fun hb => ?_)
    · simp only [findP, hb, if_true] at h5
      simp only [go_sem, h5]
    · have w4 : IntKind.i64.wrap ((pre.length : Int) + 1) = ((pre ++ [x]).length : Int) := by rw [wrap_id (by omega) (by omega)]; simp
      simp only [findP, hb, Bool.false_eq_true, if_false] at h5
      simp only [go_sem, w4]
      refine hK (pre ++ [x]) _ ?_ ⟨by simp [h4], by simpa using h5⟩
      simp only [go_sem]
  · simp only [go_sem, List.length_nil, Int.natCast_zero]
theorem ContainsFuncT2 {α : Type} (enc : α → PV) (es : List α) (f : FuncId) (caps : List PV) (p : α → Bool) (hes : ∀ e ∈ es, PV.hasSz (.agg 18) (enc e) = true) (hp : PredOn enc f caps p es) : Spec Tryz.prog 30 [pp (.slice (es.map enc)), pp (.fn f caps)] [] (.bool (es.any p)) [] := by
  refine Spec.walk (rv := [.tmp 4]) ann30 9 Tryz.func30 mixed rfl rfl (by kernel_rfl) rfl rfl fun hfit => ?_
  clear hfit
  simp only [go_sem]
  refine aCall_intro (IndexFuncT2 enc es f caps p hes hp) ?_
  have : decide (findP p es 0 ≥ 0) = es.any p := by
    rw [Bool.eq_iff_iff, decide_eq_true_iff]; exact findP_ge p es 0
  simp only [go_sem, this]

theorem kequal_spec (a : KindT) : ∀ b, Spec Tryz.prog 234 [pp (encK a), pp (encK b)] [] (.bool (sameK a b)) [] := by
  revert a
  refine KindT.ind1 fun l ih => ?_
  rintro ⟨m⟩
  refine Spec.walk (rv := [.tmp 4]) ann234 32 Tryz.func234 mixed rfl rfl (by kernel_rfl) rfl rfl fun hfit => ?_
  have hlen : l.length ≤ 9223372036854775807 := by
    simp only [argsFit, SV.pv?, SC.pv?, encK_mk, PV.fit, fitL, List.length_map, maxLen_eq] at hfit
    exact hfit.1.1.1
  clear hfit
  have hl0 : eqL sameK l m = sameK (.mk l) (.mk m) := by rw [sameKs_eq, sameK]
  generalize sameK (.mk l) (.mk m) = res at hl0
  have hle : l.length ≠ m.length → eqL sameK l m = false := eqL_length sameK l m
  simp only [go_sem, encK_mk, List.length_map]
  refine condK_intro (fun hb => ?_) (fun hb => ?_)
  · simp only [go_sem]
    rw [← hl0, hle (by intro h; simp [h] at hb)]
  · have hl : l.length = m.length := by simp at hb; omega
    simp only [go_sem, List.length_map]
    refine aLoop_list (α := KindT) (β := List KindT × List KindT × List KindT) (fun rest b => ⟨[(16, ii b.1.length), (3, pp (.ep (encK (.mk m)) 0)), (2, pp (.ep (encK (.mk l)) 0)), (15, ii l.length)], [], []⟩) (fun rest b => l = b.1 ++ rest ∧ m = b.2.1 ++ b.2.2 ∧ b.1.length = b.2.1.length ∧ eqL sameK rest b.2.2 = res) ?_ ?_ l ([], [], m) _ ?_ ⟨rfl, rfl, rfl, hl0⟩
    · rintro ⟨pre, pre', rest'⟩ ⟨h4, h4', h6, h5⟩ K
      simp only [List.append_nil] at h4 h4' h6
      simp only [go_sem, h4, lt_false (Int.le_refl _), List.length_map, encK_mk]
      have : rest' = [] := by
        have := congrArg List.length h4'
        rw [← hl, h4] at this; simp at this
        exact List.eq_nil_of_length_eq_zero (by omega)
      rw [this] at h5
      simp only [eqL] at h5
      rw [h5]
    · rintro x rest ⟨pre, pre', rest'⟩ ⟨h4, h4', h6, h5⟩ K hK
      simp only at h4 h4' h6 h5
      cases rest' with
      | nil =>
        exfalso
        have h7 := congrArg List.length h4'
        have h8 := congrArg List.length h4
        simp at h7 h8; omega
      | cons y rest' =>
        have hx : (l.map encK)[pre.length]? = some (encK x) := by simp [h4]
        have hy : (m.map encK)[pre.length]? = some (encK y) := by simp [h4', h6]
        have hlt : (pre.length : Int) < l.length := by rw [h4]; simp; omega
        have hm : x ∈ l := by simp [h4]
        simp only [go_sem, decide_eq_true hlt, Int.toNat_natCast, Int.natCast_nonneg, hx, hy, encK_sz, encK_mk]
        refine aCall_intro (ih x hm y) ?_
        simp only [go_sem]
        refine condK_intro (fun hb => ?_) (fun hb => ?_)
        · have hb' : sameK x y = false := by simpa using hb
          simp only [eqL, hb', Bool.false_and] at h5
          subst h5
          simp only [go_sem]
        · have hb' : sameK x y = true := by simpa using hb
          have w4 : IntKind.i64.wrap ((pre.length : Int) + 1) = ((pre ++ [x]).length : Int) := by rw [wrap_id (by omega) (by omega)]; simp
          simp only [eqL, hb', Bool.true_and] at h5
          simp only [go_sem, w4]
          refine hK (pre ++ [x], pre' ++ [y], rest') _ ?_ ⟨by simp [h4], by simp [h4'], by simp [h6], h5⟩
          simp only [go_sem, encK_mk]
    · simp only [go_sem, List.length_nil, Int.natCast_zero, encK_mk]
theorem kEqual_spec (a b : KindT) (ha : (sizeK a 20000 1).isSome = true) (hb : (sizeK b 20000 1).isSome = true) : Spec Tryz.prog 183 [pp (encK a), pp (encK b)] [] (.bool (sameK a b)) [] := by
  have h1 := kValid_spec a
  have h2 := kValid_spec b
  have h3 := kequal_spec a b
  rw [ha] at h1
  rw [hb] at h2
  refine Spec.walk (rv := [.tmp 4]) ann183 16 Tryz.func183 mixed rfl rfl (by kernel_rfl) rfl rfl fun hfit => ?_
  clear hfit
  simp only [go_sem, encK_sz]
  refine aCall_intro h1 ?_
  simp only [go_sem, encK_sz]
  refine aCall_intro h2 ?_
  simp only [go_sem, encK_sz]
  refine aCall_intro h3 ?_
  simp only [go_sem]
theorem node_kind {op n : Int} {s : ByteArray} {con to : ConT} {k : List KindT} {names : List ByteArray} {len : Nat} (h : nodeT op n s con to k names len = true) : (sizeK (.mk k) 20000 1).isSome = true := by
  obtain ⟨_, _, _, _, _, _, h1, _⟩ := node_op h
  rcases Bool.or_eq_true _ _ ▸ h1 with h1 | h1
  · rw [Bool.and_eq_true] at h1
    exact h1.2
  · have : k = [] := List.eq_nil_of_length_eq_zero (of_decide_eq_true h1)
    rw [this]
    exact kValid_nil
theorem tequal_spec (a : TermT) : ∀ b, wfT a = true → wfT b = true → Spec Tryz.prog 103 [pp (encT a), pp (encT b)] [] (.bool (sameT a b)) [] := by
  revert a
  refine TermT.ind1 fun op n s con to k names l ih => ?_
  rintro ⟨op', n', s', con', to', k', names', l'⟩ hwa hwb
  rw [wfT, Bool.and_eq_true] at hwa hwb
  have hk := kEqual_spec (.mk k) (.mk k') (node_kind hwa.1) (node_kind hwb.1)
  have hn := EqualS names names'
  have hc := Equal_spec con con'
  have ht := Equal_spec to to'
  have hl : Spec Tryz.prog 184 [pp (.slice (l.map encT)), pp (.slice (l'.map encT)), pp (.fn 103 [])] [] (.bool (sameTs l l')) [] := by
    rw [← sameTs_eq]
    exact EqualFuncT encT l l' 103 [] sameT (fun e _ => encT_sz e) (fun e _ => encT_sz e) fun x hx y hy => ih x hx y (wfL_mem.1 hwa.2 x hx) (wfL_mem.1 hwb.2 y hy)
  generalize hres : sameT (.mk op n s con to k names l) (.mk op' n' s' con' to' k' names' l') = res
  rw [sameT] at hres
  simp only [encK_mk, encC_cells, ConT.cells] at hk hc ht
  clear ih hwa hwb
  generalize sameK (.mk k) (.mk k') = b1 at hk hres
  generalize eqL strEq names names' = b2 at hn hres
  generalize eqC con con' = b3 at hc hres
  generalize eqC to to' = b4 at ht hres
  generalize sameTs l l' = b5 at hl hres
  simp only [strEq] at hres
  refine Spec.walk (rv := [.tmp 4]) ann103 59 Tryz.func103 mixed rfl rfl (by kernel_rfl) rfl rfl fun hfit => ?_
  clear hfit
  simp only [go_sem, encT_mk]
  repeat' (first | (refine condK_intro (fun _ => ?_) (fun _ => ?_) <;> simp only [go_sem]) | (refine guardK_intro (fun _ => ?_) (fun _ => ?_) <;> simp only [go_sem]) | (refine aCall_intro hk ?_; simp only [go_sem]) | (refine aCall_intro hn ?_; simp only [go_sem]) | (refine aCall_intro hc ?_; simp only [go_sem]) | (refine aCall_intro ht ?_; simp only [go_sem]) | (refine aCall_intro hl ?_; simp only [go_sem]) | (refine ⟨by kernel_rfl, ?_⟩; simp only [go_sem]))
  all_goals (clear hk hn hc ht hl; subst hres; simp_all)
theorem tEqual_spec (a b : TermT) (ha : okT a) (hb : okT b) : Spec Tryz.prog 38 [pp (encT a), pp (encT b)] [] (.bool (validT a && (validT b && sameT a b))) [] := by
  have h1 := tValid_spec a ha
  have h2 := tValid_spec b hb
  cases hva : validT a with
  | false =>
    rw [hva] at h1
    refine Spec.walk (rv := [.tmp 4]) ann38 16 Tryz.func38 mixed rfl rfl (by kernel_rfl) rfl rfl fun hfit => ?_
    clear hfit
    simp only [go_sem, encT_sz]
    refine aCall_intro h1 ?_
    simp only [go_sem, encT_sz, Bool.false_and]
  | true =>
    cases hvb : validT b with
    | false =>
      rw [hva] at h1
      rw [hvb] at h2
      refine Spec.walk (rv := [.tmp 4]) ann38 16 Tryz.func38 mixed rfl rfl (by kernel_rfl) rfl rfl fun hfit => ?_
      clear hfit
      simp only [go_sem, encT_sz]
      refine aCall_intro h1 ?_
      simp only [go_sem, encT_sz]
      refine aCall_intro h2 ?_
      simp only [go_sem, encT_sz, Bool.false_and, Bool.true_and]
    | true =>
      rw [hva] at h1
      rw [hvb] at h2
      have h3 := tequal_spec a b (valid_wf hva).1 (valid_wf hvb).1
      refine Spec.walk (rv := [.tmp 4]) ann38 16 Tryz.func38 mixed rfl rfl (by kernel_rfl) rfl rfl fun hfit => ?_
      clear hfit
      simp only [go_sem, encT_sz]
      refine aCall_intro h1 ?_
      simp only [go_sem, encT_sz]
      refine aCall_intro h2 ?_
      simp only [go_sem, encT_sz]
      refine aCall_intro h3 ?_
      simp only [go_sem, encT_sz, Bool.true_and]
theorem tSize_spec (t : TermT) (h : okT t) : Spec Tryz.prog 42 [pp (encT t)] [] (.int .i64 (sizeT t)) [] := by
  have hM := measure_spec t h 20000 1 (by decide) (by decide) (by decide) (by decide)
  rw [sizeT]
  generalize measT t 20000 1 = r at hM
  obtain ⟨r1, r2⟩ := r
  refine Spec.walk (rv := [.tmp 2]) ann42 13 Tryz.func42 mixed rfl rfl (by kernel_rfl) rfl rfl fun hfit => ?_
  clear hfit
  simp only [go_sem, encT_sz]
  refine aCall_intro hM ?_
  cases r2
  · simp only [go_sem, Bool.false_eq_true, if_false]
  · simp only [go_sem, if_true]
theorem rtSize_spec (t : TermT) (h : okT t) (hv : validT t = true) : Spec Tryz.prog 43 [pp (encT t)] [] (.int .i64 (sizeT t)) [] := by
  have hC := rtcount_spec t h 20000 400 (by decide) (by decide) (by decide) (by decide)
  have hr := cntT_rng t 20000 400 h (by decide)
  rw [sizeT_cnt hv]
  generalize cntT t 20000 400 = r at hC hr
  have w1 : IntKind.i64.wrap (20000 - r) = 20000 - r := wrap_id (by omega) (by omega)
  refine Spec.walk (rv := [.tmp 2]) ann43 6 Tryz.func43 mixed rfl rfl (by kernel_rfl) rfl rfl fun hfit => ?_
  clear hfit
  simp only [go_sem, encT_sz]
  refine aCall_intro hC ?_
  simp only [go_sem, w1]

mutual
def valF : TermT → Bool
  | .mk op _ _ _ _ _ _ l => if op = 2 ∨ op = 3 ∨ op = 4 ∨ op = 6 ∨ op = 16 then true else if op = 10 ∨ op = 12 ∨ op = 14 ∨ op = 8 then valFs l else false
def valFs : List TermT → Bool
  | [] => true
  | x :: r => valF x && valFs r
end
theorem valFs_all : ∀ l, valFs l = l.all valF
  | [] => rfl
  | x :: r => by rw [valFs, List.all_cons, valFs_all r]
theorem val1_spec (t : TermT) (b : Bool) (h : Spec Tryz.prog 106 [pp (encT t)] [] (.bool b) []) : Spec Tryz.prog 185 [pp (encT t)] [] (.bool (!b)) [] := by
  refine Spec.walk (rv := [.tmp 2]) ann185 6 Tryz.func185 mixed rfl rfl (by kernel_rfl) rfl rfl fun hfit => ?_
  clear hfit
  simp only [go_sem, encT_sz]
  refine aCall_intro h ?_
  simp only [go_sem]
theorem tvalue_spec (t : TermT) : Spec Tryz.prog 106 [pp (encT t)] [] (.bool (valF t)) [] := by
  revert t
  refine TermT.ind1 fun op n s con to k names l ih => ?_
  have hA : Spec Tryz.prog 30 [pp (.slice (l.map encT)), pp (.fn 185 [])] [] (.bool (!valFs l)) [] := by
    have ha : (!valFs l) = (l.any fun x => !valF x) := by rw [valFs_all]; simp [List.all_eq_not_any_not]
    rw [ha]
    exact ContainsFuncT2 encT l 185 [] _ (fun e _ => encT_sz e) fun x hx => val1_spec x _ (ih x hx)
  generalize hres : valF (.mk op n s con to k names l) = res
  rw [valF] at hres
  generalize valFs l = b at hA hres
  clear ih
  refine Spec.walk (rv := [.tmp 2]) ann106 20 Tryz.func106 mixed rfl rfl (by kernel_rfl) rfl rfl fun hfit => ?_
  clear hfit
  simp only [go_sem, encT_mk]
  repeat' (first | (refine condK_intro (fun _ => ?_) (fun _ => ?_) <;> simp only [go_sem]) | (refine guardK_intro (fun _ => ?_) (fun _ => ?_) <;> simp only [go_sem]) | (refine aCall_intro hA ?_; simp only [go_sem]))
  all_goals (clear hA; subst hres; simp_all)
theorem tValue_spec (t : TermT) (h : okT t) : Spec Tryz.prog 40 [pp (encT t)] [] (.bool (validT t && valF t)) [] := by
  have h1 := tValid_spec t h
  have h2 := tvalue_spec t
  generalize validT t = b1 at h1
  generalize valF t = b2 at h2
  refine Spec.walk (rv := [.tmp 2]) ann40 9 Tryz.func40 mixed rfl rfl (by kernel_rfl) rfl rfl fun hfit => ?_
  clear hfit
  simp only [go_sem, encT_sz]
  refine aCall_intro h1 ?_
  cases b1
  · simp only [go_sem, encT_sz, Bool.false_and]
  · simp only [go_sem, encT_sz]
    refine aCall_intro h2 ?_
    simp only [go_sem, Bool.true_and]
theorem rform_spec (t : TermT) : okT t → Spec Tryz.prog 107 [pp (encT t)] [] (.bool (valF t)) [] := by
  revert t
  refine TermT.ind1 fun op n s con to k names l ih => ?_
  intro hok
  obtain ⟨o1, o2, o3, o4⟩ := okT_con hok
  generalize hres : valF (.mk op n s con to k names l) = res
  rw [valF] at hres
  by_cases h1 : op = 2 ∨ op = 3 ∨ op = 4 ∨ op = 6 ∨ op = 16
  · rw [if_pos h1] at hres
    subst hres
    refine Spec.walk (rv := [.tmp 2]) ann107 31 Tryz.func107 mixed rfl rfl (by kernel_rfl) rfl rfl fun hfit => ?_
    clear hfit ih
    rcases h1 with rfl | rfl | rfl | rfl | rfl <;> simp only [go_sem, encT_mk, Int.reduceBEq]
  · rw [if_neg h1] at hres
    by_cases h2 : op = 10 ∨ op = 12 ∨ op = 14 ∨ op = 8
    · rw [if_pos h2] at hres
      refine Spec.walk (rv := [.tmp 2]) ann107 31 Tryz.func107 mixed rfl rfl (by kernel_rfl) rfl rfl fun hfit => ?_
      clear hfit
      rcases h2 with rfl | rfl | rfl | rfl
      · simp only [go_sem, encT_mk, Int.reduceBEq]
        refine aLoop_list (α := TermT) (β := Nat) (fun rest b => ⟨[(3, ii b), (1, pp (.ep (encT (.mk 10 n s con to k names l)) 0))], [], []⟩)
          (fun rest b => ∃ pre, l = pre ++ rest ∧ b = pre.length ∧ valFs rest = res) ?_ ?_ l 0 _ ?_ ⟨[], rfl, rfl, hres⟩
        · rintro m ⟨pre, g1, g2, g3⟩ K
          simp only [List.append_nil] at g1
          subst g1
          rw [valFs] at g3
          subst g3
          simp only [go_sem, g2, lt_false (Int.le_refl _), List.length_map, encT_mk]
        · rintro x rest m ⟨pre, g1, g2, g3⟩ K hK
          have hx : (l.map encT)[m]? = some (encT x) := by simp [g1, g2]
          have hlt : (m : Int) < l.length := by rw [g1, g2]; simp; omega
          have hll : m < l.length := by rw [g1, g2]; simp
          have hm : x ∈ l := by simp [g1]
          have w4 : IntKind.i64.wrap ((m : Int) + 1) = ((m + 1 : Nat) : Int) := by rw [wrap_id (by omega) (by omega)]; simp
          have hI := ih x hm (okTs_mem.1 o4 x hm)
          rw [valFs] at g3
          cases hv : valF x with
          | false =>
            rw [hv, Bool.false_and] at g3
            rw [hv] at hI
            subst g3
            simp only [go_sem, decide_eq_true hlt, Int.toNat_natCast, Int.natCast_nonneg, hx, encT_sz, List.length_map, encT_mk]
            refine aCall_intro hI ?_
            simp only [go_sem]
          | true =>
            rw [hv, Bool.true_and] at g3
            rw [hv] at hI
            simp only [go_sem, decide_eq_true hlt, Int.toNat_natCast, Int.natCast_nonneg, hx, encT_sz, List.length_map, encT_mk]
            refine aCall_intro hI ?_
            simp only [go_sem, w4]
            refine hK (m + 1) _ ?_ ⟨pre ++ [x], by simp [g1], by simp [g2], g3⟩
            simp only [go_sem, encT_mk]
        · simp only [go_sem, Int.natCast_zero, encT_mk]
      · simp only [go_sem, encT_mk, Int.reduceBEq]
        refine aLoop_list (α := TermT) (β := Nat) (fun rest b => ⟨[(3, ii b), (1, pp (.ep (encT (.mk 12 n s con to k names l)) 0))], [], []⟩)
          (fun rest b => ∃ pre, l = pre ++ rest ∧ b = pre.length ∧ valFs rest = res) ?_ ?_ l 0 _ ?_ ⟨[], rfl, rfl, hres⟩
        · rintro m ⟨pre, g1, g2, g3⟩ K
          simp only [List.append_nil] at g1
          subst g1
          rw [valFs] at g3
          subst g3
          simp only [go_sem, g2, lt_false (Int.le_refl _), List.length_map, encT_mk]
        · rintro x rest m ⟨pre, g1, g2, g3⟩ K hK
          have hx : (l.map encT)[m]? = some (encT x) := by simp [g1, g2]
          have hlt : (m : Int) < l.length := by rw [g1, g2]; simp; omega
          have hll : m < l.length := by rw [g1, g2]; simp
          have hm : x ∈ l := by simp [g1]
          have w4 : IntKind.i64.wrap ((m : Int) + 1) = ((m + 1 : Nat) : Int) := by rw [wrap_id (by omega) (by omega)]; simp
          have hI := ih x hm (okTs_mem.1 o4 x hm)
          rw [valFs] at g3
          cases hv : valF x with
          | false =>
            rw [hv, Bool.false_and] at g3
            rw [hv] at hI
            subst g3
            simp only [go_sem, decide_eq_true hlt, Int.toNat_natCast, Int.natCast_nonneg, hx, encT_sz, List.length_map, encT_mk]
            refine aCall_intro hI ?_
            simp only [go_sem]
          | true =>
            rw [hv, Bool.true_and] at g3
            rw [hv] at hI
            simp only [go_sem, decide_eq_true hlt, Int.toNat_natCast, Int.natCast_nonneg, hx, encT_sz, List.length_map, encT_mk]
            refine aCall_intro hI ?_
            simp only [go_sem, w4]
            refine hK (m + 1) _ ?_ ⟨pre ++ [x], by simp [g1], by simp [g2], g3⟩
            simp only [go_sem, encT_mk]
        · simp only [go_sem, Int.natCast_zero, encT_mk]
      · simp only [go_sem, encT_mk, Int.reduceBEq]
        refine aLoop_list (α := TermT) (β := Nat) (fun rest b => ⟨[(3, ii b), (1, pp (.ep (encT (.mk 14 n s con to k names l)) 0))], [], []⟩)
          (fun rest b => ∃ pre, l = pre ++ rest ∧ b = pre.length ∧ valFs rest = res) ?_ ?_ l 0 _ ?_ ⟨[], rfl, rfl, hres⟩
        · rintro m ⟨pre, g1, g2, g3⟩ K
          simp only [List.append_nil] at g1
          subst g1
          rw [valFs] at g3
          subst g3
          simp only [go_sem, g2, lt_false (Int.le_refl _), List.length_map, encT_mk]
        · rintro x rest m ⟨pre, g1, g2, g3⟩ K hK
          have hx : (l.map encT)[m]? = some (encT x) := by simp [g1, g2]
          have hlt : (m : Int) < l.length := by rw [g1, g2]; simp; omega
          have hll : m < l.length := by rw [g1, g2]; simp
          have hm : x ∈ l := by simp [g1]
          have w4 : IntKind.i64.wrap ((m : Int) + 1) = ((m + 1 : Nat) : Int) := by rw [wrap_id (by omega) (by omega)]; simp
          have hI := ih x hm (okTs_mem.1 o4 x hm)
          rw [valFs] at g3
          cases hv : valF x with
          | false =>
            rw [hv, Bool.false_and] at g3
            rw [hv] at hI
            subst g3
            simp only [go_sem, decide_eq_true hlt, Int.toNat_natCast, Int.natCast_nonneg, hx, encT_sz, List.length_map, encT_mk]
            refine aCall_intro hI ?_
            simp only [go_sem]
          | true =>
            rw [hv, Bool.true_and] at g3
            rw [hv] at hI
            simp only [go_sem, decide_eq_true hlt, Int.toNat_natCast, Int.natCast_nonneg, hx, encT_sz, List.length_map, encT_mk]
            refine aCall_intro hI ?_
            simp only [go_sem, w4]
            refine hK (m + 1) _ ?_ ⟨pre ++ [x], by simp [g1], by simp [g2], g3⟩
            simp only [go_sem, encT_mk]
        · simp only [go_sem, Int.natCast_zero, encT_mk]
      · simp only [go_sem, encT_mk, Int.reduceBEq]
        refine aLoop_list (α := TermT) (β := Nat) (fun rest b => ⟨[(3, ii b), (1, pp (.ep (encT (.mk 8 n s con to k names l)) 0))], [], []⟩)
          (fun rest b => ∃ pre, l = pre ++ rest ∧ b = pre.length ∧ valFs rest = res) ?_ ?_ l 0 _ ?_ ⟨[], rfl, rfl, hres⟩
        · rintro m ⟨pre, g1, g2, g3⟩ K
          simp only [List.append_nil] at g1
          subst g1
          rw [valFs] at g3
          subst g3
          simp only [go_sem, g2, lt_false (Int.le_refl _), List.length_map, encT_mk]
        · rintro x rest m ⟨pre, g1, g2, g3⟩ K hK
          have hx : (l.map encT)[m]? = some (encT x) := by simp [g1, g2]
          have hlt : (m : Int) < l.length := by rw [g1, g2]; simp; omega
          have hll : m < l.length := by rw [g1, g2]; simp
          have hm : x ∈ l := by simp [g1]
          have w4 : IntKind.i64.wrap ((m : Int) + 1) = ((m + 1 : Nat) : Int) := by rw [wrap_id (by omega) (by omega)]; simp
          have hI := ih x hm (okTs_mem.1 o4 x hm)
          rw [valFs] at g3
          cases hv : valF x with
          | false =>
            rw [hv, Bool.false_and] at g3
            rw [hv] at hI
            subst g3
            simp only [go_sem, decide_eq_true hlt, Int.toNat_natCast, Int.natCast_nonneg, hx, encT_sz, List.length_map, encT_mk]
            refine aCall_intro hI ?_
            simp only [go_sem]
          | true =>
            rw [hv, Bool.true_and] at g3
            rw [hv] at hI
            simp only [go_sem, decide_eq_true hlt, Int.toNat_natCast, Int.natCast_nonneg, hx, encT_sz, List.length_map, encT_mk]
            refine aCall_intro hI ?_
            simp only [go_sem, w4]
            refine hK (m + 1) _ ?_ ⟨pre ++ [x], by simp [g1], by simp [g2], g3⟩
            simp only [go_sem, encT_mk]
        · simp only [go_sem, Int.natCast_zero, encT_mk]
    · rw [if_neg h2] at hres
      subst hres
      have f : ∀ m : Int, op ≠ m → (op == m) = false := fun m h => by simp [h]
      refine Spec.walk (rv := [.tmp 2]) ann107 31 Tryz.func107 mixed rfl rfl (by kernel_rfl) rfl rfl fun hfit => ?_
      clear hfit ih
      simp only [go_sem, encT_mk, f 2 (by omega), f 3 (by omega), f 4 (by omega), f 6 (by omega), f 16 (by omega), f 10 (by omega), f 12 (by omega), f 14 (by omega), f 8 (by omega)]
theorem rValue_spec (t : TermT) (h : okT t) : Spec Tryz.prog 41 [pp (encT t)] [] (.bool (validT t && valF t)) [] := by
  have h1 := rtValid_spec t h
  have h2 := rform_spec t h
  generalize validT t = b1 at h1
  generalize valF t = b2 at h2
  refine Spec.walk (rv := [.tmp 2]) ann41 9 Tryz.func41 mixed rfl rfl (by kernel_rfl) rfl rfl fun hfit => ?_
  clear hfit
  simp only [go_sem, encT_sz]
  refine aCall_intro h1 ?_
  cases b1
  · simp only [go_sem, encT_sz, Bool.false_and]
  · simp only [go_sem, encT_sz]
    refine aCall_intro h2 ?_
    simp only [go_sem, Bool.true_and]
end Go.Abs.Kon
