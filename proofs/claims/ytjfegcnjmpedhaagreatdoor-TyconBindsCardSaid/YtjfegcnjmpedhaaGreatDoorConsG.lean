/- The law TyconConsts, second half. -/
import Derived.Test.YtjfegcnjmpedhaaGreatDoorConsD
import Derived.Test.YtjfegcnjmpedhaaGreatDoorConsE
import Derived.Test.YtjfegcnjmpedhaaGreatDoorConsF
set_option linter.unusedSimpArgs false
set_option linter.unusedVariables false
namespace Go.Abs.Kon
open Go Go.Proofs Go.Abs
set_option maxRecDepth 100000
set_option maxHeartbeats 40000000

theorem lawC1_spec (s : ByteArray) : Spec Tryz.prog 8 [pp (.str s)] [] (.bool (longS s)) [] := by
  refine wk (rv := [.tmp 2]) ann8 6 Tryz.func8 ?_
  simp only [go_sem, longS]
def longX (x : CsT) : Bool := longS x.1 || decide (kindsF (.mk x.2) 300 1 ≥ 300)
theorem lawC2_spec (x : CsT) : Spec Tryz.prog 10 [pp (encX x)] [] (.bool (longX x)) [] := by
  have hK := kinds_spec (.mk x.2) 300 1 (by decide) (by decide) (by decide) (by decide)
  rw [encK_mk] at hK
  rw [longX]
  cases hl : longS x.1 with
  | true =>
    rw [longS] at hl
    refine wk (rv := [.tmp 2]) ann10 13 Tryz.func10 ?_
    simp only [go_sem, encX_eq, hl]
  | false =>
    rw [longS] at hl
    refine wk (rv := [.tmp 2]) ann10 13 Tryz.func10 ?_
    simp only [go_sem, encX_eq, hl]
    refine aCall_intro hK ?_
    simp only [go_sem]
theorem lawC3_spec (s : ByteArray) (hs : s.size ≤ 100000000) : Spec Tryz.prog 18 [pp (.str s)] [] (.bool (!constF s)) [] := by
  have hC := ConstName_spec s hs
  refine wk (rv := [.tmp 2]) ann18 6 Tryz.func18 ?_
  simp only [go_sem]
  refine aCall_intro hC ?_
  simp only [go_sem]

/-! Plain -/
theorem constC_validF (x : CsT) : validF (constC x) = (constF x.1 && validK x) := by
  cases hc : constF x.1 with
  | true =>
    cases hk : validK x with
    | true => exact constC_valid hc hk
    | false =>
      have hk' : (sizeK (.mk x.2) 20000 1).isSome = false := hk
      rw [validF, constC, formedF, nodeF, formedL]
      simp [hc, hk', isBinder, isLabelled, partsF, ascF]
  | false =>
    rw [validF, constC, formedF, nodeF, formedL]
    simp [hc, isBinder, isLabelled, partsF, ascF]
def badX (x : CsT) : Bool := !constF x.1 || !validF (constC x)
theorem badX_eq (x : CsT) : badX x = !(constF x.1 && validK x) := by
  rw [badX, constC_validF]
  cases constF x.1 <;> cases validK x <;> rfl
theorem unbind_bad {c : ConT} {l : List CsT} (h : (!validF c || l.any badX) = true) : unbindF c l = (zeroC, 1) := by
  rw [unbindF]
  by_cases h1 : validF c = false ∨ l.any (fun x => !validK x) = true
  · rw [if_pos h1]
  · rw [if_neg h1]
    have hv : validF c = true := by
      cases hq : validF c with
      | true => rfl
      | false => exact absurd (.inl hq) h1
    rw [hv, Bool.not_true, Bool.false_or, List.any_eq_true] at h
    obtain ⟨x, hx, hb⟩ := h
    have hk : validK x = true := by
      cases hq : validK x with
      | true => rfl
      | false => exact absurd (.inr ((List.any_eq_true (p := fun x => !validK x)).2 ⟨x, hx, by rw [hq]; rfl⟩)) h1
    rw [badX_eq, hk, Bool.and_true] at hb
    have hN : namesN (l.map (·.1)) = 1 := by
      rw [namesN, if_pos]
      exact List.any_eq_true.2 ⟨x.1, List.mem_map.2 ⟨x, hx, rfl⟩, hb⟩
    rw [hN, if_pos (by decide)]
theorem unbind_good {c : ConT} {l : List CsT} (h : (!validF c || l.any badX) = false) : validF c = true ∧ (∀ x ∈ l, constF x.1 = true ∧ validK x = true) ∧ unbindF c l = if l.length > 1000 then (zeroC, 5) else if twiceN (l.map (·.1)) = true then (zeroC, 9) else replF (unbindLeaf l) c := by
  rw [Bool.or_eq_false_iff] at h
  have hv : validF c = true := by simpa using h.1
  have hx : ∀ x ∈ l, constF x.1 = true ∧ validK x = true := fun x hx => by
    have := List.any_eq_false.1 h.2 x hx
    rw [badX_eq] at this
    simpa using this
  refine ⟨hv, hx, ?_⟩
  rw [unbindF, if_neg]
  · have hn : (l.map (·.1)).any (fun s => !constF s) = false := by
      rw [List.any_eq_false]
      intro s hs
      obtain ⟨x, hx', rfl⟩ := List.mem_map.1 hs
      simp [(hx x hx').1]
    have hN : namesN (l.map (·.1)) = if l.length > 1000 then 5 else if twiceN (l.map (·.1)) = true then 9 else 0 := by
      rw [namesN, hn, List.length_map]
      exact if_neg (by decide)
    rw [hN]
    split
    · rw [if_pos (by decide)]
    · split
      · rw [if_pos (by decide)]
      · rw [if_neg (by decide)]
  · rintro (h1 | h1)
    · rw [hv] at h1; cases h1
    · obtain ⟨x, hx', hk⟩ := List.any_eq_true.1 h1
      rw [(hx x hx').2] at hk; cases hk
theorem unbind_same {c : ConT} {l : List CsT} (hv : validF c = true) (hx : ∀ x ∈ l, constF x.1 = true ∧ validK x = true) : replF (unbindLeaf l) c = (rSubstF (l.reverse.map constC) c 0, 0) := by
  rw [replF_eq, if_pos (unbind_valid l hx c hv), unbind_eq l hx c (validF_formed hv)]

def seqTail : Nat → Code → Code
  | 0, c => c
  | n + 1, .seq _ y => seqTail n y
  | _ + 1, c => c
noncomputable def lawT2 : Code := seqTail 11 (Tryz.f3.body.getD .skip)
def annTC : Ann := ⟨ann3.imm, [9600154, 9500155, 9600218, 9500219], ann3.live, ann3.head⟩
@[go_sem] theorem annTC_imm : annTC.imm = ann3.imm := rfl
@[go_sem] theorem annTC_frz : annTC.frz = [9600154, 9500155, 9600218, 9500219] := rfl
@[go_sem] theorem annTC_live : annTC.live = ann3.live := rfl
@[go_sem] theorem annTC_head : annTC.head = ann3.head := rfl
theorem law_second (c : ConT) (l : List CsT) (hw : wtF c < 400) (ho : okS c) (hl : l.length ≤ 1010) (hs : ∀ x ∈ l, x.1.size ≤ 200) :
    AWp Tryz.prog annTC lawT2 (finK Tryz.prog [.tmp 6] (.bool true) []) ⟨[(17, pp (.bool (!validF c))), (16, .one .nilS), (12, ii (unbindF c l).2), (11, .one (.ptr (.loc 11) 0)), (2, pp (.slice (l.map encX))), (3, pp (.ep (encC c) 0))], [(.loc 11, ⟨.agg 6, .one (.pv (encC (unbindF c l).1))⟩)], []⟩ := by
  have hz : eqC zeroC zeroC = true := eqC_refl _
  have hNo := none_spec (unbindF c l).1
  have e11 : ((1 : Int) == 1) = true := rfl
  have e55 : ((5 : Int) == 5) = true := rfl
  have e99 : ((9 : Int) == 9) = true := rfl
  have e00 : ((0 : Int) == 0) = true := rfl
  show AWp Tryz.prog annTC (.seq (.seq _ (.block 2 (.loop _))) (.seq (.block 4 _) _)) _ _
  simp only [go_sem, List.length_map]
  refine aLoop_list (α := CsT) (β := List ByteArray × Bool × Nat) (fun rest b => ⟨[(171, ii b.2.2), (17, pp (.bool b.2.1)), (16, .one (acc 358 .one (b.1.map .str))), (169, pp (.slice (l.map encX))), (12, ii (unbindF c l).2), (11, .one (.ptr (.loc 11) 0)), (2, pp (.slice (l.map encX))), (3, pp (.ep (encC c) 0)), (170, ii l.length)], [(.loc 11, ⟨.agg 6, .one (.pv (encC (unbindF c l).1))⟩)], []⟩)
    (fun rest b => ∃ pre, l = pre ++ rest ∧ b.2.2 = pre.length ∧ b.1 = pre.map (·.1) ∧ b.2.1 = (!validF c || pre.any badX)) ?_ ?_ l ([], !validF c, 0) _ ?_ ⟨[], rfl, rfl, rfl, by simp⟩
  · rintro ⟨out, bad, m⟩ ⟨pre, g1, g2, g3, g4⟩ K
    simp only [List.append_nil] at g1 g2 g3 g4
    subst g1
    simp only [go_sem, g2, lt_false (Int.le_refl _)]
    cases hB : (!validF c || l.any badX) with
    | true =>
      rw [hB] at g4
      subst g4
      rw [unbind_bad hB] at hNo ⊢
      rw [hz] at hNo
      cases out <;> (
        simp only [go_sem, acc]
        refine aCall_intro hNo ?_
        simp only [go_sem, e11])
    | false =>
      rw [hB] at g4
      subst g4
      obtain ⟨hv, hx, hu⟩ := unbind_good hB
      by_cases h1000 : l.length > 1000
      · have d1 : decide ((l.length : Int) > 1000) = true := decide_eq_true (by omega)
        rw [hu, if_pos h1000] at hNo ⊢
        rw [hz] at hNo
        cases out <;> (
          simp only [go_sem, acc, List.length_map, d1]
          refine aCall_intro hNo ?_
          simp only [go_sem, e55])
      · have d1 : decide ((l.length : Int) > 1000) = false := decide_eq_false (by omega)
        rw [if_neg h1000] at hu
        have hV := Values_spec out
        have hle := compact_le out
        have hlo : out.length = l.length := by rw [g3, List.length_map]
        have ht : twiceN out = decide ((Lib.compact (sortN (bysN out))).length < out.length) := rfl
        rw [← g3] at hu
        have hR := rUnbind_spec c l (validF_formed hv) (by omega) (by omega) hx
        simp only [seqF, capN'] at hV
        cases out with
        | nil =>
          have hS := Sorted_0
          have hC := CompactS_0
          have ht0 : twiceN [] = false := by rw [twiceN]; simp
          rw [ht0, if_neg (by decide), unbind_same hv hx] at hu
          rw [hu] at hNo ⊢
          have hSm := rSame_spec (rSubstF (l.reverse.map constC) c 0) (rSubstF (l.reverse.map constC) c 0)
          rw [eqC_refl] at hSm
          have n0 : (((0 : Nat) : Int) != ((0 : Nat) : Int)) = false := rfl
          simp only [seqF, capN'] at hS
          simp only [go_sem, acc, List.length_map, d1]
          refine aCall_intro hV ?_
          simp only [go_sem, List.map_nil]
          refine .inr (aCall_intro hS ?_)
          simp only [go_sem]
          refine .inr (aCall_intro hC ?_)
          simp only [go_sem, List.length_nil, n0]
          refine aCall_intro hR ?_
          simp only [go_sem, encC_sz]
          refine aCall_intro hSm ?_
          simp only [go_sem, e00]
        | cons z zs =>
          have hS := Sorted_X (z :: zs) (by simp) (by simp at hlo ⊢; omega)
          have hC := CompactS_turn (sortN (bysN (z :: zs))) (by rw [sortN_length, bysN, List.length_map]; simp at hlo ⊢; omega)
          have hne : (((Lib.compact (sortN (bysN (z :: zs)))).length : Int) != ((zs.length + 1 : Nat) : Int)) = twiceN (z :: zs) := by
            rw [ht, Bool.eq_iff_iff, bne_iff_ne, decide_eq_true_iff]
            simp only [List.length_cons] at hle ⊢
            omega
          simp only [seqF, capN'] at hS
          generalize Lib.compact (sortN (bysN (z :: zs))) = cs at hC hne
          generalize sortN (bysN (z :: zs)) = so at hS hC
          simp only [List.map_cons] at hV hS
          cases htw : twiceN (z :: zs) with
          | true =>
            rw [htw, if_pos rfl] at hu
            rw [htw] at hne
            rw [hu] at hNo ⊢
            rw [hz] at hNo
            simp only [go_sem, acc, List.length_map, d1]
            refine aCall_intro hV ?_
            simp only [go_sem]
            refine .inl (aCallX_intro hS ?_)
            simp only [go_sem]
            refine .inl (aCallT_intro hC ?_)
            simp only [go_sem, List.length_map, hne]
            refine aCall_intro hNo ?_
            simp only [go_sem, e99]
          | false =>
            rw [htw, if_neg (by decide), unbind_same hv hx] at hu
            rw [htw] at hne
            rw [hu] at hNo ⊢
            have hSm := rSame_spec (rSubstF (l.reverse.map constC) c 0) (rSubstF (l.reverse.map constC) c 0)
            rw [eqC_refl] at hSm
            simp only [go_sem, acc, List.length_map, d1]
            refine aCall_intro hV ?_
            simp only [go_sem]
            refine .inl (aCallX_intro hS ?_)
            simp only [go_sem]
            refine .inl (aCallT_intro hC ?_)
            simp only [go_sem, List.length_map, hne]
            refine aCall_intro hR ?_
            simp only [go_sem, encC_sz]
            refine aCall_intro hSm ?_
            simp only [go_sem, e00]
  · rintro x rest ⟨out, bad, m⟩ ⟨pre, g1, g2, g3, g4⟩ K hK
    simp only at g2 g3 g4
    have hx : (l.map encX)[m]? = some (.agg [.str x.1, .slice (x.2.map encK)]) := by simp [g1, g2, encX]
    have hxm : x ∈ l := by simp [g1]
    have hlt : (m : Int) < l.length := by rw [g1, g2]; simp; omega
    have hll : l.length = m + (rest.length + 1) := by rw [g1, g2]; simp
    have hlo : out.length = m := by rw [g3, g2]; simp
    have w4 : IntKind.i64.wrap ((m : Int) + 1) = ((m + 1 : Nat) : Int) := by rw [wrap_id (by omega) (by omega)]; simp
    have hsz := hs x hxm
    have hCN := ConstName_spec x.1 (by omega)
    have hVa := rValid_spec (constC x) (okS_constC (by omega))
    simp only [constC, encC_mk, List.map_nil] at hVa
    have hcf : constF x.1 = true ∨ constF x.1 = false := by cases constF x.1 <;> simp
    have hvf : validF (constC x) = true ∨ validF (constC x) = false := by cases validF (constC x) <;> simp
    have hb0 : (bad || badX x) = (!validF c || (pre ++ [x]).any badX) := by rw [g4, List.any_append]; simp [Bool.or_assoc]
    have hK' : ∀ b' s', (bad || badX x) = b' → _ → K s' := fun b' s' hb' hs' => hK (out ++ [x.1], b', m + 1) s' hs' ⟨pre ++ [x], by simp [g1], by simp [g2], by simp [g3], by rw [← hb']; exact hb0⟩
    have hbx : badX x = (!constF x.1 || !validF (constC x)) := rfl
    simp only [constC] at hbx
    rw [hbx] at hK'
    clear hK hbx hb0
    generalize validF (.mk 2 0 x.1 x.2 [] []) = vf at hVa hK'
    generalize constF x.1 = cf at hCN hK'
    cases out with
    | nil =>
      simp only [go_sem, acc, decide_eq_true hlt, Int.toNat_natCast, Int.natCast_nonneg, hx, one_le_maxLen]
      cases bad with
      | true =>
        simp only [go_sem, w4]
        refine hK' true _ rfl ?_
        simp only [go_sem, acc, List.nil_append, List.map_cons, List.map_nil]
      | false =>
        simp only [go_sem]
        refine aCall_intro hCN ?_
        cases cf with
        | false =>
          simp only [go_sem, w4]
          refine hK' true _ rfl ?_
          simp only [go_sem, acc, List.nil_append, List.map_cons, List.map_nil]
        | true =>
          simp only [go_sem]
          refine aCall_intro hVa ?_
          cases vf with
          | true =>
            simp only [go_sem, w4]
            refine hK' false _ rfl ?_
            simp only [go_sem, acc, List.nil_append, List.map_cons, List.map_nil]
          | false =>
            simp only [go_sem, w4]
            refine hK' true _ rfl ?_
            simp only [go_sem, acc, List.nil_append, List.map_cons, List.map_nil]
    | cons z zs =>
      have hb1 : (zs.length + 1 + 1) * 16 ≤ 140737488355328 := by simp at hlo; omega
      have hb2 : zs.length + 1 + 1 ≤ maxLen := by rw [maxLen_eq]; simp at hlo; omega
      simp only [go_sem, acc, decide_eq_true hlt, Int.toNat_natCast, Int.natCast_nonneg, hx, List.length_map, hb1, hb2]
      cases bad with
      | true =>
        simp only [go_sem, w4]
        refine hK' true _ rfl ?_
        simp only [go_sem, acc, List.cons_append, List.map_append, List.map_cons, List.map_nil]
      | false =>
        simp only [go_sem]
        refine aCall_intro hCN ?_
        cases cf with
        | false =>
          simp only [go_sem, w4]
          refine hK' true _ rfl ?_
          simp only [go_sem, acc, List.cons_append, List.map_append, List.map_cons, List.map_nil]
        | true =>
          simp only [go_sem]
          refine aCall_intro hVa ?_
          cases vf with
          | true =>
            simp only [go_sem, w4]
            refine hK' false _ rfl ?_
            simp only [go_sem, acc, List.cons_append, List.map_append, List.map_cons, List.map_nil]
          | false =>
            simp only [go_sem, w4]
            refine hK' true _ rfl ?_
            simp only [go_sem, acc, List.cons_append, List.map_append, List.map_cons, List.map_nil]
  · simp only [go_sem, acc, List.map_nil, Int.natCast_zero]
end Go.Abs.Kon
