/- Contracts of functions: the reference's shifting and substituting; the parts of the laws. -/
import Derived.Test.YthbfnaaminlopaaGreatDoorVChecksLaw
set_option linter.unusedSimpArgs false
set_option linter.unusedVariables false
namespace Go.Abs.Kon
open Go Go.Proofs Go.Abs
set_option maxRecDepth 100000
set_option maxHeartbeats 4000000

def deepF (op depth : Int) : Int := if isBinder op then depth + 1 else depth
theorem deep_spec (op n : Int) (s : ByteArray) (k : List KindT) (names : List ByteArray) (l : List ConT) (depth : Int) (h1 : 0 ≤ depth) (h2 : depth ≤ 1000000) :
    Spec Tryz.prog 82 [pp (rawC op n s k names l), ii depth] [] (.int .i64 (deepF op depth)) [] := by
  have hB := rBinder_spec op
  have w1 : IntKind.i64.wrap (depth + 1) = depth + 1 := wrap_id (by omega) (by omega)
  rw [deepF]
  refine Spec.walk (rv := [.tmp 4]) ann82 11 Tryz.func82 mixed rfl rfl (by kernel_rfl) rfl rfl fun hfit => ?_
  clear hfit
  simp only [go_sem, reduceCtorEq, ↓reduceIte, Nat.reduceEqDiff, Nat.reduceAdd, Nat.reduceMul, Nat.reduceSub, Nat.reduceLeDiff, Nat.reduceBEq, Int.reduceToNat, Int.reduceLE, Int.reduceLT]
  refine aCall_intro hB ?_
  simp only [go_sem, reduceCtorEq, ↓reduceIte, Nat.reduceEqDiff, Nat.reduceAdd, Nat.reduceMul, Nat.reduceSub, Nat.reduceLeDiff, Nat.reduceBEq, Int.reduceToNat, Int.reduceLE, Int.reduceLT]
  refine condK_intro (fun hb => ?_) (fun hb => ?_)
  · simp only [go_sem, reduceCtorEq, ↓reduceIte, Nat.reduceEqDiff, Nat.reduceAdd, Nat.reduceMul, Nat.reduceSub, Nat.reduceLeDiff, Nat.reduceBEq, Int.reduceToNat, Int.reduceLE, Int.reduceLT, hb, w1]
  · simp only [go_sem, reduceCtorEq, ↓reduceIte, Nat.reduceEqDiff, Nat.reduceAdd, Nat.reduceMul, Nat.reduceSub, Nat.reduceLeDiff, Nat.reduceBEq, Int.reduceToNat, Int.reduceLE, Int.reduceLT, hb]
theorem inside_spec (op n : Int) (s : ByteArray) (k : List KindT) (names : List ByteArray) (l : List ConT) (es : List PV) :
    Spec Tryz.prog 83 [pp (rawC op n s k names l), pp (.slice es)] [] (.agg [.int .i64 op, .int .i64 n, .str s, .slice (k.map encK), .slice (names.map .str), .slice es]) [] := by
  refine Spec.walk (rv := [.cell 4 28]) ann83 17 Tryz.func83 mixed rfl rfl (by kernel_rfl) rfl rfl fun hfit => ?_
  clear hfit
  simp only [go_sem, reduceCtorEq, ↓reduceIte, Nat.reduceEqDiff, Nat.reduceAdd, Nat.reduceMul, Nat.reduceSub, Nat.reduceLeDiff, Nat.reduceBEq, Int.reduceToNat, Int.reduceLE, Int.reduceLT]

def capF (from' : Int) : Int := if 20001 < from' then 20001 else from'
mutual
def rShiftF : ConT → Int → Int → ConT
  | .mk op n s k names l, by', from' =>
    if op = 1 then (if n ≥ capF from' then varC (n + by') else .mk op n s k names l) else .mk op n s k names (rShiftL l by' (deepF op (capF from')))
def rShiftL : List ConT → Int → Int → List ConT
  | [], _, _ => []
  | x :: r, by', from' => rShiftF x by' from' :: rShiftL r by' from'
end

theorem rShift_spec (c : ConT) : ∀ by' from' : Int, -1000000 ≤ by' → by' ≤ 1000000 → 0 ≤ from' → formedF c = true → wtF c ≤ 1000000 →
    Spec Tryz.prog 81 [pp (encC c), ii by', ii from'] [] (encC (rShiftF c by' from')) [] := by
  revert c
  refine ConT.ind1 fun op n s k names l ih => ?_
  intro by' from' h1 h2 h3 h4 h5
  have hn := formed_n h4
  replace hn : 0 ≤ n ∧ n ≤ 20000 := hn
  have w1 : IntKind.i64.wrap (n + by') = n + by' := wrap_id (by omega) (by omega)
  have hm : (if (20001 : Int) < from' then (20001 : Int) else from') = capF from' := rfl
  have hc0 : 0 ≤ capF from' := by rw [capF]; split <;> omega
  have hc1 : capF from' ≤ 20001 := by rw [capF]; split <;> omega
  rw [wtF] at h5
  have hwl := wtL_len l
  refine Spec.walk (rv := [.cell 6 28]) ann81 47 Tryz.func81 mixed rfl rfl (by kernel_rfl) rfl rfl fun hfit => ?_
  clear hfit
  simp only [go_sem, reduceCtorEq, ↓reduceIte, Nat.reduceEqDiff, Nat.reduceAdd, Nat.reduceMul, Nat.reduceSub, Nat.reduceLeDiff, Nat.reduceBEq, Int.reduceToNat, Int.reduceLE, Int.reduceLT, encC_mk, hm]
  refine condK_intro (fun hb => ?_) (fun hb => ?_)
  · have hb' : op = 1 := eq_of_beq hb
    simp only [go_sem, reduceCtorEq, ↓reduceIte, Nat.reduceEqDiff, Nat.reduceAdd, Nat.reduceMul, Nat.reduceSub, Nat.reduceLeDiff, Nat.reduceBEq, Int.reduceToNat, Int.reduceLE, Int.reduceLT]
    refine condK_intro (fun hd => ?_) (fun hd => ?_)
    · have : rShiftF (.mk op n s k names l) by' from' = varC (n + by') := by rw [rShiftF, if_pos hb', if_pos (of_decide_eq_true hd)]
      rw [this]
      simp only [go_sem, reduceCtorEq, ↓reduceIte, Nat.reduceEqDiff, Nat.reduceAdd, Nat.reduceMul, Nat.reduceSub, Nat.reduceLeDiff, Nat.reduceBEq, Int.reduceToNat, Int.reduceLE, Int.reduceLT, w1, varC, encC_mk]
    · have : rShiftF (.mk op n s k names l) by' from' = .mk op n s k names l := by rw [rShiftF, if_pos hb', if_neg (of_decide_eq_false hd)]
      rw [this]
      simp only [go_sem, reduceCtorEq, ↓reduceIte, Nat.reduceEqDiff, Nat.reduceAdd, Nat.reduceMul, Nat.reduceSub, Nat.reduceLeDiff, Nat.reduceBEq, Int.reduceToNat, Int.reduceLE, Int.reduceLT, encC_mk]
  · have hb' : ¬ op = 1 := by simpa using hb
    have hr : rShiftF (.mk op n s k names l) by' from' = .mk op n s k names (rShiftL l by' (deepF op (capF from'))) := by rw [rShiftF, if_neg hb']
    rw [hr]
    have hD := deep_spec op n s k names l (capF from') hc0 (by omega)
    have hIn := fun es => inside_spec op n s k names l es
    have hfm : formedL l = true := by rw [formedF, Bool.and_eq_true] at h4; exact h4.2
    rw [formedL_all] at hfm
    have hdd : 0 ≤ deepF op (capF from') := by rw [deepF]; split <;> omega
    simp only [rawC] at hD hIn
    generalize deepF op (capF from') = dd at hD hdd ⊢
    generalize capF from' = cf at *
    simp only [go_sem, reduceCtorEq, ↓reduceIte, Nat.reduceEqDiff, Nat.reduceAdd, Nat.reduceMul, Nat.reduceSub, Nat.reduceLeDiff, Nat.reduceBEq, Int.reduceToNat, Int.reduceLE, Int.reduceLT]
    refine aLoop_list (α := ConT) (β := List ConT × Nat) (fun rest b => ⟨[(8, ii b.2), (2, ii cf), (3, pp (.ep (rawC op n s k names l) 0)), (1, ii by'), (7, .one (acc 86 (.agg 6) (b.1.map encC))), (6, .one (.ptr (.loc 6) 0))],
        [(.loc 6, ⟨.agg 6, .agg [.pv (.int .i64 0), .pv (.int .i64 0), .pv (.str ByteArray.empty), .nilS, .nilS, .nilS]⟩)], []⟩)
      (fun rest b => ∃ pre, l = pre ++ rest ∧ b.2 = pre.length ∧ b.1.length = pre.length ∧ rShiftL l by' dd = b.1 ++ rShiftL rest by' dd) ?_ ?_ l ([], 0) _ ?_ ⟨[], rfl, rfl, rfl, rfl⟩
    · rintro ⟨out, m⟩ ⟨pre, g1, g2, g3, g4⟩ K
      simp only [List.append_nil] at g1 g2 g3 g4
      subst g1
      simp only [rShiftL, List.append_nil] at g4
      rw [g4]
      simp only [go_sem, reduceCtorEq, ↓reduceIte, Nat.reduceEqDiff, Nat.reduceAdd, Nat.reduceMul, Nat.reduceSub, Nat.reduceLeDiff, Nat.reduceBEq, Int.reduceToNat, Int.reduceLE, Int.reduceLT, g2, List.length_map, lt_false (Int.le_refl _)]
      cases out with
      | nil =>
        simp only [go_sem, reduceCtorEq, ↓reduceIte, Nat.reduceEqDiff, Nat.reduceAdd, Nat.reduceMul, Nat.reduceSub, Nat.reduceLeDiff, Nat.reduceBEq, Int.reduceToNat, Int.reduceLE, Int.reduceLT, acc]
        refine aCall_intro (hIn []) ?_
        simp only [go_sem, reduceCtorEq, ↓reduceIte, Nat.reduceEqDiff, Nat.reduceAdd, Nat.reduceMul, Nat.reduceSub, Nat.reduceLeDiff, Nat.reduceBEq, Int.reduceToNat, Int.reduceLE, Int.reduceLT, encC_mk]
      | cons x r =>
        simp only [go_sem, reduceCtorEq, ↓reduceIte, Nat.reduceEqDiff, Nat.reduceAdd, Nat.reduceMul, Nat.reduceSub, Nat.reduceLeDiff, Nat.reduceBEq, Int.reduceToNat, Int.reduceLE, Int.reduceLT, acc]
        refine aCall_intro (hIn (encC x :: r.map encC)) ?_
        simp only [go_sem, reduceCtorEq, ↓reduceIte, Nat.reduceEqDiff, Nat.reduceAdd, Nat.reduceMul, Nat.reduceSub, Nat.reduceLeDiff, Nat.reduceBEq, Int.reduceToNat, Int.reduceLE, Int.reduceLT, encC_mk]
    · rintro x rest ⟨out, m⟩ ⟨pre, g1, g2, g3, g4⟩ K hK
      simp only at g2 g3 g4
      have hx : (l.map encC)[m]? = some (encC x) := by simp [g1, g2]
      have hlt : (m : Int) < l.length := by rw [g1, g2]; simp; omega
      have hll : l.length = m + (rest.length + 1) := by rw [g1, g2]; simp
      have hmm : x ∈ l := by simp [g1]
      have hw := wtF_mem hmm
      have hI := ih x hmm by' dd h1 h2 hdd (List.all_eq_true.1 hfm x hmm) (by omega)
      have w4 : IntKind.i64.wrap ((m : Int) + 1) = ((m + 1 : Nat) : Int) := by rw [wrap_id (by omega) (by omega)]; simp
      have hK' := fun s' hs => hK (out ++ [rShiftF x by' dd], m + 1) s' hs ⟨pre ++ [x], by simp [g1], by simp [g2], by simp [g3], by rw [g4, rShiftL]; simp⟩
      clear hK
      cases out with
      | nil =>
        simp only [go_sem, reduceCtorEq, ↓reduceIte, Nat.reduceEqDiff, Nat.reduceAdd, Nat.reduceMul, Nat.reduceSub, Nat.reduceLeDiff, Nat.reduceBEq, Int.reduceToNat, Int.reduceLE, Int.reduceLT, acc, List.length_map, decide_eq_true hlt, Int.toNat_natCast, Int.natCast_nonneg, hx, encC_sz]
        refine aCall_intro hD ?_
        simp only [go_sem, reduceCtorEq, ↓reduceIte, Nat.reduceEqDiff, Nat.reduceAdd, Nat.reduceMul, Nat.reduceSub, Nat.reduceLeDiff, Nat.reduceBEq, Int.reduceToNat, Int.reduceLE, Int.reduceLT, encC_sz]
        refine aCall_intro hI ?_
        simp only [go_sem, reduceCtorEq, ↓reduceIte, Nat.reduceEqDiff, Nat.reduceAdd, Nat.reduceMul, Nat.reduceSub, Nat.reduceLeDiff, Nat.reduceBEq, Int.reduceToNat, Int.reduceLE, Int.reduceLT, encC_sz, one_le_maxLen, w4]
        first
          | refine ⟨by kernel_rfl, hK' _ ?_⟩
          | refine hK' _ ?_
        simp only [go_sem, reduceCtorEq, ↓reduceIte, Nat.reduceEqDiff, Nat.reduceAdd, Nat.reduceMul, Nat.reduceSub, Nat.reduceLeDiff, Nat.reduceBEq, Int.reduceToNat, Int.reduceLE, Int.reduceLT, acc]
      | cons z zs =>
        have hb1 : (zs.length + 1 + 1) * 104 ≤ 140737488355328 := by simp at g3; omega
        have hb2 : zs.length + 1 + 1 ≤ maxLen := by rw [maxLen_eq]; simp at g3; omega
        simp only [go_sem, reduceCtorEq, ↓reduceIte, Nat.reduceEqDiff, Nat.reduceAdd, Nat.reduceMul, Nat.reduceSub, Nat.reduceLeDiff, Nat.reduceBEq, Int.reduceToNat, Int.reduceLE, Int.reduceLT, acc, List.length_map, decide_eq_true hlt, Int.toNat_natCast, Int.natCast_nonneg, hx, encC_sz]
        refine aCall_intro hD ?_
        simp only [go_sem, reduceCtorEq, ↓reduceIte, Nat.reduceEqDiff, Nat.reduceAdd, Nat.reduceMul, Nat.reduceSub, Nat.reduceLeDiff, Nat.reduceBEq, Int.reduceToNat, Int.reduceLE, Int.reduceLT, encC_sz]
        refine aCall_intro hI ?_
        simp only [go_sem, reduceCtorEq, ↓reduceIte, Nat.reduceEqDiff, Nat.reduceAdd, Nat.reduceMul, Nat.reduceSub, Nat.reduceLeDiff, Nat.reduceBEq, Int.reduceToNat, Int.reduceLE, Int.reduceLT, encC_sz, List.length_map, hb1, hb2, w4]
        first
          | refine ⟨by kernel_rfl, hK' _ ?_⟩
          | refine hK' _ ?_
        simp only [go_sem, reduceCtorEq, ↓reduceIte, Nat.reduceEqDiff, Nat.reduceAdd, Nat.reduceMul, Nat.reduceSub, Nat.reduceLeDiff, Nat.reduceBEq, Int.reduceToNat, Int.reduceLE, Int.reduceLT, acc, List.map_append]
    · simp only [go_sem, reduceCtorEq, ↓reduceIte, Nat.reduceEqDiff, Nat.reduceAdd, Nat.reduceMul, Nat.reduceSub, Nat.reduceLeDiff, Nat.reduceBEq, Int.reduceToNat, Int.reduceLE, Int.reduceLT, acc, Int.natCast_zero]
end Go.Abs.Kon

namespace Go.Abs.Kon
open Go Go.Proofs Go.Abs
set_option maxRecDepth 100000
set_option maxHeartbeats 4000000

mutual
def rSubstF (us : List ConT) : ConT → Int → ConT
  | .mk op n s k names l, depth =>
    if op = 1 then (if n < depth then .mk op n s k names l else if n - depth < us.length then rShiftF (us.getD (n - depth).toNat zeroC) depth 0 else varC (n - us.length)) else .mk op n s k names (rSubstL us l (deepF op depth))
def rSubstL (us : List ConT) : List ConT → Int → List ConT
  | [], _ => []
  | x :: r, depth => rSubstF us x depth :: rSubstL us r depth
end

theorem rSubst_spec (us : List ConT) (hus : ∀ x ∈ us, wtF x ≤ 1000000 ∧ formedF x = true) (hul : us.length ≤ 1000000) (c : ConT) : ∀ depth : Int, 0 ≤ depth → depth + depthF c ≤ 1000000 → formedF c = true → wtF c ≤ 1000000 →
    Spec Tryz.prog 52 [pp (encC c), pp (.slice (us.map encC)), ii depth] [] (encC (rSubstF us c depth)) [] := by
  revert c
  refine ConT.ind1 fun op n s k names l ih => ?_
  intro depth h1 h2 h4 h5
  have hn := formed_n h4
  replace hn : 0 ≤ n ∧ n ≤ 20000 := hn
  have w1 : IntKind.i64.wrap (n - depth) = n - depth := wrap_id (by omega) (by omega)
  have w2 : IntKind.i64.wrap (n - us.length) = n - us.length := wrap_id (by omega) (by omega)
  rw [wtF] at h5
  rw [depthF] at h2
  have hwl := wtL_len l
  refine Spec.walk (rv := [.cell 6 28]) ann52 62 Tryz.func52 mixed rfl rfl (by kernel_rfl) rfl rfl fun hfit => ?_
  clear hfit
  simp only [go_sem, reduceCtorEq, ↓reduceIte, Nat.reduceEqDiff, Nat.reduceAdd, Nat.reduceMul, Nat.reduceSub, Nat.reduceLeDiff, Nat.reduceBEq, Int.reduceToNat, Int.reduceLE, Int.reduceLT, encC_mk]
  refine condK_intro (fun hb => ?_) (fun hb => ?_)
  · have hb' : op = 1 := eq_of_beq hb
    simp only [go_sem, reduceCtorEq, ↓reduceIte, Nat.reduceEqDiff, Nat.reduceAdd, Nat.reduceMul, Nat.reduceSub, Nat.reduceLeDiff, Nat.reduceBEq, Int.reduceToNat, Int.reduceLE, Int.reduceLT]
    refine condK_intro (fun hd => ?_) (fun hd => ?_)
    · have : rSubstF us (.mk op n s k names l) depth = .mk op n s k names l := by rw [rSubstF, if_pos hb', if_pos (of_decide_eq_true hd)]
      rw [this]
      simp only [go_sem, reduceCtorEq, ↓reduceIte, Nat.reduceEqDiff, Nat.reduceAdd, Nat.reduceMul, Nat.reduceSub, Nat.reduceLeDiff, Nat.reduceBEq, Int.reduceToNat, Int.reduceLE, Int.reduceLT, encC_mk]
    · have hd' := of_decide_eq_false hd
      simp only [go_sem, reduceCtorEq, ↓reduceIte, Nat.reduceEqDiff, Nat.reduceAdd, Nat.reduceMul, Nat.reduceSub, Nat.reduceLeDiff, Nat.reduceBEq, Int.reduceToNat, Int.reduceLE, Int.reduceLT, w1, List.length_map]
      refine condK_intro (fun he => ?_) (fun he => ?_)
      · have he' := of_decide_eq_true he
        have : rSubstF us (.mk op n s k names l) depth = rShiftF (us.getD (n - depth).toNat zeroC) depth 0 := by rw [rSubstF, if_pos hb', if_neg hd', if_pos he']
        rw [this]
        obtain ⟨i, hi⟩ := Int.eq_ofNat_of_zero_le (show 0 ≤ n - depth by omega)
        have hlt : i < us.length := by omega
        have hx : (us.map encC)[i]? = some (encC us[i]) := by simp [hlt]
        rw [hi, Int.toNat_natCast, List.getD_eq_getElem?_getD, List.getElem?_eq_getElem hlt, Option.getD_some]
        obtain ⟨e1, e2⟩ := hus us[i] (List.getElem_mem _)
        have hS := rShift_spec us[i] depth 0 (by omega) (by omega) (by decide) e2 e1
        have w1' : IntKind.i64.wrap (i : Int) = i := wrap_id (by omega) (by omega)
        simp only [go_sem, reduceCtorEq, ↓reduceIte, Nat.reduceEqDiff, Nat.reduceAdd, Nat.reduceMul, Nat.reduceSub, Nat.reduceLeDiff, Nat.reduceBEq, Int.reduceToNat, Int.reduceLE, Int.reduceLT, hi, w1', Int.toNat_natCast, Int.natCast_nonneg, hx, encC_sz]
        refine aCall_intro hS ?_
        simp only [go_sem, reduceCtorEq, ↓reduceIte, Nat.reduceEqDiff, Nat.reduceAdd, Nat.reduceMul, Nat.reduceSub, Nat.reduceLeDiff, Nat.reduceBEq, Int.reduceToNat, Int.reduceLE, Int.reduceLT, encC_sz]
      · have he' := of_decide_eq_false he
        have : rSubstF us (.mk op n s k names l) depth = varC (n - us.length) := by rw [rSubstF, if_pos hb', if_neg hd', if_neg he']
        rw [this]
        simp only [go_sem, reduceCtorEq, ↓reduceIte, Nat.reduceEqDiff, Nat.reduceAdd, Nat.reduceMul, Nat.reduceSub, Nat.reduceLeDiff, Nat.reduceBEq, Int.reduceToNat, Int.reduceLE, Int.reduceLT, w2, List.length_map, varC, encC_mk]
  · have hb' : ¬ op = 1 := by simpa using hb
    have hr : rSubstF us (.mk op n s k names l) depth = .mk op n s k names (rSubstL us l (deepF op depth)) := by rw [rSubstF, if_neg hb']
    rw [hr]
    have hD := deep_spec op n s k names l depth h1 (by omega)
    have hIn := fun es => inside_spec op n s k names l es
    have hfm : formedL l = true := by rw [formedF, Bool.and_eq_true] at h4; exact h4.2
    rw [formedL_all] at hfm
    have hdd : 0 ≤ deepF op depth := by rw [deepF]; split <;> omega
    have hdd2 : deepF op depth + depthL l ≤ 1000000 := by rw [deepF]; split <;> omega
    simp only [rawC] at hD hIn
    generalize deepF op depth = dd at hD hdd hdd2 ⊢
    simp only [go_sem, reduceCtorEq, ↓reduceIte, Nat.reduceEqDiff, Nat.reduceAdd, Nat.reduceMul, Nat.reduceSub, Nat.reduceLeDiff, Nat.reduceBEq, Int.reduceToNat, Int.reduceLE, Int.reduceLT]
    refine aLoop_list (α := ConT) (β := List ConT × Nat) (fun rest b => ⟨[(8, ii b.2), (2, ii depth), (3, pp (.ep (rawC op n s k names l) 0)), (1, pp (.slice (us.map encC))), (7, .one (acc 116 (.agg 6) (b.1.map encC))), (6, .one (.ptr (.loc 6) 0))],
        [(.loc 6, ⟨.agg 6, .agg [.pv (.int .i64 0), .pv (.int .i64 0), .pv (.str ByteArray.empty), .nilS, .nilS, .nilS]⟩)], []⟩)
      (fun rest b => ∃ pre, l = pre ++ rest ∧ b.2 = pre.length ∧ b.1.length = pre.length ∧ rSubstL us l dd = b.1 ++ rSubstL us rest dd) ?_ ?_ l ([], 0) _ ?_ ⟨[], rfl, rfl, rfl, rfl⟩
    · rintro ⟨out, m⟩ ⟨pre, g1, g2, g3, g4⟩ K
      simp only [List.append_nil] at g1 g2 g3 g4
      subst g1
      simp only [rSubstL, List.append_nil] at g4
      rw [g4]
      simp only [go_sem, reduceCtorEq, ↓reduceIte, Nat.reduceEqDiff, Nat.reduceAdd, Nat.reduceMul, Nat.reduceSub, Nat.reduceLeDiff, Nat.reduceBEq, Int.reduceToNat, Int.reduceLE, Int.reduceLT, g2, List.length_map, lt_false (Int.le_refl _)]
      cases out with
      | nil =>
        simp only [go_sem, reduceCtorEq, ↓reduceIte, Nat.reduceEqDiff, Nat.reduceAdd, Nat.reduceMul, Nat.reduceSub, Nat.reduceLeDiff, Nat.reduceBEq, Int.reduceToNat, Int.reduceLE, Int.reduceLT, acc]
        refine aCall_intro (hIn []) ?_
        simp only [go_sem, reduceCtorEq, ↓reduceIte, Nat.reduceEqDiff, Nat.reduceAdd, Nat.reduceMul, Nat.reduceSub, Nat.reduceLeDiff, Nat.reduceBEq, Int.reduceToNat, Int.reduceLE, Int.reduceLT, encC_mk]
      | cons x r =>
        simp only [go_sem, reduceCtorEq, ↓reduceIte, Nat.reduceEqDiff, Nat.reduceAdd, Nat.reduceMul, Nat.reduceSub, Nat.reduceLeDiff, Nat.reduceBEq, Int.reduceToNat, Int.reduceLE, Int.reduceLT, acc]
        refine aCall_intro (hIn (encC x :: r.map encC)) ?_
        simp only [go_sem, reduceCtorEq, ↓reduceIte, Nat.reduceEqDiff, Nat.reduceAdd, Nat.reduceMul, Nat.reduceSub, Nat.reduceLeDiff, Nat.reduceBEq, Int.reduceToNat, Int.reduceLE, Int.reduceLT, encC_mk]
    · rintro x rest ⟨out, m⟩ ⟨pre, g1, g2, g3, g4⟩ K hK
      simp only at g2 g3 g4
      have hx : (l.map encC)[m]? = some (encC x) := by simp [g1, g2]
      have hlt : (m : Int) < l.length := by rw [g1, g2]; simp; omega
      have hll : l.length = m + (rest.length + 1) := by rw [g1, g2]; simp
      have hmm : x ∈ l := by simp [g1]
      have hw := wtF_mem hmm
      have hdm := depthF_mem hmm
      have hI := ih x hmm dd hdd (by omega) (List.all_eq_true.1 hfm x hmm) (by omega)
      have w4 : IntKind.i64.wrap ((m : Int) + 1) = ((m + 1 : Nat) : Int) := by rw [wrap_id (by omega) (by omega)]; simp
      have hK' := fun s' hs => hK (out ++ [rSubstF us x dd], m + 1) s' hs ⟨pre ++ [x], by simp [g1], by simp [g2], by simp [g3], by rw [g4, rSubstL]; simp⟩
      clear hK
      cases out with
      | nil =>
        simp only [go_sem, reduceCtorEq, ↓reduceIte, Nat.reduceEqDiff, Nat.reduceAdd, Nat.reduceMul, Nat.reduceSub, Nat.reduceLeDiff, Nat.reduceBEq, Int.reduceToNat, Int.reduceLE, Int.reduceLT, acc, List.length_map, decide_eq_true hlt, Int.toNat_natCast, Int.natCast_nonneg, hx, encC_sz]
        refine aCall_intro hD ?_
        simp only [go_sem, reduceCtorEq, ↓reduceIte, Nat.reduceEqDiff, Nat.reduceAdd, Nat.reduceMul, Nat.reduceSub, Nat.reduceLeDiff, Nat.reduceBEq, Int.reduceToNat, Int.reduceLE, Int.reduceLT, encC_sz]
        refine aCall_intro hI ?_
        simp only [go_sem, reduceCtorEq, ↓reduceIte, Nat.reduceEqDiff, Nat.reduceAdd, Nat.reduceMul, Nat.reduceSub, Nat.reduceLeDiff, Nat.reduceBEq, Int.reduceToNat, Int.reduceLE, Int.reduceLT, encC_sz, one_le_maxLen, w4]
        first
          | refine ⟨by kernel_rfl, hK' _ ?_⟩
          | refine hK' _ ?_
        simp only [go_sem, reduceCtorEq, ↓reduceIte, Nat.reduceEqDiff, Nat.reduceAdd, Nat.reduceMul, Nat.reduceSub, Nat.reduceLeDiff, Nat.reduceBEq, Int.reduceToNat, Int.reduceLE, Int.reduceLT, acc]
      | cons z zs =>
        have hb1 : (zs.length + 1 + 1) * 104 ≤ 140737488355328 := by simp at g3; omega
        have hb2 : zs.length + 1 + 1 ≤ maxLen := by rw [maxLen_eq]; simp at g3; omega
        simp only [go_sem, reduceCtorEq, ↓reduceIte, Nat.reduceEqDiff, Nat.reduceAdd, Nat.reduceMul, Nat.reduceSub, Nat.reduceLeDiff, Nat.reduceBEq, Int.reduceToNat, Int.reduceLE, Int.reduceLT, acc, List.length_map, decide_eq_true hlt, Int.toNat_natCast, Int.natCast_nonneg, hx, encC_sz]
        refine aCall_intro hD ?_
        simp only [go_sem, reduceCtorEq, ↓reduceIte, Nat.reduceEqDiff, Nat.reduceAdd, Nat.reduceMul, Nat.reduceSub, Nat.reduceLeDiff, Nat.reduceBEq, Int.reduceToNat, Int.reduceLE, Int.reduceLT, encC_sz]
        refine aCall_intro hI ?_
        simp only [go_sem, reduceCtorEq, ↓reduceIte, Nat.reduceEqDiff, Nat.reduceAdd, Nat.reduceMul, Nat.reduceSub, Nat.reduceLeDiff, Nat.reduceBEq, Int.reduceToNat, Int.reduceLE, Int.reduceLT, encC_sz, List.length_map, hb1, hb2, w4]
        first
          | refine ⟨by kernel_rfl, hK' _ ?_⟩
          | refine hK' _ ?_
        simp only [go_sem, reduceCtorEq, ↓reduceIte, Nat.reduceEqDiff, Nat.reduceAdd, Nat.reduceMul, Nat.reduceSub, Nat.reduceLeDiff, Nat.reduceBEq, Int.reduceToNat, Int.reduceLE, Int.reduceLT, acc, List.map_append]
    · simp only [go_sem, reduceCtorEq, ↓reduceIte, Nat.reduceEqDiff, Nat.reduceAdd, Nat.reduceMul, Nat.reduceSub, Nat.reduceLeDiff, Nat.reduceBEq, Int.reduceToNat, Int.reduceLE, Int.reduceLT, acc, Int.natCast_zero]

theorem rSubstTop_spec (us : List ConT) (hus : ∀ x ∈ us, wtF x ≤ 1000000 ∧ formedF x = true) (hul : us.length ≤ 1000000) (c : ConT) (h1 : formedF c = true) (h2 : wtF c ≤ 1000000) :
    Spec Tryz.prog 16 [pp (encC c), pp (.slice (us.map encC))] [] (encC (rSubstF us c 0)) [] := by
  have hS := rSubst_spec us hus hul c 0 (by decide) (by have := depthF_le c; have := sizeF_wt c; omega) h1 h2
  refine Spec.walk (rv := [.cell 4 28]) ann16 8 Tryz.func16 mixed rfl rfl (by kernel_rfl) rfl rfl fun hfit => ?_
  clear hfit
  simp only [go_sem, reduceCtorEq, ↓reduceIte, Nat.reduceEqDiff, Nat.reduceAdd, Nat.reduceMul, Nat.reduceSub, Nat.reduceLeDiff, Nat.reduceBEq, Int.reduceToNat, Int.reduceLE, Int.reduceLT, encC_sz]
  refine aCall_intro hS ?_
  simp only [go_sem, reduceCtorEq, ↓reduceIte, Nat.reduceEqDiff, Nat.reduceAdd, Nat.reduceMul, Nat.reduceSub, Nat.reduceLeDiff, Nat.reduceBEq, Int.reduceToNat, Int.reduceLE, Int.reduceLT, encC_sz]

/-! Parts of the laws -/

theorem none_spec (c : ConT) : Spec Tryz.prog 14 [pp (encC c)] [] (.bool (eqC c zeroC)) [] := by
  have hE := rSame_spec c zeroC
  rw [show encC zeroC = .agg [.int .i64 0, .int .i64 0, .str ByteArray.empty, .slice [], .slice [], .slice []] from rfl] at hE
  generalize eqC c zeroC = b at hE
  refine Spec.walk (rv := [.tmp 2]) ann14 6 Tryz.func14 mixed rfl rfl (by kernel_rfl) rfl rfl fun hfit => ?_
  clear hfit
  simp only [go_sem, reduceCtorEq, ↓reduceIte, Nat.reduceEqDiff, Nat.reduceAdd, Nat.reduceMul, Nat.reduceSub, Nat.reduceLeDiff, Nat.reduceBEq, Int.reduceToNat, Int.reduceLE, Int.reduceLT, encC_sz]
  refine aCall_intro hE ?_
  simp only [go_sem, reduceCtorEq, ↓reduceIte, Nat.reduceEqDiff, Nat.reduceAdd, Nat.reduceMul, Nat.reduceSub, Nat.reduceLeDiff, Nat.reduceBEq, Int.reduceToNat, Int.reduceLE, Int.reduceLT]
def answerF (c : ConT) (e : Int) (want : ConT) : Bool := if validF want then eqC c want && e == 0 else eqC c zeroC && e == 6
theorem answer_spec (c : ConT) (e : Int) (want : ConT) (h : okS want) : Spec Tryz.prog 15 [pp (encC c), ii e, pp (encC want)] [] (.bool (answerF c e want)) [] := by
  have hV := rValid_spec want h
  have hN := none_spec c
  have hE := rSame_spec c want
  generalize h0 : answerF c e want = res
  rw [answerF] at h0
  generalize eqC c zeroC = b1 at hN h0
  generalize eqC c want = b2 at hE h0
  refine Spec.walk (rv := [.tmp 6]) ann15 23 Tryz.func15 mixed rfl rfl (by kernel_rfl) rfl rfl fun hfit => ?_
  clear hfit
  simp only [go_sem, reduceCtorEq, ↓reduceIte, Nat.reduceEqDiff, Nat.reduceAdd, Nat.reduceMul, Nat.reduceSub, Nat.reduceLeDiff, Nat.reduceBEq, Int.reduceToNat, Int.reduceLE, Int.reduceLT, encC_sz]
  refine aCall_intro hV ?_
  simp only [go_sem, reduceCtorEq, ↓reduceIte, Nat.reduceEqDiff, Nat.reduceAdd, Nat.reduceMul, Nat.reduceSub, Nat.reduceLeDiff, Nat.reduceBEq, Int.reduceToNat, Int.reduceLE, Int.reduceLT, encC_sz]
  refine condK_intro (fun hb => ?_) (fun hb => ?_)
  · have hb' : validF want = false := by simpa using hb
    rw [hb'] at h0
    simp only [Bool.false_eq_true, if_false] at h0
    simp only [go_sem, reduceCtorEq, ↓reduceIte, Nat.reduceEqDiff, Nat.reduceAdd, Nat.reduceMul, Nat.reduceSub, Nat.reduceLeDiff, Nat.reduceBEq, Int.reduceToNat, Int.reduceLE, Int.reduceLT, encC_sz]
    refine aCall_intro hN ?_
    cases b1
    · simp only [go_sem, reduceCtorEq, ↓reduceIte, Nat.reduceEqDiff, Nat.reduceAdd, Nat.reduceMul, Nat.reduceSub, Nat.reduceLeDiff, Nat.reduceBEq, Int.reduceToNat, Int.reduceLE, Int.reduceLT]
      rw [← h0]; rfl
    · simp only [go_sem, reduceCtorEq, ↓reduceIte, Nat.reduceEqDiff, Nat.reduceAdd, Nat.reduceMul, Nat.reduceSub, Nat.reduceLeDiff, Nat.reduceBEq, Int.reduceToNat, Int.reduceLE, Int.reduceLT]
      rw [← h0, Bool.true_and]
  · have hb' : validF want = true := by simpa using hb
    rw [hb'] at h0
    simp only [if_true] at h0
    simp only [go_sem, reduceCtorEq, ↓reduceIte, Nat.reduceEqDiff, Nat.reduceAdd, Nat.reduceMul, Nat.reduceSub, Nat.reduceLeDiff, Nat.reduceBEq, Int.reduceToNat, Int.reduceLE, Int.reduceLT, encC_sz]
    refine aCall_intro hE ?_
    cases b2
    · simp only [go_sem, reduceCtorEq, ↓reduceIte, Nat.reduceEqDiff, Nat.reduceAdd, Nat.reduceMul, Nat.reduceSub, Nat.reduceLeDiff, Nat.reduceBEq, Int.reduceToNat, Int.reduceLE, Int.reduceLT]
      rw [← h0]; rfl
    · simp only [go_sem, reduceCtorEq, ↓reduceIte, Nat.reduceEqDiff, Nat.reduceAdd, Nat.reduceMul, Nat.reduceSub, Nat.reduceLeDiff, Nat.reduceBEq, Int.reduceToNat, Int.reduceLE, Int.reduceLT]
      rw [← h0, Bool.true_and]

def heavyN : List ConT → Int → Int
  | [], n => n
  | x :: r, n => heavyN r (if nodesF x 4400 1 > n then nodesF x 4400 1 else n)
theorem heavyN_le : ∀ (l : List ConT) (n : Int), 1 ≤ n → n ≤ 4400 → 1 ≤ heavyN l n ∧ heavyN l n ≤ 4400
  | [], n, h, h' => ⟨h, h'⟩
  | x :: r, n, h, h' => by
    have := nodesF_le x 4400 1 (by decide)
    rw [heavyN]
    apply heavyN_le r <;> split <;> omega
theorem heavy_spec (c : ConT) (l : List ConT) : Spec Tryz.prog 10 [pp (encC c), pp (.slice (l.map encC))] [] (.bool (decide (heavyN l 1 * nodesF c 4400 1 > 20000))) [] := by
  have hC := nodes_spec c 4400 1 (by decide) (by decide) (by decide) (by decide)
  have hcb := nodesF_le c 4400 1 (by decide)
  have hnb := heavyN_le l 1 (by decide) (by decide)
  generalize nodesF c 4400 1 = nc at hC hcb
  generalize hres : heavyN l 1 = res at hnb
  have w1 : IntKind.i64.wrap (res * nc) = res * nc := by
    have h1 : res * nc ≤ 4400 * 4400 := Int.mul_le_mul hnb.2 hcb.2 hcb.1 (by decide)
    have h2 : 0 ≤ res * nc := Int.mul_nonneg (by omega) hcb.1
    exact wrap_id (by omega) (by omega)
  refine Spec.walk (rv := [.tmp 4]) ann10 24 Tryz.func10 mixed rfl rfl (by kernel_rfl) rfl rfl fun hfit => ?_
  have hlen : l.length ≤ 9223372036854775807 := by
    simp only [argsFit, SV.pv?, SC.pv?, PV.fit, maxLen_eq, List.length_map] at hfit
    exact hfit.2.1.1
  clear hfit
  simp only [go_sem, reduceCtorEq, ↓reduceIte, Nat.reduceEqDiff, Nat.reduceAdd, Nat.reduceMul, Nat.reduceSub, Nat.reduceLeDiff, Nat.reduceBEq, Int.reduceToNat, Int.reduceLE, Int.reduceLT, encC_sz, List.length_map]
  refine aLoop_list (α := ConT) (β := Nat × Int) (fun rest b => ⟨[(10, ii b.1), (5, ii b.2), (8, pp (.slice (l.map encC))), (2, pp (.ep (encC c) 0)), (9, ii l.length)], [], []⟩)
    (fun rest b => ∃ pre, l = pre ++ rest ∧ b.1 = pre.length ∧ heavyN rest b.2 = res) ?_ ?_ l (0, 1) _ ?_ ⟨[], rfl, rfl, hres⟩
  · rintro ⟨m, n⟩ ⟨pre, g1, g2, g3⟩ K
    simp only [List.append_nil] at g1 g2 g3
    subst g1
    simp only [heavyN] at g3
    subst g3
    simp only [go_sem, reduceCtorEq, ↓reduceIte, Nat.reduceEqDiff, Nat.reduceAdd, Nat.reduceMul, Nat.reduceSub, Nat.reduceLeDiff, Nat.reduceBEq, Int.reduceToNat, Int.reduceLE, Int.reduceLT, g2, lt_false (Int.le_refl _), encC_sz]
    refine aCall_intro hC ?_
    simp only [go_sem, reduceCtorEq, ↓reduceIte, Nat.reduceEqDiff, Nat.reduceAdd, Nat.reduceMul, Nat.reduceSub, Nat.reduceLeDiff, Nat.reduceBEq, Int.reduceToNat, Int.reduceLE, Int.reduceLT, w1]
  · rintro x rest ⟨m, n⟩ ⟨pre, g1, g2, g3⟩ K hK
    simp only at g2 g3
    have hx : (l.map encC)[m]? = some (encC x) := by simp [g1, g2]
    have hlt : (m : Int) < l.length := by rw [g1, g2]; simp; omega
    have hll : l.length = m + (rest.length + 1) := by rw [g1, g2]; simp
    have hX := nodes_spec x 4400 1 (by decide) (by decide) (by decide) (by decide)
    have w4 : IntKind.i64.wrap ((m : Int) + 1) = ((m + 1 : Nat) : Int) := by rw [wrap_id (by omega) (by omega)]; simp
    simp only [go_sem, reduceCtorEq, ↓reduceIte, Nat.reduceEqDiff, Nat.reduceAdd, Nat.reduceMul, Nat.reduceSub, Nat.reduceLeDiff, Nat.reduceBEq, Int.reduceToNat, Int.reduceLE, Int.reduceLT, decide_eq_true hlt, Int.toNat_natCast, Int.natCast_nonneg, hx, encC_sz]
    refine aCall_intro hX ?_
    simp only [go_sem, reduceCtorEq, ↓reduceIte, Nat.reduceEqDiff, Nat.reduceAdd, Nat.reduceMul, Nat.reduceSub, Nat.reduceLeDiff, Nat.reduceBEq, Int.reduceToNat, Int.reduceLE, Int.reduceLT, w4]
    refine hK (m + 1, if nodesF x 4400 1 > n then nodesF x 4400 1 else n) _ ?_ ⟨pre ++ [x], by simp [g1], by simp [g2], g3⟩
    simp only [go_sem, reduceCtorEq, ↓reduceIte, Nat.reduceEqDiff, Nat.reduceAdd, Nat.reduceMul, Nat.reduceSub, Nat.reduceLeDiff, Nat.reduceBEq, Int.reduceToNat, Int.reduceLE, Int.reduceLT]
  · simp only [go_sem, reduceCtorEq, ↓reduceIte, Nat.reduceEqDiff, Nat.reduceAdd, Nat.reduceMul, Nat.reduceSub, Nat.reduceLeDiff, Nat.reduceBEq, Int.reduceToNat, Int.reduceLE, Int.reduceLT, Int.natCast_zero]
end Go.Abs.Kon
