/- The program's spines, applications, and tuples. -/
import Derived.Test.YthbfnaaminlopaaGreatDoorVBuildsB
import Derived.Test.YthbfnaaminlopaaGreatDoorVBuildsA
import Derived.WalkKit
import Derived.Handy
set_option linter.unusedSimpArgs false
set_option linter.unusedVariables false
namespace Go.Abs.Kon
open Go Go.Proofs Go.Abs
set_option maxRecDepth 100000
set_option maxHeartbeats 4000000

theorem valid_app {n : Int} {s : ByteArray} {k : List KindT} {names : List ByteArray} {f a : ConT} (h : validF (.mk 12 n s k names [f, a]) = true) : validF f = true ∧ validF a = true ∧ sizeF f < sizeF (.mk 12 n s k names [f, a]) := by
  rw [validF, sizeF, sizeL, sizeL, sizeL, depthF, depthL, depthL, depthL, formedF, formedL, formedL, formedL] at h
  simp only [Bool.and_eq_true, decide_eq_true_eq] at h
  obtain ⟨h1, h2, h3, h4, h5, _⟩ := h
  have hp := sizeF_pos a
  rw [validF, validF, sizeF, sizeL, sizeL, sizeL]
  simp only [Bool.and_eq_true, decide_eq_true_eq]
  exact ⟨⟨by omega, by omega, h4⟩, ⟨by omega, by omega, h5⟩, by omega⟩

def accx (t : Nat) (k : Sz) : List PV → SC
  | [] => .nilS
  | e :: es => .ex t k (e :: es)

def ann26' : Ann := ⟨[], [1000020, 2000007], [(8, [2, 3, 4]), (7, [2, 5, 1]), (6, [1, 5, 2]), (5, [1, 5, 2]), (4, [1, 2, 5, 12]), (3, [1, 5, 2]), (2, [2, 3, 4]), (1, [2, 1, 8]), (0, [2, 1])], [(4, [1, 5, 2])]⟩
@[go_sem] theorem ann26'_imm : ann26'.imm = [] := rfl
@[go_sem] theorem ann26'_frz : ann26'.frz = [1000020, 2000007] := rfl
@[go_sem] theorem ann26'_live : ann26'.live = [(8, [2, 3, 4]), (7, [2, 5, 1]), (6, [1, 5, 2]), (5, [1, 5, 2]), (4, [1, 2, 5, 12]), (3, [1, 5, 2]), (2, [2, 3, 4]), (1, [2, 1, 8]), (0, [2, 1])] := rfl
@[go_sem] theorem ann26'_head : ann26'.head = [(4, [1, 5, 2])] := rfl

def spineR (c : ConT) : PV := if validF c = true then .tuple [encC (spineF c).1, .slice ((spineF c).2.map encC), .int .i64 0] else .tuple [encC zeroC, .slice [], .int .i64 1]

theorem Spine_spec (c : ConT) (h1 : wtF c ≤ 100000) (h2 : okS c) : Spec Tryz.prog 26 [pp (encC c)] [] (spineR c) [] := by
  have hsc := sizeF_wt c
  have hV := Valid_spec c (by omega) h2
  rw [spineR]
  refine Spec.walk (rv := [.cell 2 28, .tmp 3, .tmp 4]) ann26' 30 Tryz.func26 mixed rfl rfl (by kernel_rfl) rfl rfl fun hfit => ?_
  clear hfit
  simp only [go_sem, reduceCtorEq, ↓reduceIte, Nat.reduceEqDiff, Nat.reduceAdd, Nat.reduceMul, Nat.reduceSub, Nat.reduceLeDiff, Nat.reduceBEq, Int.reduceToNat, Int.reduceLE, Int.reduceLT, encC_sz]
  refine aCall_intro hV ?_
  cases hv : validF c with
  | false =>
    simp only [go_sem, reduceCtorEq, ↓reduceIte, Nat.reduceEqDiff, Nat.reduceAdd, Nat.reduceMul, Nat.reduceSub, Nat.reduceLeDiff, Nat.reduceBEq, Int.reduceToNat, Int.reduceLE, Int.reduceLT, zeroC, encC_mk]
  | true =>
    simp only [go_sem, reduceCtorEq, ↓reduceIte, Nat.reduceEqDiff, Nat.reduceAdd, Nat.reduceMul, Nat.reduceSub, Nat.reduceLeDiff, Nat.reduceBEq, Int.reduceToNat, Int.reduceLE, Int.reduceLT, encC_sz]
    refine aLoop_meas (β := ConT × List ConT) (fun b => ⟨[(1, .one (.ptr (.loc 1) 0)), (5, .one (accx 40 (.agg 6) (b.2.map encC))), (2, .one (.ptr (.loc 2) 0))],
      [(.loc 1, ⟨.agg 6, pp (encC b.1)⟩), (.loc 2, ⟨.agg 6, .agg [.pv (.int .i64 0), .pv (.int .i64 0), .pv (.str ByteArray.empty), .nilS, .nilS, .nilS]⟩)], []⟩)
      (fun b => validF b.1 = true ∧ wtF b.1 ≤ wtF c ∧ (spineF c).1 = (spineF b.1).1 ∧ (spineF c).2 = (spineF b.1).2 ++ b.2.reverse ∧ b.2.length + sizeF b.1 ≤ sizeF c) (fun b => sizeF b.1) ?_ (c, []) _ ?_ ⟨hv, Nat.le_refl _, rfl, by simp, by simp⟩
    · rintro ⟨⟨op, n, s, k, names, l⟩, out⟩ ⟨g1, g2, g3, g4, g5⟩ K hK
      simp only at g1 g2 g3 g4 g5 hK
      have hf := validF_formed g1
      simp only [go_sem, reduceCtorEq, ↓reduceIte, Nat.reduceEqDiff, Nat.reduceAdd, Nat.reduceMul, Nat.reduceSub, Nat.reduceLeDiff, Nat.reduceBEq, Int.reduceToNat, Int.reduceLE, Int.reduceLT, encC_mk]
      refine condK_intro (fun hb => ?_) (fun hb => ?_)
      · have hop : op = 12 := eq_of_beq hb
        subst hop
        obtain ⟨f, a, rfl⟩ := app_parts hf
        obtain ⟨v1, v2, v3⟩ := valid_app g1
        have hw := g2
        rw [wtF, wtL, wtL, wtL] at hw
        have hC := copied_spec a (by omega) v2
        rw [spineF_app] at g3 g4
        have hK' := fun s' hs => hK (f, out ++ [a]) s' hs ⟨v1, show wtF f ≤ wtF c by omega, g3, by rw [g4]; simp, by simp; omega⟩ v3
        clear hK g3 g4
        have hb1 : (out.length + 1) * 104 ≤ 140737488355328 := by omega
        have hb2 : out.length + 1 ≤ maxLen := by rw [maxLen_eq]; omega
        cases out with
        | nil =>
          simp only [go_sem, reduceCtorEq, ↓reduceIte, Nat.reduceEqDiff, Nat.reduceAdd, Nat.reduceMul, Nat.reduceSub, Nat.reduceLeDiff, Nat.reduceBEq, Int.reduceToNat, Int.reduceLE, Int.reduceLT, encC_sz, accx]
          refine aCall_intro hC ?_
          simp only [go_sem, reduceCtorEq, ↓reduceIte, Nat.reduceEqDiff, Nat.reduceAdd, Nat.reduceMul, Nat.reduceSub, Nat.reduceLeDiff, Nat.reduceBEq, Int.reduceToNat, Int.reduceLE, Int.reduceLT, encC_sz, one_le_maxLen, List.isEmpty_cons]
          refine hK' _ ?_
          simp only [go_sem, reduceCtorEq, ↓reduceIte, Nat.reduceEqDiff, Nat.reduceAdd, Nat.reduceMul, Nat.reduceSub, Nat.reduceLeDiff, Nat.reduceBEq, Int.reduceToNat, Int.reduceLE, Int.reduceLT, accx]
        | cons o out =>
          simp only [List.length_cons] at hb1 hb2
          simp only [go_sem, reduceCtorEq, ↓reduceIte, Nat.reduceEqDiff, Nat.reduceAdd, Nat.reduceMul, Nat.reduceSub, Nat.reduceLeDiff, Nat.reduceBEq, Int.reduceToNat, Int.reduceLE, Int.reduceLT, encC_sz, accx]
          refine aCall_intro hC ?_
          simp only [go_sem, reduceCtorEq, ↓reduceIte, Nat.reduceEqDiff, Nat.reduceAdd, Nat.reduceMul, Nat.reduceSub, Nat.reduceLeDiff, Nat.reduceBEq, Int.reduceToNat, Int.reduceLE, Int.reduceLT, encC_sz, hb1, hb2, List.isEmpty_cons, List.length_map]
          refine hK' _ ?_
          simp only [go_sem, reduceCtorEq, ↓reduceIte, Nat.reduceEqDiff, Nat.reduceAdd, Nat.reduceMul, Nat.reduceSub, Nat.reduceLeDiff, Nat.reduceBEq, Int.reduceToNat, Int.reduceLE, Int.reduceLT, accx, List.map_append]
      · have hop : ¬ op = 12 := by simpa using hb
        have hC := copied_spec (.mk op n s k names l) (by omega) g1
        rw [spineF_not (c := .mk op n s k names l) hop] at g3 g4
        simp only [List.nil_append] at g3 g4
        rw [g3, g4, List.map_reverse]
        clear hK g3 g4
        rw [encC_mk] at hC ⊢
        cases out with
        | nil =>
          simp only [go_sem, reduceCtorEq, ↓reduceIte, Nat.reduceEqDiff, Nat.reduceAdd, Nat.reduceMul, Nat.reduceSub, Nat.reduceLeDiff, Nat.reduceBEq, Int.reduceToNat, Int.reduceLE, Int.reduceLT, accx]
          refine aFlipOr_ops ?_
          simp only [go_sem, reduceCtorEq, ↓reduceIte, Nat.reduceEqDiff, Nat.reduceAdd, Nat.reduceMul, Nat.reduceSub, Nat.reduceLeDiff, Nat.reduceBEq, Int.reduceToNat, Int.reduceLE, Int.reduceLT]
          refine aCall_intro Reverse_nil ?_
          simp only [go_sem, reduceCtorEq, ↓reduceIte, Nat.reduceEqDiff, Nat.reduceAdd, Nat.reduceMul, Nat.reduceSub, Nat.reduceLeDiff, Nat.reduceBEq, Int.reduceToNat, Int.reduceLE, Int.reduceLT]
          refine aCall_intro hC ?_
          simp only [go_sem, reduceCtorEq, ↓reduceIte, Nat.reduceEqDiff, Nat.reduceAdd, Nat.reduceMul, Nat.reduceSub, Nat.reduceLeDiff, Nat.reduceBEq, Int.reduceToNat, Int.reduceLE, Int.reduceLT, List.reverse_nil]
        | cons o out =>
          simp only [go_sem, reduceCtorEq, ↓reduceIte, Nat.reduceEqDiff, Nat.reduceAdd, Nat.reduceMul, Nat.reduceSub, Nat.reduceLeDiff, Nat.reduceBEq, Int.reduceToNat, Int.reduceLE, Int.reduceLT, accx]
          refine aFlipOr_flip rfl ⟨rfl, rfl, rfl⟩ ⟨rfl, rfl, rfl⟩ rfl (Reverse_inplace _) ?_
          simp only [go_sem, reduceCtorEq, ↓reduceIte, Nat.reduceEqDiff, Nat.reduceAdd, Nat.reduceMul, Nat.reduceSub, Nat.reduceLeDiff, Nat.reduceBEq, Int.reduceToNat, Int.reduceLE, Int.reduceLT, AS.flip, flipT, flipB, flipSV, flipSC]
          refine aCall_intro hC ?_
          simp only [go_sem, reduceCtorEq, ↓reduceIte, Nat.reduceEqDiff, Nat.reduceAdd, Nat.reduceMul, Nat.reduceSub, Nat.reduceLeDiff, Nat.reduceBEq, Int.reduceToNat, Int.reduceLE, Int.reduceLT]
    · simp only [go_sem, reduceCtorEq, ↓reduceIte, Nat.reduceEqDiff, Nat.reduceAdd, Nat.reduceMul, Nat.reduceSub, Nat.reduceLeDiff, Nat.reduceBEq, Int.reduceToNat, Int.reduceLE, Int.reduceLT, accx]
end Go.Abs.Kon

namespace Go.Abs.Kon
open Go Go.Proofs Go.Abs
set_option maxRecDepth 100000
set_option maxHeartbeats 4000000

def sumS : List ConT → Nat
  | [] => 0
  | x :: r => sizeF x + sumS r
theorem size_apps : ∀ (l : List ConT) (f : ConT), sizeF (l.foldl appC f) = sizeF f + l.length + sumS l
  | [], f => by simp [sumS]
  | x :: r, f => by
    rw [List.foldl_cons, size_apps r, sumS, appC, sizeF, sizeL, sizeL, sizeL, List.length_cons]
    omega
theorem sumS_le {M : Nat} : ∀ (l : List ConT), (∀ x ∈ l, sizeF x ≤ M) → sumS l ≤ l.length * M
  | [], _ => by simp [sumS]
  | x :: r, h => by
    rw [sumS, List.length_cons, Nat.add_mul]
    have := sumS_le r fun y hy => h y (by simp [hy])
    have := h x (by simp)
    omega
def appsF (f : ConT) (l : List ConT) : ConT × Int :=
  if validF f = false ∨ l.all validF = false then (zeroC, 1) else if l.length > 1000 then (zeroC, 5) else if sizeF f + l.length + sumS l > 20000 then (zeroC, 6) else
  if validF (l.foldl appC f) = true then (l.foldl appC f, 0) else (zeroC, 6)

def appBoxT (t : Nat) (f : ConT) : Option (ConT × ConT) → SV
  | none => pp (encC f)
  | some (g, x) => .agg [.pv (.int .i64 12), .pv (.int .i64 0), .pv (.str ByteArray.empty), .nilS, .nilS, .own t (.agg 6) [encC g, encC x]]
theorem okS_app {f a : ConT} (h1 : okS f) (h2 : okS a) : okS (appC f a) := by
  rw [appC, okS]
  exact ⟨by decide, by simp, by rw [okSs, okSs, okSs]; exact ⟨h1, h2, trivial⟩⟩
theorem okS_apps : ∀ (l : List ConT) (f : ConT), okS f → (∀ x ∈ l, okS x) → okS (l.foldl appC f)
  | [], f, h, _ => h
  | x :: r, f, h, hl => okS_apps r _ (okS_app h (hl x (by simp))) fun y hy => hl y (by simp [hy])

theorem Apps_spec (f : ConT) (l : List ConT) (h1 : wtF f ≤ 1000) (h2 : okS f) (hl : ∀ x ∈ l, wtF x ≤ 1000 ∧ okS x) (hn : l.length ≤ 2000) :
    Spec Tryz.prog 25 [pp (encC f), pp (.slice (l.map encC))] [] (.tuple [encC (appsF f l).1, .int .i64 (appsF f l).2]) [] := by
  have hsc := sizeF_wt f
  have hV := Valid_spec f (by omega) h2
  have hA := all_spec l fun x hx => ⟨by have := sizeF_wt x; have := (hl x hx).1; omega, (hl x hx).2⟩
  have hS := Size_spec f (by omega)
  have hsum := sumS_le (M := 1000) l fun x hx => by have := sizeF_wt x; have := (hl x hx).1; omega
  rw [appsF]
  refine Spec.walk (rv := [.cell 4 28, .tmp 5]) ann25 63 Tryz.func25 mixed rfl rfl (by kernel_rfl) rfl rfl fun hfit => ?_
  clear hfit
  simp only [go_sem, reduceCtorEq, ↓reduceIte, Nat.reduceEqDiff, Nat.reduceAdd, Nat.reduceMul, Nat.reduceSub, Nat.reduceLeDiff, Nat.reduceBEq, Int.reduceToNat, Int.reduceLE, Int.reduceLT, encC_sz]
  refine aCall_intro hV ?_
  simp only [go_sem, reduceCtorEq, ↓reduceIte, Nat.reduceEqDiff, Nat.reduceAdd, Nat.reduceMul, Nat.reduceSub, Nat.reduceLeDiff, Nat.reduceBEq, Int.reduceToNat, Int.reduceLE, Int.reduceLT, encC_sz]
  cases hv : validF f with
  | false =>
    simp only [go_sem, reduceCtorEq, ↓reduceIte, Nat.reduceEqDiff, Nat.reduceAdd, Nat.reduceMul, Nat.reduceSub, Nat.reduceLeDiff, Nat.reduceBEq, Int.reduceToNat, Int.reduceLE, Int.reduceLT, encC_sz, zeroC, encC_mk, true_or]
  | true =>
  simp only [go_sem, reduceCtorEq, ↓reduceIte, Nat.reduceEqDiff, Nat.reduceAdd, Nat.reduceMul, Nat.reduceSub, Nat.reduceLeDiff, Nat.reduceBEq, Int.reduceToNat, Int.reduceLE, Int.reduceLT]
  refine aCall_intro hA ?_
  cases ha : l.all validF with
  | false =>
    simp only [go_sem, reduceCtorEq, ↓reduceIte, Nat.reduceEqDiff, Nat.reduceAdd, Nat.reduceMul, Nat.reduceSub, Nat.reduceLeDiff, Nat.reduceBEq, Int.reduceToNat, Int.reduceLE, Int.reduceLT, encC_sz, zeroC, encC_mk, or_true]
  | true =>
  by_cases h1000 : (l.length : Int) > 1000
  · have h1000' : l.length > 1000 := by omega
    simp only [go_sem, reduceCtorEq, ↓reduceIte, Nat.reduceEqDiff, Nat.reduceAdd, Nat.reduceMul, Nat.reduceSub, Nat.reduceLeDiff, Nat.reduceBEq, Int.reduceToNat, Int.reduceLE, Int.reduceLT, List.length_map, decide_eq_true h1000, h1000', encC_sz, zeroC, encC_mk]
  · have h1000' : ¬ l.length > 1000 := by omega
    have w1 : IntKind.i64.wrap ((sizeF f : Int) + l.length) = ((sizeF f + l.length : Nat) : Int) := by rw [wrap_id (by omega) (by omega)]; omega
    simp only [go_sem, reduceCtorEq, ↓reduceIte, Nat.reduceEqDiff, Nat.reduceAdd, Nat.reduceMul, Nat.reduceSub, Nat.reduceLeDiff, Nat.reduceBEq, Int.reduceToNat, Int.reduceLE, Int.reduceLT, List.length_map, decide_eq_false h1000, h1000', encC_sz]
    refine aCall_intro hS ?_
    simp only [go_sem, reduceCtorEq, ↓reduceIte, Nat.reduceEqDiff, Nat.reduceAdd, Nat.reduceMul, Nat.reduceSub, Nat.reduceLeDiff, Nat.reduceBEq, Int.reduceToNat, Int.reduceLE, Int.reduceLT, List.length_map, w1]
    refine aLoop_list (α := ConT) (β := Nat × Nat) (fun rest b => ⟨[(32, ii b.1), (6, ii b.2), (30, pp (.slice (l.map encC))), (4, .one (.ptr (.loc 4) 0)), (1, pp (.slice (l.map encC))), (2, pp (.ep (encC f) 0)), (31, ii l.length)],
      [(.loc 4, ⟨.agg 6, .agg [.pv (.int .i64 0), .pv (.int .i64 0), .pv (.str ByteArray.empty), .nilS, .nilS, .nilS]⟩)], []⟩)
      (fun rest b => ∃ pre, l = pre ++ rest ∧ b.1 = pre.length ∧ b.2 + sumS rest = sizeF f + l.length + sumS l) ?_ ?_ l (0, sizeF f + l.length) _ ?_ ⟨[], rfl, rfl, rfl⟩
    · rintro ⟨m, a⟩ ⟨pre, g1, g2, g3⟩ K
      simp only [List.append_nil] at g1 g2 g3
      subst g1
      rw [sumS, Nat.add_zero] at g3
      subst g3
      simp only [go_sem, reduceCtorEq, ↓reduceIte, Nat.reduceEqDiff, Nat.reduceAdd, Nat.reduceMul, Nat.reduceSub, Nat.reduceLeDiff, Nat.reduceBEq, Int.reduceToNat, Int.reduceLE, Int.reduceLT, g2, List.length_map, lt_false (Int.le_refl _)]
      by_cases hbig : sizeF f + l.length + sumS l > 20000
      · have hbig' : ((sizeF f + l.length + sumS l : Nat) : Int) > 20000 := by omega
        simp only [go_sem, reduceCtorEq, ↓reduceIte, Nat.reduceEqDiff, Nat.reduceAdd, Nat.reduceMul, Nat.reduceSub, Nat.reduceLeDiff, Nat.reduceBEq, Int.reduceToNat, Int.reduceLE, Int.reduceLT, hbig, decide_eq_true hbig', encC_sz, zeroC, encC_mk]
      · have hbig' : ¬ ((sizeF f + l.length + sumS l : Nat) : Int) > 20000 := by omega
        have hC := copied_spec f (by omega) hv
        simp only [go_sem, reduceCtorEq, ↓reduceIte, Nat.reduceEqDiff, Nat.reduceAdd, Nat.reduceMul, Nat.reduceSub, Nat.reduceLeDiff, Nat.reduceBEq, Int.reduceToNat, Int.reduceLE, Int.reduceLT, hbig, decide_eq_false hbig', encC_sz]
        refine aCall_intro hC ?_
        have hVo := Valid_spec (l.foldl appC f) (by rw [size_apps]; omega) (okS_apps l f h2 fun x hx => (hl x hx).2)
        clear hbig hbig' K
        generalize h0 : l.foldl appC f = res at hVo ⊢
        obtain ⟨vb, hvb⟩ : ∃ vb, validF res = vb := ⟨_, rfl⟩
        have hres : (if validF res = true then (res, (0 : Int)) else (zeroC, 6)) = (if vb = true then (res, 0) else (zeroC, 6)) := by rw [hvb]
        rw [hres]
        rw [hvb] at hVo
        clear hvb hres
        simp only [go_sem, reduceCtorEq, ↓reduceIte, Nat.reduceEqDiff, Nat.reduceAdd, Nat.reduceMul, Nat.reduceSub, Nat.reduceLeDiff, Nat.reduceBEq, Int.reduceToNat, Int.reduceLE, Int.reduceLT, encC_sz, List.length_map]
        refine aLoop_list (α := ConT) (β := Option (ConT × ConT) × Nat) (fun rest b => ⟨[(48, ii b.2), (9, .one (.ptr (.loc 9) 0)), (46, pp (.slice (l.map encC))), (4, .one (.ptr (.loc 4) 0)), (47, ii l.length)],
          [(.loc 4, ⟨.agg 6, .agg [.pv (.int .i64 0), .pv (.int .i64 0), .pv (.str ByteArray.empty), .nilS, .nilS, .nilS]⟩), (.loc 9, ⟨.agg 6, appBoxT 110 f b.1⟩)], []⟩)
          (fun rest b => ∃ pre, l = pre ++ rest ∧ b.2 = pre.length ∧ rest.foldl appC (appCur f b.1) = res) ?_ ?_ l (none, 0) _ ?_ ⟨[], rfl, rfl, h0⟩
        · rintro ⟨g, m⟩ ⟨pre, g1, g2, g3⟩ K
          simp only [List.append_nil] at g1 g2
          simp only [List.foldl_nil] at g3
          subst g1 g3
          cases g with
          | none =>
            simp only [appCur] at hVo ⊢
            simp only [go_sem, reduceCtorEq, ↓reduceIte, Nat.reduceEqDiff, Nat.reduceAdd, Nat.reduceMul, Nat.reduceSub, Nat.reduceLeDiff, Nat.reduceBEq, Int.reduceToNat, Int.reduceLE, Int.reduceLT, g2, List.length_map, lt_false (Int.le_refl _), encC_sz, appBoxT]
            refine aCall_intro hVo ?_
            cases vb with
            | false => simp only [go_sem, reduceCtorEq, ↓reduceIte, Nat.reduceEqDiff, Nat.reduceAdd, Nat.reduceMul, Nat.reduceSub, Nat.reduceLeDiff, Nat.reduceBEq, Int.reduceToNat, Int.reduceLE, Int.reduceLT, encC_sz, zeroC, encC_mk]
            | true => simp only [go_sem, reduceCtorEq, ↓reduceIte, Nat.reduceEqDiff, Nat.reduceAdd, Nat.reduceMul, Nat.reduceSub, Nat.reduceLeDiff, Nat.reduceBEq, Int.reduceToNat, Int.reduceLE, Int.reduceLT, encC_sz]
          | some g =>
            obtain ⟨g, x⟩ := g
            simp only [appCur, appC, encC_mk] at hVo ⊢
            simp only [go_sem, reduceCtorEq, ↓reduceIte, Nat.reduceEqDiff, Nat.reduceAdd, Nat.reduceMul, Nat.reduceSub, Nat.reduceLeDiff, Nat.reduceBEq, Int.reduceToNat, Int.reduceLE, Int.reduceLT, g2, List.length_map, lt_false (Int.le_refl _), encC_sz, appBoxT]
            refine aCall_intro hVo ?_
            cases vb with
            | false => simp only [go_sem, reduceCtorEq, ↓reduceIte, Nat.reduceEqDiff, Nat.reduceAdd, Nat.reduceMul, Nat.reduceSub, Nat.reduceLeDiff, Nat.reduceBEq, Int.reduceToNat, Int.reduceLE, Int.reduceLT, encC_sz, zeroC, encC_mk]
            | true => simp only [go_sem, reduceCtorEq, ↓reduceIte, Nat.reduceEqDiff, Nat.reduceAdd, Nat.reduceMul, Nat.reduceSub, Nat.reduceLeDiff, Nat.reduceBEq, Int.reduceToNat, Int.reduceLE, Int.reduceLT, encC_sz, encC_mk]
        · rintro x rest ⟨g, m⟩ ⟨pre, g1, g2, g3⟩ K hK
          simp only at g1 g2 g3 hK
          have hx : (l.map encC)[m]? = some (encC x) := by simp [g1, g2]
          have hxm : x ∈ l := by simp [g1]
          have hlt : (m : Int) < l.length := by rw [g1, g2]; simp; omega
          have hCx := copied_spec x (by have := (hl x hxm).1; omega) (List.all_eq_true.1 ha x hxm)
          have w4 : IntKind.i64.wrap ((m : Int) + 1) = ((m + 1 : Nat) : Int) := by rw [wrap_id (by omega) (by omega)]; simp
          have hK' := fun s' hs => hK (some (appCur f g, x), m + 1) s' hs ⟨pre ++ [x], by simp [g1], by simp [g2], by simpa [appCur] using g3⟩
          clear hK g3
          cases g with
          | none =>
            simp only [go_sem, reduceCtorEq, ↓reduceIte, Nat.reduceEqDiff, Nat.reduceAdd, Nat.reduceMul, Nat.reduceSub, Nat.reduceLeDiff, Nat.reduceBEq, Int.reduceToNat, Int.reduceLE, Int.reduceLT, List.length_map, decide_eq_true hlt, Int.toNat_natCast, Int.natCast_nonneg, hx, encC_sz, appBoxT]
            refine aCall_intro hCx ?_
            simp only [go_sem, reduceCtorEq, ↓reduceIte, Nat.reduceEqDiff, Nat.reduceAdd, Nat.reduceMul, Nat.reduceSub, Nat.reduceLeDiff, Nat.reduceBEq, Int.reduceToNat, Int.reduceLE, Int.reduceLT, encC_sz, w4]
            first
              | refine ⟨by kernel_rfl, hK' _ ?_⟩
              | refine hK' _ ?_
            simp only [go_sem, reduceCtorEq, ↓reduceIte, Nat.reduceEqDiff, Nat.reduceAdd, Nat.reduceMul, Nat.reduceSub, Nat.reduceLeDiff, Nat.reduceBEq, Int.reduceToNat, Int.reduceLE, Int.reduceLT, appBoxT, appCur]
          | some g =>
            obtain ⟨g, y⟩ := g
            simp only [go_sem, reduceCtorEq, ↓reduceIte, Nat.reduceEqDiff, Nat.reduceAdd, Nat.reduceMul, Nat.reduceSub, Nat.reduceLeDiff, Nat.reduceBEq, Int.reduceToNat, Int.reduceLE, Int.reduceLT, List.length_map, decide_eq_true hlt, Int.toNat_natCast, Int.natCast_nonneg, hx, encC_sz, appBoxT]
            refine aCall_intro hCx ?_
            simp only [go_sem, reduceCtorEq, ↓reduceIte, Nat.reduceEqDiff, Nat.reduceAdd, Nat.reduceMul, Nat.reduceSub, Nat.reduceLeDiff, Nat.reduceBEq, Int.reduceToNat, Int.reduceLE, Int.reduceLT, encC_sz, w4]
            first
              | refine ⟨by kernel_rfl, hK' _ ?_⟩
              | refine hK' _ ?_
            simp only [go_sem, reduceCtorEq, ↓reduceIte, Nat.reduceEqDiff, Nat.reduceAdd, Nat.reduceMul, Nat.reduceSub, Nat.reduceLeDiff, Nat.reduceBEq, Int.reduceToNat, Int.reduceLE, Int.reduceLT, appBoxT, appCur, appC, encC_mk]
        · simp only [go_sem, reduceCtorEq, ↓reduceIte, Nat.reduceEqDiff, Nat.reduceAdd, Nat.reduceMul, Nat.reduceSub, Nat.reduceLeDiff, Nat.reduceBEq, Int.reduceToNat, Int.reduceLE, Int.reduceLT, Int.natCast_zero, appBoxT]
    · rintro x rest ⟨m, a⟩ ⟨pre, g1, g2, g3⟩ K hK
      simp only at g1 g2 g3 hK
      have hx : (l.map encC)[m]? = some (encC x) := by simp [g1, g2]
      have hlt : (m : Int) < l.length := by rw [g1, g2]; simp; omega
      rw [sumS] at g3
      have hSx := Size_spec x (by omega)
      have w4 : IntKind.i64.wrap ((m : Int) + 1) = ((m + 1 : Nat) : Int) := by rw [wrap_id (by omega) (by omega)]; simp
      have w5 : IntKind.i64.wrap ((a : Int) + sizeF x) = ((a + sizeF x : Nat) : Int) := by rw [wrap_id (by omega) (by omega)]; simp
      have hK' := fun s' hs => hK (m + 1, a + sizeF x) s' hs ⟨pre ++ [x], by simp [g1], by simp [g2], show a + sizeF x + sumS rest = _ by omega⟩
      clear hK
      simp only [go_sem, reduceCtorEq, ↓reduceIte, Nat.reduceEqDiff, Nat.reduceAdd, Nat.reduceMul, Nat.reduceSub, Nat.reduceLeDiff, Nat.reduceBEq, Int.reduceToNat, Int.reduceLE, Int.reduceLT, List.length_map, decide_eq_true hlt, Int.toNat_natCast, Int.natCast_nonneg, hx, encC_sz]
      refine aCall_intro hSx ?_
      simp only [go_sem, reduceCtorEq, ↓reduceIte, Nat.reduceEqDiff, Nat.reduceAdd, Nat.reduceMul, Nat.reduceSub, Nat.reduceLeDiff, Nat.reduceBEq, Int.reduceToNat, Int.reduceLE, Int.reduceLT, w4, w5]
      refine hK' _ ?_
      simp only [go_sem, reduceCtorEq, ↓reduceIte, Nat.reduceEqDiff, Nat.reduceAdd, Nat.reduceMul, Nat.reduceSub, Nat.reduceLeDiff, Nat.reduceBEq, Int.reduceToNat, Int.reduceLE, Int.reduceLT]
    · simp only [go_sem, reduceCtorEq, ↓reduceIte, Nat.reduceEqDiff, Nat.reduceAdd, Nat.reduceMul, Nat.reduceSub, Nat.reduceLeDiff, Nat.reduceBEq, Int.reduceToNat, Int.reduceLE, Int.reduceLT, Int.natCast_zero]
end Go.Abs.Kon

namespace Go.Abs.Kon
open Go Go.Proofs Go.Abs
set_option maxRecDepth 100000
set_option maxHeartbeats 4000000

theorem okS_names : ∀ n : Nat, ∀ x ∈ namesF n, x.size ≤ 1000000
  | n, x, h => by
    simp only [namesF, List.mem_map] at h
    obtain ⟨i, _, rfl⟩ := h
    rw [decF]
    simp [ByteArray.size_push]
theorem okSs_all : ∀ {l : List ConT}, (∀ x ∈ l, okS x) → okSs l
  | [], _ => by rw [okSs]; trivial
  | x :: r, h => by rw [okSs]; exact ⟨h x (by simp), okSs_all fun y hy => h y (by simp [hy])⟩
theorem okS_tuple {l : List ConT} (h : ∀ x ∈ l, okS x) : okS (tupleF l) := by
  rw [tupleF, okS]
  exact ⟨by decide, okS_names _, okSs_all h⟩
theorem sizeL_sum : ∀ l : List ConT, sizeL l = sumS l
  | [] => rfl
  | x :: r => by rw [sizeL, sumS, sizeL_sum r]
theorem size_tuple (l : List ConT) : sizeF (tupleF l) = 1 + sumS l := by rw [tupleF, sizeF, sizeL_sum, Nat.add_comm]
open Go.RowKit in
theorem Unit_calls (w : World) : Calls Tryz.prog 28 #[] w fun e w' => e = .returned (.agg #[.int .i64 7, .int .i64 0, .string ⟨#[]⟩, .slice none 0 0, .slice none 0 0, .slice none 0 0]) ∧ ∃ o, w' = w.alloc o := by
  go_enter Tryz.func28, Tryz.ntmps28
  go_wp2
  go_returns
  exact ⟨rfl, _, rfl⟩
/-- The unit's type; its slices are nil. -/
def unitN : PV := .agg [.int .i64 7, .int .i64 0, .str ByteArray.empty, .nilsl, .nilsl, .nilsl]
theorem UnitN_spec : Spec Tryz.prog 28 [] [] unitN [] := by
  refine Spec.of_below (by kernel_rfl) fun G w vs hW hr => ?_
  have hv : vs = #[] := by
    simp only [RepSVs] at hr
    exact Array.toList_inj.1 hr
  subst hv
  refine (Unit_calls w).mono ?_
  rintro e w' ⟨rfl, o, rfl⟩
  refine ⟨_, rfl, ?_, RowKit.Below.alloc (RowKit.Below.refl _ _) (Nat.le_refl _) _⟩
  simp only [unitN, Rep]
  refine ⟨_, rfl, ?_, by simp [Value.oneCell']⟩
  simp only [RepL, Rep]
  exact ⟨_, _, rfl, rfl, _, _, rfl, rfl, _, _, rfl, rfl, _, _, rfl, rfl, _, _, rfl, rfl, _, _, rfl, rfl, rfl⟩
theorem nil_slice {I : Imm} {v : Value} (h : Rep I .nilsl v) : Rep I (.slice []) v := by
  simp only [Rep] at h
  rw [Rep]
  exact ⟨none, 0, 0, .one, h, rfl, Nat.le_refl _, Nat.zero_le _, .inl rfl⟩

/-- A tuple's type as the program lays it: its kind is a nil slice. -/
def tupN (ns : List ByteArray) : List ConT → PV
  | [] => unitN
  | p :: r => .agg [.int .i64 7, .int .i64 0, .str ByteArray.empty, .nilsl, .slice (ns.map .str), .slice ((p :: r).map encC)]
theorem tupN_weak {l : List ConT} {I : Imm} {v : Value} (h : Rep I (tupN (namesF l.length) l) v) : Rep I (encC (tupleF l)) v := by
  rw [tupleF, encC_mk]
  cases l with
  | nil =>
    simp only [tupN, unitN, Rep] at h ⊢
    obtain ⟨vs, h1, h2, h3⟩ := h
    refine ⟨vs, h1, ?_, h3⟩
    simp only [RepL] at h2 ⊢
    obtain ⟨v0, r0, e0, k0, v1, r1, e1, k1, v2, r2, e2, k2, v3, r3, e3, k3, v4, r4, e4, k4, v5, r5, e5, k5, e6⟩ := h2
    exact ⟨v0, r0, e0, k0, v1, r1, e1, k1, v2, r2, e2, k2, v3, r3, e3, nil_slice k3, v4, r4, e4, nil_slice k4, v5, r5, e5, nil_slice k5, e6⟩
  | cons p r =>
    simp only [tupN] at h
    generalize PV.slice ((namesF (p :: r).length).map PV.str) = x at h ⊢
    generalize PV.slice ((p :: r).map encC) = y at h ⊢
    simp only [Rep] at h ⊢
    obtain ⟨vs, h1, h2, h3⟩ := h
    refine ⟨vs, h1, ?_, h3⟩
    simp only [RepL] at h2 ⊢
    obtain ⟨v0, r0, e0, k0, v1, r1, e1, k1, v2, r2, e2, k2, v3, r3, e3, k3, v4, r4, e4, k4, v5, r5, e5, k5, e6⟩ := h2
    exact ⟨v0, r0, e0, k0, v1, r1, e1, k1, v2, r2, e2, k2, v3, r3, e3, nil_slice k3, v4, r4, e4, k4, v5, r5, e5, k5, e6⟩

def tupleR (l : List ConT) : ConT × Int :=
  if l.all validF = false then (zeroC, 1) else if l.length = 1 ∨ l.length > 9 then (zeroC, 2) else if validF (tupleF l) = true then (tupleF l, 0) else (zeroC, 6)
/-- The same, as it is laid. -/
def tupleP (l : List ConT) (vb : Bool) : PV :=
  if l.all validF = false then .tuple [encC zeroC, .int .i64 1] else if l.length = 1 ∨ l.length > 9 then .tuple [encC zeroC, .int .i64 2] else if vb = true then .tuple [tupN (namesF l.length) l, .int .i64 0] else .tuple [encC zeroC, .int .i64 6]

theorem TupleP_spec (l : List ConT) (hl : ∀ x ∈ l, wtF x ≤ 1000 ∧ okS x) (hn : l.length ≤ 2000) (vb : Bool) (hvb : validF (tupleF l) = vb) :
    Spec Tryz.prog 27 [pp (.slice (l.map encC))] [] (tupleP l vb) [] := by
  have hA := all_spec l fun x hx => ⟨by have := sizeF_wt x; have := (hl x hx).1; omega, (hl x hx).2⟩
  have hsum := sumS_le (M := 1000) l fun x hx => by have := sizeF_wt x; have := (hl x hx).1; omega
  have hV := (Valid_spec (tupleF l) (by rw [size_tuple]; omega) (okS_tuple fun x hx => (hl x hx).2)).arg_weaken (q := tupN (namesF l.length) l) fun I v h => tupN_weak h
  rw [hvb] at hV
  clear hvb hsum
  rw [tupleP]
  refine Spec.walk (rv := [.cell 2 28, .tmp 3]) ann27 49 Tryz.func27 mixed rfl rfl (by kernel_rfl) rfl rfl fun hfit => ?_
  clear hfit
  simp only [go_sem, reduceCtorEq, ↓reduceIte, Nat.reduceEqDiff, Nat.reduceAdd, Nat.reduceMul, Nat.reduceSub, Nat.reduceLeDiff, Nat.reduceBEq, Int.reduceToNat, Int.reduceLE, Int.reduceLT]
  refine aCall_intro hA ?_
  cases ha : l.all validF with
  | false => simp only [go_sem, reduceCtorEq, ↓reduceIte, Nat.reduceEqDiff, Nat.reduceAdd, Nat.reduceMul, Nat.reduceSub, Nat.reduceLeDiff, Nat.reduceBEq, Int.reduceToNat, Int.reduceLE, Int.reduceLT, encC_sz, zeroC, encC_mk]
  | true =>
  simp only [go_sem, reduceCtorEq, ↓reduceIte, Nat.reduceEqDiff, Nat.reduceAdd, Nat.reduceMul, Nat.reduceSub, Nat.reduceLeDiff, Nat.reduceBEq, Int.reduceToNat, Int.reduceLE, Int.reduceLT, List.length_map]
  by_cases h1 : l.length = 1
  · have b1 : ((l.length : Int) == 1) = true := by rw [h1]; rfl
    have e11 : (((1 : Nat) : Int) == 1) = true := rfl
    simp only [go_sem, reduceCtorEq, ↓reduceIte, Nat.reduceEqDiff, Nat.reduceAdd, Nat.reduceMul, Nat.reduceSub, Nat.reduceLeDiff, Nat.reduceBEq, Int.reduceToNat, Int.reduceLE, Int.reduceLT, b1, e11, h1, true_or, encC_sz, zeroC, encC_mk]
  · have b1 : ((l.length : Int) == 1) = false := by rw [beq_eq_false_iff_ne]; omega
    by_cases h9 : l.length > 9
    · have h9' : (l.length : Int) > 9 := by omega
      simp only [go_sem, reduceCtorEq, ↓reduceIte, Nat.reduceEqDiff, Nat.reduceAdd, Nat.reduceMul, Nat.reduceSub, Nat.reduceLeDiff, Nat.reduceBEq, Int.reduceToNat, Int.reduceLE, Int.reduceLT, List.length_map, b1, h1, decide_eq_true h9', h9, or_true, encC_sz, zeroC, encC_mk]
    · have h9' : ¬ (l.length : Int) > 9 := by omega
      simp only [go_sem, reduceCtorEq, ↓reduceIte, Nat.reduceEqDiff, Nat.reduceAdd, Nat.reduceMul, Nat.reduceSub, Nat.reduceLeDiff, Nat.reduceBEq, Int.reduceToNat, Int.reduceLE, Int.reduceLT, List.length_map, b1, h1, decide_eq_false h9', h9, or_self, encC_sz]
      refine aCall_intro UnitN_spec ?_
      simp only [go_sem, reduceCtorEq, ↓reduceIte, Nat.reduceEqDiff, Nat.reduceAdd, Nat.reduceMul, Nat.reduceSub, Nat.reduceLeDiff, Nat.reduceBEq, Int.reduceToNat, Int.reduceLE, Int.reduceLT, encC_sz, unitN, List.length_map]
      refine aLoop_list (α := ConT) (β := List ConT × List ByteArray × Nat) (fun rest b => ⟨[(23, ii b.2.2), (4, .one (.ptr (.loc 4) 0)), (21, pp (.slice (l.map encC))), (2, .one (.ptr (.loc 2) 0)), (22, ii l.length)],
        [(.loc 2, ⟨.agg 6, .agg [.pv (.int .i64 0), .pv (.int .i64 0), .pv (.str ByteArray.empty), .nilS, .nilS, .nilS]⟩), (.loc 4, ⟨.agg 6, match b.1 with | [] => pp unitN | x :: r => .agg [.pv (.int .i64 7), .pv (.int .i64 0), .pv (.str ByteArray.empty), .pv .nilsl, .own 68 .one (b.2.1.map .str), .own 82 (.agg 6) ((x :: r).map encC)]⟩)], []⟩)
        (fun rest b => l = b.1 ++ rest ∧ b.2.1 = namesF b.2.2 ∧ b.2.1.length = b.2.2 ∧ b.1.length = b.2.2) ?_ ?_ l ([], [], 0) _ ?_ ⟨rfl, rfl, rfl, rfl⟩
      · rintro ⟨pre, ns, m⟩ ⟨g1, g2, g3, g4⟩ K
        simp only [List.append_nil] at g1 g2 g3 g4
        subst g1
        rw [g4, ← g2] at hV ⊢
        simp only [go_sem, reduceCtorEq, ↓reduceIte, Nat.reduceEqDiff, Nat.reduceAdd, Nat.reduceMul, Nat.reduceSub, Nat.reduceLeDiff, Nat.reduceBEq, Int.reduceToNat, Int.reduceLE, Int.reduceLT, List.length_map, g4, lt_false (Int.le_refl _)]
        clear g2
        cases l with
        | nil =>
          simp only [tupN, unitN] at hV ⊢
          simp only [go_sem, reduceCtorEq, ↓reduceIte, Nat.reduceEqDiff, Nat.reduceAdd, Nat.reduceMul, Nat.reduceSub, Nat.reduceLeDiff, Nat.reduceBEq, Int.reduceToNat, Int.reduceLE, Int.reduceLT, encC_sz]
          refine aCall_intro hV ?_
          cases vb with
          | false => simp only [go_sem, reduceCtorEq, ↓reduceIte, Nat.reduceEqDiff, Nat.reduceAdd, Nat.reduceMul, Nat.reduceSub, Nat.reduceLeDiff, Nat.reduceBEq, Int.reduceToNat, Int.reduceLE, Int.reduceLT, encC_sz, zeroC, encC_mk]
          | true => simp only [go_sem, reduceCtorEq, ↓reduceIte, Nat.reduceEqDiff, Nat.reduceAdd, Nat.reduceMul, Nat.reduceSub, Nat.reduceLeDiff, Nat.reduceBEq, Int.reduceToNat, Int.reduceLE, Int.reduceLT, encC_sz]
        | cons p pre =>
          simp only [tupN, List.map_cons] at hV ⊢
          simp only [go_sem, reduceCtorEq, ↓reduceIte, Nat.reduceEqDiff, Nat.reduceAdd, Nat.reduceMul, Nat.reduceSub, Nat.reduceLeDiff, Nat.reduceBEq, Int.reduceToNat, Int.reduceLE, Int.reduceLT, encC_sz]
          refine aCall_intro hV ?_
          cases vb with
          | false => simp only [go_sem, reduceCtorEq, ↓reduceIte, Nat.reduceEqDiff, Nat.reduceAdd, Nat.reduceMul, Nat.reduceSub, Nat.reduceLeDiff, Nat.reduceBEq, Int.reduceToNat, Int.reduceLE, Int.reduceLT, encC_sz, zeroC, encC_mk]
          | true => simp only [go_sem, reduceCtorEq, ↓reduceIte, Nat.reduceEqDiff, Nat.reduceAdd, Nat.reduceMul, Nat.reduceSub, Nat.reduceLeDiff, Nat.reduceBEq, Int.reduceToNat, Int.reduceLE, Int.reduceLT, encC_sz]
      · rintro x rest ⟨pre, ns, m⟩ ⟨g1, g2, g3, g4⟩ K hK
        simp only at g1 g2 g3 g4 hK
        have hx : (l.map encC)[m]? = some (encC x) := by simp [g1, ← g4]
        have hxm : x ∈ l := by simp [g1]
        have hll : l.length = m + (rest.length + 1) := by rw [g1]; simp [g4]
        have hlt : (m : Int) < l.length := by omega
        have w4 : IntKind.i64.wrap ((m : Int) + 1) = ((m + 1 : Nat) : Int) := by rw [wrap_id (by omega) (by omega)]; simp
        have hCx := copied_spec x (by have := (hl x hxm).1; omega) (List.all_eq_true.1 ha x hxm)
        have hK' := fun s' hs => hK (pre ++ [x], ns ++ [decF (m + 1)], m + 1) s' hs ⟨by simp [g1], by rw [g2]; simp [namesF_succ], by simp [g3], by simp [g4]⟩
        clear hK g2
        have hD := Itoa_spec (m + 1) (by omega)
        cases pre with
        | nil =>
          cases ns with
          | cons n ns => rw [← g4] at g3; cases g3
          | nil =>
            simp only [go_sem, reduceCtorEq, ↓reduceIte, Nat.reduceEqDiff, Nat.reduceAdd, Nat.reduceMul, Nat.reduceSub, Nat.reduceLeDiff, Nat.reduceBEq, Int.reduceToNat, Int.reduceLE, Int.reduceLT, List.length_map, decide_eq_true hlt, Int.toNat_natCast, Int.natCast_nonneg, hx, encC_sz, w4, unitN]
            refine aCall_intro hD ?_
            simp only [go_sem, reduceCtorEq, ↓reduceIte, Nat.reduceEqDiff, Nat.reduceAdd, Nat.reduceMul, Nat.reduceSub, Nat.reduceLeDiff, Nat.reduceBEq, Int.reduceToNat, Int.reduceLE, Int.reduceLT, encC_sz, one_le_maxLen, List.length_map, decide_eq_true hlt, Int.toNat_natCast, Int.natCast_nonneg, hx, w4]
            refine ⟨by kernel_rfl, ?_⟩
            refine aCall_intro hCx ?_
            simp only [go_sem, reduceCtorEq, ↓reduceIte, Nat.reduceEqDiff, Nat.reduceAdd, Nat.reduceMul, Nat.reduceSub, Nat.reduceLeDiff, Nat.reduceBEq, Int.reduceToNat, Int.reduceLE, Int.reduceLT, encC_sz, one_le_maxLen, w4]
            first
              | refine ⟨by kernel_rfl, hK' _ ?_⟩
              | refine hK' _ ?_
            simp only [go_sem, reduceCtorEq, ↓reduceIte, Nat.reduceEqDiff, Nat.reduceAdd, Nat.reduceMul, Nat.reduceSub, Nat.reduceLeDiff, Nat.reduceBEq, Int.reduceToNat, Int.reduceLE, Int.reduceLT]
        | cons p pre =>
          cases ns with
          | nil => rw [← g4] at g3; cases g3
          | cons n ns =>
            have hb1 : (pre.length + 1 + 1) * 104 ≤ 140737488355328 := by simp at g4; omega
            have hb2 : pre.length + 1 + 1 ≤ maxLen := by rw [maxLen_eq]; simp at g4; omega
            have hb3 : (ns.length + 1 + 1) * 16 ≤ 140737488355328 := by simp at g3; omega
            have hb4 : ns.length + 1 + 1 ≤ maxLen := by rw [maxLen_eq]; simp at g3; omega
            simp only [go_sem, reduceCtorEq, ↓reduceIte, Nat.reduceEqDiff, Nat.reduceAdd, Nat.reduceMul, Nat.reduceSub, Nat.reduceLeDiff, Nat.reduceBEq, Int.reduceToNat, Int.reduceLE, Int.reduceLT, List.length_map, decide_eq_true hlt, Int.toNat_natCast, Int.natCast_nonneg, hx, encC_sz, w4]
            refine aCall_intro hD ?_
            simp only [go_sem, reduceCtorEq, ↓reduceIte, Nat.reduceEqDiff, Nat.reduceAdd, Nat.reduceMul, Nat.reduceSub, Nat.reduceLeDiff, Nat.reduceBEq, Int.reduceToNat, Int.reduceLE, Int.reduceLT, encC_sz, List.length_map, hb1, hb2, hb3, hb4, decide_eq_true hlt, Int.toNat_natCast, Int.natCast_nonneg, hx, w4]
            refine ⟨by kernel_rfl, ?_⟩
            refine aCall_intro hCx ?_
            simp only [go_sem, reduceCtorEq, ↓reduceIte, Nat.reduceEqDiff, Nat.reduceAdd, Nat.reduceMul, Nat.reduceSub, Nat.reduceLeDiff, Nat.reduceBEq, Int.reduceToNat, Int.reduceLE, Int.reduceLT, encC_sz, List.length_map, hb1, hb2, hb3, hb4, w4]
            first
              | refine ⟨by kernel_rfl, hK' _ ?_⟩
              | refine hK' _ ?_
            simp only [go_sem, reduceCtorEq, ↓reduceIte, Nat.reduceEqDiff, Nat.reduceAdd, Nat.reduceMul, Nat.reduceSub, Nat.reduceLeDiff, Nat.reduceBEq, Int.reduceToNat, Int.reduceLE, Int.reduceLT, List.map_append]
      · simp only [go_sem, reduceCtorEq, ↓reduceIte, Nat.reduceEqDiff, Nat.reduceAdd, Nat.reduceMul, Nat.reduceSub, Nat.reduceLeDiff, Nat.reduceBEq, Int.reduceToNat, Int.reduceLE, Int.reduceLT, List.length_nil, Int.natCast_zero, unitN]

theorem Tuple_spec (l : List ConT) (hl : ∀ x ∈ l, wtF x ≤ 1000 ∧ okS x) (hn : l.length ≤ 2000) :
    Spec Tryz.prog 27 [pp (.slice (l.map encC))] [] (.tuple [encC (tupleR l).1, .int .i64 (tupleR l).2]) [] := by
  refine (TupleP_spec l hl hn _ rfl).weaken fun I v h => ?_
  rw [tupleP] at h
  rw [tupleR]
  split
  · rename_i h1; rw [if_pos h1] at h; exact h
  · rename_i h1
    rw [if_neg h1] at h
    split
    · rename_i h2; rw [if_pos h2] at h; exact h
    · rename_i h2
      rw [if_neg h2] at h
      split
      · rename_i h3
        rw [if_pos h3] at h
        simp only [Rep, RepL] at h ⊢
        obtain ⟨vs, e1, v0, r0, e2, k0, e3⟩ := h
        exact ⟨vs, e1, v0, r0, e2, tupN_weak k0, e3⟩
      · rename_i h3; rw [if_neg h3] at h; exact h
end Go.Abs.Kon
