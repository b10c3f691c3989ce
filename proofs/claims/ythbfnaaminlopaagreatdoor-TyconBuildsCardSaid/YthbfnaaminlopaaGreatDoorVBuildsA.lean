/- Copies; the types of truths; slices.Reverse turns what nobody else reads. -/
import Derived.Test.YthbfnaaminlopaaGreatDoorVBackLaw
import Derived.Test.YthbfnaaminlopaaGreatDoorVAbsC
import Derived.Test.YthbfnaaminlopaaGreatDoorVShelfA
set_option linter.unusedSimpArgs false
set_option linter.unusedVariables false
namespace Go.Abs.Kon
open Go Go.Proofs Go.Abs
set_option maxRecDepth 100000
set_option maxHeartbeats 4000000

theorem copied1_spec (c : ConT) (b : Int) (h : knL c.k ≤ 1000000) : Spec Tryz.prog 93 [pp (encC c), ii b] [] (encC (leafC c)) [] := by
  have hL := leafOf_spec c h
  refine Spec.walk (rv := [.cell 4 28]) ann93 7 Tryz.func93 mixed rfl rfl (by kernel_rfl) rfl rfl fun hfit => ?_
  clear hfit
  simp only [go_sem, reduceCtorEq, ↓reduceIte, Nat.reduceEqDiff, Nat.reduceAdd, Nat.reduceMul, Nat.reduceSub, Nat.reduceLeDiff, Nat.reduceBEq, Int.reduceToNat, Int.reduceLE, Int.reduceLT, encC_sz]
  refine aCall_intro hL ?_
  simp only [go_sem, reduceCtorEq, ↓reduceIte, Nat.reduceEqDiff, Nat.reduceAdd, Nat.reduceMul, Nat.reduceSub, Nat.reduceLeDiff, Nat.reduceBEq, Int.reduceToNat, Int.reduceLE, Int.reduceLT, encC_sz]
def ann63' : Ann := ⟨[1], [], [(2, [2]), (1, [2, 1, 3]), (0, [2, 1])], []⟩
@[go_sem] theorem ann63'_imm : ann63'.imm = [1] := rfl
@[go_sem] theorem ann63'_frz : ann63'.frz = [] := rfl
@[go_sem] theorem ann63'_live : ann63'.live = [(2, [2]), (1, [2, 1, 3]), (0, [2, 1])] := rfl
@[go_sem] theorem ann63'_head : ann63'.head = [] := rfl
theorem copied_spec (c : ConT) (h1 : wtF c ≤ 100000) (h2 : validF c = true) : Spec Tryz.prog 63 [pp (encC c)] [] (encC c) [] := by
  have hsc := sizeF_wt c
  have hd := depthF_le c
  have hf := validF_formed h2
  have hR := rebuild_spec 93 [] (fun x _ => leafC x) c 0 20000 (by decide) (by omega) (by decide) (by decide) (by omega) fun x b hx => ⟨by rw [size_leafC]; decide, copied1_spec x b (by have := knL_wt x; have := (leaves_mem c 0 x b hx).1; omega)⟩
  have hm : mapF (fun x _ => leafC x) c 0 = c := map_id (fun x b hx hfx => leafC_formed hx hfx) c 0 hf
  have hs : (sizeF c : Int) ≤ 20000 := by
    rw [validF] at h2
    simp only [Bool.and_eq_true, decide_eq_true_eq] at h2
    omega
  have hr := (rebF_map (fun x _ => leafC x) c 0 20000 (by decide)).1 (by rw [hm]; exact hs)
  rw [hr, hm] at hR
  simp only [leafBox] at hR
  refine Spec.walk (rv := [.cell 2 28]) ann63' 9 Tryz.func63 mixed rfl rfl (by kernel_rfl) rfl rfl fun hfit => ?_
  clear hfit
  simp only [go_sem, reduceCtorEq, ↓reduceIte, Nat.reduceEqDiff, Nat.reduceAdd, Nat.reduceMul, Nat.reduceSub, Nat.reduceLeDiff, Nat.reduceBEq, Int.reduceToNat, Int.reduceLE, Int.reduceLT, encC_sz]
  refine aCall_intro hR ?_
  simp only [go_sem, reduceCtorEq, ↓reduceIte, Nat.reduceEqDiff, Nat.reduceAdd, Nat.reduceMul, Nat.reduceSub, Nat.reduceLeDiff, Nat.reduceBEq, Int.reduceToNat, Int.reduceLE, Int.reduceLT, encC_sz]

def unitC : ConT := .mk 7 0 ByteArray.empty [] [] []
def strF : ByteArray := ⟨#[70, 97, 108, 115, 101]⟩
def strT : ByteArray := ⟨#[84, 114, 117, 101]⟩
def boolC : ConT := .mk 13 0 ByteArray.empty [] [] [.mk 8 0 ByteArray.empty [] [strF, strT] [unitC, unitC]]
theorem Unit_spec : Spec Tryz.prog 28 [] [] (encC unitC) [] := by
  refine Spec.walk (rv := [.cell 0 28]) ann28 2 Tryz.func28 mixed rfl rfl (by kernel_rfl) rfl rfl fun hfit => ?_
  clear hfit
  simp only [go_sem, reduceCtorEq, ↓reduceIte, Nat.reduceEqDiff, Nat.reduceAdd, Nat.reduceMul, Nat.reduceSub, Nat.reduceLeDiff, Nat.reduceBEq, Int.reduceToNat, Int.reduceLE, Int.reduceLT, unitC, encC_mk]
theorem rUnit_spec : Spec Tryz.prog 29 [] [] (encC unitC) [] := by
  refine Spec.walk (rv := [.cell 0 28]) ann29 2 Tryz.func29 mixed rfl rfl (by kernel_rfl) rfl rfl fun hfit => ?_
  clear hfit
  simp only [go_sem, reduceCtorEq, ↓reduceIte, Nat.reduceEqDiff, Nat.reduceAdd, Nat.reduceMul, Nat.reduceSub, Nat.reduceLeDiff, Nat.reduceBEq, Int.reduceToNat, Int.reduceLE, Int.reduceLT, unitC, encC_mk]
theorem Bool_spec : Spec Tryz.prog 30 [] [] (encC boolC) [] := by
  have hU := Unit_spec
  refine Spec.walk (rv := [.cell 0 28]) ann30 10 Tryz.func30 mixed rfl rfl (by kernel_rfl) rfl rfl fun hfit => ?_
  clear hfit
  simp only [go_sem, reduceCtorEq, ↓reduceIte, Nat.reduceEqDiff, Nat.reduceAdd, Nat.reduceMul, Nat.reduceSub, Nat.reduceLeDiff, Nat.reduceBEq, Int.reduceToNat, Int.reduceLE, Int.reduceLT, encC_sz]
  refine aCall_intro hU ?_
  simp only [go_sem, reduceCtorEq, ↓reduceIte, Nat.reduceEqDiff, Nat.reduceAdd, Nat.reduceMul, Nat.reduceSub, Nat.reduceLeDiff, Nat.reduceBEq, Int.reduceToNat, Int.reduceLE, Int.reduceLT, encC_sz]
  refine aCall_intro hU ?_
  simp only [go_sem, reduceCtorEq, ↓reduceIte, Nat.reduceEqDiff, Nat.reduceAdd, Nat.reduceMul, Nat.reduceSub, Nat.reduceLeDiff, Nat.reduceBEq, Int.reduceToNat, Int.reduceLE, Int.reduceLT, encC_sz, boolC, encC_mk, strF, strT]
theorem rBool_spec : Spec Tryz.prog 31 [] [] (encC boolC) [] := by
  have hU := rUnit_spec
  refine Spec.walk (rv := [.cell 0 28]) ann31 8 Tryz.func31 mixed rfl rfl (by kernel_rfl) rfl rfl fun hfit => ?_
  clear hfit
  simp only [go_sem, reduceCtorEq, ↓reduceIte, Nat.reduceEqDiff, Nat.reduceAdd, Nat.reduceMul, Nat.reduceSub, Nat.reduceLeDiff, Nat.reduceBEq, Int.reduceToNat, Int.reduceLE, Int.reduceLT, encC_sz]
  refine aCall_intro hU ?_
  simp only [go_sem, reduceCtorEq, ↓reduceIte, Nat.reduceEqDiff, Nat.reduceAdd, Nat.reduceMul, Nat.reduceSub, Nat.reduceLeDiff, Nat.reduceBEq, Int.reduceToNat, Int.reduceLE, Int.reduceLT, encC_sz]
  refine aCall_intro hU ?_
  simp only [go_sem, reduceCtorEq, ↓reduceIte, Nat.reduceEqDiff, Nat.reduceAdd, Nat.reduceMul, Nat.reduceSub, Nat.reduceLeDiff, Nat.reduceBEq, Int.reduceToNat, Int.reduceLE, Int.reduceLT, encC_sz, boolC, encC_mk, strF, strT]
end Go.Abs.Kon

namespace Go.Abs.Kon
open Go Go.Proofs Go.Abs
open Go.Sort
set_option maxRecDepth 100000
set_option maxHeartbeats 4000000

/-- Six cells. -/
structure Six where
  v : Value
  ok : Sz.okV (.agg 6) v = true
instance : Inhabited Six := ⟨⟨.agg #[.bool true, .bool true, .bool true, .bool true, .bool true, .bool true], rfl⟩⟩
def Six.cells (x : Six) : List Value := x.v.cells.toList
theorem Six.len (x : Six) : x.cells.length = 6 := by rw [Six.cells, Array.length_toList]; exact Sz.size_of_ok x.ok
theorem flat_six (l : List Six) : (flatCells (l.map (·.v))).toArray = flatK Six.cells 6 l.toArray := by
  have h0 : (flatCells (l.map (·.v))).length = l.length * 6 := by
    rw [flat_length (k := .agg 6) (fun v hv => by obtain ⟨x, _, rfl⟩ := List.mem_map.1 hv; exact x.ok), List.length_map]; rfl
  refine ext_get! (by simp [h0]) fun t ht => ?_
  have ht' : t < l.length * 6 := by simpa [h0] using ht
  rw [get_flatK _ _ _ _ (by simpa using ht')]
  have key : ∀ (l : List Six) (t : Nat), t < l.length * 6 → (flatCells (l.map (·.v)))[t]? = (l[t / 6]?).bind fun x => x.cells[t % 6]? := by
    intro l
    induction l with
    | nil => intro t h; simp at h
    | cons x l ih =>
      intro t h
      have hx := x.len
      have e : flatCells ((x :: l).map (·.v)) = x.cells ++ flatCells (l.map (·.v)) := by simp [flatCells, Six.cells]
      rw [e]
      by_cases h6 : t < 6
      · rw [List.getElem?_append_left (by omega), Nat.div_eq_of_lt h6, Nat.mod_eq_of_lt h6]
        simp
      · rw [List.getElem?_append_right (by omega), hx, ih (t - 6) (by simp at h; omega)]
        obtain ⟨u, rfl⟩ : ∃ u, t = u + 6 := ⟨t - 6, by omega⟩
        rw [Nat.add_sub_cancel, Nat.add_div_right u (by decide), Nat.add_mod_right]
        simp
  have h1 := key l t ht'
  have hlt : t / 6 < l.length := by omega
  have h6 : t % 6 < (l[t / 6]).cells.length := by rw [Six.len]; omega
  rw [List.getElem?_eq_getElem hlt, Option.bind_some, List.getElem?_eq_getElem h6] at h1
  have h2 : (flatCells (l.map (·.v))).toArray[t]! = (l[t / 6]).cells[t % 6] := by
    rw [getElem!_pos _ t ht]
    have := List.getElem?_eq_some_iff.1 h1
    simpa using this.2
  rw [h2, getElem!_pos l.toArray (t / 6) (by simpa using hlt)]
  simp only [List.getElem_toArray]
  rw [getElem!_pos _ (t % 6) h6]

theorem six_of {vs : List Value} (h : ∀ x ∈ vs, Sz.okV (.agg 6) x = true) : ∃ l : List Six, vs = l.map (·.v) := by
  induction vs with
  | nil => exact ⟨[], rfl⟩
  | cons v vs ih =>
    obtain ⟨l, rfl⟩ := ih fun x hx => h x (List.mem_cons_of_mem _ hx)
    exact ⟨⟨v, h v (by simp)⟩ :: l, rfl⟩

theorem Reverse_inplace (es : List PV) : InPlace Tryz.prog 64 (.agg 6) es es.reverse := by
  refine inplace_of (by kernel_rfl) (by simp) ?_
  intro I w g cap cur T vs hr hok hc hm hh hs hcur
  obtain ⟨l, rfl⟩ := six_of hok
  have hl : es.length = l.toArray.size := by rw [hr.length]; simp
  have hcs : (flatK Six.cells 6 l.toArray).size ≤ cur.size := by
    rw [size_flatK, ← hl, hs]; exact Nat.mul_le_mul_right _ hc
  have hcg : ∀ j, j < (flatK Six.cells 6 l.toArray).size → cur[j]? = some (flatK Six.cells 6 l.toArray)[j]! := by
    intro j hj
    refine hcur j _ ?_
    rw [← List.getElem?_toArray, flat_six, getElem!_pos _ j hj, Array.getElem?_eq_getElem hj]
  have hH : HoldsK Six.cells 6 w g 0 l.toArray := by
    intro j hj
    refine ⟨?_, ?_⟩
    · rw [cell_row hh, Nat.zero_add]; exact hcg j hj
    · simp [World.frozen?, hh]
  rw [hl]
  refine (AnyQ.slices_Reverse Tryz.laysRev 6 (Tryz.isAgg28) (Tryz.sizeOf28) Six.cells Six.len (fun x => Sz.cells_one x.ok) g 0 cap l.toArray w hH (by rw [← hl]; have := maxLen_eq; omega)).mono ?_
  rintro e w' ⟨rfl, n, hw'⟩
  have hrv : (flatCells ((l.map (·.v)).reverse)).toArray = flatK Six.cells 6 l.toArray.reverse := by
    rw [← List.map_reverse, flat_six]; simp
  refine ⟨_, (l.map (·.v)).reverse, putCells id 0 (flatK Six.cells 6 l.toArray.reverse) cur, w.drawn + n, rfl, ?_, by simp [putCells], hr.reverse, fun x hx => hok x (by simpa using hx), ?_⟩
  · rw [hw']
    show mapBlock (Sort.ahead w n) g _ = _
    have hmod : w.heap.modify g (onCells (putCells id 0 (flatK Six.cells 6 l.toArray.reverse))) = (w.setRow g (putCells id 0 (flatK Six.cells 6 l.toArray.reverse) cur)).heap := by
      unfold World.setRow
      refine Array.ext (by simp) fun i h1 h2 => ?_
      simp only [Array.size_modify] at h1
      rw [Array.getElem_modify, Array.getElem_modify]
      split
      · rename_i e
        subst e
        have : w.heap[g] = .cells cur T (0, 0) := (Array.getElem?_eq_some_iff.1 hh).2
        rw [this]
        rfl
      · rfl
    unfold mapBlock
    simp only [Sort.ahead, hmod]
    rfl
  · intro j v hj
    have hjl : j < (flatK Six.cells 6 l.toArray.reverse).size := by
      have := (List.getElem?_eq_some_iff.1 hj).1
      rw [← hrv]; simpa using this
    have hjv : (flatK Six.cells 6 l.toArray.reverse)[j]! = v := by
      rw [← List.getElem?_toArray, hrv, Array.getElem?_eq_getElem hjl] at hj
      rw [getElem!_pos _ j hjl]
      exact Option.some.inj hj
    have hjc : j < cur.size := by
      have : (flatK Six.cells 6 l.toArray.reverse).size = (flatK Six.cells 6 l.toArray).size := by simp
      omega
    unfold putCells
    rw [Array.getElem?_mapIdx, Array.getElem?_eq_getElem hjc]
    simp only [Option.map_some, Nat.zero_le, true_and, Nat.zero_add, Nat.sub_zero, hjl, if_true, hjv, id]

theorem Reverse_nil : Spec Tryz.prog 64 [pp (.slice [])] [] (.tuple []) [] := by
  have w1 : IntKind.i64.wrap (((0 : Nat) : Int) - 1) = -1 := rfl
  refine Spec.walk (rv := []) ann64 28 Tryz.func64 mixed rfl rfl (by kernel_rfl) rfl rfl fun hfit => ?_
  clear hfit
  simp only [go_sem, reduceCtorEq, ↓reduceIte, Nat.reduceEqDiff, Nat.reduceAdd, Nat.reduceMul, Nat.reduceSub, Nat.reduceLeDiff, Nat.reduceBEq, Int.reduceToNat, Int.reduceLE, Int.reduceLT, w1]
  refine ⟨1, ?_⟩
  rw [aLoop_succ]
  simp only [go_sem, reduceCtorEq, ↓reduceIte, Nat.reduceEqDiff, Nat.reduceAdd, Nat.reduceMul, Nat.reduceSub, Nat.reduceLeDiff, Nat.reduceBEq, Int.reduceToNat, Int.reduceLE, Int.reduceLT]
end Go.Abs.Kon
