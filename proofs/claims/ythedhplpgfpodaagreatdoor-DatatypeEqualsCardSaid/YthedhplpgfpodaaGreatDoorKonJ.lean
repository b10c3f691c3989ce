/- slices.Reverse turns what nobody else reads. -/
import Derived.Test.YthedhplpgfpodaaGreatDoorKonH
import Derived.Test.YthedhplpgfpodaaGreatDoorAbsC
import Derived.Test.YthedhplpgfpodaaGreatDoorShelfA
set_option linter.unusedSimpArgs false
namespace Go.Abs.Kon
open Go Go.Proofs Go.Abs
open Go.Sort
set_option maxRecDepth 100000
set_option maxHeartbeats 4000000

structure Six where
  v : Value
  ok : Sz.okV (.agg 6) v = true
instance : Inhabited Six := ⟨⟨.agg #[.bool true, .bool true, .bool true, .bool true, .bool true, .bool true], rfl⟩⟩
def Six.cells (x : Six) : List Value := x.v.cells.toList
theorem Six.len (x : Six) : x.cells.length = 6 := by rw [Six.cells, Array.length_toList]; exact Sz.size_of_ok x.ok
theorem flat_six (l : List Six) : (flatCells (l.map (·.v))).toArray = flatK Six.cells 6 l.toArray := by
  have h0 : (flatCells (l.map (·.v))).length = l.length * 6 := by
    rw [flat_length (k := .agg 6) (fun v hv => by obtain ⟨x, _, rfl⟩ := List.mem_map.1 hv; exact x.ok), List.length_map]; rfl
  refine ext_get! (by simp [h0]) fun t ht => ?_
  have ht' : t < l.length * 6 := by simpa [h0] using ht
  rw [get_flatK _ _ _ _ (by simpa using ht')]
  have key : ∀ (l : List Six) (t : Nat), t < l.length * 6 → (flatCells (l.map (·.v)))[t]? = (l[t / 6]?).bind fun x => x.cells[t % 6]? := by
    intro l
    induction l with
    | nil => intro t h; simp at h
    | cons x l ih =>
      intro t h
      have hx := x.len
      have e : flatCells ((x :: l).map (·.v)) = x.cells ++ flatCells (l.map (·.v)) := by simp [flatCells, Six.cells]
      rw [e]
      by_cases h6 : t < 6
      · rw [List.getElem?_append_left (by omega), Nat.div_eq_of_lt h6, Nat.mod_eq_of_lt h6]
        simp
      · rw [List.getElem?_append_right (by omega), hx, ih (t - 6) (by simp at h; omega)]
        obtain ⟨u, rfl⟩ : ∃ u, t = u + 6 := ⟨t - 6, by omega⟩
        rw [Nat.add_sub_cancel, Nat.add_div_right u (by decide), Nat.add_mod_right]
        simp
  have h1 := key l t ht'
  have hlt : t / 6 < l.length := by omega
  have h6 : t % 6 < (l[t / 6]).cells.length := by rw [Six.len]; omega
  rw [List.getElem?_eq_getElem hlt, Option.bind_some, List.getElem?_eq_getElem h6] at h1
  have h2 : (flatCells (l.map (·.v))).toArray[t]! = (l[t / 6]).cells[t % 6] := by
    rw [getElem!_pos _ t ht]
    have := List.getElem?_eq_some_iff.1 h1
    simpa using this.2
  rw [h2, getElem!_pos l.toArray (t / 6) (by simpa using hlt)]
  simp only [List.getElem_toArray]
  rw [getElem!_pos _ (t % 6) h6]

theorem six_of {vs : List Value} (h : ∀ x ∈ vs, Sz.okV (.agg 6) x = true) : ∃ l : List Six, vs = l.map (·.v) := by
  induction vs with
  | nil => exact ⟨[], rfl⟩
  | cons v vs ih =>
    obtain ⟨l, rfl⟩ := ih fun x hx => h x (List.mem_cons_of_mem _ hx)
    exact ⟨⟨v, h v (by simp)⟩ :: l, rfl⟩

theorem Reverse_inplace (es : List PV) : InPlace Tryz.prog 96 (.agg 6) es es.reverse := by
  refine inplace_of (by kernel_rfl) (by simp) ?_
  intro I w g cap cur T vs hr hok hc hm hh hs hcur
  obtain ⟨l, rfl⟩ := six_of hok
  have hl : es.length = l.toArray.size := by rw [hr.length]; simp
  have hcs : (flatK Six.cells 6 l.toArray).size ≤ cur.size := by
    rw [size_flatK, ← hl, hs]; exact Nat.mul_le_mul_right _ hc
  have hcg : ∀ j, j < (flatK Six.cells 6 l.toArray).size → cur[j]? = some (flatK Six.cells 6 l.toArray)[j]! := by
    intro j hj
    refine hcur j _ ?_
    rw [← List.getElem?_toArray, flat_six, getElem!_pos _ j hj, Array.getElem?_eq_getElem hj]
  have hH : HoldsK Six.cells 6 w g 0 l.toArray := by
    intro j hj
    refine ⟨?_, ?_⟩
    · rw [cell_row hh, Nat.zero_add]; exact hcg j hj
    · simp [World.frozen?, hh]
  rw [hl]
  refine (AnyQ.slices_Reverse Tryz.laysRev 6 (Tryz.isAgg28) (Tryz.sizeOf28) Six.cells Six.len (fun x => Sz.cells_one x.ok) g 0 cap l.toArray w hH (by rw [← hl]; have := maxLen_eq; omega)).mono ?_
  rintro e w' ⟨rfl, n, hw'⟩
  have hrv : (flatCells ((l.map (·.v)).reverse)).toArray = flatK Six.cells 6 l.toArray.reverse := by
    rw [← List.map_reverse, flat_six]; simp
  refine ⟨_, (l.map (·.v)).reverse, putCells id 0 (flatK Six.cells 6 l.toArray.reverse) cur, w.drawn + n, rfl, ?_, by simp [putCells], hr.reverse, fun x hx => hok x (by simpa using hx), ?_⟩
  · rw [hw']
    show mapBlock (Sort.ahead w n) g _ = _
    have hmod : w.heap.modify g (onCells (putCells id 0 (flatK Six.cells 6 l.toArray.reverse))) = (w.setRow g (putCells id 0 (flatK Six.cells 6 l.toArray.reverse) cur)).heap := by
      unfold World.setRow
      refine Array.ext (by simp) fun i h1 h2 => ?_
      simp only [Array.size_modify] at h1
      rw [Array.getElem_modify, Array.getElem_modify]
      split
      · rename_i e
        subst e
        have : w.heap[g] = .cells cur T (0, 0) := (Array.getElem?_eq_some_iff.1 hh).2
        rw [this]
        rfl
      · rfl
    unfold mapBlock
    simp only [Sort.ahead, hmod]
    rfl
  · intro j v hj
    have hjl : j < (flatK Six.cells 6 l.toArray.reverse).size := by
      have := (List.getElem?_eq_some_iff.1 hj).1
      rw [← hrv]; simpa using this
    have hjv : (flatK Six.cells 6 l.toArray.reverse)[j]! = v := by
      rw [← List.getElem?_toArray, hrv, Array.getElem?_eq_getElem hjl] at hj
      rw [getElem!_pos _ j hjl]
      exact Option.some.inj hj
    have hjc : j < cur.size := by
      have : (flatK Six.cells 6 l.toArray.reverse).size = (flatK Six.cells 6 l.toArray).size := by simp
      omega
    unfold putCells
    rw [Array.getElem?_mapIdx, Array.getElem?_eq_getElem hjc]
    simp only [Option.map_some, Nat.zero_le, true_and, Nat.zero_add, Nat.sub_zero, hjl, if_true, hjv, id]

end Go.Abs.Kon
