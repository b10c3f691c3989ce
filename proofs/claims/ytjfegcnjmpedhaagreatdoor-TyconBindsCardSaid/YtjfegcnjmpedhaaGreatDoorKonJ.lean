/- slices.Reverse turns what nobody else reads; spines. -/
import Derived.Test.YtjfegcnjmpedhaaGreatDoorKonH
import Derived.Test.YtjfegcnjmpedhaaGreatDoorAbsC
import Derived.Test.YtjfegcnjmpedhaaGreatDoorShelfA
import Derived.Test.YtjfegcnjmpedhaaGreatDoorKonI
set_option linter.unusedSimpArgs false
set_option linter.unusedVariables false
namespace Go.Abs.Kon
open Go Go.Proofs Go.Abs
open Go.Sort
set_option maxRecDepth 100000
set_option maxHeartbeats 4000000

structure Six where
  v : Value
  ok : Sz.okV (.agg 6) v = true
instance : Inhabited Six := ⟨⟨.agg #[.bool true, .bool true, .bool true, .bool true, .bool true, .bool true], rfl⟩⟩
def Six.cells (x : Six) : List Value := x.v.cells.toList
theorem Six.len (x : Six) : x.cells.length = 6 := by rw [Six.cells, Array.length_toList]; exact Sz.size_of_ok x.ok
theorem flat_six (l : List Six) : (flatCells (l.map (·.v))).toArray = flatK Six.cells 6 l.toArray := by
  have h0 : (flatCells (l.map (·.v))).length = l.length * 6 := by
    rw [flat_length (k := .agg 6) (fun v hv => by obtain ⟨x, _, rfl⟩ := List.mem_map.1 hv; exact x.ok), List.length_map]; rfl
  refine ext_get! (by simp [h0]) fun t ht => ?_
  have ht' : t < l.length * 6 := by simpa [h0] using ht
  rw [get_flatK _ _ _ _ (by simpa using ht')]
  have key : ∀ (l : List Six) (t : Nat), t < l.length * 6 → (flatCells (l.map (·.v)))[t]? = (l[t / 6]?).bind fun x => x.cells[t % 6]? := by
    intro l
    induction l with
    | nil => intro t h; simp at h
    | cons x l ih =>
      intro t h
      have hx := x.len
      have e : flatCells ((x :: l).map (·.v)) = x.cells ++ flatCells (l.map (·.v)) := by simp [flatCells, Six.cells]
      rw [e]
      by_cases h6 : t < 6
      · rw [List.getElem?_append_left (by omega), Nat.div_eq_of_lt h6, Nat.mod_eq_of_lt h6]
        simp
      · rw [List.getElem?_append_right (by omega), hx, ih (t - 6) (by simp at h; omega)]
        obtain ⟨u, rfl⟩ : ∃ u, t = u + 6 := ⟨t - 6, by omega⟩
        rw [Nat.add_sub_cancel, Nat.add_div_right u (by decide), Nat.add_mod_right]
        simp
  have h1 := key l t ht'
  have hlt : t / 6 < l.length := by omega
  have h6 : t % 6 < (l[t / 6]).cells.length := by rw [Six.len]; omega
  rw [List.getElem?_eq_getElem hlt, Option.bind_some, List.getElem?_eq_getElem h6] at h1
  have h2 : (flatCells (l.map (·.v))).toArray[t]! = (l[t / 6]).cells[t % 6] := by
    rw [getElem!_pos _ t ht]
    have := List.getElem?_eq_some_iff.1 h1
    simpa using this.2
  rw [h2, getElem!_pos l.toArray (t / 6) (by simpa using hlt)]
  simp only [List.getElem_toArray]
  rw [getElem!_pos _ (t % 6) h6]

theorem six_of {vs : List Value} (h : ∀ x ∈ vs, Sz.okV (.agg 6) x = true) : ∃ l : List Six, vs = l.map (·.v) := by
  induction vs with
  | nil => exact ⟨[], rfl⟩
  | cons v vs ih =>
    obtain ⟨l, rfl⟩ := ih fun x hx => h x (List.mem_cons_of_mem _ hx)
    exact ⟨⟨v, h v (by simp)⟩ :: l, rfl⟩

theorem Reverse_inplace (es : List PV) : InPlace Tryz.prog 82 (.agg 6) es es.reverse := by
  refine inplace_of (by kernel_rfl) (by simp) ?_
  intro I w g cap cur T vs hr hok hc hm hh hs hcur
  obtain ⟨l, rfl⟩ := six_of hok
  have hl : es.length = l.toArray.size := by rw [hr.length]; simp
  have hcs : (flatK Six.cells 6 l.toArray).size ≤ cur.size := by
    rw [size_flatK, ← hl, hs]; exact Nat.mul_le_mul_right _ hc
  have hcg : ∀ j, j < (flatK Six.cells 6 l.toArray).size → cur[j]? = some (flatK Six.cells 6 l.toArray)[j]! := by
    intro j hj
    refine hcur j _ ?_
    rw [← List.getElem?_toArray, flat_six, getElem!_pos _ j hj, Array.getElem?_eq_getElem hj]
  have hH : HoldsK Six.cells 6 w g 0 l.toArray := by
    intro j hj
    refine ⟨?_, ?_⟩
    · rw [cell_row hh, Nat.zero_add]; exact hcg j hj
    · simp [World.frozen?, hh]
  rw [hl]
  refine (AnyQ.slices_Reverse Tryz.laysRev 6 (Tryz.isAgg28) (Tryz.sizeOf28) Six.cells Six.len (fun x => Sz.cells_one x.ok) g 0 cap l.toArray w hH (by rw [← hl]; have := maxLen_eq; omega)).mono ?_
  rintro e w' ⟨rfl, n, hw'⟩
  have hrv : (flatCells ((l.map (·.v)).reverse)).toArray = flatK Six.cells 6 l.toArray.reverse := by
    rw [← List.map_reverse, flat_six]; simp
  refine ⟨_, (l.map (·.v)).reverse, putCells id 0 (flatK Six.cells 6 l.toArray.reverse) cur, w.drawn + n, rfl, ?_, by simp [putCells], hr.reverse, fun x hx => hok x (by simpa using hx), ?_⟩
  · rw [hw']
    show mapBlock (Sort.ahead w n) g _ = _
    have hmod : w.heap.modify g (onCells (putCells id 0 (flatK Six.cells 6 l.toArray.reverse))) = (w.setRow g (putCells id 0 (flatK Six.cells 6 l.toArray.reverse) cur)).heap := by
      unfold World.setRow
      refine Array.ext (by simp) fun i h1 h2 => ?_
      simp only [Array.size_modify] at h1
      rw [Array.getElem_modify, Array.getElem_modify]
      split
      · rename_i e
        subst e
        have : w.heap[g] = .cells cur T (0, 0) := (Array.getElem?_eq_some_iff.1 hh).2
        rw [this]
        rfl
      · rfl
    unfold mapBlock
    simp only [Sort.ahead, hmod]
    rfl
  · intro j v hj
    have hjl : j < (flatK Six.cells 6 l.toArray.reverse).size := by
      have := (List.getElem?_eq_some_iff.1 hj).1
      rw [← hrv]; simpa using this
    have hjv : (flatK Six.cells 6 l.toArray.reverse)[j]! = v := by
      rw [← List.getElem?_toArray, hrv, Array.getElem?_eq_getElem hjl] at hj
      rw [getElem!_pos _ j hjl]
      exact Option.some.inj hj
    have hjc : j < cur.size := by
      have : (flatK Six.cells 6 l.toArray.reverse).size = (flatK Six.cells 6 l.toArray).size := by simp
      omega
    unfold putCells
    rw [Array.getElem?_mapIdx, Array.getElem?_eq_getElem hjc]
    simp only [Option.map_some, Nat.zero_le, true_and, Nat.zero_add, Nat.sub_zero, hjl, if_true, hjv, id]

theorem Reverse_nil : Spec Tryz.prog 82 [pp (.slice [])] [] (.tuple []) [] := by
  have w1 : IntKind.i64.wrap (((0 : Nat) : Int) - 1) = -1 := rfl
  refine wk (rv := []) ann82 28 Tryz.func82 ?_
  simp only [go_sem, w1]
  refine ⟨1, ?_⟩
  rw [aLoop_succ]
  simp only [go_sem]
end Go.Abs.Kon

namespace Go.Abs.Kon
open Go Go.Proofs Go.Abs
set_option maxRecDepth 100000
set_option maxHeartbeats 4000000

/-! Spines -/
mutual
def spineF : ConT → ConT × List ConT
  | .mk op n s k names l => if op = 12 then spineL (.mk op n s k names l) l else (.mk op n s k names l, [])
def spineL : ConT → List ConT → ConT × List ConT
  | c, [] => (c, [])
  | c, [_] => (c, [])
  | _, f :: a :: _ => ((spineF f).1, (spineF f).2 ++ [a])
end
theorem spineF_app (n : Int) (s : ByteArray) (k : List KindT) (names : List ByteArray) (f a : ConT) : spineF (.mk 12 n s k names [f, a]) = ((spineF f).1, (spineF f).2 ++ [a]) := by
  rw [spineF, if_pos rfl, spineL]
theorem spineF_not {c : ConT} (h : ¬ c.op = 12) : spineF c = (c, []) := by
  obtain ⟨op, n, s, k, names, l⟩ := c
  replace h : ¬ op = 12 := h
  rw [spineF, if_neg h]
theorem app_parts {n : Int} {s : ByteArray} {k : List KindT} {names : List ByteArray} {l : List ConT} (h : formedF (.mk 12 n s k names l) = true) : ∃ f a, l = [f, a] := by
  rw [formedF, nodeF] at h
  simp only [Bool.and_eq_true, decide_eq_true_eq] at h
  have h1 := h.1.1
  have h2 : (l.length : Int) = 2 := h1
  match l, h2 with
  | [f, a], _ => exact ⟨f, a, rfl⟩

end Go.Abs.Kon

namespace Go.Abs.Kon
open Go Go.Proofs Go.Abs
set_option maxRecDepth 100000
set_option maxHeartbeats 4000000

theorem valid_app {n : Int} {s : ByteArray} {k : List KindT} {names : List ByteArray} {f a : ConT} (h : validF (.mk 12 n s k names [f, a]) = true) : validF f = true ∧ validF a = true ∧ sizeF f < sizeF (.mk 12 n s k names [f, a]) := by
  rw [validF, sizeF, sizeL, sizeL, sizeL, depthF, depthL, depthL, depthL, formedF, formedL, formedL, formedL] at h
  simp only [Bool.and_eq_true, decide_eq_true_eq] at h
  obtain ⟨h1, h2, h3, h4, h5, _⟩ := h
  have hp := sizeF_pos a
  rw [validF, validF, sizeF, sizeL, sizeL, sizeL]
  simp only [Bool.and_eq_true, decide_eq_true_eq]
  exact ⟨⟨by omega, by omega, h4⟩, ⟨by omega, by omega, h5⟩, by omega⟩

def accx (t : Nat) (k : Sz) : List PV → SC
  | [] => .nilS
  | e :: es => .ex t k (e :: es)

def ann30' : Ann := ⟨[], [1000020, 2000007], [(8, [2, 3, 4]), (7, [2, 5, 1]), (6, [1, 5, 2]), (5, [1, 5, 2]), (4, [1, 2, 5, 12]), (3, [1, 5, 2]), (2, [2, 3, 4]), (1, [2, 1, 8]), (0, [2, 1])], [(4, [1, 5, 2])]⟩
@[go_sem] theorem ann30'_imm : ann30'.imm = [] := rfl
@[go_sem] theorem ann30'_frz : ann30'.frz = [1000020, 2000007] := rfl
@[go_sem] theorem ann30'_live : ann30'.live = [(8, [2, 3, 4]), (7, [2, 5, 1]), (6, [1, 5, 2]), (5, [1, 5, 2]), (4, [1, 2, 5, 12]), (3, [1, 5, 2]), (2, [2, 3, 4]), (1, [2, 1, 8]), (0, [2, 1])] := rfl
@[go_sem] theorem ann30'_head : ann30'.head = [(4, [1, 5, 2])] := rfl

def spineR (c : ConT) : PV := if validF c = true then .tuple [encC (spineF c).1, .slice ((spineF c).2.map encC), .int .i64 0] else .tuple [encC zeroC, .slice [], .int .i64 1]

theorem Spine_spec (c : ConT) (h1 : wtF c ≤ 10000000) (h2 : okS c) : Spec Tryz.prog 30 [pp (encC c)] [] (spineR c) [] := by
  have hsc := sizeF_wt c
  have hV := Valid_spec c (by omega) h2
  rw [spineR]
  refine Spec.walk (rv := [.cell 2 28, .tmp 3, .tmp 4]) ann30' 30 Tryz.func30 mixed rfl rfl (by kernel_rfl) rfl rfl fun hfit => ?_
  clear hfit
  simp only [go_sem, encC_sz]
  refine aCall_intro hV ?_
  cases hv : validF c with
  | false =>
    simp only [go_sem, zeroC, encC_mk]
  | true =>
    simp only [go_sem, encC_sz]
    refine aLoop_meas (β := ConT × List ConT) (fun b => ⟨[(1, .one (.ptr (.loc 1) 0)), (5, .one (accx 40 (.agg 6) (b.2.map encC))), (2, .one (.ptr (.loc 2) 0))],
      [(.loc 1, ⟨.agg 6, pp (encC b.1)⟩), (.loc 2, ⟨.agg 6, .agg [.pv (.int .i64 0), .pv (.int .i64 0), .pv (.str ByteArray.empty), .nilS, .nilS, .nilS]⟩)], []⟩)
      (fun b => validF b.1 = true ∧ wtF b.1 ≤ wtF c ∧ (spineF c).1 = (spineF b.1).1 ∧ (spineF c).2 = (spineF b.1).2 ++ b.2.reverse ∧ b.2.length + sizeF b.1 ≤ sizeF c) (fun b => sizeF b.1) ?_ (c, []) _ ?_ ⟨hv, Nat.le_refl _, rfl, by simp, by simp⟩
    · rintro ⟨⟨op, n, s, k, names, l⟩, out⟩ ⟨g1, g2, g3, g4, g5⟩ K hK
      simp only at g1 g2 g3 g4 g5 hK
      have hf := validF_formed g1
      simp only [go_sem, encC_mk]
      refine condK_intro (fun hb => ?_) (fun hb => ?_)
      · have hop : op = 12 := eq_of_beq hb
        subst hop
        obtain ⟨f, a, rfl⟩ := app_parts hf
        obtain ⟨v1, v2, v3⟩ := valid_app g1
        have hw := g2
        rw [wtF, wtL, wtL, wtL] at hw
        have hC := copied_spec a (by omega) v2
        rw [spineF_app] at g3 g4
        have hK' := fun s' hs => hK (f, out ++ [a]) s' hs ⟨v1, show wtF f ≤ wtF c by omega, g3, by rw [g4]; simp, by simp; omega⟩ v3
        clear hK g3 g4
        have hb1 : (out.length + 1) * 104 ≤ 140737488355328 := by omega
        have hb2 : out.length + 1 ≤ maxLen := by rw [maxLen_eq]; omega
        cases out with
        | nil =>
          simp only [go_sem, encC_sz, accx]
          refine aCall_intro hC ?_
          simp only [go_sem, encC_sz, one_le_maxLen, List.isEmpty_cons]
          refine hK' _ ?_
          simp only [go_sem, accx]
        | cons o out =>
          simp only [List.length_cons] at hb1 hb2
          simp only [go_sem, encC_sz, accx]
          refine aCall_intro hC ?_
          simp only [go_sem, encC_sz, hb1, hb2, List.isEmpty_cons, List.length_map]
          refine hK' _ ?_
          simp only [go_sem, accx, List.map_append]
      · have hop : ¬ op = 12 := by simpa using hb
        have hC := copied_spec (.mk op n s k names l) (by omega) g1
        rw [spineF_not (c := .mk op n s k names l) hop] at g3 g4
        simp only [List.nil_append] at g3 g4
        rw [g3, g4, List.map_reverse]
        clear hK g3 g4
        rw [encC_mk] at hC ⊢
        cases out with
        | nil =>
          simp only [go_sem, accx]
          refine aFlipOr_ops ?_
          simp only [go_sem]
          refine aCall_intro Reverse_nil ?_
          simp only [go_sem]
          refine aCall_intro hC ?_
          simp only [go_sem, List.reverse_nil]
        | cons o out =>
          simp only [go_sem, accx]
          refine aFlipOr_flip rfl ⟨rfl, rfl, rfl⟩ ⟨rfl, rfl, rfl⟩ rfl (Reverse_inplace _) ?_
          simp only [go_sem, AS.flip, flipT, flipB, flipSV, flipSC]
          refine aCall_intro hC ?_
          simp only [go_sem]
    · simp only [go_sem, accx]
end Go.Abs.Kon
