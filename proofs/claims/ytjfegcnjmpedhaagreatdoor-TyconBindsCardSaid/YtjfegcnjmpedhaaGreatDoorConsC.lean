/- Constants: slices of texts, sorted; the program's names, and Bind. -/
import Derived.RangeFuncBox
import Derived.RangeFuncLeaves
import Derived.Shelf.Abstract
import Derived.WalkKit
import Derived.OwnWalkIn
import Derived.TacticsInMore
import Derived.LoopNIn
import Derived.LoopIn
import Derived.Maps.AppendAt
import Derived.Sort.OwnSorted
import Derived.Test.YtjfegcnjmpedhaaGreatDoorShelfA
import Derived.Test.YtjfegcnjmpedhaaGreatDoorAbsC
import Derived.Test.YtjfegcnjmpedhaaGreatDoorTermB
import Derived.Test.YtjfegcnjmpedhaaGreatDoorConsB
set_option linter.unusedSimpArgs false
set_option linter.unusedVariables false
namespace Go.Proofs
open Go.RowKit Go.Shelf Go.Sort

attribute [local go_sem] Oper.semAt_some

def upS {α : Type} (f : Nat → α) (k : Nat) : List α := (List.range k).map f
theorem upS_succ {α : Type} (f : Nat → α) (k : Nat) : upS f (k + 1) = upS f k ++ [f k] := by simp [upS, List.range_succ]
theorem upS_length {α : Type} (f : Nat → α) (k : Nat) : (upS f k).length = k := by simp [upS]
theorem upS_all (zs : List ByteArray) : upS (fun j => zs[j]?.getD ByteArray.empty) zs.length = zs := by
  apply List.ext_getElem
  · simp [upS]
  · intro i h1 h2
    simp [upS, h2]
theorem upS_take (zs : List ByteArray) {k : Nat} (hk : k ≤ zs.length) : upS (fun j => zs[j]?.getD ByteArray.empty) k = zs.take k := by
  apply List.ext_getElem
  · simp [upS, hk]
  · intro i h1 h2
    have : i < zs.length := by simp [upS] at h1; omega
    simp [upS, this]

set_option maxRecDepth 100000 in
set_option maxHeartbeats 2000000 in
theorem values1_wide (n : Nat) (hn : 1 ≤ n) (l Bs oB n₀ b off len cap : Nat) (zs : List ByteArray) (hreach : len * 16 ≤ 140737488351232) (hb : b < n₀) (J Jx : List ByteArray → World → Prop)
    (hY : ∀ pre x W, J pre W → pre.length < len → YieldAt Fence.wide (n - 1) Tryz.prog l #[.string x] W fun e W' =>
      (e = .returned (.bool true) ∧ J (pre ++ [x]) W' ∧ Below n₀ W W') ∨ (e = .returned (.bool false) ∧ Jx (pre ++ [x]) W'))
    (W : World) (hBs : W.cell? ⟨Bs, oB, none⟩ = some (.slice (some ⟨b, off, none⟩) len cap)) (hc : ∀ j, j < len → W.cell? ⟨b, off + j, none⟩ = some (.string (zs[j]?.getD ByteArray.empty))) (h0 : J [] W) :
    CallsIn Fence.wide n Tryz.prog 74 #[.func (.yield l) #[] #[], .pointer (some ⟨Bs, oB, none⟩)] W fun e W' => (∃ v, e = .returned v) ∧
      ((∃ ys, ys = upS (fun j => zs[j]?.getD ByteArray.empty) len ∧ J ys W') ∨ (∃ pre, (∃ k, k ≤ len ∧ pre = upS (fun j => zs[j]?.getD ByteArray.empty) k) ∧ Jx pre W')) := by
  refine callsIn_of_wp Tryz.func74 rfl trivial ?_ rfl
  simp only [Tryz.ntmps74, List.size_toArray, List.length_cons, List.length_nil, Nat.reduceAdd, Nat.reduceSub, Array.replicate_succ, Array.replicate_zero, List.push_toArray, List.append_toArray, List.nil_append, List.cons_append]
  gi_wp2
  gi_loopw [7] (fun i wr => ∃ k : Nat, k ≤ len ∧ i = .int .i64 k ∧ J (upS (fun j => zs[j]?.getD ByteArray.empty) k) wr ∧ Below n₀ W wr)
    (fun i _ => len - (intOf i).toNat)
  case atStart => exact ⟨0, Nat.zero_le _, rfl, h0, Below.refl _ _⟩
  case round =>
    obtain ⟨k, hk, rfl, hJs, hnx⟩ := hrel
    have hcx : k < len → wr.cell? ⟨b, off + k, none⟩ = some (.string (zs[k]?.getD ByteArray.empty)) := fun h => (hnx.cell (p := ⟨b, off + k, none⟩) hb).trans (hc k h)
    by_cases hlt : k < len
    · obtain ⟨fn, tmps, assign, body, hy, hR⟩ := hY _ (zs[k]?.getD ByteArray.empty) wr hJs (by rw [upS_length]; exact hlt)
      have hcx' := hcx hlt
      gi_wp2
      refine hR.mono ?_
      rintro e W3 (⟨rfl, hJ3, hk3⟩ | ⟨rfl, hJx3⟩)
      · gi_wp2
        go_roundw
        case rel => exact ⟨k + 1, by omega, by simp, by rw [upS_succ]; exact hJ3, hnx.trans hk3⟩
        case measure => simp [intOf]; omega
      · gi_wp2
        refine bodyPost_ret (results_none rfl _ _ _) rfl ?_
        exact ⟨⟨_, rfl⟩, .inr ⟨_, ⟨k + 1, by omega, (upS_succ _ _).symm⟩, hJx3⟩⟩
    · obtain rfl : k = len := by omega
      gi_wp2
      go_end0
      exact ⟨⟨_, rfl⟩, .inl ⟨_, rfl, hJs⟩⟩

def HoldsS (n₀ : Nat) (W : World) (sv : Value) (zs : List ByteArray) : Prop :=
  (∃ a cap, sv = .slice a 0 cap ∧ zs = []) ∨ ∃ b off cap, sv = .slice (some ⟨b, off, none⟩) zs.length cap ∧ b < n₀ ∧ ∀ j, j < zs.length → W.cell? ⟨b, off + j, none⟩ = some (.string (zs[j]?.getD ByteArray.empty))
theorem HoldsS.below {n₀ : Nat} {A B : World} (h : Below n₀ A B) {sv : Value} {zs : List ByteArray} : HoldsS n₀ A sv zs → HoldsS n₀ B sv zs
  | .inl e => .inl e
  | .inr ⟨b, off, cap, e, hb, hc⟩ => .inr ⟨b, off, cap, e, hb, fun j hj => (h.cell (p := ⟨b, off + j, none⟩) hb).trans (hc j hj)⟩

set_option maxRecDepth 100000 in
set_option maxHeartbeats 1000000 in
theorem values1_none (n : Nat) (l Bs oB : Nat) (a : Option Addr) (cap : Nat) (J : List ByteArray → World → Prop) (W : World) (hBs : W.cell? ⟨Bs, oB, none⟩ = some (.slice a 0 cap)) (h0 : J [] W) :
    CallsIn Fence.wide n Tryz.prog 74 #[.func (.yield l) #[] #[], .pointer (some ⟨Bs, oB, none⟩)] W fun e W' => (∃ v, e = .returned v) ∧ J [] W' := by
  refine callsIn_of_wp Tryz.func74 rfl trivial ?_ rfl
  simp only [Tryz.ntmps74, List.size_toArray, List.length_cons, List.length_nil, Nat.reduceAdd, Nat.reduceSub, Array.replicate_succ, Array.replicate_zero, List.push_toArray, List.append_toArray, List.nil_append, List.cons_append]
  gi_wp2
  gi_loopw [7] (fun i wr => i = .int .i64 0 ∧ J [] wr) (fun _ _ => 0)
  case atStart => exact ⟨rfl, h0⟩
  case round =>
    obtain ⟨rfl, hJs⟩ := hrel
    gi_wp2
    go_end0
    exact ⟨⟨_, rfl⟩, hJs⟩

theorem values_stops (n : Nat) (hn : 1 ≤ n) (Bs oB n₀ : Nat) (sv : Value) (zs : List ByteArray) (hreach : zs.length * 16 ≤ 140737488351232) (w : World) (hBs : Bs < w.heap.size) (hn₀ : n₀ ≤ w.heap.size)
    (hc : w.cell? ⟨Bs, oB, none⟩ = some sv) (hI : HoldsS n₀ w sv zs) :
    SeqStopsK Fence.wide n Tryz.prog 74 #[.pointer (some ⟨Bs, oB, none⟩)] (fun x : ByteArray => #[Value.string x]) (Below n₀) (fun ys => ys = zs) (fun pre => pre <+: zs) zs.length w := fun l J Jx W hW _ _ hY h0 => by
  have hc' := (hW.cell (p := ⟨Bs, oB, none⟩) hBs).trans hc
  rcases hI.below (hW.mono hn₀) with ⟨a, cap, rfl, rfl⟩ | ⟨b, off, cap, rfl, hb, hcs⟩
  · exact (values1_none n l Bs oB a cap J W hc' h0).mono fun e W' ⟨he, hj⟩ => ⟨he, .inl ⟨_, rfl, hj⟩⟩
  · refine (values1_wide n hn l Bs oB n₀ b off zs.length cap zs hreach hb J Jx hY W hc' hcs h0).mono ?_
    rintro e W' ⟨he, ⟨ys, rfl, hj⟩ | ⟨pre, ⟨k, hk, rfl⟩, hj⟩⟩
    · exact ⟨he, .inl ⟨_, upS_all zs, hj⟩⟩
    · exact ⟨he, .inr ⟨_, by rw [upS_take zs hk]; exact List.take_prefix _ _, hj⟩⟩

theorem info_str : (Tryz.prog.info? 9).map (fun i => (i.zero, i.size, i.bytes)) = some (some (.string ⟨#[]⟩), 1, 16) := by kernel_rfl

set_option maxRecDepth 100000 in
set_option maxHeartbeats 2000000 in
theorem appendSeq_wide (n : Nat) (hn : 3 ≤ n) (Bs oB : Nat) (sv : Value) (zs : List ByteArray) (hlen : zs.length ≤ maxLen) (hreach : zs.length * 16 ≤ 140737488351232) (w : World) (hBs : Bs < w.heap.size) (hcB : w.cell? ⟨Bs, oB, none⟩ = some sv) (hI : HoldsS w.heap.size w sv zs) :
    CallsIn Fence.wide n Tryz.prog 109 #[.slice none 0 0, .func (.func 74) #[] #[.pointer (some ⟨Bs, oB, none⟩)]] w fun e W' => ∃ v, e = .returned v ∧ W'.ownsRow w.heap.size 9 1 v zs.length (zs.map Value.string) ∧ (v = .slice none 0 0 ↔ zs = []) ∧ Below w.heap.size w W' := by
  have h1 : 1 ≤ n := by omega
  obtain ⟨i0, hi, hz0, hz1, hz2⟩ := info_parts info_str
  refine callsIn_of_wp_marks Tryz.func109 rfl trivial ?_ rfl
  simp only [Tryz.ntmps109, List.size_toArray, List.length_cons, List.length_nil, Nat.reduceAdd, Nat.reduceSub, Array.replicate_succ, Array.replicate_zero, List.push_toArray, List.append_toArray, List.nil_append, List.cons_append]
  gi_wp2
  have bO := Boxed.new w 25 (.slice none 0 0)
  have hB0 : Below w.heap.size w (w.alloc (.cells #[.slice none 0 0] 25)) := (Below.refl _ w).alloc (Nat.le_refl _) _
  refine wpIn_rangeFunc_ownG rfl h1 (gf := 74) (lb := #[.pointer (some ⟨Bs, oB, none⟩)]) rfl trivial (enters_of Tryz.func74 (by kernel_rfl) rfl)
    (values_stops (n - 1) (by omega) Bs oB w.heap.size sv zs hreach _ (by simp; omega) (by simp) ((hB0.cell (p := ⟨Bs, oB, none⟩) hBs).trans hcB) (hI.below hB0)) belowK_t (belowK_b (by simp)) (Below.refl _ _) (fun _ => rfl)
    (fun pre W => (∃ v, Boxed W w.heap.size 25 v ∧ W.ownsRow w.heap.size 9 1 v pre.length (pre.map Value.string) ∧ (v = .slice none 0 0 ↔ pre = [])) ∧ Below w.heap.size w W)
    (fun _ _ _ => False)
    (OwnFrom.and (Own.from (holdsRow_own w.heap.size w.heap.size 25 9 1 (fun pre : List ByteArray => pre.length) (fun pre => pre.map Value.string) (fun pre v => v = .slice none 0 0 ↔ pre = [])) _) (ownFrom_below (Nat.le_refl _) (by simp)))
    (fun _ _ _ _ _ hs _ _ => hs)
    ⟨⟨_, bO, World.ownsRow_nil _ _ _ _, by simp⟩, hB0⟩
    (fun x => { tmps := #[.slice none 0 0, .func (.func 74) #[] #[.pointer (some ⟨Bs, oB, none⟩)], .pointer (some ⟨w.heap.size, 0, none⟩), undef, .slice none 0 0, .string x, .func (.func 74) #[] #[.pointer (some ⟨Bs, oB, none⟩)], .string x, undef, undef, undef, undef, undef], defers := [] }) ?assign ?body ?done ?stop
  case assign =>
    intro l x W K hK
    gi_wp2
    exact hK
  case body =>
    rintro l pre x W ⟨⟨v, hv, hrow, hnil⟩, hB⟩ hlt
    have hc := hv.cell
    gi_wp2_with (gi_at_builtin; refine wpListIn_append_own _ rfl _ _ 25 rfl w.heap.size 9 i0 (.string ⟨#[]⟩) 1 16 Tryz.underlying25 hi hz0 hz1 hz2 rfl (by decide) _ _ _ rfl (hrow.alloc _) ⟨W.heap.size, 0, none⟩ 1 1 [.string x] rfl rfl (cell_one_new _ _ _) (by simp [Value.oneCell']) (by omega) (by omega) (by have := hB.size; simp; omega) ?_; intro v' w1 hown' hgrow _; obtain ⟨g', cap', rfl⟩ := ownsRow_succ hown'; obtain ⟨hv1, hv2, hr2, hk2, hb2⟩ := hv.appended (by decide) hrow hB.size (Nat.le_refl _) hown' hgrow; have hc1 := hv1.cell; have hf1 := hv1.frozen)
    exact ⟨hk2.from _, hb2, ⟨_, hv2, by simpa using hr2, by simp⟩, hB.trans hb2⟩
  case done =>
    rintro D ys W hD rfl ⟨⟨v, hv, hrow, hnil⟩, hB⟩ hK
    have hc := hv.cell
    gi_wp2
    refine ⟨by simp, .inl ⟨_, _, rfl, run_takeDeferred hK, ?_⟩⟩
    exact ⟨_, results_tmp rfl _ _ _, v, rfl, ownsRow_putObj hrow _ hK rfl, hnil, hB.trans (belowK_b (w := w) (Nat.le_refl _) W D _ _ (by simp at hD; omega) hK rfl rfl)⟩
  case stop =>
    rintro D c pre W _ _ h _
    exact h.elim

set_option maxHeartbeats 1000000 in
theorem collect_calls (Bs oB : Nat) (sv : Value) (zs : List ByteArray) (hlen : zs.length ≤ maxLen) (hreach : zs.length * 16 ≤ 140737488351232) (w : World) (hBs : Bs < w.heap.size) (hcB : w.cell? ⟨Bs, oB, none⟩ = some sv) (hI : HoldsS w.heap.size w sv zs) :
    Calls Tryz.prog 72 #[.func (.func 74) #[] #[.pointer (some ⟨Bs, oB, none⟩)]] w fun e W' => ∃ v, e = .returned v ∧ W'.ownsRow w.heap.size 9 1 v zs.length (zs.map Value.string) ∧ (v = .slice none 0 0 ↔ zs = []) ∧ Below w.heap.size w W' := by
  have hA := callsIn_wide.1 (appendSeq_wide 3 (by omega) Bs oB sv zs hlen hreach w hBs hcB hI)
  go_enter Tryz.func72, Tryz.ntmps72
  go_wp2_with (go_at_call 109; refine hA.mono ?_; rintro e w' ⟨v, rfl, h1, h2, h3⟩)
  go_ret
  exact ⟨v, rfl, h1, h2, h3⟩
end Go.Proofs

namespace Go.Abs
open Go
theorem below_row_x {G : Gh} {w w' : World} (hW : WInv G w) (hB : RowKit.Below w.heap.size w w') (t0 : Nat) (ht0 : G.tok t0 = none) (k : Sz) (g len cap : Nat) (cur : Array Value) (T : TypeId) (cs : List Value)
    (hg : w.heap.size ≤ g) (hgh : w'.heap[g]? = some (.cells cur T (0, 0))) (hcs : cur.size = cap * k.size) (hlc : len ≤ cap) (hm : cap ≤ maxLen) (hc : ∀ (j : Nat) (v : Value), cs[j]? = some v → cur[j]? = some v) :
    ∃ G', WInv G' w' ∧ Ext G G' w w' (fun _ => False) (fun _ => True) ∧ G'.tok t0 = some ⟨.slice (some ⟨g, 0, none⟩) len cap, k, some g, some cs⟩ ∧ G'.I = G.I := by
  let tk0 : Tk := ⟨.slice (some ⟨g, 0, none⟩) len cap, k, some g, some cs⟩
  let G' : Gh := ⟨G.I, G.blk, fun t => if t = t0 then some tk0 else G.tok t, G.cap⟩
  have hno : ∀ o, G.I g o = none := by
    intro o
    cases hv : G.I g o with
    | none => rfl
    | some v => have := imm_lt hW hv; omega
  have hE : Ext G G' w w' (fun _ => False) (fun _ => True) := by
    refine ⟨Imm.le_refl _, fun b o v hv => .inl hv, fun _ _ => rfl, fun _ _ h => h, fun _ _ h => .inl h, fun t h => absurd trivial h, fun t tk g' ht hg' => ?_, fun b hb _ _ => hB.block b hb, hB.size, hB.os, hB.tape, hB.output, fun _ _ => rfl⟩
    have ht' : (if t = t0 then some tk0 else G.tok t) = some tk := ht
    split at ht'
    · cases ht'
      cases hg'
      exact .inr (.inl hg)
    · exact .inl ht'
  refine ⟨G', ⟨fun b o v hv => ?_, hW.inj, fun n b h => Nat.lt_of_lt_of_le (hW.lt n b h) hB.size, hW.blkImm, fun t tk ht => ?_, fun t t' tk tk' g' h1 h2 h3 h4 => ?_, fun t tk g' n h1 h2 hn => ?_, hW.glob.step hE⟩, hE, if_pos rfl, rfl⟩
  · rw [World.cell?_of_block (w := w) (hB.block b (imm_lt hW hv))]; exact hW.imm _ _ _ hv
  · have ht' : (if t = t0 then some tk0 else G.tok t) = some tk := ht
    split at ht'
    · cases ht'
      exact ⟨_, len, cap, rfl, hlc, hm, cur, T, rfl, hgh, hcs, fun o _ => hno o, fun cs' hcs => by cases hcs; exact ⟨hno, hc⟩⟩
    · exact (hW.tokOk t tk ht').keep fun g' hg' => ⟨hB.block g' (tok_lt hW ht' hg'), fun o v hv => hv⟩
  · have h1' : (if t = t0 then some tk0 else G.tok t) = some tk := h1
    have h2' : (if t' = t0 then some tk0 else G.tok t') = some tk' := h2
    split at h1' <;> split at h2'
    · simp_all
    · cases h1'; cases h3; have := tok_lt hW h2' h4; omega
    · cases h2'; cases h4; have := tok_lt hW h1' h3; omega
    · exact hW.tokInj t t' tk tk' g' h1' h2' h3 h4
  · have h1' : (if t = t0 then some tk0 else G.tok t) = some tk := h1
    split at h1'
    · cases h1'; cases h2; have := hW.lt n _ hn; omega
    · exact hW.tokBlk t tk g' n h1' h2 hn

theorem TurnP.of {P : Program} {f : FuncId} {k : Sz} {es : List PV} {c' : Nat → SC} {r : PV} (h : Turn P f k es c' (.pv r)) : TurnP P f k es r :=
  ⟨h.1, fun G w v t tk h1 h2 h3 => (h.2 G w v t tk h1 h2 h3).mono fun _ _ ⟨rv, G', e, g1, g2, _, g4, g5, g6⟩ => ⟨rv, G', e, g1, g2, g4, g5, g6⟩⟩
end Go.Abs
namespace Go.Abs.Kon
open Go Go.Proofs Go.Abs
open Go.Sort (putCells putRow grow)
set_option maxRecDepth 100000
set_option maxHeartbeats 4000000

abbrev strs (l : List (List UInt8)) : List PV := l.map fun z => .str ⟨z.toArray⟩
abbrev strV (l : List (List UInt8)) : List Value := l.map encStr
theorem rep_strs {I : Imm} : ∀ {zs : List (List UInt8)} {vs : List Value}, RepL I (strs zs) vs → vs = strV zs
  | [], vs, h => by rw [strs, List.map_nil, RepL] at h; simp [h]
  | z :: zs, vs, h => by
    rw [strs, List.map_cons, RepL] at h
    obtain ⟨v, rest, rfl, h2, h3⟩ := h
    rw [Rep] at h2
    rw [h2, rep_strs h3]
    rfl
theorem strs_rep {I : Imm} : ∀ zs : List (List UInt8), RepL I (strs zs) (strV zs)
  | [] => by rw [strs, List.map_nil, strV, List.map_nil, RepL]
  | z :: zs => by
    rw [strs, List.map_cons, strV, List.map_cons, RepL]
    exact ⟨_, _, rfl, by rw [Rep], strs_rep zs⟩
theorem flat_strs : ∀ zs : List (List UInt8), flatCells (strV zs) = strV zs
  | [] => rfl
  | z :: zs => by
    have ih := flat_strs zs
    simp only [flatCells, strV, List.map_cons, List.flatMap_cons] at ih ⊢
    rw [ih]
    rfl
theorem holds_strs {w : World} {g : Nat} {cur : Array Value} {T : TypeId} {zs : List (List UInt8)} (hb : w.heap[g]? = some (.cells cur T (0, 0))) (h : ∀ (j : Nat) (v : Value), (strV zs)[j]? = some v → cur[j]? = some v) :
    Go.Sort.Holds encStr w g 0 zs.toArray := by
  intro j hj
  have hj' : j < zs.length := by simpa using hj
  refine ⟨?_, by simp [World.frozen?, hb]⟩
  rw [Nat.zero_add, cell_row hb, h j (encStr zs[j]) (by simp [hj'])]
  simp [hj']
theorem row_sortedS {w : World} {g n : Nat} {os : Array Obj} {cur : Array Value} {T : TypeId} (d : Array (List UInt8)) (hb : w.heap[g]? = some (.cells cur T (0, 0))) :
    RowTo w (grow (putRow encStr (Go.Sort.ahead w n) g 0 d) os) g (putCells encStr 0 d cur) T := by
  have hg : g < w.heap.size := (Array.getElem?_eq_some_iff.1 hb).1
  refine ⟨?_, fun b hb' hne => ?_, ?_, rfl, rfl, rfl⟩
  · rw [Go.Sort.heap_grow_old _ _ (by simpa using hg)]
    simp [putRow, Go.Sort.mapBlock, Go.Sort.ahead, Array.getElem?_modify, hb, Go.Sort.onCells]
  · rw [Go.Sort.heap_grow_old _ _ (by simpa using hb')]
    have : g ≠ b := fun e => hne e.symm
    simp [putRow, Go.Sort.mapBlock, Go.Sort.ahead, Array.getElem?_modify, this]
  · simp
theorem put_cellsS {cur : Array Value} {zs : List (List UInt8)} (h : zs.length ≤ cur.size) : ∀ (j : Nat) (v : Value), (strV zs)[j]? = some v → (putCells encStr 0 zs.toArray cur)[j]? = some v := by
  intro j v hj
  have hj' : j < zs.length := by
    rcases Nat.lt_or_ge j zs.length with h1 | h1
    · exact h1
    · rw [List.getElem?_eq_none (by simpa using h1)] at hj; cases hj
  rw [← hj]
  simp [putCells, hj', show j < cur.size by omega]
def sortN (zs : List (List UInt8)) : List (List UInt8) := zs.mergeSort fun x y => decide (x ≤ y)
theorem sortN_length (zs : List (List UInt8)) : (sortN zs).length = zs.length := by rw [sortN]; exact List.length_mergeSort zs
theorem SortS_turn (zs : List (List UInt8)) (hn : zs.length < 4611686018427387904) : Turn Tryz.prog 73 .one (strs zs) (fun t => .ex t .one (strs (sortN zs))) .any := by
  refine turn_ex (by kernel_rfl) (by simp [sortN_length]) (fun e he => ?_) fun I w g cap cur T vs h1 h2 h3 h4 h5 h6 h7 => ?_
  · obtain ⟨z, _, rfl⟩ := List.mem_map.1 he; rfl
  · obtain rfl := rep_strs h1
    rw [flat_strs] at h7
    rw [strs, List.length_map] at h3 ⊢
    have hg : g < w.heap.size := (Array.getElem?_eq_some_iff.1 h5).1
    refine (show Calls Tryz.prog 73 _ _ _ from Any.slices_Sort_string Tryz.laysSortS g 0 cap zs w (holds_strs h5 h7) hg hn).mono ?_
    rintro e w' ⟨rfl, n, os, rfl⟩
    refine ⟨_, strV (sortN zs), _, rfl, row_sortedS _ h5, by simp [putCells], strs_rep _, fun x hx => ?_, ?_⟩
    · obtain ⟨z, _, rfl⟩ := List.mem_map.1 hx; rfl
    · rw [flat_strs]
      exact put_cellsS (by have : cur.size = cap * 1 := h6; rw [sortN_length]; omega)
theorem compactS_length (zs : List (List UInt8)) : (Lib.compact zs).length ≤ zs.length := by
  unfold Lib.compact Lib.compactUpTo
  rw [List.length_map]
  refine Nat.le_trans (List.length_filter_le _ _) ?_
  simp
theorem CompactS_turn (zs : List (List UInt8)) (hn : zs.length ≤ 9223372036854775807) : TurnP Tryz.prog 21 .one (strs zs) (.slice (strs (Lib.compact zs))) := by
  have hl := compactS_length zs
  refine TurnP.of (turn_imm (by kernel_rfl) (by simpa using hl) fun I w g cap cur T vs h1 h2 h3 h4 h5 h6 h7 => ?_)
  obtain rfl := rep_strs h1
  rw [flat_strs] at h7
  rw [strs, List.length_map] at h3 ⊢
  refine (show Calls Tryz.prog 21 _ _ _ from Any.slices_Compact_string Tryz.laysCompS g 0 cap zs w (holds_strs h5 h7) hn h3).mono ?_
  rintro e w' ⟨rfl, n, rfl⟩
  have hcs : cur.size = cap * 1 := h6
  have hR := row_sortedS (n := n) (os := #[]) (Lib.compact zs ++ List.replicate (zs.length - (Lib.compact zs).length) []).toArray h5
  rw [Go.Sort.grow_empty] at hR
  refine ⟨strV (Lib.compact zs), _, by rw [strs, List.length_map], hR, by simp [putCells], strs_rep _, fun x hx => ?_, ?_⟩
  · obtain ⟨z, _, rfl⟩ := List.mem_map.1 hx; rfl
  · rw [flat_strs]
    intro j v hj
    refine put_cellsS (zs := Lib.compact zs ++ List.replicate (zs.length - (Lib.compact zs).length) []) (by simp; omega) j v ?_
    have hj' : j < (Lib.compact zs).length := by
      rcases Nat.lt_or_ge j (Lib.compact zs).length with h1 | h1
      · exact h1
      · rw [List.getElem?_eq_none (by simpa using h1)] at hj; cases hj
    rw [strV, List.map_append, List.getElem?_append_left (by simpa using hj')]
    exact hj

/-! Nothing to sort -/
theorem SortS_0 : Spec Tryz.prog 73 [pp (.slice [])] [] (.tuple []) [] := by
  refine Spec.of_below (by kernel_rfl) fun G w vs hW hr => ?_
  simp only [RepSVs, pp, RepSV, RepSC, Rep] at hr
  obtain ⟨v, rest, h1, ⟨a, len, cap, k, rfl, rfl, h2, h3, h4⟩, rfl⟩ := hr
  obtain rfl : vs = #[.slice a 0 cap] := Array.toList_inj.1 h1
  refine (show Calls Tryz.prog 73 _ _ _ from Any.slices_Sort_string_none Tryz.laysSortS a cap w).mono ?_
  rintro e w' ⟨rfl, rfl⟩
  exact ⟨_, rfl, by rw [Rep]; exact ⟨#[], rfl, by simp [RepL]⟩, RowKit.Below.refl _ _⟩
theorem CompactS_0 : Spec Tryz.prog 21 [pp (.slice [])] [] (.slice []) [] := by
  refine Spec.of_below (by kernel_rfl) fun G w vs hW hr => ?_
  simp only [RepSVs, pp, RepSV, RepSC, Rep] at hr
  obtain ⟨v, rest, h1, ⟨a, len, cap, k, rfl, rfl, h2, h3, h4⟩, rfl⟩ := hr
  obtain rfl : vs = #[.slice a 0 cap] := Array.toList_inj.1 h1
  refine (show Calls Tryz.prog 21 _ _ _ from Any.slices_Compact_string_empty Tryz.laysCompS a cap w).mono ?_
  rintro e w' ⟨rfl, rfl⟩
  refine ⟨_, rfl, ?_, RowKit.Below.refl _ _⟩
  rw [Rep]
  exact ⟨a, 0, cap, k, rfl, rfl, h2, h3, .inl rfl⟩

/-! slices.Values, Collect, Sorted -/
def bysN (l : List ByteArray) : List (List UInt8) := l.map fun s => s.data.toList
theorem strV_bys (l : List ByteArray) : strV (bysN l) = l.map Value.string := by
  rw [strV, bysN, List.map_map]
  refine List.map_congr_left fun s _ => ?_
  rfl
def capN' (l : List ByteArray) : PV := .ep (.slice (l.map .str)) 0
def seqF (l : List ByteArray) : PV := .fn 74 [capN' l]
theorem Values_spec (l : List ByteArray) : Spec Tryz.prog 23 [pp (.slice (l.map .str))] [] (seqF l) [] := by
  refine wk (rv := [.tmp 2]) ann23 4 Tryz.func23 ?_
  simp only [go_sem, seqF, capN']
theorem row_cells {G : Gh} {w : World} (hW : WInv G w) (k : Sz) (b : Nat) : ∀ (l : List ByteArray) (o : Nat), RepE G.I k (l.map .str) b o → ∀ j, j < l.length → w.cell? ⟨b, o + j, none⟩ = some (.string (l[j]?.getD ByteArray.empty)) ∧ b < w.heap.size
  | [], _, _, j, hj => by simp at hj
  | s :: l, o, h, j, hj => by
    rw [List.map_cons, RepE] at h
    obtain ⟨⟨u, h1, h2, h3⟩, h4⟩ := h
    rw [Rep] at h1
    subst h1
    have hk : k = .one := by
      cases k with
      | one => rfl
      | agg n => simp [Sz.okV] at h2
    subst hk
    cases j with
    | zero =>
      have hI := h3 0 (.string s) (by simp [Value.cells])
      exact ⟨by simpa using hW.imm _ _ _ hI, imm_lt hW hI⟩
    | succ j =>
      have := row_cells hW .one b l (o + 1) h4 j (by simpa using hj)
      rw [show o + (j + 1) = o + 1 + j by omega]
      simpa using this
theorem seq_open {G : Gh} {w : World} {vs : Array Value} (l : List ByteArray) (hW : WInv G w) (hr : RepSVs G [] [pp (seqF l)] vs.toList) :
    ∃ b o sv, vs = #[.func (.func 74) #[] #[.pointer (some ⟨b, o, none⟩)]] ∧ b < w.heap.size ∧ w.cell? ⟨b, o, none⟩ = some sv ∧ HoldsS w.heap.size w sv l := by
  simp only [RepSVs, pp, RepSV, RepSC, seqF, capN', Rep, RepL] at hr
  obtain ⟨v, rest, h1, ⟨cv, rfl, v2, r2, h2, ⟨b, o, u, k, rfl, ⟨a, len, cap, k2, rfl, hl, h4, h5, h6⟩, h7, h8⟩, rfl⟩, rfl⟩ := hr
  obtain rfl : cv = #[.pointer (some ⟨b, o + 0, none⟩)] := Array.toList_inj.1 h2
  obtain rfl := Array.toList_inj.1 (show vs.toList = (#[Value.func (.func 74) #[] #[.pointer (some ⟨b, o + 0, none⟩)]] : Array Value).toList from h1)
  have hI := h8 0 (.slice a len cap) (by simp [Value.cells])
  rw [List.length_map] at hl
  subst hl
  refine ⟨b, o + 0, .slice a l.length cap, rfl, imm_lt hW hI, by simpa using hW.imm _ _ _ hI, ?_⟩
  rcases h6 with h6 | ⟨b', o', rfl, h6⟩
  · have : l = [] := by simpa using h6
    subst this
    exact .inl ⟨a, cap, rfl, rfl⟩
  · cases l with
    | nil => exact .inl ⟨_, cap, rfl, rfl⟩
    | cons s l =>
      have hc := row_cells hW k2 b' (s :: l) o' h6
      exact .inr ⟨b', o', cap, rfl, (hc 0 (by simp)).2, fun j hj => (hc j hj).1⟩
theorem Collect_X (l : List ByteArray) (h0 : l ≠ []) (hl : l.length ≤ 1000000000) : SpecX Tryz.prog 72 [pp (seqF l)] .one (strs (bysN l)) := by
  refine ⟨by kernel_rfl, fun e he => ?_, fun G w vs hW hT hB hr => ?_⟩
  · obtain ⟨z, _, rfl⟩ := List.mem_map.1 he; rfl
  obtain ⟨b, o, sv, rfl, h1, h2, h3⟩ := seq_open l hW hr
  refine (collect_calls b o sv l (by rw [maxLen_eq]; omega) (by omega) w h1 h2 h3).mono ?_
  rintro e w' ⟨v, rfl, hrow, hnil, hbl⟩
  rcases hrow.2 with ⟨rfl, _⟩ | ⟨g, cap, cur, rfl, hg, hgh, q1, q2, q3, q4⟩
  · exact absurd (hnil.1 rfl) h0
  · obtain ⟨G', g1, g2, g3, g4⟩ := below_row_x hW hbl 0 (hT 0) .one g l.length cap cur 9 (strV (bysN l)) hg hgh (by rw [q3]; rfl) q1 q2 fun j v hj => by
      rw [strV_bys, ← q4, Nat.mul_one] at hj
      rw [List.getElem?_take] at hj
      split at hj
      · simpa using hj
      · cases hj
    refine ⟨_, G', 0, _, rfl, g3, ⟨rfl, rfl, g, cap, strV (bysN l), rfl, by rw [strs, List.length_map, bysN, List.length_map], strs_rep _, fun x hx => ?_, by rw [flat_strs]⟩, g1, g2⟩
    obtain ⟨z, _, rfl⟩ := List.mem_map.1 hx; rfl
theorem Collect_0 : Spec Tryz.prog 72 [pp (seqF [])] [] (.slice []) [] := by
  refine Spec.of_below (by kernel_rfl) fun G w vs hW hr => ?_
  obtain ⟨b, o, sv, rfl, h1, h2, h3⟩ := seq_open [] hW hr
  refine (collect_calls b o sv [] (Nat.zero_le _) (Nat.zero_le _) w h1 h2 h3).mono ?_
  rintro e w' ⟨v, rfl, hrow, hnil, hbl⟩
  obtain rfl := hnil.2 rfl
  refine ⟨_, rfl, ?_, hbl⟩
  rw [Rep]
  exact ⟨none, 0, 0, .one, rfl, rfl, Nat.le_refl _, Nat.zero_le _, .inl rfl⟩
def annSd : Ann := ⟨ann22.imm, [9000005, 2000002], ann22.live, ann22.head⟩
@[go_sem] theorem annSd_imm : annSd.imm = ann22.imm := rfl
@[go_sem] theorem annSd_frz : annSd.frz = [9000005, 2000002] := rfl
@[go_sem] theorem annSd_live : annSd.live = ann22.live := rfl
@[go_sem] theorem annSd_head : annSd.head = ann22.head := rfl
theorem Sorted_X (l : List ByteArray) (h0 : l ≠ []) (hl : l.length ≤ 1000000000) : SpecX Tryz.prog 22 [pp (seqF l)] .one (strs (sortN (bysN l))) := by
  have hC := Collect_X l h0 hl
  have hS := SortS_turn (bysN l) (by rw [bysN, List.length_map]; omega)
  refine SpecX.of (rv := [.tmp 2]) annSd 9 Tryz.func22 mixed rfl rfl (by kernel_rfl) (fun e he => by obtain ⟨z, _, rfl⟩ := List.mem_map.1 he; rfl) ?_
  simp only [seqF, capN'] at hC ⊢
  simp only [go_sem]
  refine aCallX_intro hC ?_
  simp only [go_sem]
  refine aFlipOr_turnG rfl ⟨rfl, rfl, rfl⟩ ⟨rfl, rfl, rfl⟩ rfl hS ?_
  simp only [go_sem, AS.flip, flipT, flipB, flipSV, flipSC]
  exact exOf_intro rfl
def annSd0 : Ann := ⟨ann22.imm, [], ann22.live, ann22.head⟩
@[go_sem] theorem annSd0_imm : annSd0.imm = ann22.imm := rfl
@[go_sem] theorem annSd0_frz : annSd0.frz = [] := rfl
@[go_sem] theorem annSd0_live : annSd0.live = ann22.live := rfl
@[go_sem] theorem annSd0_head : annSd0.head = ann22.head := rfl
theorem Sorted_0 : Spec Tryz.prog 22 [pp (seqF [])] [] (.slice []) [] := by
  have hC := Collect_0
  refine wk (rv := [.tmp 2]) annSd0 9 Tryz.func22 ?_
  simp only [seqF, capN'] at hC ⊢
  simp only [go_sem]
  refine aCall_intro hC ?_
  simp only [go_sem]
  refine aCall_intro SortS_0 ?_
  simp only [go_sem]
end Go.Abs.Kon

namespace Go.Abs.Kon
open Go Go.Proofs Go.Abs
set_option maxRecDepth 100000
set_option maxHeartbeats 4000000

theorem encX_eq (x : CsT) : encX x = .agg [.str x.1, .slice (x.2.map encK)] := rfl
@[go_sem] theorem encX_sz' (x : CsT) : PV.hasSz (.agg 2) (encX x) = true := rfl
theorem IndexFuncX {α : Type} (enc : α → PV) (l : List α) (f : FuncId) (caps : List PV) (p : α → Bool) (hes : ∀ e ∈ l, PV.hasSz (.agg 2) (enc e) = true) (hp : PredOn enc f caps p l) : Spec Tryz.prog 45 [pp (.slice (l.map enc)), pp (.fn f caps)] [] (.int .i64 (findP p l 0)) [] := by
  refine wf (rv := [.tmp 4]) ann45 19 Tryz.func45 fun hfit => ?_
  have hlen : l.length ≤ 9223372036854775807 := by
    simp only [argsFit, SV.pv?, SC.pv?, PV.fit, maxLen_eq, List.length_map] at hfit
    exact hfit.1.1
  clear hfit
  generalize h0 : findP p l 0 = res
  simp only [go_sem, List.length_map]
  refine aLoop_list (α := α) (β := List α) (fun rest pre => ⟨[(8, ii pre.length), (0, pp (.slice (l.map enc))), (1, pp (.fn f caps)), (7, ii l.length)], [], []⟩) (fun rest pre => l = pre ++ rest ∧ findP p rest pre.length = res) ?_ ?_ l [] _ ?_ ⟨rfl, h0⟩
  · rintro pre ⟨h4, h5⟩ K
    rw [List.append_nil] at h4
    simp only [go_sem, h4, lt_false (Int.le_refl _)]
    simp only [findP] at h5
    rw [h5]
  · rintro x rest pre ⟨h4, h5⟩ K hK
    have hx : (l.map enc)[pre.length]? = some (enc x) := by simp [h4]
    have hlt : (pre.length : Int) < l.length := by rw [h4]; simp; omega
    have hm : x ∈ l := by simp [h4]
    simp only [go_sem, decide_eq_true hlt, Int.toNat_natCast, Int.natCast_nonneg, hx, hes x hm]
    refine aCall_intro (hp x hm) ?_
    simp only [go_sem]
    refine condK_intro (fun hb => ?_) (fun hb => ?_)
    · simp only [findP, hb, if_true] at h5
      simp only [go_sem, h5]
    · have w4 : IntKind.i64.wrap ((pre.length : Int) + 1) = ((pre ++ [x]).length : Int) := by rw [wrap_id (by omega) (by omega)]; simp
      simp only [findP, hb, Bool.false_eq_true, if_false] at h5
      simp only [go_sem, w4]
      refine hK (pre ++ [x]) _ ?_ ⟨by simp [h4], by simpa using h5⟩
      simp only [go_sem]
  · simp only [go_sem, List.length_nil, Int.natCast_zero]
theorem ContainsFuncX {α : Type} (enc : α → PV) (es : List α) (f : FuncId) (caps : List PV) (p : α → Bool) (hes : ∀ e ∈ es, PV.hasSz (.agg 2) (enc e) = true) (hp : PredOn enc f caps p es) : Spec Tryz.prog 9 [pp (.slice (es.map enc)), pp (.fn f caps)] [] (.bool (es.any p)) [] := by
  refine wk (rv := [.tmp 4]) ann9 9 Tryz.func9 ?_
  simp only [go_sem]
  refine aCall_intro (IndexFuncX enc es f caps p hes hp) ?_
  have : decide (findP p es 0 ≥ 0) = es.any p := by
    rw [Bool.eq_iff_iff, decide_eq_true_iff]; exact findP_ge p es 0
  simp only [go_sem, this]

def twiceN (l : List ByteArray) : Bool := decide ((Lib.compact (sortN (bysN l))).length < l.length)
theorem compact_le (l : List ByteArray) : (Lib.compact (sortN (bysN l))).length ≤ l.length := by
  have := compactS_length (sortN (bysN l))
  rw [sortN_length] at this
  simpa [bysN] using this
def namesN (l : List ByteArray) : Int := if l.any (fun s => !constF s) then 1 else if l.length > 1000 then 5 else if twiceN l then 9 else 0
theorem names1_spec (s : ByteArray) (hs : s.size ≤ 100000000) : Spec Tryz.prog 100 [pp (.str s)] [] (.bool (!constF s)) [] := by
  have hC := constant_spec s hs
  refine wk (rv := [.tmp 2]) ann100 6 Tryz.func100 ?_
  simp only [go_sem]
  refine aCall_intro hC ?_
  simp only [go_sem]
def annNm : Ann := ⟨ann55.imm, [9600011, 9500013], ann55.live, ann55.head⟩
@[go_sem] theorem annNm_imm : annNm.imm = ann55.imm := rfl
@[go_sem] theorem annNm_frz : annNm.frz = [9600011, 9500013] := rfl
@[go_sem] theorem annNm_live : annNm.live = ann55.live := rfl
@[go_sem] theorem annNm_head : annNm.head = ann55.head := rfl
theorem names_spec (l : List ByteArray) (hs : ∀ s ∈ l, s.size ≤ 100000000) (hl : l.length ≤ 1000000000) : Spec Tryz.prog 55 [pp (.slice (l.map .str))] [] (.int .i64 (namesN l)) [] := by
  have hA : Spec Tryz.prog 7 [pp (.slice (l.map .str)), pp (.fn 100 [])] [] (.bool (l.any fun s => !constF s)) [] :=
    ContainsFuncS PV.str l 100 [] (fun s => !constF s) (fun _ _ => rfl) fun s hm => names1_spec s (hs s hm)
  have hV := Values_spec l
  have hle := compact_le l
  rw [namesN]
  cases hb : l.any fun s => !constF s with
  | true =>
    rw [hb] at hA
    refine wk (rv := [.tmp 2]) annNm 18 Tryz.func55 ?_
    simp only [go_sem]
    refine aCall_intro hA ?_
    simp only [go_sem]
  | false =>
    rw [hb] at hA
    by_cases hc : l.length > 1000
    · have hc' : ((l.length : Int) > 1000) := by omega
      rw [if_neg (by decide), if_pos hc]
      refine wk (rv := [.tmp 2]) annNm 18 Tryz.func55 ?_
      simp only [go_sem]
      refine aCall_intro hA ?_
      simp only [go_sem, List.length_map, decide_eq_true hc']
    · have hc' : ¬ ((l.length : Int) > 1000) := by omega
      rw [if_neg (by decide), if_neg hc]
      by_cases h0 : l = []
      · subst h0
        have hS := Sorted_0
        have hC := CompactS_0
        have ht : twiceN [] = false := by rw [twiceN]; simp
        rw [ht]
        have d0 : decide (((0 : Nat) : Int) < ((0 : Nat) : Int)) = false := by decide
        have d1 : decide (((0 : Nat) : Int) > 1000) = false := by decide
        refine wk (rv := [.tmp 2]) ann55 18 Tryz.func55 ?_
        simp only [seqF, capN'] at hV hS
        simp only [go_sem]
        refine aCall_intro hA ?_
        simp only [go_sem, List.length_nil, List.map_nil, d1]
        refine aCall_intro hV ?_
        simp only [go_sem, List.map_nil]
        refine aCall_intro hS ?_
        simp only [go_sem]
        refine aCall_intro hC ?_
        simp only [go_sem, List.length_nil, d0]
      · have hS := Sorted_X l h0 hl
        have hC := CompactS_turn (sortN (bysN l)) (by rw [sortN_length, bysN, List.length_map]; omega)
        have ht : twiceN l = decide (((Lib.compact (sortN (bysN l))).length : Int) < (l.length : Int)) := by rw [twiceN, decide_eq_decide]; omega
        rw [ht]
        generalize Lib.compact (sortN (bysN l)) = cs at hC ⊢
        generalize sortN (bysN l) = so at hS hC ⊢
        simp only [seqF, capN'] at hV hS
        refine wk (rv := [.tmp 2]) annNm 18 Tryz.func55 ?_
        simp only [go_sem]
        refine aCall_intro hA ?_
        simp only [go_sem, List.length_map, decide_eq_false hc']
        refine aCall_intro hV ?_
        simp only [go_sem]
        refine .inl (aCallX_intro hS ?_)
        simp only [go_sem]
        refine .inl (aCallT_intro hC ?_)
        simp only [go_sem, List.length_map]
        refine condK_intro (fun hd => ?_) (fun hd => ?_)
        · simp only [go_sem, hd]
        · simp only [go_sem, hd]

theorem bindLeaf_spec (ns : List ByteArray) (c : ConT) (b : Int) (hn : ns.length ≤ 1000) (h : knL c.k ≤ 900000000) (h3 : 0 ≤ c.n) (h4 : c.n ≤ 20000) (h5 : 0 ≤ b) (h6 : b ≤ 10000000) :
    Spec Tryz.prog 57 [pp (encC c), ii b, pp (capN' ns)] [] (encC (bindLeaf ns c b)) [] := by
  have hL := leafOf_spec c h
  have hSh := shifted_spec ns.length 0
  have hS1 := shifted1_spec ns.length 0 c b h (by omega) (by omega) (by omega) (by omega) h5 (by omega)
  have hI := IndexX_spec ns c.s
  have hfx := findX_ge ns c.s 0 (by decide)
  have hV := variable_spec (b + ns.length - 1 - findX ns c.s 0)
  have w1 : IntKind.i64.wrap (b + ns.length) = b + ns.length := wrap_id (by omega) (by omega)
  have w2 : IntKind.i64.wrap (b + ns.length - 1) = b + ns.length - 1 := wrap_id (by omega) (by omega)
  have w3 : IntKind.i64.wrap (b + ns.length - 1 - findX ns c.s 0) = b + ns.length - 1 - findX ns c.s 0 := wrap_id (by omega) (by omega)
  generalize h0 : bindLeaf ns c b = res
  rw [bindLeaf] at h0
  obtain ⟨op, m, s, k, names, ll⟩ := c
  replace h0 : (if op = 1 then shiftLeaf ns.length 0 (.mk op m s k names ll) b else if findX ns s 0 ≥ 0 then varC (b + ns.length - 1 - findX ns s 0) else leafC (.mk op m s k names ll)) = res := h0
  simp only [ConT.s] at hI hfx hV w3
  generalize findX ns s 0 = fx at h0 hI hfx hV w3
  rw [encC_mk] at hL hS1
  simp only [capI] at hSh hS1
  refine wk (rv := [.cell 5 28]) ann57 32 Tryz.func57 ?_
  simp only [go_sem, encC_mk, capN']
  refine condK_intro (fun hb => ?_) (fun hb => ?_)
  · rw [if_pos (eq_of_beq hb)] at h0
    subst h0
    simp only [go_sem, List.length_map]
    refine aCall_intro hSh ?_
    simp only [go_sem]
    refine aCall_intro hS1 ?_
    simp only [go_sem, encC_sz]
    try kernel_rfl
  · rw [if_neg (by simpa using hb)] at h0
    simp only [go_sem]
    refine aCall_intro hI ?_
    simp only [go_sem]
    refine condK_intro (fun hc => ?_) (fun hc => ?_)
    · rw [if_pos (of_decide_eq_true hc)] at h0
      subst h0
      simp only [go_sem, List.length_map, w1, w2, w3]
      refine aCall_intro hV ?_
      simp only [go_sem, encC_sz]
    · rw [if_neg (of_decide_eq_false hc)] at h0
      subst h0
      simp only [go_sem]
      refine aCall_intro hL ?_
      simp only [go_sem, encC_sz]
def bindF (c : ConT) (l : List ByteArray) : ConT × Int := if validF c = false then (zeroC, 1) else if namesN l ≠ 0 then (zeroC, namesN l) else replF (bindLeaf l) c
theorem namesN_0 {l : List ByteArray} (h : namesN l = 0) : l.length ≤ 1000 ∧ (∀ s ∈ l, constF s = true) ∧ twiceN l = false := by
  rw [namesN] at h
  split at h
  · cases h
  · rename_i h1
    split at h
    · cases h
    · split at h
      · cases h
      · rename_i h2 h3
        refine ⟨by omega, fun s hs => ?_, by simpa using h3⟩
        cases hc : constF s with
        | true => rfl
        | false => exact absurd (List.any_eq_true.2 ⟨s, hs, by rw [hc]; rfl⟩) h1
theorem bindLeaf_ok (l : List ByteArray) (x : ConT) (b : Int) (h : okS x) : sizeF (bindLeaf l x b) = 1 ∧ okS (bindLeaf l x b) := by
  rw [bindLeaf]
  split
  · exact ⟨size_shiftLeaf _ _ _ _, okS_shiftLeaf _ _ _ _ h⟩
  · split
    · exact ⟨by rw [varC, sizeF, sizeL], okS_varC _⟩
    · exact ⟨size_leafC _, okS_leafC h⟩
theorem tBind_spec (c : ConT) (l : List ByteArray) (h1 : wtF c ≤ 900000000) (h2 : okS c) (hs : ∀ s ∈ l, s.size ≤ 100000000) (hl : l.length ≤ 1000000000) :
    Spec Tryz.prog 13 [pp (encC c), pp (.slice (l.map .str))] [] (.tuple [encC (bindF c l).1, .int .i64 (bindF c l).2]) [] := by
  have hsc := sizeF_wt c
  have hV := Valid_spec c (by omega) h2
  have hN := names_spec l hs hl
  have hR : validF c = true → namesN l = 0 → Spec Tryz.prog 56 [pp (encC c), pp (.fn 57 [capN' l])] [] (.tuple [encC (replF (bindLeaf l) c).1, .int .i64 (replF (bindLeaf l) c).2]) [] := fun hv hn => by
    obtain ⟨hd, hw⟩ := valid_dw hv
    refine replaced_specW 57 [capN' l] (bindLeaf l) c hw (by omega) (by rw [validF, Bool.and_eq_true] at hv; have := of_decide_eq_true hv.1; omega) h2 fun x b hx => ?_
    obtain ⟨g1, g2, g3, g4, g5, _⟩ := leaves_mem c 0 x b hx
    have hfn := formed_n (g3 (validF_formed hv))
    have hk := knL_wt x
    obtain ⟨q1, q2⟩ := bindLeaf_ok l x b (g2 h2)
    exact ⟨by omega, q2, bindLeaf_spec l x b (namesN_0 hn).1 (by omega) hfn.1 hfn.2 (by omega) (by omega)⟩
  rw [bindF]
  cases hv : validF c with
  | false =>
    rw [hv] at hV
    rw [if_pos rfl]
    refine wk (rv := [.cell 4 28, .tmp 5]) ann13 22 Tryz.func13 ?_
    simp only [go_sem, encC_sz]
    refine aCall_intro hV ?_
    simp only [go_sem, zeroC, encC_mk]
  | true =>
    rw [hv] at hV
    rw [if_neg (by decide)]
    have hR := hR hv
    by_cases hn : namesN l = 0
    · have hR := hR hn
      rw [hn] at hN ⊢
      have e0 : ((0 : Int) != 0) = false := rfl
      rw [if_neg (fun h => h rfl)]
      simp only [capN'] at hR
      refine wk (rv := [.cell 4 28, .tmp 5]) ann13 22 Tryz.func13 ?_
      simp only [go_sem, encC_sz]
      refine aCall_intro hV ?_
      simp only [go_sem]
      refine aCall_intro hN ?_
      simp only [go_sem, e0, encC_sz]
      refine aCall_intro hR ?_
      simp only [go_sem, encC_sz]
    · have e1 : (namesN l != 0) = true := by simpa using hn
      rw [if_pos hn]
      generalize namesN l = e at hN e1 ⊢
      refine wk (rv := [.cell 4 28, .tmp 5]) ann13 22 Tryz.func13 ?_
      simp only [go_sem, encC_sz]
      refine aCall_intro hV ?_
      simp only [go_sem]
      refine aCall_intro hN ?_
      simp only [go_sem, e1, zeroC, encC_mk]
end Go.Abs.Kon
