/- Constants: sorting by names; the reference's binding. -/
import Derived.Test.YtjfegcnjmpedhaaGreatDoorAbsC
import Derived.Test.YtjfegcnjmpedhaaGreatDoorTermB
import Derived.Test.YtjfegcnjmpedhaaGreatDoorShelfA
import Derived.Test.YtjfegcnjmpedhaaGreatDoorConsA
import Derived.Test.YtjfegcnjmpedhaaGreatDoorKonL
set_option linter.unusedSimpArgs false
set_option linter.unusedVariables false
namespace Go.Abs
open Go
theorem turn_exG {P : Program} {f : FuncId} {gs : List FuncId} {k : Sz} {es es' : List PV} (hb : bodied P f = true) (hlen : es'.length = es.length) (hes : ∀ e ∈ es', e.hasSz k = true)
    (h : ∀ (I : Imm) (w : World) (g cap : Nat) (cur : Array Value) (T : TypeId) (vs : List Value), RepL I es vs → (∀ x ∈ vs, k.okV x = true) → es.length ≤ cap → cap ≤ maxLen → w.heap[g]? = some (.cells cur T (0, 0)) → cur.size = cap * k.size →
      (∀ (j : Nat) (v : Value), (flatCells vs)[j]? = some v → cur[j]? = some v) →
      Calls P f (Value.slice (some ⟨g, 0, none⟩) es.length cap :: gs.map fnV).toArray w fun e w' => ∃ r vs' cur', e = .returned r ∧ RowTo w w' g cur' T ∧ cur'.size = cur.size ∧ RepL I es' vs' ∧ (∀ x ∈ vs', k.okV x = true) ∧
        ∀ (j : Nat) (v : Value), (flatCells vs')[j]? = some v → cur'[j]? = some v) : TurnG P f gs k es (fun t => .ex t k es') .any := by
  refine ⟨hb, fun G w v t tk hW ht hex => ?_⟩
  obtain ⟨h1, h2, g, cap, vs, h3, rfl, h5, h6, h7⟩ := hex
  obtain ⟨a, len, cap', g1, g2, g3, g4⟩ := hW.tokOk t tk ht
  rw [h1] at g1
  cases g1
  rw [h3] at g4
  simp only at g4
  obtain ⟨cur, T, _, hgh, hcs, hgi, hx⟩ := g4
  obtain ⟨hno, hcur⟩ := hx _ h7
  rw [h2] at hcs
  have hglt : g < w.heap.size := (Array.getElem?_eq_some_iff.1 hgh).1
  refine (h G.I w g cap cur T vs h5 h6 g2 g3 hgh hcs hcur).mono ?_
  rintro e w' ⟨r, vs', cur', rfl, hR, hcs', k1, k2, k3⟩
  have htT : TokBlk G g (· = t) := ⟨t, tk, rfl, ht, h3⟩
  let tk' : Tk := ⟨tk.hdr, tk.k, tk.g, some (flatCells vs')⟩
  let G' : Gh := ⟨G.I, G.blk, fun t' => if t' = t then some tk' else G.tok t', G.cap⟩
  have htk : ∀ t' tk1, G'.tok t' = some tk1 → (t' = t ∧ tk1 = tk') ∨ (t' ≠ t ∧ G.tok t' = some tk1) := by
    intro t' tk1 h8
    have h9 : (if t' = t then some tk' else G.tok t') = some tk1 := h8
    split at h9
    · cases h9; exact .inl ⟨by assumption, rfl⟩
    · exact .inr ⟨by assumption, h9⟩
  have htk2 : ∀ t' tk1, G'.tok t' = some tk1 → ∃ tk0, G.tok t' = some tk0 ∧ tk0.g = tk1.g := by
    intro t' tk1 h8
    rcases htk t' tk1 h8 with ⟨rfl, rfl⟩ | ⟨_, h9⟩
    · exact ⟨tk, ht, rfl⟩
    · exact ⟨tk1, h9, rfl⟩
  refine ⟨r, G', rfl, ⟨fun b o v hv => ?_, hW.inj, fun n b hn => Nat.lt_of_lt_of_le (hW.lt n b hn) hR.size, hW.blkImm, fun t' tk1 h8 => ?_, fun t1 t2 tk1 tk2 g' h8 h9 h10 h11 => ?_, fun t1 tk1 g' n h8 h9 hn => ?_, fun g1 hg1 => ?_⟩,
    ⟨Imm.le_refl _, fun b o v hv => .inl hv, fun _ _ => rfl, fun _ _ h => h, fun _ _ h => .inl h, fun t' hn tk1 h8 => ?_, fun t' tk1 g' h8 h9 => ?_, fun b hb _ hnt => hR.old b hb (fun e => hnt (by rw [e]; exact htT)), hR.size, hR.os, hR.tape, hR.output, fun _ _ => rfl⟩, ?_, trivial, fun t' h8 => ?_, rfl⟩
  · have hbn : b ≠ g := fun e => by have hv' : G.I b o = some v := hv; rw [e, hno o] at hv'; cases hv'
    rw [World.cell?_of_block (w := w) (hR.old b (winv_lt hW hv) hbn)]
    exact hW.imm b o v hv
  · rcases htk t' tk1 h8 with ⟨rfl, rfl⟩ | ⟨h9, h10⟩
    · refine ⟨_, _, _, h1, g2, g3, ?_⟩
      show match tk.g with | none => _ | some g => _
      rw [h3]
      refine ⟨cur', T, rfl, hR.row, by rw [hcs', hcs]; show _ = cap * tk.k.size; rw [h2], hgi, fun cs hcs0 => ?_⟩
      have : cs = flatCells vs' := by have : some (flatCells vs') = some cs := hcs0; cases this; rfl
      subst this
      exact ⟨hno, k3⟩
    · refine (hW.tokOk t' tk1 h10).keep fun g' hg' => ?_
      have hne : g' ≠ g := fun e => h9 (hW.tokInj t' t tk1 tk g h10 ht (by rw [hg', e]) h3)
      obtain ⟨cur1, T1, hc1⟩ : ∃ c T, w.heap[g']? = some (.cells c T (0, 0)) := by
        obtain ⟨a1, l1, c1, _, _, _, q⟩ := hW.tokOk t' tk1 h10
        rw [hg'] at q
        obtain ⟨c, T, _, q, _⟩ := q
        exact ⟨c, T, q⟩
      exact ⟨hR.old g' (Array.getElem?_eq_some_iff.1 hc1).1 hne, fun o v hv => hv⟩
  · obtain ⟨a1, a2, a3⟩ := htk2 _ _ h8
    obtain ⟨b1, b2, b3⟩ := htk2 _ _ h9
    exact hW.tokInj t1 t2 a1 b1 g' a2 b2 (by rw [a3, h10]) (by rw [b3, h11])
  · obtain ⟨a1, a2, a3⟩ := htk2 _ _ h8
    exact hW.tokBlk t1 a1 g' n a2 (by rw [a3, h9]) hn
  · obtain ⟨e1, e2, e3⟩ := hW.glob g1 hg1
    have hne : g1 ≠ g := fun e => e3 t tk ht (by rw [h3, e])
    refine ⟨by rw [hR.old g1 (hW.glob.lt hg1) hne]; exact e1, e2, fun t' tk1 h8 => ?_⟩
    obtain ⟨a1, a2, a3⟩ := htk2 _ _ h8
    rw [← a3]
    exact e3 t' a1 a2
  · show (if t' = t then some tk' else G.tok t') = _
    rw [if_neg hn]
    exact h8
  · rcases htk t' tk1 h8 with ⟨rfl, rfl⟩ | ⟨h9, h10⟩
    · have : g' = g := by have : tk.g = some g' := h9; rw [h3] at this; cases this; rfl
      subst this
      exact .inr (.inr htT)
    · exact .inl h10
  · refine ⟨⟨_, _, by rw [hlen]⟩, hes, fun _ => ⟨tk', by show (if t = t then some tk' else G.tok t) = _; rw [if_pos rfl], h1, h2, g, cap, vs', h3, by rw [hlen], k1, k2, rfl⟩⟩
  · intro h9
    refine h8 ?_
    show (if t' = t then some tk' else G.tok t') = none
    split
    · rename_i e; subst e; rw [ht] at h9; cases h9
    · exact h9

end Go.Abs
namespace Go.Abs.Kon
open Go Go.Proofs Go.Abs
open Go.RowKit
open Go.Sort (HoldsK flatK putRowK size_flatK get_flatK putCells putRow grow ahead SWO PermIn SortedIn pdq pdq_sorts ltStr swo_ltStr)
set_option maxRecDepth 100000
set_option maxHeartbeats 4000000

theorem isNaNS (x : ByteArray) (W : World) : Calls Tryz.prog 99 #[.string x] W fun e w' => e = .returned (.bool false) ∧ w' = W := by
  go_enter Tryz.func99, Tryz.ntmps99
  go_wp2
  go_ret
  exact ⟨by simp, rfl⟩
def cfX (s t : List UInt8) : Int := if ltStr s t = true then -1 else if ltStr t s = true then 1 else 0
theorem compareS (x y : ByteArray) (W : World) : Calls Tryz.prog 54 #[.string x, .string y] W fun e w' => e = .returned (.int .i64 (cfX x.data.toList y.data.toList)) ∧ w' = W := by
  go_enter Tryz.func54, Tryz.ntmps54
  have hg : ∀ w, (binOp .gtr 9 (.string x) (.string y)).run Tryz.prog w = .ok (.bool (!(Op.bytesLess x.toList y.toList || x.toList == y.toList))) w := fun w => by simp [binOp, Op.stringOp]
  have e1 : Op.bytesLess x.toList y.toList = ltStr x.data.toList y.data.toList := by rw [bytesLess_eq, Lib.toList_data, Lib.toList_data]; rfl
  have e2 : (x.toList == y.toList) = decide (x.data.toList = y.data.toList) := by rw [Lib.toList_data, Lib.toList_data, Bool.eq_iff_iff, beq_iff_eq, decide_eq_true_iff]
  have hx : (!(Op.bytesLess x.toList y.toList || x.toList == y.toList)) = ltStr y.data.toList x.data.toList ∨ ltStr x.data.toList y.data.toList = true := by
    rw [e1, e2]
    cases hn : ltStr x.data.toList y.data.toList with
    | true => exact .inr rfl
    | false =>
      left
      have hn' : ¬ x.data.toList < y.data.toList := by simpa [ltStr] using hn
      by_cases he : x.data.toList = y.data.toList
      · rw [he, decide_eq_true rfl]; simp [ltStr, List.lt_irrefl]
      · rw [decide_eq_false he]
        rcases List.le_iff_lt_or_eq.1 (List.not_lt.1 hn') with h | h
        · simp [ltStr, h]
        · exact absurd h.symm he
  generalize (!(Op.bytesLess x.toList y.toList || x.toList == y.toList)) = q at hg hx
  clear e2
  have hA : ltStr x.data.toList y.data.toList = true → cfX x.data.toList y.data.toList = -1 := fun h => if_pos h
  have hB : ltStr x.data.toList y.data.toList = false → q = true → cfX x.data.toList y.data.toList = 1 := fun h h2 => by
    rcases hx with hx | hx
    · rw [h2] at hx
      unfold cfX
      rw [h, ← hx]; rfl
    · rw [h] at hx; cases hx
  have hC : ltStr x.data.toList y.data.toList = false → q = false → cfX x.data.toList y.data.toList = 0 := fun h h2 => by
    rcases hx with hx | hx
    · rw [h2] at hx
      unfold cfX
      rw [h, ← hx]; rfl
    · rw [h] at hx; cases hx
  clear hx
  rw [← e1] at hA hB hC
  clear e1
  go_wp2_with (go_at_call 99; refine (isNaNS _ _).mono ?_; rintro e w' ⟨rfl, rfl⟩)
  · go_ret
    exact ⟨by simp [hA (by assumption)], rfl⟩
  · go_ret
    exact ⟨by simp [hB (by assumption) (by assumption)], rfl⟩
  · go_ret
    exact ⟨by simp [hC (by assumption) (by assumption)], rfl⟩
theorem cmp_cs (s t : ByteArray) (a1 b1 : Value) (W : World) : Calls Tryz.prog 53 #[.agg #[.string s, a1], .agg #[.string t, b1]] W fun e w' => e = .returned (.int .i64 (cfX s.data.toList t.data.toList)) ∧ ∃ q os', w' = grow (W.drewN q) os' := by
  have hcon := fun W' => compareS s t W'
  generalize cfX s.data.toList t.data.toList = r at hcon ⊢
  go_enter Tryz.func53, Tryz.ntmps53
  go_wp2_with (go_at_call 54; refine (hcon _).mono ?_; rintro e w' ⟨rfl, rfl⟩)
  go_ret
  exact ⟨rfl, 0, _, by rw [Go.Sort.alloc_eq_grow, Go.Sort.alloc_eq_grow, Go.Sort.grow_grow]; rfl⟩

theorem flat_chunk {k : Nat} : ∀ (vs : List Value) (_ : ∀ v ∈ vs, v.cells.toList.length = k) (j : Nat), j < vs.length * k → (flatCells vs)[j]? = (vs[j / k]?).bind fun v => v.cells.toList[j % k]?
  | [], _, j, hj => by simp at hj
  | v :: vs, h, j, hj => by
    have hv := h v (by simp)
    have hk : 0 < k := by
      rcases Nat.eq_zero_or_pos k with e | e
      · subst e; simp at hj
      · exact e
    have e : flatCells (v :: vs) = v.cells.toList ++ flatCells vs := by simp [flatCells]
    rw [e]
    by_cases hlt : j < k
    · rw [List.getElem?_append_left (by omega), Nat.div_eq_of_lt hlt, Nat.mod_eq_of_lt hlt]
      rfl
    · have hj' : j - k < vs.length * k := by
        rw [List.length_cons, Nat.add_mul, Nat.one_mul] at hj
        omega
      rw [List.getElem?_append_right (by omega), hv, flat_chunk vs (fun x hx => h x (by simp [hx])) (j - k) hj', Nat.mod_eq_sub_mod (by omega : j ≥ k), Nat.div_eq_sub_div hk (by omega : k ≤ j)]
      rfl

def cs0 : CsT := (ByteArray.empty, [])
def nmXi (l : List CsT) (i : Nat) : List UInt8 := nmX (l.getD i cs0)
theorem cf_lt (s t : List UInt8) : cfX s t < 0 ↔ s < t := by
  unfold cfX ltStr
  by_cases h : s < t
  · simp [h]
  · simp only [h, decide_false, Bool.false_eq_true, if_false, iff_false]
    split <;> decide
def csLt (l : List CsT) : Nat → Nat → Bool := Go.Proofs.ltOf fun i j => cfX (nmXi l i) (nmXi l j)
theorem csLt_eq (l : List CsT) (i j : Nat) : csLt l i j = decide (nmXi l i < nmXi l j) := by
  unfold csLt Go.Proofs.ltOf
  exact decide_eq_decide.2 (cf_lt _ _)
theorem csLt_swo (l : List CsT) : SWO (csLt l) where
  irrefl x := by simp [csLt_eq, List.lt_irrefl]
  trans x y z h1 h2 := by simp only [csLt_eq, decide_eq_true_eq] at *; exact List.lt_trans h1 h2
  ntrans x y z h1 h2 := by
    simp only [csLt_eq, decide_eq_false_iff_not, List.not_lt] at *
    exact List.le_trans h2 h1
def sortIx (l : List CsT) : Array Nat := pdq (csLt l) (Array.range l.length) 0 (Array.range l.length).size (Lib.bitLen (Array.range l.length).size) true true
def sortX (l : List CsT) : List CsT := (sortIx l).toList.map fun i => l.getD i cs0
theorem range_get (n i : Nat) (h : i < n) : (Array.range n)[i]! = i := by simp [h]
theorem sortIx_perm (l : List CsT) : (sortIx l).size = l.length ∧ (sortIx l).toList.Perm (List.range l.length) ∧ ∀ i j, i < j → j < l.length → ¬ nmXi l (sortIx l)[j]! < nmXi l (sortIx l)[i]! := by
  obtain ⟨⟨h1, _, h2⟩, h3⟩ := pdq_sorts (csLt l) (csLt_swo l) (Array.range l.length) 0 (Array.range l.length).size (Lib.bitLen (Array.range l.length).size) true true (Nat.zero_le _) (Nat.le_refl _) (Or.inl rfl)
  have hs : (sortIx l).size = l.length := by rw [sortIx, h1, Array.size_range]
  refine ⟨hs, ?_, fun i j hij hj => ?_⟩
  · have e1 : (sortIx l).extract 0 (Array.range l.length).size = sortIx l := by
      rw [Array.size_range, ← hs]; exact Array.extract_size
    have e2 : (Array.range l.length).extract 0 (Array.range l.length).size = Array.range l.length := Array.extract_size
    have h2' : ((sortIx l).extract 0 (Array.range l.length).size).toList.Perm ((Array.range l.length).extract 0 (Array.range l.length).size).toList := h2
    rw [e1, e2, Array.toList_range] at h2'
    exact h2'
  · have := h3 i j (Nat.zero_le _) hij (by rw [Array.size_range]; exact hj)
    rw [csLt_eq, decide_eq_false_iff_not] at this
    exact this
theorem range_getD (l : List CsT) : (List.range l.length).map (fun i => l.getD i cs0) = l := by
  apply List.ext_getElem
  · simp
  · intro i h1 h2
    simp at h1
    simp [h1]
theorem sortX_perm (l : List CsT) : (sortX l).Perm l := by
  have h := (sortIx_perm l).2.1.map fun i => l.getD i cs0
  rw [range_getD] at h
  exact h
theorem sortX_weak (l : List CsT) : WeakX (sortX l) := by
  obtain ⟨h1, _, h3⟩ := sortIx_perm l
  rw [WeakX, List.pairwise_iff_getElem]
  intro i j hi hj hij
  have hi' : i < (sortIx l).size := by simpa [sortX] using hi
  have hj' : j < (sortIx l).size := by simpa [sortX] using hj
  have := h3 i j hij (by omega)
  simp only [nmXi, getElem!_pos, hi', hj'] at this
  simpa [sortX] using this
theorem sortIx_lt (l : List CsT) : (sortIx l).size = l.length ∧ ∀ i ∈ (sortIx l).toList, i < l.length := by
  obtain ⟨h1, h2, _⟩ := sortIx_perm l
  exact ⟨h1, fun i hi => List.mem_range.1 (h2.subset hi)⟩
theorem sortX_length (l : List CsT) : (sortX l).length = l.length := (sortX_perm l).length_eq
theorem repL_get {I : Imm} : ∀ {es : List PV} {vs : List Value}, RepL I es vs → es.length = vs.length ∧ ∀ (i : Nat) (e : PV), es[i]? = some e → ∃ v, vs[i]? = some v ∧ Rep I e v
  | [], vs, h => by
    rw [RepL] at h
    subst h
    exact ⟨rfl, fun i e he => by simp at he⟩
  | x :: es, vs, h => by
    rw [RepL] at h
    obtain ⟨v, rest, rfl, h1, h2⟩ := h
    obtain ⟨h3, h4⟩ := repL_get h2
    refine ⟨by simp [h3], fun i e he => ?_⟩
    cases i with
    | zero => simp at he; subst he; exact ⟨v, rfl, h1⟩
    | succ i => exact h4 i e (by simpa using he)
theorem repL_of {I : Imm} {α : Type} {f : α → PV} {g : α → Value} : ∀ {ix : List α}, (∀ i ∈ ix, Rep I (f i) (g i)) → RepL I (ix.map f) (ix.map g)
  | [], _ => by rw [List.map_nil, List.map_nil, RepL]
  | i :: ix, h => by
    rw [List.map_cons, List.map_cons, RepL]
    exact ⟨_, _, rfl, h i (by simp), repL_of fun j hj => h j (by simp [hj])⟩
theorem encX_sz (x : CsT) : PV.hasSz (.agg 2) (encX x) = true := by
  obtain ⟨s, k⟩ := x
  rfl

theorem SortFunc_turn (l : List CsT) (h62 : l.length < 4611686018427387904) : TurnG Tryz.prog 52 [53] (.agg 2) (l.map encX) (fun t => .ex t (.agg 2) ((sortX l).map encX)) .any := by
  refine turn_exG (by kernel_rfl) (by simp [sortX_length l]) (fun e he => ?_) fun I w g cap cur T vs h1 h2 h3 h4 h5 h6 h7 => ?_
  · obtain ⟨z, _, rfl⟩ := List.mem_map.1 he; exact encX_sz z
  obtain ⟨hlen, hget⟩ := repL_get h1
  rw [List.length_map] at hlen
  let D : Value := .agg #[.string ByteArray.empty, .bool false]
  let W : Nat → Value := fun i => (vs[i]?).getD D
  have hWo : ∀ i, (Sz.agg 2).okV (W i) = true := fun i => by
    show Sz.okV _ ((vs[i]?).getD D) = true
    cases e : vs[i]? with
    | none => rfl
    | some v => exact h2 v (List.mem_of_getElem? e)
  have hWr : ∀ i, i < l.length → Rep I (encX (l.getD i cs0)) (W i) := fun i hi => by
    obtain ⟨v, hv, hr⟩ := hget i (encX l[i]) (by simp [hi])
    show Rep I _ ((vs[i]?).getD D)
    rw [hv]
    simpa [List.getD, hi] using hr
  have hW : ∀ i, ∃ a1, W i = .agg #[.string (l.getD i cs0).1, a1] := fun i => by
    by_cases hi : i < l.length
    · have hr := hWr i hi
      have ho := hWo i
      rw [encX, Rep] at hr
      obtain ⟨us, e, hl, _⟩ := hr
      rw [RepL] at hl
      obtain ⟨v, rest, e2, hv, _⟩ := hl
      rw [Rep] at hv
      rw [e, Sz.okV, Bool.and_eq_true, beq_iff_eq] at ho
      have hlr : rest.length = 1 := by
        have := ho.1
        rw [← Array.length_toList, e2] at this
        simpa using this
      obtain ⟨a1, rfl⟩ : ∃ a1, rest = [a1] := by
        match rest, hlr with
        | [a1], _ => exact ⟨_, rfl⟩
      refine ⟨a1, ?_⟩
      rw [e]
      congr 1
      apply Array.ext'
      rw [e2, hv]
    · refine ⟨.bool false, ?_⟩
      show (vs[i]?).getD D = _
      rw [List.getElem?_eq_none (by omega), List.getD, List.getElem?_eq_none (by omega)]
      rfl
  let enc : Nat → List Value := fun i => (W i).cells.toList
  have hencA : ∀ i, .agg (enc i).toArray = W i := fun i => by
    obtain ⟨a1, e⟩ := hW i
    show Value.agg ((W i).cells.toList).toArray = W i
    rw [e]; rfl
  have hk : ∀ i, (enc i).length = 2 := fun i => by
    obtain ⟨a1, e⟩ := hW i
    show ((W i).cells.toList).length = 2
    rw [e]; rfl
  have hone : ∀ i, ∀ v ∈ enc i, v.oneCell' = true := fun i v hv => by
    have ho := hWo i
    rw [← hencA i, Sz.okV, Bool.and_eq_true, List.all_eq_true] at ho
    exact ho.2 v hv
  have hglt : g < w.heap.size := (Array.getElem?_eq_some_iff.1 h5).1
  have hcells : ∀ v ∈ vs, v.cells.toList.length = 2 := fun v hv => by
    obtain ⟨i, hi, rfl⟩ := List.getElem_of_mem hv
    have := hk i
    simpa [enc, W, hi] using this
  have hflat : ∀ j, j < l.length * 2 → (flatCells vs)[j]? = some ((enc (j / 2))[j % 2]!) := fun j hj => by
    have hq : j / 2 < vs.length := by omega
    rw [flat_chunk vs hcells j (by omega), List.getElem?_eq_getElem hq]
    have e : W (j / 2) = vs[j / 2] := by simp [W, hq]
    have hkk := hk (j / 2)
    simp only [enc, e] at hkk ⊢
    rw [Option.bind_some, List.getElem?_eq_getElem (by omega : j % 2 < _), getElem!_pos]
  have hH : HoldsK enc 2 w g 0 (Array.range l.length) := by
    intro j hj
    rw [size_flatK, Array.size_range] at hj
    rw [get_flatK _ _ _ _ (by rw [Array.size_range]; exact hj), range_get _ _ (by omega)]
    refine ⟨?_, by simp [World.frozen?, h5]⟩
    rw [Nat.zero_add, cell_row h5, h7 j _ (hflat j hj)]
    rfl
  have hcmp : CmpLays Tryz.prog 53 #[] enc 2 (fun i j => cfX (nmXi l i) (nmXi l j)) g 0 (Array.range l.length).size w := by
    intro m os dk _ x y
    obtain ⟨a1, ea⟩ := hW x
    obtain ⟨b1, eb⟩ := hW y
    rw [hencA, hencA, ea, eb]
    exact cmp_cs _ _ _ _ _
  have eg : ∀ args w, (callFunc 53 args).run Tryz.prog w = .ok (.enter 53 args) w := enters_of Tryz.func53 (by kernel_rfl) rfl
  obtain ⟨hsz, hix⟩ := sortIx_lt l
  have hcon := AnyQ.slices_SortFunc_eq Tryz.sortCs 2 Tryz.isAgg36 Tryz.sizeOf36 enc hk hone _ (csLt_swo l) 53 #[] g 0 cap (Array.range l.length) w eg hcmp hH hglt (by rw [Array.size_range]; exact h62)
  change Calls Tryz.prog 52 _ _ (fun e w' => _ ∧ ∃ n os, w' = sortWorldK enc 2 w g 0 n (sortIx l) os) at hcon
  rw [Array.size_range] at hcon
  rw [List.length_map]
  refine (show Calls Tryz.prog 52 _ _ _ from hcon).mono ?_
  rintro e w' ⟨rfl, n, os, rfl⟩
  have hvl : ((sortIx l).toList.map W).length = l.length := by rw [List.length_map, Array.length_toList, hsz]
  have hc7 : cur.size = cap * 2 := h6
  rw [List.length_map] at h3
  refine ⟨_, (sortIx l).toList.map W, putCells id 0 (flatK enc 2 (sortIx l)) cur, rfl, ⟨?_, fun b hb' hne => ?_, ?_, rfl, rfl, rfl⟩, by simp [putCells], ?_, fun x hx => ?_, fun j v hj => ?_⟩
  · unfold sortWorldK putRowK
    rw [Go.Sort.heap_grow_old _ _ (by simpa using hglt)]
    simp [putRow, Go.Sort.mapBlock, Go.Sort.ahead, Array.getElem?_modify, h5, Go.Sort.onCells]
  · unfold sortWorldK putRowK
    rw [Go.Sort.heap_grow_old _ _ (by simpa using hb')]
    have : g ≠ b := fun e => hne e.symm
    simp [putRow, Go.Sort.mapBlock, Go.Sort.ahead, Array.getElem?_modify, this]
  · unfold sortWorldK putRowK
    simp
  · rw [sortX, List.map_map]
    exact repL_of fun i hi => hWr i (hix i hi)
  · obtain ⟨i, _, rfl⟩ := List.mem_map.1 hx
    exact hWo i
  · have hc2 : ∀ v ∈ (sortIx l).toList.map W, v.cells.toList.length = 2 := fun v hv => by
      obtain ⟨i, _, rfl⟩ := List.mem_map.1 hv
      exact hk i
    have hjl : j < l.length * 2 := by
      have h8 : (flatCells ((sortIx l).toList.map W)).length = l.length * 2 := by
        have : ∀ vs : List Value, (∀ v ∈ vs, v.cells.toList.length = 2) → (flatCells vs).length = vs.length * 2 := by
          intro vs
          induction vs with
          | nil => intro _; rfl
          | cons v vs ih =>
            intro h
            have e : flatCells (v :: vs) = v.cells.toList ++ flatCells vs := by simp [flatCells]
            rw [e, List.length_append, h v (by simp), ih (fun x hx => h x (by simp [hx])), List.length_cons]
            omega
        rw [this _ hc2, hvl]
      rcases Nat.lt_or_ge j (l.length * 2) with h9 | h9
      · exact h9
      · rw [List.getElem?_eq_none (by omega)] at hj; cases hj
    rw [flat_chunk _ hc2 j (by rw [hvl]; exact hjl), List.getElem?_map] at hj
    have hq : j / 2 < (sortIx l).size := by omega
    have e1 : (sortIx l).toList[j / 2]? = some ((sortIx l)[j / 2]!) := by simp [hq]
    rw [e1] at hj
    have e2 : (enc ((sortIx l)[j / 2]!))[j % 2]? = some v := hj
    have e3 : (flatK enc 2 (sortIx l))[j]! = v := by
      rw [get_flatK _ _ _ _ (by rw [hsz]; exact hjl)]
      obtain ⟨h10, h11⟩ := List.getElem?_eq_some_iff.1 e2
      rw [getElem!_pos (enc ((sortIx l)[j / 2]!)) (j % 2) h10]
      exact h11
    have hjc : j < cur.size := by
      have := Nat.mul_le_mul_right 2 h3
      omega
    simp only [putCells, Array.getElem?_mapIdx]
    rw [Array.getElem?_eq_getElem hjc]
    simp only [Option.map_some, size_flatK, hsz, Nat.zero_add, Nat.zero_le, true_and, hjl, if_true, Nat.sub_zero, e3, id]
end Go.Abs.Kon

namespace Go.Abs.Kon
open Go Go.Proofs Go.Abs
set_option maxRecDepth 100000
set_option maxHeartbeats 4000000

theorem FindX_spec (l : List ByteArray) (s : ByteArray) : Spec Tryz.prog 111 [pp (.slice (l.map .str)), pp (.str s)] [] (.int .i64 (findX l s 0)) [] := by
  generalize hres : findX l s 0 = res
  refine wf (rv := [.tmp 4]) ann111 19 Tryz.func111 fun hfit => ?_
  have hlen : l.length ≤ 9223372036854775807 := by
    simp only [argsFit, SV.pv?, SC.pv?, PV.fit, maxLen_eq, List.length_map] at hfit
    exact hfit.1.1
  clear hfit
  simp only [go_sem]
  refine aLoop_list (α := ByteArray) (β := Nat) (fun rest m => ⟨[(5, ii m), (1, pp (.str s)), (0, pp (.slice (l.map .str)))], [], []⟩) (fun rest m => ∃ pre, l = pre ++ rest ∧ m = pre.length ∧ findX rest s m = res) ?_ ?_ l 0 _ ?_ ⟨[], rfl, rfl, hres⟩
  · rintro m ⟨pre, g1, g2, g3⟩ K
    simp only [List.append_nil] at g1
    subst g1
    rw [findX] at g3
    subst g3
    simp only [go_sem, g2, lt_false (Int.le_refl _), List.length_map]
  · rintro x rest m ⟨pre, g1, g2, g3⟩ K hK
    have hx : (l.map PV.str)[m]? = some (.str x) := by simp [g1, g2]
    have hlt : (m : Int) < l.length := by rw [g1, g2]; simp; omega
    have hll : m < l.length := by rw [g1, g2]; simp
    have w4 : IntKind.i64.wrap ((m : Int) + 1) = ((m + 1 : Nat) : Int) := by rw [wrap_id (by omega) (by omega)]; simp
    rw [findX, strEq] at g3
    cases hb : (x.toList == s.toList) with
    | true =>
      rw [if_pos hb] at g3
      subst g3
      simp only [go_sem, decide_eq_true hlt, Int.toNat_natCast, Int.natCast_nonneg, hx, hb, List.length_map]
    | false =>
      rw [if_neg (by rw [hb]; decide)] at g3
      simp only [go_sem, decide_eq_true hlt, Int.toNat_natCast, Int.natCast_nonneg, hx, hb, w4, List.length_map]
      refine hK (m + 1) _ ?_ ⟨pre ++ [x], by simp [g1], by simp [g2], by simpa using g3⟩
      simp only [go_sem]
  · simp only [go_sem, Int.natCast_zero]
theorem beq_symX (a b : List UInt8) : (a == b) = (b == a) := by
  rw [Bool.eq_iff_iff, beq_iff_eq, beq_iff_eq]; exact eq_comm
theorem IndexX_spec (l : List ByteArray) (s : ByteArray) : Spec Tryz.prog 59 [pp (.slice (l.map .str)), pp (.str s)] [] (.int .i64 (findX l s 0)) [] := by
  generalize hres : findX l s 0 = res
  refine wf (rv := [.tmp 4]) ann59 19 Tryz.func59 fun hfit => ?_
  have hlen : l.length ≤ 9223372036854775807 := by
    simp only [argsFit, SV.pv?, SC.pv?, PV.fit, maxLen_eq, List.length_map] at hfit
    exact hfit.1.1
  clear hfit
  simp only [go_sem, List.length_map]
  refine aLoop_list (α := ByteArray) (β := Nat) (fun rest m => ⟨[(8, ii m), (0, pp (.slice (l.map .str))), (1, pp (.str s)), (7, ii l.length)], [], []⟩) (fun rest m => ∃ pre, l = pre ++ rest ∧ m = pre.length ∧ findX rest s m = res) ?_ ?_ l 0 _ ?_ ⟨[], rfl, rfl, hres⟩
  · rintro m ⟨pre, g1, g2, g3⟩ K
    simp only [List.append_nil] at g1
    subst g1
    rw [findX] at g3
    subst g3
    simp only [go_sem, g2, lt_false (Int.le_refl _)]
  · rintro x rest m ⟨pre, g1, g2, g3⟩ K hK
    have hx : (l.map PV.str)[m]? = some (.str x) := by simp [g1, g2]
    have hlt : (m : Int) < l.length := by rw [g1, g2]; simp; omega
    have hll : m < l.length := by rw [g1, g2]; simp
    have w4 : IntKind.i64.wrap ((m : Int) + 1) = ((m + 1 : Nat) : Int) := by rw [wrap_id (by omega) (by omega)]; simp
    rw [findX, strEq] at g3
    have hs := beq_symX s.toList x.toList
    cases hb : (x.toList == s.toList) with
    | true =>
      rw [if_pos hb] at g3
      subst g3
      rw [hb] at hs
      simp only [go_sem, decide_eq_true hlt, Int.toNat_natCast, Int.natCast_nonneg, hx, hs]
    | false =>
      rw [if_neg (by rw [hb]; decide)] at g3
      rw [hb] at hs
      simp only [go_sem, decide_eq_true hlt, Int.toNat_natCast, Int.natCast_nonneg, hx, hs, w4]
      refine hK (m + 1) _ ?_ ⟨pre ++ [x], by simp [g1], by simp [g2], by simpa using g3⟩
      simp only [go_sem]
  · simp only [go_sem, Int.natCast_zero]

theorem rBind_spec (ns : List ByteArray) (hul : ns.length ≤ 100000000) (c : ConT) : ∀ depth : Int, 0 ≤ depth → depth + depthF c ≤ 2000000000 → formedF c = true → wtF c ≤ 1000000000 →
    Spec Tryz.prog 75 [pp (encC c), pp (.slice (ns.map .str)), ii depth] [] (encC (rBindF ns c depth)) [] := by
  revert c
  refine ConT.ind1 fun op n s k names l ih => ?_
  intro depth h1 h2 h4 h5
  have hn := formed_n h4
  replace hn : 0 ≤ n ∧ n ≤ 20000 := hn
  have hF := FindX_spec ns s
  have hfx := findX_ge ns s 0 (by decide)
  have w1 : IntKind.i64.wrap (depth + ns.length) = depth + ns.length := wrap_id (by rw [depthF] at h2; omega) (by rw [depthF] at h2; omega)
  have w1' : IntKind.i64.wrap (depth + ns.length - 1) = depth + ns.length - 1 := wrap_id (by rw [depthF] at h2; omega) (by rw [depthF] at h2; omega)
  have w1'' : IntKind.i64.wrap (depth + ns.length - 1 - findX ns s 0) = depth + ns.length - 1 - findX ns s 0 := wrap_id (by rw [depthF] at h2; omega) (by rw [depthF] at h2; omega)
  have w2 : IntKind.i64.wrap (n + ns.length) = n + ns.length := wrap_id (by omega) (by omega)
  rw [wtF] at h5
  rw [depthF] at h2
  have hwl := wtL_len l
  have hr : rBindF ns (.mk op n s k names l) depth = if op = 2 then (if findX ns s 0 ≥ 0 then varC (depth + ns.length - 1 - findX ns s 0) else .mk op n s k names l) else if op = 1 then (if n ≥ depth then varC (n + ns.length) else .mk op n s k names l) else .mk op n s k names (rBindL ns l (deepF op depth)) := by rw [rBindF]
  generalize findX ns s 0 = fx at hF w1'' hr hfx
  refine wk (rv := [.cell 6 28]) ann75 65 Tryz.func75 ?_
  simp only [go_sem, encC_mk]
  refine condK_intro (fun hb => ?_) (fun hb => ?_)
  · have hb' : op = 2 := eq_of_beq hb
    rw [if_pos hb'] at hr
    simp only [go_sem]
    refine aCall_intro hF ?_
    simp only [go_sem]
    refine condK_intro (fun hd => ?_) (fun hd => ?_)
    · rw [if_pos (of_decide_eq_true hd)] at hr
      rw [hr]
      simp only [go_sem, w1, w1', w1'', List.length_map, varC, encC_mk]
    · rw [if_neg (of_decide_eq_false hd)] at hr
      rw [hr]
      simp only [go_sem, encC_mk]
  · have hb' : ¬ op = 2 := by simpa using hb
    rw [if_neg hb'] at hr
    simp only [go_sem]
    refine condK_intro (fun hc => ?_) (fun hc => ?_)
    · rw [if_pos (eq_of_beq hc)] at hr
      simp only [go_sem]
      refine condK_intro (fun hd => ?_) (fun hd => ?_)
      · rw [if_pos (of_decide_eq_true hd)] at hr
        rw [hr]
        simp only [go_sem, w2, List.length_map, varC, encC_mk]
      · rw [if_neg (of_decide_eq_false hd)] at hr
        rw [hr]
        simp only [go_sem, encC_mk]
    · have hc' : ¬ op = 1 := by simpa using hc
      rw [if_neg hc'] at hr
      rw [hr]
      clear hr hF
      have hD := deep_spec op n s k names l depth h1 (by omega)
      have hIn := fun es => inside_spec op n s k names l es
      have hfm : formedL l = true := by rw [formedF, Bool.and_eq_true] at h4; exact h4.2
      rw [formedL_all] at hfm
      have hdd : 0 ≤ deepF op depth := by rw [deepF]; split <;> omega
      have hdd2 : deepF op depth + depthL l ≤ 2000000000 := by rw [deepF]; split <;> omega
      simp only [rawC] at hD hIn
      generalize deepF op depth = dd at hD hdd hdd2 ⊢
      simp only [go_sem]
      refine aLoop_list (α := ConT) (β := List ConT × Nat) (fun rest b => ⟨[(9, ii b.2), (2, ii depth), (3, pp (.ep (rawC op n s k names l) 0)), (1, pp (.slice (ns.map .str))), (8, .one (acc 122 (.agg 6) (b.1.map encC))), (6, .one (.ptr (.loc 6) 0))],
          [(.loc 6, ⟨.agg 6, .agg [.pv (.int .i64 0), .pv (.int .i64 0), .pv (.str ByteArray.empty), .nilS, .nilS, .nilS]⟩)], []⟩)
        (fun rest b => ∃ pre, l = pre ++ rest ∧ b.2 = pre.length ∧ b.1.length = pre.length ∧ rBindL ns l dd = b.1 ++ rBindL ns rest dd) ?_ ?_ l ([], 0) _ ?_ ⟨[], rfl, rfl, rfl, rfl⟩
      · rintro ⟨out, m⟩ ⟨pre, g1, g2, g3, g4⟩ K
        simp only [List.append_nil] at g1 g2 g3 g4
        subst g1
        simp only [rBindL, List.append_nil] at g4
        rw [g4]
        simp only [go_sem, g2, List.length_map, lt_false (Int.le_refl _)]
        cases out with
        | nil =>
          simp only [go_sem, acc]
          refine aCall_intro (hIn []) ?_
          simp only [go_sem, encC_mk]
        | cons x r =>
          simp only [go_sem, acc]
          refine aCall_intro (hIn (encC x :: r.map encC)) ?_
          simp only [go_sem, encC_mk]
      · rintro x rest ⟨out, m⟩ ⟨pre, g1, g2, g3, g4⟩ K hK
        simp only at g2 g3 g4
        have hx : (l.map encC)[m]? = some (encC x) := by simp [g1, g2]
        have hlt : (m : Int) < l.length := by rw [g1, g2]; simp; omega
        have hll : l.length = m + (rest.length + 1) := by rw [g1, g2]; simp
        have hmm : x ∈ l := by simp [g1]
        have hw := wtF_mem hmm
        have hdm := depthF_mem hmm
        have hI := ih x hmm dd hdd (by omega) (List.all_eq_true.1 hfm x hmm) (by omega)
        have w4 : IntKind.i64.wrap ((m : Int) + 1) = ((m + 1 : Nat) : Int) := by rw [wrap_id (by omega) (by omega)]; simp
        have hK' := fun s' hs => hK (out ++ [rBindF ns x dd], m + 1) s' hs ⟨pre ++ [x], by simp [g1], by simp [g2], by simp [g3], by rw [g4, rBindL]; simp⟩
        clear hK
        cases out with
        | nil =>
          simp only [go_sem, acc, List.length_map, decide_eq_true hlt, Int.toNat_natCast, Int.natCast_nonneg, hx, encC_sz]
          refine aCall_intro hD ?_
          simp only [go_sem, encC_sz]
          refine aCall_intro hI ?_
          simp only [go_sem, encC_sz, one_le_maxLen, w4]
          first
            | refine ⟨by kernel_rfl, hK' _ ?_⟩
            | refine hK' _ ?_
          simp only [go_sem, acc]
        | cons z zs =>
          have hb1 : (zs.length + 1 + 1) * 104 ≤ 140737488355328 := by simp at g3; omega
          have hb2 : zs.length + 1 + 1 ≤ maxLen := by rw [maxLen_eq]; simp at g3; omega
          simp only [go_sem, acc, List.length_map, decide_eq_true hlt, Int.toNat_natCast, Int.natCast_nonneg, hx, encC_sz]
          refine aCall_intro hD ?_
          simp only [go_sem, encC_sz]
          refine aCall_intro hI ?_
          simp only [go_sem, encC_sz, List.length_map, hb1, hb2, w4]
          first
            | refine ⟨by kernel_rfl, hK' _ ?_⟩
            | refine hK' _ ?_
          simp only [go_sem, acc, List.map_append]
      · simp only [go_sem, acc, Int.natCast_zero]
theorem rBindTop_spec (ns : List ByteArray) (hul : ns.length ≤ 100000000) (c : ConT) (h1 : formedF c = true) (h2 : wtF c ≤ 1000000000) :
    Spec Tryz.prog 25 [pp (encC c), pp (.slice (ns.map .str))] [] (encC (rBindF ns c 0)) [] := by
  have hS := rBind_spec ns hul c 0 (by decide) (by have := depthF_le c; have := sizeF_wt c; omega) h1 h2
  refine wk (rv := [.cell 4 28]) ann25 8 Tryz.func25 ?_
  simp only [go_sem, encC_sz]
  refine aCall_intro hS ?_
  simp only [go_sem, encC_sz]
end Go.Abs.Kon
