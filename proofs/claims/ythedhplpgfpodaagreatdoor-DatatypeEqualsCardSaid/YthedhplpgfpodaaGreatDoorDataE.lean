/- Data types: the example; sorting by names. -/
import Derived.Test.YthedhplpgfpodaaGreatDoorDataD
import Derived.Test.YthedhplpgfpodaaGreatDoorKonI
import Derived.Test.YthedhplpgfpodaaGreatDoorAbsC
import Derived.Test.YthedhplpgfpodaaGreatDoorTermB
import Derived.Test.YthedhplpgfpodaaGreatDoorShelfA
set_option linter.unusedSimpArgs false
set_option linter.unusedVariables false
namespace Go.Abs.Kon
open Go Go.Proofs Go.Abs
set_option maxRecDepth 100000
set_option maxHeartbeats 4000000

theorem IndexFuncCt {α : Type} (enc : α → PV) (l : List α) (f : FuncId) (caps : List PV) (p : α → Bool) (hes : ∀ e ∈ l, PV.hasSz (.agg 7) (enc e) = true) (hp : PredOn enc f caps p l) : Spec Tryz.prog 70 [pp (.slice (l.map enc)), pp (.fn f caps)] [] (.int .i64 (findP p l 0)) [] := by
  refine wf (rv := [.tmp 4]) ann70 19 Tryz.func70 fun hfit => ?_
  have hlen : l.length ≤ 9223372036854775807 := by
    simp only [argsFit, SV.pv?, SC.pv?, PV.fit, maxLen_eq, List.length_map] at hfit
    exact hfit.1.1
  clear hfit
  generalize h0 : findP p l 0 = res
  simp only [go_sem, List.length_map]
  refine aLoop_list (α := α) (β := List α) (fun rest pre => ⟨[(8, ii pre.length), (0, pp (.slice (l.map enc))), (1, pp (.fn f caps)), (7, ii l.length)], [], []⟩) (fun rest pre => l = pre ++ rest ∧ findP p rest pre.length = res) ?_ ?_ l [] _ ?_ ⟨rfl, h0⟩
  · rintro pre ⟨h4, h5⟩ K
    rw [List.append_nil] at h4
    simp only [go_sem, h4, lt_false (Int.le_refl _)]
    simp only [findP] at h5
    rw [h5]
  · rintro x rest pre ⟨h4, h5⟩ K hK
    have hx : (l.map enc)[pre.length]? = some (enc x) := by simp [h4]
    have hlt : (pre.length : Int) < l.length := by rw [h4]; simp; omega
    have hm : x ∈ l := by simp [h4]
    simp only [go_sem, decide_eq_true hlt, Int.toNat_natCast, Int.natCast_nonneg, hx, hes x hm]
    refine aCall_intro (hp x hm) ?_
    simp only [go_sem]
    refine condK_intro (fun hb => ?_) (fun hb => ?_)
    · simp only [findP, hb, if_true] at h5
      simp only [go_sem, h5]
    · have w4 : IntKind.i64.wrap ((pre.length : Int) + 1) = ((pre ++ [x]).length : Int) := by rw [wrap_id (by omega) (by omega)]; simp
      simp only [findP, hb, Bool.false_eq_true, if_false] at h5
      simp only [go_sem, w4]
      refine hK (pre ++ [x]) _ ?_ ⟨by simp [h4], by simpa using h5⟩
      simp only [go_sem]
  · simp only [go_sem, List.length_nil, Int.natCast_zero]
theorem ContainsFuncCt {α : Type} (enc : α → PV) (es : List α) (f : FuncId) (caps : List PV) (p : α → Bool) (hes : ∀ e ∈ es, PV.hasSz (.agg 7) (enc e) = true) (hp : PredOn enc f caps p es) : Spec Tryz.prog 21 [pp (.slice (es.map enc)), pp (.fn f caps)] [] (.bool (es.any p)) [] := by
  refine wk (rv := [.tmp 4]) ann21 9 Tryz.func21 ?_
  simp only [go_sem]
  refine aCall_intro (IndexFuncCt enc es f caps p hes hp) ?_
  have : decide (findP p es 0 ≥ 0) = es.any p := by
    rw [Bool.eq_iff_iff, decide_eq_true_iff]; exact findP_ge p es 0
  simp only [go_sem, this]

def sNil : ByteArray := ⟨#[78, 105, 108]⟩
def sCons : ByteArray := ⟨#[67, 111, 110, 115]⟩
def s1 : ByteArray := ⟨#[49]⟩
def s2 : ByteArray := ⟨#[50]⟩
def e0 : ByteArray := ByteArray.empty
def exV (n : Int) : ConT := .mk 1 n e0 [] [] []
def exApp : ConT := .mk 12 0 e0 [] [] [exV 1, exV 0]
def exArg : ConT := .mk 7 0 e0 [] [s1, s2] [exV 0, exApp]
def exUnit : ConT := .mk 7 0 e0 [] [] []
def exSum : ConT := .mk 8 0 e0 [] [sCons, sNil] [exArg, exUnit]
def exLam : ConT := .mk 11 0 e0 [] [] [exSum]
def exC : ConT := .mk 13 0 e0 [.mk [], .mk []] [] [exLam]
def encCt (x : ByteArray × ConT) : PV := .agg (.str x.1 :: x.2.cells)
theorem exC_valid : validF exC = true := by kernel_rfl
theorem exArg_valid : validF exArg = true := by kernel_rfl
theorem exC_dt : isDT exC = true := by kernel_rfl
theorem exUnit_valid : validF exUnit = true := by kernel_rfl
theorem exArg_norm : normF exArg = true := by kernel_rfl
theorem exUnit_norm : normF exUnit = true := by kernel_rfl
theorem okS_exArg : okS exArg := by
  simp only [exArg, exApp, exV, okS, okSs]
  decide
theorem okS_exUnit : okS exUnit := by
  simp only [exUnit, okS, okSs]
  decide
theorem okS_exC : okS exC := by
  simp only [exC, exLam, exSum, exUnit, exArg, exApp, exV, okS, okSs]
  decide
theorem wt_exArg : wtF exArg ≤ 1000 := of_decide_eq_true (by kernel_rfl)
theorem wt_exUnit : wtF exUnit ≤ 1000 := of_decide_eq_true (by kernel_rfl)
theorem size_exC : sizeF exC = 9 := by kernel_rfl
theorem size_exArg : sizeF exArg = 5 := by kernel_rfl
end Go.Abs.Kon

namespace Go.Abs
open Go
theorem turn_exG {P : Program} {f : FuncId} {gs : List FuncId} {k : Sz} {es es' : List PV} (hb : bodied P f = true) (hlen : es'.length = es.length) (hes : ∀ e ∈ es', e.hasSz k = true)
    (h : ∀ (I : Imm) (w : World) (g cap : Nat) (cur : Array Value) (T : TypeId) (vs : List Value), RepL I es vs → (∀ x ∈ vs, k.okV x = true) → es.length ≤ cap → cap ≤ maxLen → w.heap[g]? = some (.cells cur T (0, 0)) → cur.size = cap * k.size →
      (∀ (j : Nat) (v : Value), (flatCells vs)[j]? = some v → cur[j]? = some v) →
      Calls P f (Value.slice (some ⟨g, 0, none⟩) es.length cap :: gs.map fnV).toArray w fun e w' => ∃ r vs' cur', e = .returned r ∧ RowTo w w' g cur' T ∧ cur'.size = cur.size ∧ RepL I es' vs' ∧ (∀ x ∈ vs', k.okV x = true) ∧
        ∀ (j : Nat) (v : Value), (flatCells vs')[j]? = some v → cur'[j]? = some v) : TurnG P f gs k es (fun t => .ex t k es') .any := by
  refine ⟨hb, fun G w v t tk hW ht hex => ?_⟩
  obtain ⟨h1, h2, g, cap, vs, h3, rfl, h5, h6, h7⟩ := hex
  obtain ⟨a, len, cap', g1, g2, g3, g4⟩ := hW.tokOk t tk ht
  rw [h1] at g1
  cases g1
  rw [h3] at g4
  simp only at g4
  obtain ⟨cur, T, _, hgh, hcs, hgi, hx⟩ := g4
  obtain ⟨hno, hcur⟩ := hx _ h7
  rw [h2] at hcs
  have hglt : g < w.heap.size := (Array.getElem?_eq_some_iff.1 hgh).1
  refine (h G.I w g cap cur T vs h5 h6 g2 g3 hgh hcs hcur).mono ?_
  rintro e w' ⟨r, vs', cur', rfl, hR, hcs', k1, k2, k3⟩
  have htT : TokBlk G g (· = t) := ⟨t, tk, rfl, ht, h3⟩
  let tk' : Tk := ⟨tk.hdr, tk.k, tk.g, some (flatCells vs')⟩
  let G' : Gh := ⟨G.I, G.blk, fun t' => if t' = t then some tk' else G.tok t', G.cap⟩
  have htk : ∀ t' tk1, G'.tok t' = some tk1 → (t' = t ∧ tk1 = tk') ∨ (t' ≠ t ∧ G.tok t' = some tk1) := by
    intro t' tk1 h8
    have h9 : (if t' = t then some tk' else G.tok t') = some tk1 := h8
    split at h9
    · cases h9; exact .inl ⟨by assumption, rfl⟩
    · exact .inr ⟨by assumption, h9⟩
  have htk2 : ∀ t' tk1, G'.tok t' = some tk1 → ∃ tk0, G.tok t' = some tk0 ∧ tk0.g = tk1.g := by
    intro t' tk1 h8
    rcases htk t' tk1 h8 with ⟨rfl, rfl⟩ | ⟨_, h9⟩
    · exact ⟨tk, ht, rfl⟩
    · exact ⟨tk1, h9, rfl⟩
  refine ⟨r, G', rfl, ⟨fun b o v hv => ?_, hW.inj, fun n b hn => Nat.lt_of_lt_of_le (hW.lt n b hn) hR.size, hW.blkImm, fun t' tk1 h8 => ?_, fun t1 t2 tk1 tk2 g' h8 h9 h10 h11 => ?_, fun t1 tk1 g' n h8 h9 hn => ?_, fun g1 hg1 => ?_⟩,
    ⟨Imm.le_refl _, fun b o v hv => .inl hv, fun _ _ => rfl, fun _ _ h => h, fun _ _ h => .inl h, fun t' hn tk1 h8 => ?_, fun t' tk1 g' h8 h9 => ?_, fun b hb _ hnt => hR.old b hb (fun e => hnt (by rw [e]; exact htT)), hR.size, hR.os, hR.tape, hR.output, fun _ _ => rfl⟩, ?_, trivial, fun t' h8 => ?_, rfl⟩
  · have hbn : b ≠ g := fun e => by have hv' : G.I b o = some v := hv; rw [e, hno o] at hv'; cases hv'
    rw [World.cell?_of_block (w := w) (hR.old b (winv_lt hW hv) hbn)]
    exact hW.imm b o v hv
  · rcases htk t' tk1 h8 with ⟨rfl, rfl⟩ | ⟨h9, h10⟩
    · refine ⟨_, _, _, h1, g2, g3, ?_⟩
      show match tk.g with | none => _ | some g => _
      rw [h3]
      refine ⟨cur', T, rfl, hR.row, by rw [hcs', hcs]; show _ = cap * tk.k.size; rw [h2], hgi, fun cs hcs0 => ?_⟩
      have : cs = flatCells vs' := by have : some (flatCells vs') = some cs := hcs0; cases this; rfl
      subst this
      exact ⟨hno, k3⟩
    · refine (hW.tokOk t' tk1 h10).keep fun g' hg' => ?_
      have hne : g' ≠ g := fun e => h9 (hW.tokInj t' t tk1 tk g h10 ht (by rw [hg', e]) h3)
      obtain ⟨cur1, T1, hc1⟩ : ∃ c T, w.heap[g']? = some (.cells c T (0, 0)) := by
        obtain ⟨a1, l1, c1, _, _, _, q⟩ := hW.tokOk t' tk1 h10
        rw [hg'] at q
        obtain ⟨c, T, _, q, _⟩ := q
        exact ⟨c, T, q⟩
      exact ⟨hR.old g' (Array.getElem?_eq_some_iff.1 hc1).1 hne, fun o v hv => hv⟩
  · obtain ⟨a1, a2, a3⟩ := htk2 _ _ h8
    obtain ⟨b1, b2, b3⟩ := htk2 _ _ h9
    exact hW.tokInj t1 t2 a1 b1 g' a2 b2 (by rw [a3, h10]) (by rw [b3, h11])
  · obtain ⟨a1, a2, a3⟩ := htk2 _ _ h8
    exact hW.tokBlk t1 a1 g' n a2 (by rw [a3, h9]) hn
  · obtain ⟨e1, e2, e3⟩ := hW.glob g1 hg1
    have hne : g1 ≠ g := fun e => e3 t tk ht (by rw [h3, e])
    refine ⟨by rw [hR.old g1 (hW.glob.lt hg1) hne]; exact e1, e2, fun t' tk1 h8 => ?_⟩
    obtain ⟨a1, a2, a3⟩ := htk2 _ _ h8
    rw [← a3]
    exact e3 t' a1 a2
  · show (if t' = t then some tk' else G.tok t') = _
    rw [if_neg hn]
    exact h8
  · rcases htk t' tk1 h8 with ⟨rfl, rfl⟩ | ⟨h9, h10⟩
    · have : g' = g := by have : tk.g = some g' := h9; rw [h3] at this; cases this; rfl
      subst this
      exact .inr (.inr htT)
    · exact .inl h10
  · refine ⟨⟨_, _, by rw [hlen]⟩, hes, fun _ => ⟨tk', by show (if t = t then some tk' else G.tok t) = _; rw [if_pos rfl], h1, h2, g, cap, vs', h3, by rw [hlen], k1, k2, rfl⟩⟩
  · intro h9
    refine h8 ?_
    show (if t' = t then some tk' else G.tok t') = none
    split
    · rename_i e; subst e; rw [ht] at h9; cases h9
    · exact h9

end Go.Abs
namespace Go.Abs.Kon
open Go Go.Proofs Go.Abs
open Go.RowKit
open Go.Sort (HoldsK flatK putRowK size_flatK get_flatK putCells putRow grow ahead swp insInner insOuter insertionSort)
set_option maxRecDepth 100000
set_option maxHeartbeats 4000000

theorem cmp_ct (s t : ByteArray) (a1 a2 a3 a4 a5 a6 b1 b2 b3 b4 b5 b6 : Value) (W : World) : Calls Tryz.prog 59 #[.agg #[.string s, a1, a2, a3, a4, a5, a6], .agg #[.string t, b1, b2, b3, b4, b5, b6]] W fun e w' => e = .returned (.int .i64 (Lib.compareBytes s.data.toList t.data.toList)) ∧ ∃ q os', w' = grow (W.drewN q) os' := by
  have hcon := fun W' => Any.strings_Compare Tryz.strsCmp s t W'
  change ∀ W', Calls Tryz.prog 60 _ _ _ at hcon
  generalize Lib.compareBytes s.data.toList t.data.toList = r at hcon ⊢
  go_enter Tryz.func59, Tryz.ntmps59
  go_wp2_with (go_at_call 60; refine (hcon _).mono ?_; rintro e w' ⟨rfl, rfl⟩)
  go_ret
  exact ⟨rfl, 0, _, by rw [Go.Sort.alloc_eq_grow, Go.Sort.alloc_eq_grow, Go.Sort.grow_grow]; rfl⟩

theorem flat_chunk {k : Nat} : ∀ (vs : List Value) (_ : ∀ v ∈ vs, v.cells.toList.length = k) (j : Nat), j < vs.length * k → (flatCells vs)[j]? = (vs[j / k]?).bind fun v => v.cells.toList[j % k]?
  | [], _, j, hj => by simp at hj
  | v :: vs, h, j, hj => by
    have hv := h v (by simp)
    have hk : 0 < k := by
      rcases Nat.eq_zero_or_pos k with e | e
      · subst e; simp at hj
      · exact e
    have e : flatCells (v :: vs) = v.cells.toList ++ flatCells vs := by simp [flatCells]
    rw [e]
    by_cases hlt : j < k
    · rw [List.getElem?_append_left (by omega), Nat.div_eq_of_lt hlt, Nat.mod_eq_of_lt hlt]
      rfl
    · have hj' : j - k < vs.length * k := by
        rw [List.length_cons, Nat.add_mul, Nat.one_mul] at hj
        omega
      rw [List.getElem?_append_right (by omega), hv, flat_chunk vs (fun x hx => h x (by simp [hx])) (j - k) hj', Nat.mod_eq_sub_mod (by omega : j ≥ k), Nat.div_eq_sub_div hk (by omega : k ≤ j)]
      rfl

section
variable (lt : Nat → Nat → Bool) {n : Nat}
theorem swp_lt {d : Array Nat} (hn : 0 < n) (h : ∀ i : Nat, d[i]! < n) (i j : Nat) : ∀ x : Nat, (swp d i j)[x]! < n := by
  intro x
  have hg : ∀ (d : Array Nat) (a v : Nat), (∀ i : Nat, d[i]! < n) → v < n → ∀ x : Nat, (d.setIfInBounds a v)[x]! < n := by
    intro d a v hd hv x
    by_cases e : x = a
    · subst e
      by_cases hx : x < d.size
      · rw [Go.Sort.getElem!_set_same _ _ _ hx]; exact hv
      · rw [Array.setIfInBounds_eq_of_size_le (by omega)]; exact hd x
    · rw [Go.Sort.getElem!_set_other _ _ _ _ e]; exact hd x
  exact hg _ _ _ (hg _ _ _ h (h j)) (h i) x
theorem insInner_lt (hn : 0 < n) (a : Nat) : ∀ (j : Nat) (d : Array Nat), (∀ i : Nat, d[i]! < n) → ∀ x : Nat, (insInner lt a j d)[x]! < n
  | 0, d, h => h
  | j + 1, d, h => by
    rw [insInner]
    split
    · exact insInner_lt hn a j _ (swp_lt hn h _ _)
    · exact h
theorem insInner_size (a : Nat) : ∀ (j : Nat) (d : Array Nat), (insInner lt a j d).size = d.size
  | 0, d => rfl
  | j + 1, d => by
    rw [insInner]
    split
    · rw [insInner_size a j]; simp [swp]
    · rfl
theorem insOuter_lt (hn : 0 < n) (a b : Nat) : ∀ (m i : Nat) (d : Array Nat), b - i = m → (∀ i : Nat, d[i]! < n) → (insOuter lt a b i d).size = d.size ∧ ∀ x : Nat, (insOuter lt a b i d)[x]! < n
  | 0, i, d, hm, h => by
    rw [insOuter, if_neg (by omega)]
    exact ⟨rfl, h⟩
  | m + 1, i, d, hm, h => by
    rw [insOuter, if_pos (by omega)]
    obtain ⟨h1, h2⟩ := insOuter_lt hn a b m (i + 1) (insInner lt a i d) (by omega) (insInner_lt lt hn a i d h)
    exact ⟨by rw [h1, insInner_size], h2⟩
end

abbrev CtT := ByteArray × ConT
def ct0 : CtT := (e0, exUnit)
def ctLt (l : List CtT) : Nat → Nat → Bool := Go.Proofs.ltOf fun i j => Lib.compareBytes (l.getD i ct0).1.data.toList (l.getD j ct0).1.data.toList
def sortIx (l : List CtT) : Array Nat := insertionSort (ctLt l) (Array.range l.length) 0 (Array.range l.length).size
def sortCt (l : List CtT) : List CtT := (sortIx l).toList.map fun i => l.getD i ct0
theorem range_get (n i : Nat) (h : i < n) : (Array.range n)[i]! = i := by simp [h]
theorem sortIx_lt (l : List CtT) (h : 0 < l.length) : (sortIx l).size = l.length ∧ ∀ i ∈ (sortIx l).toList, i < l.length := by
  have := insOuter_lt (n := l.length) (ctLt l) h 0 (Array.range l.length).size _ (0 + 1) (Array.range l.length) rfl (fun i => by
    by_cases hi : i < l.length
    · rw [range_get _ _ hi]; exact hi
    · simp [hi, h])
  refine ⟨by rw [sortIx, insertionSort, this.1]; simp, fun i hi => ?_⟩
  obtain ⟨j, hj, rfl⟩ := List.getElem_of_mem hi
  have h2 := this.2 j
  have e : (sortIx l).toList[j] = (sortIx l)[j]! := by
    have : j < (sortIx l).size := by simpa using hj
    simp [this]
  rw [e]
  exact h2
theorem sortCt_length (l : List CtT) (h : 0 < l.length) : (sortCt l).length = l.length := by
  rw [sortCt, List.length_map, Array.length_toList, (sortIx_lt l h).1]
theorem repL_get {I : Imm} : ∀ {es : List PV} {vs : List Value}, RepL I es vs → es.length = vs.length ∧ ∀ (i : Nat) (e : PV), es[i]? = some e → ∃ v, vs[i]? = some v ∧ Rep I e v
  | [], vs, h => by
    rw [RepL] at h
    subst h
    exact ⟨rfl, fun i e he => by simp at he⟩
  | x :: es, vs, h => by
    rw [RepL] at h
    obtain ⟨v, rest, rfl, h1, h2⟩ := h
    obtain ⟨h3, h4⟩ := repL_get h2
    refine ⟨by simp [h3], fun i e he => ?_⟩
    cases i with
    | zero => simp at he; subst he; exact ⟨v, rfl, h1⟩
    | succ i => exact h4 i e (by simpa using he)
theorem repL_of {I : Imm} {α : Type} {f : α → PV} {g : α → Value} : ∀ {ix : List α}, (∀ i ∈ ix, Rep I (f i) (g i)) → RepL I (ix.map f) (ix.map g)
  | [], _ => by rw [List.map_nil, List.map_nil, RepL]
  | i :: ix, h => by
    rw [List.map_cons, List.map_cons, RepL]
    exact ⟨_, _, rfl, h i (by simp), repL_of fun j hj => h j (by simp [hj])⟩
theorem encCt_sz (x : CtT) : PV.hasSz (.agg 7) (encCt x) = true := by
  obtain ⟨s, ⟨a, b, c, d, e, f⟩⟩ := x
  rfl

theorem SortFunc_turn (l : List CtT) (h0 : 0 < l.length) (h12 : l.length ≤ 12) : TurnG Tryz.prog 58 [59] (.agg 7) (l.map encCt) (fun t => .ex t (.agg 7) ((sortCt l).map encCt)) .any := by
  refine turn_exG (by kernel_rfl) (by simp [sortCt_length l h0]) (fun e he => ?_) fun I w g cap cur T vs h1 h2 h3 h4 h5 h6 h7 => ?_
  · obtain ⟨z, _, rfl⟩ := List.mem_map.1 he; exact encCt_sz z
  obtain ⟨hlen, hget⟩ := repL_get h1
  rw [List.length_map] at hlen
  let D : Value := .agg #[.string e0, .bool false, .bool false, .bool false, .bool false, .bool false, .bool false]
  let W : Nat → Value := fun i => (vs[i]?).getD D
  have hWo : ∀ i, (Sz.agg 7).okV (W i) = true := fun i => by
    show Sz.okV _ ((vs[i]?).getD D) = true
    cases e : vs[i]? with
    | none => rfl
    | some v => exact h2 v (List.mem_of_getElem? e)
  have hWr : ∀ i, i < l.length → Rep I (encCt (l.getD i ct0)) (W i) := fun i hi => by
    obtain ⟨v, hv, hr⟩ := hget i (encCt l[i]) (by simp [hi])
    show Rep I _ ((vs[i]?).getD D)
    rw [hv]
    simpa [List.getD, hi] using hr
  have hW : ∀ i, ∃ a1 a2 a3 a4 a5 a6, W i = .agg #[.string (l.getD i ct0).1, a1, a2, a3, a4, a5, a6] := fun i => by
    by_cases hi : i < l.length
    · have hr := hWr i hi
      have ho := hWo i
      rw [encCt, Rep] at hr
      obtain ⟨us, e, hl, _⟩ := hr
      rw [RepL] at hl
      obtain ⟨v, rest, e2, hv, _⟩ := hl
      rw [Rep] at hv
      rw [e, Sz.okV, Bool.and_eq_true, beq_iff_eq] at ho
      have hlr : rest.length = 6 := by
        have := ho.1
        rw [← Array.length_toList, e2] at this
        simpa using this
      obtain ⟨a1, a2, a3, a4, a5, a6, rfl⟩ : ∃ a1 a2 a3 a4 a5 a6, rest = [a1, a2, a3, a4, a5, a6] := by
        match rest, hlr with
        | [a1, a2, a3, a4, a5, a6], _ => exact ⟨_, _, _, _, _, _, rfl⟩
      refine ⟨a1, a2, a3, a4, a5, a6, ?_⟩
      rw [e]
      congr 1
      apply Array.ext'
      rw [e2, hv]
    · refine ⟨.bool false, .bool false, .bool false, .bool false, .bool false, .bool false, ?_⟩
      show (vs[i]?).getD D = _
      rw [List.getElem?_eq_none (by omega), List.getD, List.getElem?_eq_none (by omega)]
      rfl
  let enc : Nat → List Value := fun i => (W i).cells.toList
  have hencA : ∀ i, .agg (enc i).toArray = W i := fun i => by
    obtain ⟨a1, a2, a3, a4, a5, a6, e⟩ := hW i
    show Value.agg ((W i).cells.toList).toArray = W i
    rw [e]; rfl
  have hk : ∀ i, (enc i).length = 7 := fun i => by
    obtain ⟨a1, a2, a3, a4, a5, a6, e⟩ := hW i
    show ((W i).cells.toList).length = 7
    rw [e]; rfl
  have hone : ∀ i, ∀ v ∈ enc i, v.oneCell' = true := fun i v hv => by
    have ho := hWo i
    rw [← hencA i, Sz.okV, Bool.and_eq_true, List.all_eq_true] at ho
    exact ho.2 v hv
  have hglt : g < w.heap.size := (Array.getElem?_eq_some_iff.1 h5).1
  have hcells : ∀ v ∈ vs, v.cells.toList.length = 7 := fun v hv => by
    obtain ⟨i, hi, rfl⟩ := List.getElem_of_mem hv
    have := hk i
    simpa [enc, W, hi] using this
  have hflat : ∀ j, j < l.length * 7 → (flatCells vs)[j]? = some ((enc (j / 7))[j % 7]!) := fun j hj => by
    have hq : j / 7 < vs.length := by omega
    rw [flat_chunk vs hcells j (by omega), List.getElem?_eq_getElem hq]
    have e : W (j / 7) = vs[j / 7] := by simp [W, hq]
    have hkk := hk (j / 7)
    simp only [enc, e] at hkk ⊢
    rw [Option.bind_some, List.getElem?_eq_getElem (by omega : j % 7 < _), getElem!_pos]
  have hH : HoldsK enc 7 w g 0 (Array.range l.length) := by
    intro j hj
    rw [size_flatK, Array.size_range] at hj
    rw [get_flatK _ _ _ _ (by rw [Array.size_range]; exact hj), range_get _ _ (by omega)]
    refine ⟨?_, by simp [World.frozen?, h5]⟩
    rw [Nat.zero_add, cell_row h5, h7 j _ (hflat j hj)]
    rfl
  have hcmp : CmpLays Tryz.prog 59 #[] enc 7 (fun i j => Lib.compareBytes (l.getD i ct0).1.data.toList (l.getD j ct0).1.data.toList) g 0 (Array.range l.length).size w := by
    intro m os dk _ x y
    obtain ⟨a1, a2, a3, a4, a5, a6, ea⟩ := hW x
    obtain ⟨b1, b2, b3, b4, b5, b6, eb⟩ := hW y
    rw [hencA, hencA, ea, eb]
    exact cmp_ct _ _ _ _ _ _ _ _ _ _ _ _ _ _ _
  have hlen' : ∀ (n : Nat) (W : World), n ≤ 12 → Calls Tryz.prog (Tryz.sortCt_ren.f 15) #[.int .u64 n] W fun e w' => (∃ l : Int, e = .returned (.int .i64 l)) ∧ w' = W := fun n W hn =>
    (show Calls Tryz.prog _ _ _ _ from Any.bits_Len Tryz.bitsLen n W (by omega) (by omega)).mono fun _ _ ⟨he, hw⟩ => ⟨⟨_, he⟩, hw⟩
  have eg : ∀ args w, (callFunc 59 args).run Tryz.prog w = .ok (.enter 59 args) w := enters_of Tryz.func59 (by kernel_rfl) rfl
  obtain ⟨hsz, hix⟩ := sortIx_lt l h0
  have hcon := AnyQ.slices_SortFunc_small Tryz.sortCt 7 Tryz.isAgg40 Tryz.sizeOf40 enc hk hone _ 59 #[] g 0 cap (Array.range l.length) w eg hcmp hH hglt (by rw [Array.size_range]; exact h12) hlen'
  change Calls Tryz.prog 58 _ _ (fun e w' => _ ∧ ∃ n os, w' = sortWorldK enc 7 w g 0 n (sortIx l) os) at hcon
  rw [Array.size_range] at hcon
  rw [List.length_map]
  refine (show Calls Tryz.prog 58 _ _ _ from hcon).mono ?_
  rintro e w' ⟨rfl, n, os, rfl⟩
  have hvl : ((sortIx l).toList.map W).length = l.length := by rw [List.length_map, Array.length_toList, hsz]
  have hc7 : cur.size = cap * 7 := h6
  rw [List.length_map] at h3
  refine ⟨_, (sortIx l).toList.map W, putCells id 0 (flatK enc 7 (sortIx l)) cur, rfl, ⟨?_, fun b hb' hne => ?_, ?_, rfl, rfl, rfl⟩, by simp [putCells], ?_, fun x hx => ?_, fun j v hj => ?_⟩
  · unfold sortWorldK putRowK
    rw [Go.Sort.heap_grow_old _ _ (by simpa using hglt)]
    simp [putRow, Go.Sort.mapBlock, Go.Sort.ahead, Array.getElem?_modify, h5, Go.Sort.onCells]
  · unfold sortWorldK putRowK
    rw [Go.Sort.heap_grow_old _ _ (by simpa using hb')]
    have : g ≠ b := fun e => hne e.symm
    simp [putRow, Go.Sort.mapBlock, Go.Sort.ahead, Array.getElem?_modify, this]
  · unfold sortWorldK putRowK
    simp
  · rw [sortCt, List.map_map]
    exact repL_of fun i hi => hWr i (hix i hi)
  · obtain ⟨i, _, rfl⟩ := List.mem_map.1 hx
    exact hWo i
  · have hc2 : ∀ v ∈ (sortIx l).toList.map W, v.cells.toList.length = 7 := fun v hv => by
      obtain ⟨i, _, rfl⟩ := List.mem_map.1 hv
      exact hk i
    have hjl : j < l.length * 7 := by
      have h8 : (flatCells ((sortIx l).toList.map W)).length = l.length * 7 := by
        have : ∀ vs : List Value, (∀ v ∈ vs, v.cells.toList.length = 7) → (flatCells vs).length = vs.length * 7 := by
          intro vs
          induction vs with
          | nil => intro _; rfl
          | cons v vs ih =>
            intro h
            have e : flatCells (v :: vs) = v.cells.toList ++ flatCells vs := by simp [flatCells]
            rw [e, List.length_append, h v (by simp), ih (fun x hx => h x (by simp [hx])), List.length_cons]
            omega
        rw [this _ hc2, hvl]
      rcases Nat.lt_or_ge j (l.length * 7) with h9 | h9
      · exact h9
      · rw [List.getElem?_eq_none (by omega)] at hj; cases hj
    rw [flat_chunk _ hc2 j (by rw [hvl]; exact hjl), List.getElem?_map] at hj
    have hq : j / 7 < (sortIx l).size := by omega
    have e1 : (sortIx l).toList[j / 7]? = some ((sortIx l)[j / 7]!) := by simp [hq]
    rw [e1] at hj
    have e2 : (enc ((sortIx l)[j / 7]!))[j % 7]? = some v := hj
    have e3 : (flatK enc 7 (sortIx l))[j]! = v := by
      rw [get_flatK _ _ _ _ (by rw [hsz]; exact hjl)]
      obtain ⟨h10, h11⟩ := List.getElem?_eq_some_iff.1 e2
      rw [getElem!_pos (enc ((sortIx l)[j / 7]!)) (j % 7) h10]
      exact h11
    have hjc : j < cur.size := by
      have := Nat.mul_le_mul_right 7 h3
      omega
    simp only [putCells, Array.getElem?_mapIdx]
    rw [Array.getElem?_eq_getElem hjc]
    simp only [Option.map_some, size_flatK, hsz, Nat.zero_add, Nat.zero_le, true_and, hjl, if_true, Nat.sub_zero, e3, id]
end Go.Abs.Kon
