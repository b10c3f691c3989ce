/- From an argument's data to a term. -/
import Derived.Test.YthedhplpgfpodaaGreatDoorKonG
import Derived.Test.YthedhplpgfpodaaGreatDoorTermC
import Derived.Test.YthedhplpgfpodaaGreatDoorRows
set_option linter.unusedSimpArgs false
set_option linter.unusedVariables false
namespace Go.Abs.Kon
open Go Go.Proofs Go.Abs Go.ChangeShapes Go.WideShapes Go.ChangeAt Go.RowKit
open Go.Proofs.YthedhplpgfpodaaGreatDoor
set_option maxRecDepth 100000
set_option maxHeartbeats 4000000
instance : Inhabited TermT := ⟨zeroT⟩
/-! Bulk -/
theorem bulk_one {H : Type} (d : DataW H) : 1 ≤ Rows.uptoBulk d := by
  cases d with
  | lit l => cases l <;> simp [Rows.uptoBulk]
  | nil => simp [Rows.uptoBulk]
  | ptr d => simp [Rows.uptoBulk]
  | slice elems spare => simp [Rows.uptoBulk]
  | agg parts => simp [Rows.uptoBulk]
  | iface t d => simp [Rows.uptoBulk]
  | map entries => simp [Rows.uptoBulk]
  | held h => simp [Rows.uptoBulk]
theorem bulk_str {H : Type} (bytes : List UInt8) : Rows.uptoBulk (DataW.lit (H := H) (.string bytes)) = bytes.length + 1 := by
  simp [Rows.uptoBulk]
def sumB {α : Type} (mz : α → Nat) : List α → Nat
  | [] => 0
  | x :: r => mz x + sumB mz r
theorem sumB_bulk {α : Type} {H : Type} (mz : α → Nat) : ∀ (elems : List (DataW H × List MemPlace)) (f : Nat → α), (∀ i y, elems[i]? = some y → mz (f i) ≤ Rows.uptoBulk y.1) → sumB mz ((List.range elems.length).map f) ≤ Rows.uptoBulkAll (elems.map (·.1))
  | [], f, h => by simp [sumB]
  | y :: r, f, h => by
    rw [List.length_cons, List.range_succ_eq_map, List.map_cons, List.map_map, List.map_cons, sumB]
    have h0 := h 0 y rfl
    have h1 := sumB_bulk mz r (f ∘ Nat.succ) fun i z hz => h (i + 1) z (by simpa using hz)
    simp only [Rows.uptoBulkAll]
    omega
mutual
def blC : ConT → Nat
  | .mk _ _ s k names l => 1 + s.size + knL k + (sumB (fun x : ByteArray => x.size + 1) names) + blCs l
def blCs : List ConT → Nat
  | [] => 0
  | x :: r => blC x + blCs r
end
theorem blCs_sum : ∀ l, sumB blC l = blCs l
  | [] => rfl
  | x :: r => by rw [sumB, blCs, blCs_sum r]
theorem knL_sum : ∀ l, sumB knF l = knL l
  | [] => rfl
  | x :: r => by rw [sumB, knL, knL_sum r]
section
variable {H : Type} {enc : TypeId × Value → H} {W : World} {base base' : Nat} {sp : Nat → Bool} {hd : Bool}
theorem open_elems_b {t e : TypeId} {k : Sz} (ht : Tryz.prog.underlying t = some (.slice e)) (hc : Tryz.prog.cellsOf e = k.size) (hpos : 0 < k.size) {α : Type} [Inhabited α] (enc' : α → PV) (mz : α → Nat) {n : Nat}
    (down : ∀ m cs x, m < n → DataW.trod enc Tryz.prog W base sp hd m e cs = some x → ∃ (a : α) (u : Value), u.cells.toList = cs ∧ Rep (memI W) (enc' a) u ∧ k.okV u = true ∧ mz a ≤ Rows.uptoBulk x.1) {cs : List Value} {x : DataW H × List MemPlace}
    (h : DataW.trod enc Tryz.prog W base sp hd n t cs = some x) : ∃ (l : List α) (v : Value), cs = [v] ∧ Rep (memI W) (.slice (l.map enc')) v ∧ v.oneCell' = true ∧ sumB mz l + 1 ≤ Rows.uptoBulk x.1 := by
  rcases DataW.trod_slice ht h with ⟨rfl, rfl⟩ | ⟨a, len, cap, elems, rest, m, rfl, rfl, rfl, _, hlc, hcm, hlen, hel, _, _⟩
  · exact ⟨[], _, rfl, by rw [List.map_nil, Rep]; exact ⟨none, 0, 0, .one, rfl, rfl, Nat.le_refl _, Nat.zero_le _, .inl rfl⟩, rfl, by simp [sumB, Rows.uptoBulk]⟩
  · have hone : ∀ i, i < len → ∃ (z : α) (u : Value), Rep (memI W) (enc' z) u ∧ k.okV u = true ∧ a.spot = none ∧ At (memI W) a.block (a.off + i * k.size) u ∧ (∀ y, elems[i]? = some y → mz z ≤ Rows.uptoBulk y.1) := by
      intro i hi
      have h1 := hel i hi
      rw [List.getElem?_eq_getElem (by rw [hlen]; exact hi)] at h1
      obtain ⟨cs', h2, h3⟩ := Option.bind_eq_some_iff.1 h1
      obtain ⟨z, u, h4, h5, h6, hmz⟩ := down m cs' _ (Nat.lt_succ_self _) h3
      obtain ⟨_, h7, h8⟩ := World.cells?_some h2
      have hu := Sz.size_of_ok h6
      have hspot : ∀ i', i' < len → a.spot = none ∨ 0 < i' * k.size := fun i' _ => by
        by_cases h0 : i' = 0
        · left
          subst h0
          have h1 := hel 0 (by omega)
          rw [List.getElem?_eq_getElem (by omega)] at h1
          obtain ⟨cs0, g2, _⟩ := Option.bind_eq_some_iff.1 h1
          obtain ⟨_, g7, g8⟩ := World.cells?_some g2
          have g9 := g8 0 (by rw [hc]; exact hpos)
          rw [hc] at g7
          rw [List.getElem?_eq_getElem (by omega)] at g9
          rw [Nat.zero_mul] at g9
          have ea : (a.add 0).add 0 = a := rfl
          rw [ea] at g9
          unfold World.cell? at g9
          cases hs : a.spot with
          | none => rfl
          | some s =>
            rw [hs] at g9
            split at g9 <;> simp at g9
        · exact .inr (Nat.mul_pos (by omega) hpos)
      have hs0 : a.spot = none := by
        rcases hspot 0 (by omega) with h | h
        · exact h
        · simp at h
      refine ⟨z, u, h5, h6, hs0, fun j v hj => ?_, fun y hy => ?_⟩
      · obtain ⟨b, o, s⟩ := a
        simp only at hs0
        subst hs0
        have hjl : j < k.size := by
          have := (Array.getElem?_eq_some_iff.1 hj).1
          omega
        have := h8 j (by rw [hc]; exact hjl)
        rw [add_none, add_none, hc, ← h4, Array.getElem?_toList, hj] at this
        exact this
      · rw [List.getElem?_eq_getElem (by rw [hlen]; exact hi)] at hy
        cases hy
        exact hmz
    obtain ⟨f, hf⟩ : ∃ f : Nat → α, ∀ i, i < len → ∃ u : Value, Rep (memI W) (enc' (f i)) u ∧ k.okV u = true ∧ a.spot = none ∧ At (memI W) a.block (a.off + i * k.size) u ∧ (∀ y, elems[i]? = some y → mz (f i) ≤ Rows.uptoBulk y.1) := by
      refine ⟨fun i => if h : i < len then (hone i h).choose else default, fun i hi => ?_⟩
      simp only [hi, dif_pos]
      exact (hone i hi).choose_spec
    refine ⟨(List.range len).map f, _, rfl, ?_, rfl, ?_⟩
    · rw [Rep]
      refine ⟨some a, len, cap, k, rfl, by simp, hlc, hcm, ?_⟩
      by_cases h0 : len = 0
      · left; subst h0; rfl
      · right
        have hs0 := (hf 0 (by omega)).choose_spec.2.2.1
        refine ⟨a.block, a.off, by rw [← hs0], repE_of _ _ _ fun i e' hi => ?_⟩
        simp only [List.map_map, List.getElem?_map, Option.map_eq_some_iff] at hi
        obtain ⟨j, hj, rfl⟩ := hi
        obtain ⟨hlt, hj'⟩ := List.getElem?_eq_some_iff.1 hj
        have hji : i < len := by simpa using hlt
        simp at hj'
        subst hj'
        obtain ⟨u, h1, h2, _, h4, _⟩ := hf i hji
        exact ⟨u, h1, h2, h4⟩
    · have := sumB_bulk mz elems f fun i y hy => by
        have hi : i < len := by rw [← hlen]; exact (List.getElem?_eq_some_iff.1 hy).1
        obtain ⟨_, _, _, _, _, h5⟩ := hf i hi
        exact h5 y hy
      rw [hlen] at this
      simp only [Rows.uptoBulk]
      omega
theorem open_str_b {n : Nat} {cs : List Value} {x : DataW H × List MemPlace} (h : DataW.trod enc Tryz.prog W base sp hd n 9 cs = some x) : ∃ (s : ByteArray) (u : Value), u.cells.toList = cs ∧ Rep (memI W) (.str s) u ∧ Sz.one.okV u = true ∧ s.size + 1 ≤ Rows.uptoBulk x.1 := by
  obtain ⟨s, rfl, rfl, _⟩ := DataW.trod_string Tryz.underlying9 h
  refine ⟨s, .string s, by simp [Value.cells], by simp [Rep], rfl, ?_⟩
  simp only [bulk_str]
  rw [Array.length_toList]
  exact Nat.le_refl _
theorem open_kind_b : ∀ (n : Nat) (cs : List Value) (x : DataW H × List MemPlace), DataW.trod enc Tryz.prog W base sp hd n 24 cs = some x →
    ∃ (l : List KindT) (v : Value), cs = [v] ∧ Rep (memI W) (.slice (l.map encK)) v ∧ v.oneCell' = true ∧ knL l + 1 ≤ Rows.uptoBulk x.1 := by
  intro n
  induction n using Nat.strongRecOn with
  | _ n ih =>
    intro cs x h
    obtain ⟨xs, m, rfl, hx, hl, hxs, hf⟩ := DataW.trod_struct Tryz.underlying24 h
    rw [cells24] at hl
    obtain ⟨v, rfl⟩ : ∃ v, cs = [v] := by
      match cs, hl with
      | [v], _ => exact ⟨v, rfl⟩
    have h0 := hf 0 { name := "L", type := 22, offset := 0, embedded := false, tag := "", pkgPath := "", byteOffset := 0 } rfl
    simp only [cells22, List.drop_zero] at h0
    obtain ⟨y, rfl⟩ : ∃ y, xs = [y] := by
      match xs, hxs with
      | [y], _ => exact ⟨y, rfl⟩
    rw [List.getElem?_cons_zero] at h0
    obtain ⟨l, v', h1, h2, h3, h4⟩ := open_elems_b (k := .agg 1) Tryz.underlying22 cells24 (by decide) encK knF (fun m' cs' x' hm h' => by
      obtain ⟨l', v', e1, e2, e3, e4⟩ := ih m' (by omega) cs' x' h'
      refine ⟨KindT.mk l', .agg #[v'], by simp [Value.cells, e1], ?_, by simp only [Sz.okV, Bool.and_eq_true, List.all_eq_true]; exact ⟨rfl, fun z hz => by simp at hz; rw [hz]; exact e3⟩, by rw [knF]; omega⟩
      rw [encK_mk, Rep]
      exact ⟨#[v'], rfl, by rw [RepL]; exact ⟨v', [], rfl, e2, by rw [RepL]⟩, fun z hz => by simp at hz; rw [hz]; exact e3⟩) h0
    simp at h1
    subst h1
    refine ⟨l, v, rfl, h2, h3, ?_⟩
    rw [hx, ← knL_sum]
    simp only [List.map_cons, List.map_nil, Rows.uptoBulk, Rows.uptoBulkAll]
    omega
theorem open_con_b : ∀ (n : Nat) (cs : List Value) (x : DataW H × List MemPlace), DataW.trod enc Tryz.prog W base sp hd n 28 cs = some x →
    ∃ (c : ConT) (u : Value), u.cells.toList = cs ∧ Rep (memI W) (encC c) u ∧ Sz.okV (.agg 6) u = true ∧ blC c ≤ Rows.uptoBulk x.1 := by
  intro n
  induction n using Nat.strongRecOn with
  | _ n ih =>
    intro cs x h
    obtain ⟨xs, m, rfl, hx, hl, hxs, hf⟩ := DataW.trod_struct Tryz.underlying28 h
    rw [cells28] at hl
    obtain ⟨v0, v1, v2, v3, v4, v5, rfl⟩ : ∃ v0 v1 v2 v3 v4 v5, cs = [v0, v1, v2, v3, v4, v5] := by
      match cs, hl with
      | [v0, v1, v2, v3, v4, v5], _ => exact ⟨v0, v1, v2, v3, v4, v5, rfl⟩
    obtain ⟨y0, y1, y2, y3, y4, y5, rfl⟩ : ∃ y0 y1 y2 y3 y4 y5, xs = [y0, y1, y2, y3, y4, y5] := by
      match xs, hxs with
      | [y0, y1, y2, y3, y4, y5], _ => exact ⟨y0, y1, y2, y3, y4, y5, rfl⟩
    have h0 := hf 0 { name := "Op", type := 3, offset := 0, embedded := false, tag := "", pkgPath := "", byteOffset := 0 } rfl
    have h1 := hf 1 { name := "N", type := 3, offset := 1, embedded := false, tag := "", pkgPath := "", byteOffset := 8 } rfl
    have h2 := hf 2 { name := "S", type := 9, offset := 2, embedded := false, tag := "", pkgPath := "", byteOffset := 16 } rfl
    have h3 := hf 3 { name := "Kind", type := 24, offset := 3, embedded := false, tag := "", pkgPath := "", byteOffset := 32 } rfl
    have h4 := hf 4 { name := "Names", type := 25, offset := 4, embedded := false, tag := "", pkgPath := "", byteOffset := 56 } rfl
    have h5 := hf 5 { name := "L", type := 26, offset := 5, embedded := false, tag := "", pkgPath := "", byteOffset := 80 } rfl
    simp only [cells3, cells9, cells24, cells25, cells26, List.drop_succ_cons, List.drop_zero, List.take_succ_cons, List.take_zero, List.getElem?_cons_zero, List.getElem?_cons_succ] at h0 h1 h2 h3 h4 h5
    obtain ⟨op, k0⟩ := open_i64 h0
    obtain ⟨nn, k1⟩ := open_i64 h1
    obtain ⟨s, us, k2, r2, _, m2⟩ := open_str_b h2
    obtain ⟨kl, vk, k3, r3, o3, m3⟩ := open_kind_b _ _ _ h3
    obtain ⟨names, vn, k4, r4, o4, m4⟩ := open_elems_b (k := .one) Tryz.underlying25 cells9 (by decide) PV.str (fun x : ByteArray => x.size + 1) (fun m' cs' x' hm h' => open_str_b h') h4
    obtain ⟨l, vl, k5, r5, o5, m5⟩ := open_elems_b (k := .agg 6) Tryz.underlying26 cells28 (by decide) encC blC (fun m' cs' x' hm h' => ih m' (by omega) cs' x' h') h5
    rw [Rep] at r2
    subst r2
    simp [Value.cells] at k0 k1 k2 k3 k4 k5
    subst k0 k1 k2 k3 k4 k5
    have hone : ∀ z ∈ #[Value.int .i64 op, .int .i64 nn, .string s, v3, v4, v5].toList, z.oneCell' = true := by
      intro z hz
      simp only [List.mem_cons, List.not_mem_nil, or_false] at hz
      rcases hz with rfl | rfl | rfl | rfl | rfl | rfl
      · rfl
      · rfl
      · rfl
      · exact o3
      · exact o4
      · exact o5
    refine ⟨.mk op nn s kl names l, .agg #[.int .i64 op, .int .i64 nn, .string s, v3, v4, v5], rfl, ?_, ?_, ?_⟩
    · rw [encC_mk, Rep]
      refine ⟨_, rfl, ?_, hone⟩
      simp only [RepL, Rep]
      rw [Rep] at r3 r4 r5
      exact ⟨_, _, rfl, rfl, _, _, rfl, rfl, _, _, rfl, rfl, _, _, rfl, r3, _, _, rfl, r4, _, _, rfl, r5, rfl⟩
    · simp only [Sz.okV, Bool.and_eq_true, List.all_eq_true]
      exact ⟨rfl, hone⟩
    · rw [hx, blC, ← blCs_sum]
      simp only [List.map_cons, List.map_nil, Rows.uptoBulk, Rows.uptoBulkAll]
      omega
theorem con_cells {I : Imm} {c : ConT} {u : Value} {cs : List Value} (h : Rep I (encC c) u) (h1 : Sz.okV (.agg 6) u = true) (h2 : u.cells.toList = cs) : RepL I c.cells cs ∧ ∀ z ∈ cs, z.oneCell' = true := by
  rw [encC_cells, Rep] at h
  obtain ⟨us, rfl, h3, h4⟩ := h
  simp only [Value.cells] at h2
  subst h2
  exact ⟨h3, h4⟩
/-! What the bound gives -/
theorem okSs_of : ∀ {l : List ConT}, (∀ x ∈ l, okS x) → okSs l
  | [], _ => trivial
  | x :: r, h => by simp only [okSs]; exact ⟨h x (by simp), okSs_of fun y hy => h y (by simp [hy])⟩
theorem arg_int {v : Value} {d : DataW H} {ps : List MemPlace} (hv : Value.okWide Tryz.prog W .any base' 3 v) (h : DataW.Trod enc Tryz.prog W base sp hd 3 v d ps) : ∃ n : Int, Rep (memI W) (.int .i64 n) v := by
  obtain ⟨m, hm⟩ := h
  obtain ⟨n, h1⟩ := open_i64 hm
  refine ⟨n, ?_⟩
  rw [Value.okWide, Tryz.underlying3] at hv
  simp only [Cell.okWide, Tryz.underlying3] at hv
  cases v <;> simp [Cell.ok, Tryz.underlying3] at hv <;> simp [Value.cells] at h1
  obtain ⟨rfl, rfl⟩ := h1
  rfl
end
end Go.Abs.Kon
