/- The order of constructors: weights, the guard, a beta step. -/
import Derived.Test.YthedhplpgfpodaaGreatDoorDataH
import Derived.Test.YthedhplpgfpodaaGreatDoorDataA
set_option linter.unusedSimpArgs false
set_option linter.unusedVariables false
namespace Go.Abs.Kon
open Go Go.Proofs Go.Abs
set_option maxRecDepth 100000
set_option maxHeartbeats 4000000

mutual
def okN : ConT → Prop
  | .mk _ _ _ k names l => knL k + names.length ≤ 200 ∧ okNs l
def okNs : List ConT → Prop
  | [] => True
  | x :: r => okN x ∧ okNs r
end
theorem okNs_mem : ∀ {l : List ConT} {x : ConT}, okNs l → x ∈ l → okN x
  | [], x, _, hx => by simp at hx
  | y :: r, x, h, hx => by
    simp only [okNs] at h
    rcases List.mem_cons.1 hx with rfl | hx
    · exact h.1
    · exact okNs_mem h.2 hx
theorem okNs_of : ∀ {l : List ConT}, (∀ x ∈ l, okN x) → okNs l
  | [], _ => trivial
  | x :: r, h => by simp only [okNs]; exact ⟨h x (by simp), okNs_of fun y hy => h y (by simp [hy])⟩
mutual
theorem okN_wt : ∀ c : ConT, okN c → wtF c ≤ 201 * sizeF c
  | .mk op n s k names l, h => by
    simp only [okN] at h
    have := okNs_wt l h.2
    rw [wtF, sizeF]
    omega
theorem okNs_wt : ∀ l : List ConT, okNs l → wtL l ≤ 201 * sizeL l
  | [], _ => by rw [wtL]; omega
  | x :: r, h => by
    simp only [okNs] at h
    have h1 := okN_wt x h.1
    have h2 := okNs_wt r h.2
    rw [wtL, sizeL]; omega
end
theorem okN_zero : okN zeroC := by
  simp only [zeroC, okN, okNs, knL, List.length_nil, and_true]
  omega
theorem okS_z0 : okS zeroC := by
  simp only [zeroC, okS, okSs]
  decide
mutual
theorem rebF_okN (leaf : ConT → Int → ConT) : ∀ (c : ConT) (b left : Int), okN c → (∀ x b', (x, b') ∈ leaves c b → okN (leaf x b')) → okN (rebF leaf c b left).1
  | .mk op n s k names l, b, left, h0, h => by
    rw [rebF]
    split
    · exact okN_zero
    · split
      · rename_i ho
        exact h (.mk op n s k names l) b (by rw [leaves, if_pos ho]; simp)
      · rename_i ho
        simp only [okN] at h0 ⊢
        exact ⟨h0.1, rebL_okN leaf l _ _ h0.2 fun x b' hx => h x b' (by rw [leaves, if_neg ho]; exact hx)⟩
theorem rebL_okN (leaf : ConT → Int → ConT) : ∀ (l : List ConT) (b left : Int), okNs l → (∀ x b', (x, b') ∈ leavesL l b → okN (leaf x b')) → okNs (rebL leaf l b left).1
  | [], b, left, h0, h => by rw [rebL]; exact h0
  | x :: r, b, left, h0, h => by
    simp only [okNs] at h0
    have hx := rebF_okN leaf x b left h0.1 fun y b' hy => h y b' (by rw [leavesL]; exact List.mem_append_left _ hy)
    have hr := rebL_okN leaf r b (rebF leaf x b left).2 h0.2 fun y b' hy => h y b' (by rw [leavesL]; exact List.mem_append_right _ hy)
    rw [rebL]
    simp only [okNs]
    exact ⟨hx, hr⟩
end
mutual
theorem leaves_okN : ∀ (c : ConT) (b : Int) (x : ConT) (b' : Int), (x, b') ∈ leaves c b → okN c → okN x
  | .mk op n s k names l, b, x, b', h, hc => by
    rw [leaves] at h
    split at h
    · simp only [List.mem_singleton, Prod.mk.injEq] at h
      obtain ⟨rfl, rfl⟩ := h
      exact hc
    · simp only [okN] at hc
      exact leavesL_okN l _ x b' h hc.2
theorem leavesL_okN : ∀ (l : List ConT) (b : Int) (x : ConT) (b' : Int), (x, b') ∈ leavesL l b → okNs l → okN x
  | [], b, x, b', h, _ => by simp [leavesL] at h
  | y :: r, b, x, b', h, hc => by
    rw [leavesL] at h
    simp only [okNs] at hc
    rcases List.mem_append.1 h with h | h
    · exact leaves_okN y b x b' h hc.1
    · exact leavesL_okN r b x b' h hc.2
end
theorem okN_leafC {c : ConT} (h : okN c) : okN (leafC c) := by
  obtain ⟨op, n, s, k, names, l⟩ := c
  simp only [okN] at h
  simp only [leafC, okN, okNs, ConT.k, and_true, List.length_nil]
  omega
theorem okN_varC (n : Int) : okN (varC n) := by
  simp only [varC, okN, okNs, knL, List.length_nil, and_true]
  omega
theorem okN_shiftLeaf (n f : Int) (c : ConT) (b : Int) (h : okN c) : okN (shiftLeaf n f c b) := by
  rw [shiftLeaf]
  split
  · exact okN_varC _
  · exact okN_leafC h
theorem okN_reb (n f : Int) (c : ConT) (h : okN c) : okN (rebF (shiftLeaf n f) c 0 20000).1 :=
  rebF_okN _ c 0 20000 h fun x b hx => okN_shiftLeaf n f x b (leaves_okN c 0 x b hx h)
theorem okS_reb (n f : Int) (c : ConT) (h : okS c) : okS (rebF (shiftLeaf n f) c 0 20000).1 :=
  rebF_okS _ c 0 20000 h fun x b hx => okS_shiftLeaf n f x b ((leaves_mem c 0 x b hx).2.1 h)
theorem okN_substLeaf (l : List ConT) (hl : ∀ x ∈ l, okN x) (c : ConT) (b : Int) (h : okN c) : okN (substLeaf l c b) := by
  rw [substLeaf]
  split
  · exact okN_leafC h
  · split
    · exact okN_varC _
    · rename_i h1 h2
      have hlt : (c.n - b).toNat < l.length := by omega
      rw [List.getD_eq_getElem?_getD, List.getElem?_eq_getElem hlt, Option.getD_some]
      exact okN_reb _ _ _ (hl _ (List.getElem_mem _))
theorem okS_substLeaf (l : List ConT) (hl : ∀ x ∈ l, okS x) (c : ConT) (b : Int) (h : okS c) : okS (substLeaf l c b) := by
  rw [substLeaf]
  split
  · exact okS_leafC h
  · split
    · exact okS_varC _
    · rename_i h1 h2
      have hlt : (c.n - b).toNat < l.length := by omega
      rw [List.getD_eq_getElem?_getD, List.getElem?_eq_getElem hlt, Option.getD_some]
      exact okS_reb _ _ _ (hl _ (List.getElem_mem _))
def okD (c : ConT) : Prop := okS c ∧ okN c
theorem okD_zero : okD zeroC := ⟨okS_z0, okN_zero⟩
theorem replF_ok {leaf : ConT → Int → ConT} {c : ConT} (h1 : okS (rebF leaf c 0 20000).1) (h2 : okN (rebF leaf c 0 20000).1) : okD (replF leaf c).1 ∧ ((replF leaf c).2 = 0 → validF (replF leaf c).1 = true) := by
  rw [replF]
  split
  · exact ⟨okD_zero, fun h => by cases h⟩
  · rename_i h
    refine ⟨⟨h1, h2⟩, fun _ => ?_⟩
    cases hv : validF (rebF leaf c 0 20000).1 with
    | true => rfl
    | false => exact absurd (.inr hv) h
theorem shiftF_okD (c : ConT) (n f : Int) (h : okD c) : okD (shiftF c n f).1 ∧ ((shiftF c n f).2 = 0 → validF (shiftF c n f).1 = true) := by
  rw [shiftF]
  split
  · exact ⟨okD_zero, fun h => by cases h⟩
  · split
    · exact ⟨okD_zero, fun h => by cases h⟩
    · exact replF_ok (okS_reb n f c h.1) (okN_reb n f c h.2)
theorem substF_okD (c : ConT) (l : List ConT) (h : okD c) (hl : ∀ x ∈ l, okD x) : okD (substF c l).1 ∧ ((substF c l).2 = 0 → validF (substF c l).1 = true) := by
  rw [substF]
  split
  · exact ⟨okD_zero, fun h => by cases h⟩
  · split
    · exact ⟨okD_zero, fun h => by cases h⟩
    · exact replF_ok (rebF_okS _ c 0 20000 h.1 fun x b hx => okS_substLeaf l (fun y hy => (hl y hy).1) x b ((leaves_mem c 0 x b hx).2.1 h.1)) (rebF_okN _ c 0 20000 h.2 fun x b hx => okN_substLeaf l (fun y hy => (hl y hy).2) x b (leaves_okN c 0 x b hx h.2))
theorem okD_mem {op n : Int} {s : ByteArray} {k : List KindT} {names : List ByteArray} {l : List ConT} (h : okD (.mk op n s k names l)) {x : ConT} (hx : x ∈ l) : okD x := by
  obtain ⟨h1, h2⟩ := h
  simp only [okS] at h1
  simp only [okN] at h2
  exact ⟨okSs_mem h1.2.2 hx, okNs_mem h2.2 hx⟩
theorem okD_mk {op n : Int} {s : ByteArray} {k : List KindT} {names : List ByteArray} {l l' : List ConT} (h : okD (.mk op n s k names l)) (hl : ∀ x ∈ l', okD x) : okD (.mk op n s k names l') := by
  obtain ⟨h1, h2⟩ := h
  simp only [okS] at h1
  simp only [okN] at h2
  exact ⟨by simp only [okS]; exact ⟨h1.1, h1.2.1, okSs_of fun x hx => (hl x hx).1⟩, by simp only [okN]; exact ⟨h2.1, okNs_of fun x hx => (hl x hx).2⟩⟩

/-! The counter -/
def cntB (s : Nat) (o : Bool) : Box := ⟨.agg 2, .agg [.pv (.int .i64 s), .pv (.bool o)]⟩
def keptF (c : ConT) (o : Bool) : ConT × Bool := if o = true then (zeroC, true) else if sizeF c > 20000 ∨ depthF c > 400 then (zeroC, true) else (c, false)
theorem kept_gen (c : ConT) (s : Nat) (o : Bool) (h : sizeF c ≤ 100000000) : Spec Tryz.prog 236 [.one (.ptr (.ref 0) 0), pp (encC c)] [cntB s o] (encC (keptF c o).1) [cntB s (keptF c o).2] := by
  have hS := nsize_spec c h
  rw [cntB, cntB, keptF]
  cases o with
  | true =>
    rw [if_pos rfl, encC_zero]
    refine wk (rv := [.cell 4 28]) ann236 28 Tryz.func236 ?_
    simp only [go_sem, encC_sz]
  | false =>
    rw [if_neg (by decide)]
    by_cases c1 : sizeF c > 20000
    · have d1 : decide ((sizeF c : Int) > 20000) = true := decide_eq_true (by omega)
      rw [if_pos (.inl c1), encC_zero]
      refine wk (rv := [.cell 4 28]) ann236 28 Tryz.func236 ?_
      simp only [go_sem, encC_sz]
      refine aCall_intro hS ?_
      simp only [go_sem, encC_sz, d1]
    · have d1 : decide ((sizeF c : Int) > 20000) = false := decide_eq_false (by omega)
      by_cases c2 : depthF c > 400
      · have d2 : decide ((depthF c : Int) > 400) = true := decide_eq_true (by omega)
        rw [if_pos (.inr c2), encC_zero]
        refine wk (rv := [.cell 4 28]) ann236 28 Tryz.func236 ?_
        simp only [go_sem, encC_sz]
        refine aCall_intro hS ?_
        simp only [go_sem, encC_sz, d1, d2]
      · have d2 : decide ((depthF c : Int) > 400) = false := decide_eq_false (by omega)
        rw [if_neg (by omega)]
        refine wk (rv := [.cell 4 28]) ann236 28 Tryz.func236 ?_
        simp only [go_sem, encC_sz]
        refine aCall_intro hS ?_
        simp only [go_sem, encC_sz, d1, d2]
theorem keptF_false {c : ConT} {o : Bool} (h : (keptF c o).2 = false) : o = false ∧ (keptF c o).1 = c ∧ sizeF c ≤ 20000 ∧ depthF c ≤ 400 := by
  rw [keptF] at h ⊢
  split at h
  · cases h
  · rename_i ho
    split at h
    · cases h
    · rename_i hc
      rw [if_neg ho, if_neg hc]
      exact ⟨by simpa using ho, rfl, by omega, by omega⟩
theorem keptF_true {c : ConT} {o : Bool} (h : (keptF c o).2 = true) : (keptF c o).1 = zeroC := by
  rw [keptF] at h ⊢
  split at h
  · rename_i ho; rw [if_pos ho]
  · rename_i ho
    split at h
    · rename_i hc; rw [if_neg ho, if_pos hc]
    · cases h

mutual
theorem fewK_kn : ∀ (k : KindT) (n : Int), (fewK k n).1 = true → (knF k : Int) + (fewK k n).2 ≤ n
  | .mk l, n, h => by
    rw [fewK] at h ⊢
    split at h
    · cases h
    · rename_i g
      rw [if_neg g]
      have := anyK_kn l (n - 1) (by simpa using h)
      rw [knF]
      simp only
      omega
theorem anyK_kn : ∀ (l : List KindT) (n : Int), (anyK l n).1 = false → (knL l : Int) + (anyK l n).2 ≤ n
  | [], n, _ => by rw [anyK, knL]; simp
  | x :: r, n, h => by
    rw [anyK] at h ⊢
    split at h
    · cases h
    · rename_i g
      rw [if_neg g]
      have g' : (fewK x n).1 = true := by simpa using g
      have h1 := fewK_kn x n g'
      have h2 := anyK_kn r _ h
      rw [knL]
      omega
end
mutual
theorem fewC_okD : ∀ (c : ConT) (n d : Int), 0 ≤ n → n ≤ 150 → (fewC c n d).1 = true → okD c ∧ (sizeF c : Int) + (fewC c n d).2 ≤ n ∧ 0 ≤ (fewC c n d).2
  | .mk op m s k names l, n, d, h0, h1, h => by
    rw [fewC] at h ⊢
    split at h
    · cases h
    rename_i g1
    rw [if_neg g1]
    split at h
    · cases h
    rename_i g2
    rw [if_neg g2]
    split at h
    · cases h
    rename_i g3
    rw [if_neg g3]
    split at h
    · cases h
    rename_i g4
    rw [if_neg g4]
    split at h
    · cases h
    rename_i g5
    rw [if_neg g5]
    split at h
    · cases h
    rename_i g6
    rw [if_neg g6]
    have g6' : (fewK (.mk k) (n - 1)).1 = true := by simpa using g6
    have hk := fewK_kn (.mk k) (n - 1) g6'
    have hk2 := notK_down [.mk k] (.mk k) (by simp) (n - 1) (by omega) (by omega)
    simp only [notK, g6', Bool.not_true, true_implies] at hk2
    obtain ⟨a1, a2, a3⟩ := anyC_okD l (fewK (.mk k) (n - 1)).2 (d + 1) hk2.2 (by omega) (by simpa using h)
    have hkn : (knF (.mk k) : Int) = 1 + knL k := by rw [knF]; omega
    have hnm : ∀ x ∈ names, x.size ≤ 100000000 := by
      intro x hx
      have g5' : names.any long60 = false := by simpa using g5
      have := List.any_eq_false.1 g5' x hx
      rw [long60, decide_eq_true_eq] at this
      omega
    refine ⟨⟨?_, ?_⟩, ?_, a3⟩
    · simp only [okS]
      exact ⟨by omega, hnm, okSs_of fun x hx => (a1 x hx).1⟩
    · simp only [okN]
      exact ⟨by omega, okNs_of fun x hx => (a1 x hx).2⟩
    · rw [sizeF]
      simp only
      omega
theorem anyC_okD : ∀ (l : List ConT) (n d : Int), 0 ≤ n → n ≤ 150 → (anyC l n d).1 = false → (∀ x ∈ l, okD x) ∧ (sizeL l : Int) + (anyC l n d).2 ≤ n ∧ 0 ≤ (anyC l n d).2
  | [], n, d, h0, _, _ => by rw [anyC, sizeL]; simp [h0]
  | x :: r, n, d, h0, h1, h => by
    rw [anyC] at h ⊢
    split at h
    · cases h
    · rename_i g
      rw [if_neg g]
      have g' : (fewC x n d).1 = true := by simpa using g
      obtain ⟨a1, a2, a3⟩ := fewC_okD x n d h0 h1 g'
      obtain ⟨b1, b2, b3⟩ := anyC_okD r _ d a3 (by omega) h
      refine ⟨fun y hy => ?_, by rw [sizeL]; omega, b3⟩
      rcases List.mem_cons.1 hy with rfl | hy
      · exact a1
      · exact b1 y hy
end
theorem fits_ok (l : List ConT) (h : fitsT l = true) : (∀ x ∈ l, okD x) ∧ sizeL l ≤ 150 := by
  rw [fitsT, ← anyC_eq] at h
  obtain ⟨h1, h2, h3⟩ := anyC_okD l 150 0 (by decide) (by decide) (by simpa using h)
  exact ⟨h1, by omega⟩

def betaR (x a : ConT) (s : Nat) (o : Bool) : ConT × Bool :=
  if o = true ∨ s + 1 > 10000 then (zeroC, true) else if (substF x [a]).2 ≠ 0 then (zeroC, true) else keptF (substF x [a]).1 false
theorem replF_size {leaf : ConT → Int → ConT} {c : ConT} : sizeF (replF leaf c).1 ≤ 20000 := by
  rw [replF]
  split
  · simp only [zeroC, sizeF, sizeL]; omega
  · rename_i h
    cases hv : validF (rebF leaf c 0 20000).1 with
    | true =>
      rw [validF, Bool.and_eq_true] at hv
      exact of_decide_eq_true hv.1
    | false => exact absurd (.inr hv) h
theorem substF_size (c : ConT) (l : List ConT) : sizeF (substF c l).1 ≤ 20000 := by
  rw [substF]
  split
  · simp only [zeroC, sizeF, sizeL]; omega
  · split
    · simp only [zeroC, sizeF, sizeL]; omega
    · exact replF_size
theorem beta_gen (n : Int) (t : ByteArray) (k : List KindT) (names : List ByteArray) (x a : ConT) (s : Nat) (o : Bool) (hs : s ≤ 10001) (hx : okD x ∧ sizeF x ≤ 20000) (ha : okD a ∧ sizeF a ≤ 20000) :
    Spec Tryz.prog 237 [.one (.ptr (.ref 0) 0), pp (encC (.mk 11 n t k names [x])), pp (encC a)] [cntB s o] (encC (betaR x a s o).1) [cntB (s + 1) (betaR x a s o).2] := by
  have hwx := okN_wt x hx.1.2
  have hwa := okN_wt a ha.1.2
  have hS := Subst_spec x [a] (by omega) hx.1.1 (fun y hy => by rw [List.mem_singleton] at hy; subst hy; exact ⟨by omega, ha.1.1⟩)
  have hK := kept_gen (substF x [a]).1 (s + 1) false (by have := substF_size x [a]; omega)
  rw [betaR]
  rw [cntB, cntB] at hK ⊢
  simp only [List.map_cons, List.map_nil] at hS
  rw [encC_mk]
  simp only [List.map_cons, List.map_nil]
  have w1 : IntKind.i64.wrap ((s : Int) + 1) = ((s + 1 : Nat) : Int) := by rw [wrap_id (by omega) (by omega)]; omega
  have hg0 : ∀ a : PV, [a][0]? = some a := fun _ => rfl
  by_cases h1 : s + 1 > 10000
  · have d1 : decide (((s + 1 : Nat) : Int) > 10000) = true := decide_eq_true (by omega)
    rw [if_pos (.inr h1), encC_zero]
    refine wk (rv := [.cell 6 28]) ann237 48 Tryz.func237 ?_
    simp only [go_sem, encC_sz, w1, d1]
  · have d1 : decide (((s + 1 : Nat) : Int) > 10000) = false := decide_eq_false (by omega)
    cases o with
    | true =>
      rw [if_pos (.inl rfl), encC_zero]
      refine wk (rv := [.cell 6 28]) ann237 48 Tryz.func237 ?_
      simp only [go_sem, encC_sz, w1, d1]
    | false =>
      rw [if_neg (fun h => h.elim (fun h => by cases h) (fun h => by omega))]
      by_cases h2 : (substF x [a]).2 ≠ 0
      · have d2 : ((substF x [a]).2 != 0) = true := by simpa using h2
        rw [if_pos h2, encC_zero]
        refine wk (rv := [.cell 6 28]) ann237 48 Tryz.func237 ?_
        simp only [go_sem, encC_sz, w1, d1, hg0, Int.reduceToNat, Int.natCast_zero]
        refine aCall_intro hS ?_
        simp only [go_sem, encC_sz, w1, d1, d2]
        kernel_rfl
      · have d2 : ((substF x [a]).2 != 0) = false := by simpa using h2
        rw [if_neg h2]
        refine wk (rv := [.cell 6 28]) ann237 48 Tryz.func237 ?_
        simp only [go_sem, encC_sz, w1, d1, hg0, Int.reduceToNat, Int.natCast_zero]
        refine aCall_intro hS ?_
        simp only [go_sem, encC_sz, w1, d1, d2]
        repeat (refine ⟨by kernel_rfl, ?_⟩; try simp only [go_sem, encC_sz, w1, d1, d2])
        refine aCall_intro hK ?_
        simp only [go_sem, encC_sz]
theorem betaR_false {x a : ConT} {s : Nat} {o : Bool} (h : (betaR x a s o).2 = false) (hx : okD x) (ha : okD a) : s + 1 ≤ 10000 ∧ validF (betaR x a s o).1 = true ∧ okD (betaR x a s o).1 := by
  rw [betaR] at h ⊢
  split at h
  · cases h
  · rename_i e
    rw [if_neg e]
    split at h
    · cases h
    · rename_i f
      rw [if_neg f]
      obtain ⟨_, e2, _, _⟩ := keptF_false h
      obtain ⟨g1, g2⟩ := substF_okD x [a] hx (fun y hy => by rw [List.mem_singleton] at hy; subst hy; exact ha)
      rw [e2]
      exact ⟨by omega, g2 (by simpa using f), g1⟩

def tameL (leaf : ConT → Int → ConT) (x : ConT) (b : Int) : Prop := (leaf x b).op = x.op ∧ (x.op = 1 → (x.n < b → (leaf x b).n = x.n) ∧ (b ≤ x.n → b ≤ (leaf x b).n)) ∧ (leaf x b).l = []
theorem mapF_op {leaf : ConT → Int → ConT} {c : ConT} {b : Int} (h : ∀ x b', (x, b') ∈ leaves c b → tameL leaf x b') : (mapF leaf c b).op = c.op := by
  obtain ⟨op, n, s, k, names, l⟩ := c
  rw [mapF]
  split
  · rename_i ho
    exact (h (.mk op n s k names l) b (by rw [leaves, if_pos ho]; simp)).1
  · rfl
theorem mapL_map (leaf : ConT → Int → ConT) : ∀ (l : List ConT) (b : Int), mapL leaf l b = l.map fun x => mapF leaf x b
  | [], b => by rw [mapL]; rfl
  | x :: r, b => by rw [mapL, mapL_map leaf r b]; rfl
theorem leavesL_of {l : List ConT} {x : ConT} (hx : x ∈ l) {b : Int} {y : ConT} {b' : Int} (h : (y, b') ∈ leaves x b) : (y, b') ∈ leavesL l b := by
  induction l with
  | nil => simp at hx
  | cons z r ih =>
    rw [leavesL]
    rcases List.mem_cons.1 hx with rfl | hx
    · exact List.mem_append_left _ h
    · exact List.mem_append_right _ (ih hx)
def bump (op b : Int) : Int := if isBinder op = true then b + 1 else b
theorem leaves_kid {op n : Int} {s : ByteArray} {k : List KindT} {names : List ByteArray} {l : List ConT} {b : Int} (ho : ¬ (op = 1 ∨ op = 2)) {x : ConT} (hx : x ∈ l) {y : ConT} {b' : Int} (h : (y, b') ∈ leaves x (bump op b)) : (y, b') ∈ leaves (.mk op n s k names l) b := by
  rw [leaves, if_neg ho]
  exact leavesL_of hx h
theorem occL_eq {f g : ConT → ConT} {t : Int} : ∀ {l : List ConT}, (∀ x ∈ l, occF (f x) t = occF (g x) t) → occL (l.map f) t = occL (l.map g) t
  | [], _ => rfl
  | x :: r, h => by
    rw [List.map_cons, List.map_cons, occL, occL, h x (by simp), occL_eq fun y hy => h y (by simp [hy])]
theorem occ_map (leaf : ConT → Int → ConT) : ∀ (c : ConT) (b t : Int), formedF c = true → (∀ x b', (x, b') ∈ leaves c b → tameL leaf x b') → 0 ≤ t → t < b → occF (mapF leaf c b) t = occF c t := by
  refine ConT.ind1 fun op n s k names l ih => ?_
  intro b t hf h h0 h1
  rw [mapF]
  split
  · rename_i ho
    obtain ⟨g1, g2, g3⟩ := h (.mk op n s k names l) b (by rw [leaves, if_pos ho]; simp)
    simp only [ConT.op, ConT.n] at g1 g2
    rcases ho with rfl | rfl
    · obtain ⟨g4, g5⟩ := g2 rfl
      generalize leaf (.mk 1 n s k names l) b = y at g1 g3 g4 g5
      obtain ⟨o', n', s', k', names', l'⟩ := y
      simp only [ConT.op, ConT.n, ConT.l] at g1 g3 g4 g5
      subst g1
      rw [occF, occF, if_pos rfl, if_pos rfl]
      by_cases hn : n < b
      · rw [g4 hn]
      · have := g5 (by omega)
        have e1 : (n' == t) = false := beq_false_of_ne (by omega)
        have e2 : (n == t) = false := beq_false_of_ne (by omega)
        rw [e1, e2]
    · obtain rfl := formed_const hf
      generalize leaf (.mk 2 n s k names []) b = y at g1 g3
      obtain ⟨o', n', s', k', names', l'⟩ := y
      simp only [ConT.op, ConT.l] at g1 g3
      subst g1 g3
      simp [occF, occL]
  · rename_i ho
    have h1' : ¬ op = 1 := fun e => ho (.inl e)
    rw [occF, occF, if_neg h1', if_neg h1', mapL_map]
    have e : occL (l.map fun x => mapF leaf x (if isBinder op = true then b + 1 else b)) (if isBinder op = true then t + 1 else t) = occL (l.map id) (if isBinder op = true then t + 1 else t) := by
      refine occL_eq fun x hx => ?_
      refine ih x hx _ _ (formed_l hf x hx) (fun y b' hy => h y b' (leaves_kid ho hx hy)) ?_ ?_ <;> split <;> omega
    rw [e, List.map_id]
theorem norm_map (leaf : ConT → Int → ConT) : ∀ (c : ConT) (b : Int), formedF c = true → 0 ≤ b → (∀ x b', (x, b') ∈ leaves c b → tameL leaf x b') → normF c = true → normF (mapF leaf c b) = true := by
  refine ConT.ind1 fun op n s k names l ih => ?_
  intro b hf hb h hn
  rw [normF] at hn
  split at hn
  · cases hn
  rename_i c1
  split at hn
  · cases hn
  rename_i c2
  rw [mapF]
  split
  · rename_i ho
    obtain ⟨g1, g2, g3⟩ := h (.mk op n s k names l) b (by rw [leaves, if_pos ho]; simp)
    generalize leaf (.mk op n s k names l) b = y at g1 g2 g3
    obtain ⟨o', n', s', k', names', l'⟩ := y
    simp only [ConT.op, ConT.l] at g1 g3
    subst g1 g3
    rw [normF, if_neg (by intro h; cases h), if_neg (by intro h; cases h), normL]
  · rename_i ho
    have hk : ∀ x ∈ l, ∀ y b', (y, b') ∈ leaves x (bump op b) → tameL leaf y b' := fun x hx y b' hy => h y b' (leaves_kid ho hx hy)
    have hbb : 0 ≤ bump op b := by rw [bump]; split <;> omega
    rw [mapL_map]
    show normF (.mk op n s k names (l.map fun x => mapF leaf x (bump op b))) = true
    rw [normF, if_neg, if_neg]
    · rw [normL_any, Bool.not_eq_true']
      rw [List.any_eq_false]
      intro y hy
      obtain ⟨x, hx, rfl⟩ := List.mem_map.1 hy
      rw [ih x hx _ (formed_l hf x hx) hbb (hk x hx) (normL_mem hn x hx)]
      decide
    · intro he
      refine c2 ?_
      rcases l with _ | ⟨x, l⟩
      · exact he
      rcases l with _ | ⟨x2, l⟩
      · rw [List.map_cons, List.map_nil, etaF] at he
        simp only [ConT.l] at he
        obtain ⟨xo, xn, xs, xk, xnames, xl⟩ := x
        have hx := hk (.mk xo xn xs xk xnames xl) (by simp)
        rw [mapF] at he
        by_cases hxo : xo = 1 ∨ xo = 2
        · rw [if_pos hxo] at he
          have g3 := (hx (.mk xo xn xs xk xnames xl) (bump op b) (by rw [leaves, if_pos hxo]; simp)).2.2
          generalize leaf (.mk xo xn xs xk xnames xl) (bump op b) = y at g3 he
          obtain ⟨o', n', s', k', names', l'⟩ := y
          simp only [ConT.l] at g3
          subst g3
          cases he
        · rw [if_neg hxo, mapL_map] at he
          simp only [ConT.l] at he
          rcases xl with _ | ⟨f, xl⟩
          · cases he
          rcases xl with _ | ⟨a, xl⟩
          · cases he
          rcases xl with _ | ⟨a2, xl⟩
          · simp only [List.map_cons, List.map_nil, ConT.op] at he
            rw [Bool.and_eq_true, Bool.and_eq_true, Bool.and_eq_true, Bool.and_eq_true] at he
            obtain ⟨e1, e2, e3, e4, e5⟩ := he
            have o1 : op = 11 := by simpa using e1
            have o2 : xo = 12 := by simpa using e2
            subst o1 o2
            have hb1 : bump 11 b = b + 1 := rfl
            have hb2 : ∀ b : Int, (if isBinder 12 = true then b + 1 else b) = b := fun b => rfl
            rw [hb1, hb2] at e3 e4 e5
            have hfx := formed_l hf _ (by simp : ConT.mk 12 xn xs xk xnames [f, a] ∈ [ConT.mk 12 xn xs xk xnames [f, a]])
            have hF : ∀ y b', (y, b') ∈ leaves f (b + 1) → tameL leaf y b' := fun y b' hy => hx y b' (by rw [hb1]; exact leaves_kid (op := 12) (b := b + 1) (by decide) (by simp : f ∈ [f, a]) hy)
            have hA : ∀ y b', (y, b') ∈ leaves a (b + 1) → tameL leaf y b' := fun y b' hy => hx y b' (by rw [hb1]; exact leaves_kid (op := 12) (b := b + 1) (by decide) (by simp : a ∈ [f, a]) hy)
            rw [occ_map leaf f (b + 1) 0 (formed_l hfx f (by simp)) hF (by decide) (by omega)] at e5
            have e3' : ((mapF leaf a (b + 1)).op == 1) = true := e3
            rw [mapF_op hA] at e3'
            have oa : a.op = 1 := by simpa using e3'
            have en : a.n = 0 := by
              obtain ⟨ao, an, az, ak, anames, al⟩ := a
              simp only [ConT.op] at oa
              subst oa
              rw [mapF, if_pos (.inl rfl)] at e4
              obtain ⟨_, g2, _⟩ := hA (.mk 1 an az ak anames al) (b + 1) (by rw [leaves, if_pos (.inl rfl)]; simp)
              obtain ⟨g4, g5⟩ := g2 rfl
              have g4' : an < b + 1 → (leaf (.mk 1 an az ak anames al) (b + 1)).n = an := g4
              have g5' : b + 1 ≤ an → b + 1 ≤ (leaf (.mk 1 an az ak anames al) (b + 1)).n := g5
              have e4' : (leaf (.mk 1 an az ak anames al) (b + 1)).n = 0 := by simpa using e4
              show an = 0
              by_cases hlt : an < b + 1
              · rw [g4' hlt] at e4'; exact e4'
              · have := g5' (by omega); rw [hb1] at hbb; omega
            show ((11 : Int) == 11 && ((12 : Int) == 12 && (a.op == 1 && (a.n == 0 && !occF f 0)))) = true
            rw [oa, en, e5]
            rfl
          · cases he
      · cases he
    · intro he
      refine c1 ?_
      rcases l with _ | ⟨x, l⟩
      · exact he
      · rw [List.map_cons, betaF] at he
        rw [betaF]
        rw [mapF_op (hk x (by simp))] at he
        exact he
theorem eta_left {f : ConT} (hf : formedF f = true) (hn : normF f = true) (ho : occF f 0 = false) (h0 : (shiftF f (-1) 0).2 = 0) : normF (shiftF f (-1) 0).1 = true := by
  have key : (shiftF f (-1) 0).1 = mapF (shiftLeaf (-1) 0) f 0 := by
    rw [shiftF] at h0 ⊢
    split at h0
    · cases h0
    rename_i c1
    split at h0
    · cases h0
    rename_i c2
    rw [if_neg c1, if_neg c2]
    rw [replF] at h0 ⊢
    split at h0
    · cases h0
    rename_i c3
    rw [if_neg c3]
    obtain ⟨g1, g2⟩ := rebF_map (shiftLeaf (-1) 0) f 0 20000 (by decide)
    by_cases hs : (sizeF (mapF (shiftLeaf (-1) 0) f 0) : Int) ≤ 20000
    · rw [g1 hs]
    · exact absurd (.inl (g2 hs)) c3
  rw [key]
  refine norm_map _ f 0 hf (by decide) (fun x b' hx => ?_) hn
  have hz : ¬ (x.op = 1 ∧ x.n = b') := fun e => by
    have := (occ_leaves f 0 hf).2 ⟨x, b', hx, e.1, e.2⟩
    rw [ho] at this; cases this
  rw [tameL, shiftLeaf]
  split
  · rename_i hc
    refine ⟨hc.1.symm, fun _ => ⟨fun h => by omega, fun h => ?_⟩, rfl⟩
    show b' ≤ x.n + -1
    have : x.n ≠ b' := fun e => hz ⟨hc.1, e⟩
    omega
  · rename_i hc
    refine ⟨rfl, fun h1 => ⟨fun _ => rfl, fun h => ?_⟩, rfl⟩
    exact absurd ⟨h1, by omega⟩ hc
end Go.Abs.Kon
