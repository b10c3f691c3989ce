/- Contracts of functions: applications. -/
import Derived.Test.YtjfegcnjmpedhaaGreatDoorKonJ
set_option linter.unusedSimpArgs false
set_option linter.unusedVariables false
namespace Go.Abs.Kon
open Go Go.Proofs Go.Abs
set_option maxRecDepth 100000
set_option maxHeartbeats 4000000

def sumS : List ConT → Nat
  | [] => 0
  | x :: r => sizeF x + sumS r
theorem size_apps : ∀ (l : List ConT) (f : ConT), sizeF (l.foldl appC f) = sizeF f + l.length + sumS l
  | [], f => by simp [sumS]
  | x :: r, f => by
    rw [List.foldl_cons, size_apps r, sumS, appC, sizeF, sizeL, sizeL, sizeL, List.length_cons]
    omega
theorem sumS_le {M : Nat} : ∀ (l : List ConT), (∀ x ∈ l, sizeF x ≤ M) → sumS l ≤ l.length * M
  | [], _ => by simp [sumS]
  | x :: r, h => by
    rw [sumS, List.length_cons, Nat.add_mul]
    have := sumS_le r fun y hy => h y (by simp [hy])
    have := h x (by simp)
    omega
def appsF (f : ConT) (l : List ConT) : ConT × Int :=
  if validF f = false ∨ l.all validF = false then (zeroC, 1) else if l.length > 1000 then (zeroC, 5) else if sizeF f + l.length + sumS l > 20000 then (zeroC, 6) else
  if validF (l.foldl appC f) = true then (l.foldl appC f, 0) else (zeroC, 6)

def appBoxT (t : Nat) (f : ConT) : Option (ConT × ConT) → SV
  | none => pp (encC f)
  | some (g, x) => .agg [.pv (.int .i64 12), .pv (.int .i64 0), .pv (.str ByteArray.empty), .nilS, .nilS, .own t (.agg 6) [encC g, encC x]]
theorem okS_app {f a : ConT} (h1 : okS f) (h2 : okS a) : okS (appC f a) := by
  rw [appC, okS]
  exact ⟨by decide, by simp, by rw [okSs, okSs, okSs]; exact ⟨h1, h2, trivial⟩⟩
theorem okS_apps : ∀ (l : List ConT) (f : ConT), okS f → (∀ x ∈ l, okS x) → okS (l.foldl appC f)
  | [], f, h, _ => h
  | x :: r, f, h, hl => okS_apps r _ (okS_app h (hl x (by simp))) fun y hy => hl y (by simp [hy])

theorem Apps_spec (f : ConT) (l : List ConT) (h1 : wtF f ≤ 1000) (h2 : okS f) (hl : ∀ x ∈ l, wtF x ≤ 1000 ∧ okS x) (hn : l.length ≤ 2000) :
    Spec Tryz.prog 29 [pp (encC f), pp (.slice (l.map encC))] [] (.tuple [encC (appsF f l).1, .int .i64 (appsF f l).2]) [] := by
  have hsc := sizeF_wt f
  have hV := Valid_spec f (by omega) h2
  have hA := all_spec l fun x hx => ⟨by have := sizeF_wt x; have := (hl x hx).1; omega, (hl x hx).2⟩
  have hS := Size_spec f (by omega)
  have hsum := sumS_le (M := 1000) l fun x hx => by have := sizeF_wt x; have := (hl x hx).1; omega
  rw [appsF]
  refine wk (rv := [.cell 4 28, .tmp 5]) ann29 63 Tryz.func29 ?_
  simp only [go_sem, encC_sz]
  refine aCall_intro hV ?_
  simp only [go_sem, encC_sz]
  cases hv : validF f with
  | false =>
    simp only [go_sem, encC_sz, zeroC, encC_mk, true_or]
  | true =>
  simp only [go_sem]
  refine aCall_intro hA ?_
  cases ha : l.all validF with
  | false =>
    simp only [go_sem, encC_sz, zeroC, encC_mk, or_true]
  | true =>
  by_cases h1000 : (l.length : Int) > 1000
  · have h1000' : l.length > 1000 := by omega
    simp only [go_sem, List.length_map, decide_eq_true h1000, h1000', encC_sz, zeroC, encC_mk]
  · have h1000' : ¬ l.length > 1000 := by omega
    have w1 : IntKind.i64.wrap ((sizeF f : Int) + l.length) = ((sizeF f + l.length : Nat) : Int) := by rw [wrap_id (by omega) (by omega)]; omega
    simp only [go_sem, List.length_map, decide_eq_false h1000, h1000', encC_sz]
    refine aCall_intro hS ?_
    simp only [go_sem, List.length_map, w1]
    refine aLoop_list (α := ConT) (β := Nat × Nat) (fun rest b => ⟨[(32, ii b.1), (6, ii b.2), (30, pp (.slice (l.map encC))), (4, .one (.ptr (.loc 4) 0)), (1, pp (.slice (l.map encC))), (2, pp (.ep (encC f) 0)), (31, ii l.length)],
      [(.loc 4, ⟨.agg 6, .agg [.pv (.int .i64 0), .pv (.int .i64 0), .pv (.str ByteArray.empty), .nilS, .nilS, .nilS]⟩)], []⟩)
      (fun rest b => ∃ pre, l = pre ++ rest ∧ b.1 = pre.length ∧ b.2 + sumS rest = sizeF f + l.length + sumS l) ?_ ?_ l (0, sizeF f + l.length) _ ?_ ⟨[], rfl, rfl, rfl⟩
    · rintro ⟨m, a⟩ ⟨pre, g1, g2, g3⟩ K
      simp only [List.append_nil] at g1 g2 g3
      subst g1
      rw [sumS, Nat.add_zero] at g3
      subst g3
      simp only [go_sem, g2, List.length_map, lt_false (Int.le_refl _)]
      by_cases hbig : sizeF f + l.length + sumS l > 20000
      · have hbig' : ((sizeF f + l.length + sumS l : Nat) : Int) > 20000 := by omega
        simp only [go_sem, hbig, decide_eq_true hbig', encC_sz, zeroC, encC_mk]
      · have hbig' : ¬ ((sizeF f + l.length + sumS l : Nat) : Int) > 20000 := by omega
        have hC := copied_spec f (by omega) hv
        simp only [go_sem, hbig, decide_eq_false hbig', encC_sz]
        refine aCall_intro hC ?_
        have hVo := Valid_spec (l.foldl appC f) (by rw [size_apps]; omega) (okS_apps l f h2 fun x hx => (hl x hx).2)
        clear hbig hbig' K
        generalize h0 : l.foldl appC f = res at hVo ⊢
        obtain ⟨vb, hvb⟩ : ∃ vb, validF res = vb := ⟨_, rfl⟩
        have hres : (if validF res = true then (res, (0 : Int)) else (zeroC, 6)) = (if vb = true then (res, 0) else (zeroC, 6)) := by rw [hvb]
        rw [hres]
        rw [hvb] at hVo
        clear hvb hres
        simp only [go_sem, encC_sz, List.length_map]
        refine aLoop_list (α := ConT) (β := Option (ConT × ConT) × Nat) (fun rest b => ⟨[(48, ii b.2), (9, .one (.ptr (.loc 9) 0)), (46, pp (.slice (l.map encC))), (4, .one (.ptr (.loc 4) 0)), (47, ii l.length)],
          [(.loc 4, ⟨.agg 6, .agg [.pv (.int .i64 0), .pv (.int .i64 0), .pv (.str ByteArray.empty), .nilS, .nilS, .nilS]⟩), (.loc 9, ⟨.agg 6, appBoxT 110 f b.1⟩)], []⟩)
          (fun rest b => ∃ pre, l = pre ++ rest ∧ b.2 = pre.length ∧ rest.foldl appC (appCur f b.1) = res) ?_ ?_ l (none, 0) _ ?_ ⟨[], rfl, rfl, h0⟩
        · rintro ⟨g, m⟩ ⟨pre, g1, g2, g3⟩ K
          simp only [List.append_nil] at g1 g2
          simp only [List.foldl_nil] at g3
          subst g1 g3
          cases g with
          | none =>
            simp only [appCur] at hVo ⊢
            simp only [go_sem, g2, List.length_map, lt_false (Int.le_refl _), encC_sz, appBoxT]
            refine aCall_intro hVo ?_
            cases vb with
            | false => simp only [go_sem, encC_sz, zeroC, encC_mk]
            | true => simp only [go_sem, encC_sz]
          | some g =>
            obtain ⟨g, x⟩ := g
            simp only [appCur, appC, encC_mk] at hVo ⊢
            simp only [go_sem, g2, List.length_map, lt_false (Int.le_refl _), encC_sz, appBoxT]
            refine aCall_intro hVo ?_
            cases vb with
            | false => simp only [go_sem, encC_sz, zeroC, encC_mk]
            | true => simp only [go_sem, encC_sz, encC_mk]
        · rintro x rest ⟨g, m⟩ ⟨pre, g1, g2, g3⟩ K hK
          simp only at g1 g2 g3 hK
          have hx : (l.map encC)[m]? = some (encC x) := by simp [g1, g2]
          have hxm : x ∈ l := by simp [g1]
          have hlt : (m : Int) < l.length := by rw [g1, g2]; simp; omega
          have hCx := copied_spec x (by have := (hl x hxm).1; omega) (List.all_eq_true.1 ha x hxm)
          have w4 : IntKind.i64.wrap ((m : Int) + 1) = ((m + 1 : Nat) : Int) := by rw [wrap_id (by omega) (by omega)]; simp
          have hK' := fun s' hs => hK (some (appCur f g, x), m + 1) s' hs ⟨pre ++ [x], by simp [g1], by simp [g2], by simpa [appCur] using g3⟩
          clear hK g3
          cases g with
          | none =>
            simp only [go_sem, List.length_map, decide_eq_true hlt, Int.toNat_natCast, Int.natCast_nonneg, hx, encC_sz, appBoxT]
            refine aCall_intro hCx ?_
            simp only [go_sem, encC_sz, w4]
            first
              | refine ⟨by kernel_rfl, hK' _ ?_⟩
              | refine hK' _ ?_
            simp only [go_sem, appBoxT, appCur]
          | some g =>
            obtain ⟨g, y⟩ := g
            simp only [go_sem, List.length_map, decide_eq_true hlt, Int.toNat_natCast, Int.natCast_nonneg, hx, encC_sz, appBoxT]
            refine aCall_intro hCx ?_
            simp only [go_sem, encC_sz, w4]
            first
              | refine ⟨by kernel_rfl, hK' _ ?_⟩
              | refine hK' _ ?_
            simp only [go_sem, appBoxT, appCur, appC, encC_mk]
        · simp only [go_sem, Int.natCast_zero, appBoxT]
    · rintro x rest ⟨m, a⟩ ⟨pre, g1, g2, g3⟩ K hK
      simp only at g1 g2 g3 hK
      have hx : (l.map encC)[m]? = some (encC x) := by simp [g1, g2]
      have hlt : (m : Int) < l.length := by rw [g1, g2]; simp; omega
      rw [sumS] at g3
      have hSx := Size_spec x (by omega)
      have w4 : IntKind.i64.wrap ((m : Int) + 1) = ((m + 1 : Nat) : Int) := by rw [wrap_id (by omega) (by omega)]; simp
      have w5 : IntKind.i64.wrap ((a : Int) + sizeF x) = ((a + sizeF x : Nat) : Int) := by rw [wrap_id (by omega) (by omega)]; simp
      have hK' := fun s' hs => hK (m + 1, a + sizeF x) s' hs ⟨pre ++ [x], by simp [g1], by simp [g2], show a + sizeF x + sumS rest = _ by omega⟩
      clear hK
      simp only [go_sem, List.length_map, decide_eq_true hlt, Int.toNat_natCast, Int.natCast_nonneg, hx, encC_sz]
      refine aCall_intro hSx ?_
      simp only [go_sem, w4, w5]
      refine hK' _ ?_
      simp only [go_sem]
    · simp only [go_sem, Int.natCast_zero]
end Go.Abs.Kon
