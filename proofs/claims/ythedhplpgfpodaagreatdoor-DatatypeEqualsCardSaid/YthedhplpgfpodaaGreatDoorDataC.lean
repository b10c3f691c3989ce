/- Data types: taken apart; the law, given the example. -/
import Derived.Test.YthedhplpgfpodaaGreatDoorDataB
import Derived.Test.YthedhplpgfpodaaGreatDoorTermJ
import Derived.Test.YthedhplpgfpodaaGreatDoorFacts
import Derived.Test.YthedhplpgfpodaaGreatDoorDataA
set_option linter.unusedSimpArgs false
set_option linter.unusedVariables false
namespace Go.Abs.Kon
open Go Go.Proofs Go.Abs
set_option maxRecDepth 100000
set_option maxHeartbeats 4000000

theorem isNormal_spec (c : ConT) : formedF c = true → depthF c ≤ 100000000 → Spec Tryz.prog 190 [pp (encC c)] [] (.bool (normF c)) [] := by
  revert c
  refine ConT.ind1 fun op n s k names l ih => ?_
  intro h hd
  have hE := eta_spec (.mk op n s k names l) h hd
  have hN : Spec Tryz.prog 43 [pp (.slice (l.map encC)), pp (.fn 239 [])] [] (.bool (l.any fun x => !normF x)) [] := by
    refine ContainsFuncC encC l 239 [] (fun x => !normF x) (fun e _ => encC_sz e) fun x hx => ?_
    have hX := ih x hx (formed_l h x hx) (by
      rw [depthF] at hd
      have := depthF_mem hx
      omega)
    show Spec Tryz.prog 239 [pp (encC x)] [] _ []
    refine wk (rv := [.tmp 2]) ann239 6 Tryz.func239 ?_
    simp only [go_sem]
    refine aCall_intro hX ?_
    simp only [go_sem]
  rw [normF, normL_any]
  generalize (l.any fun x => !normF x) = b at hN ⊢
  generalize hg : etaF (.mk op n s k names l) = g at hE ⊢
  rw [encC_mk] at hE ⊢
  have rest : betaF op l = false → ((op == 12) = false ∨ ∃ x y, l = [x, y] ∧ op = 12 ∧ (x.op == 11) = false) → Spec Tryz.prog 190 [pp (.agg [.int .i64 op, .int .i64 n, .str s, .slice (k.map encK), .slice (names.map .str), .slice (l.map encC)])] [] (.bool (if g = true then false else !b)) [] := by
    intro _ hh
    cases g with
    | true =>
      rw [if_pos rfl]
      rcases hh with e | ⟨x, y, rfl, rfl, e⟩
      · refine wk (rv := [.tmp 2]) ann190 22 Tryz.func190 ?_
        simp only [go_sem, e]
        refine aCall_intro hE ?_
        simp only [go_sem]
      · obtain ⟨opx, nx, sx, kx, namesx, lx⟩ := x
        simp only [ConT.op] at e
        simp only [List.map_cons, List.map_nil, encC_mk] at hE hN ⊢
        refine wk (rv := [.tmp 2]) ann190 22 Tryz.func190 ?_
        simp only [go_sem, e, Int.reduceBEq]
        refine aCall_intro hE ?_
        simp only [go_sem]
    | false =>
      rw [if_neg (by decide)]
      rcases hh with e | ⟨x, y, rfl, rfl, e⟩
      · refine wk (rv := [.tmp 2]) ann190 22 Tryz.func190 ?_
        simp only [go_sem, e]
        refine aCall_intro hE ?_
        simp only [go_sem]
        refine aCall_intro hN ?_
        simp only [go_sem]
      · obtain ⟨opx, nx, sx, kx, namesx, lx⟩ := x
        simp only [ConT.op] at e
        simp only [List.map_cons, List.map_nil, encC_mk] at hE hN ⊢
        refine wk (rv := [.tmp 2]) ann190 22 Tryz.func190 ?_
        simp only [go_sem, e, Int.reduceBEq]
        refine aCall_intro hE ?_
        simp only [go_sem]
        refine aCall_intro hN ?_
        simp only [go_sem]
  by_cases e : op = 12
  · subst e
    obtain ⟨x, y, rfl⟩ := formed_12 h
    have eb : betaF 12 [x, y] = (x.op == 11) := rfl
    cases hx : x.op == 11 with
    | true =>
      rw [if_pos (by rw [eb]; exact hx)]
      obtain ⟨opx, nx, sx, kx, namesx, lx⟩ := x
      simp only [ConT.op] at hx
      simp only [List.map_cons, List.map_nil, encC_mk]
      refine wk (rv := [.tmp 2]) ann190 22 Tryz.func190 ?_
      simp only [go_sem, hx, Int.reduceBEq]
    | false =>
      have hb : betaF 12 [x, y] = false := by rw [eb]; exact hx
      rw [if_neg (by rw [hb]; decide)]
      exact rest hb (.inr ⟨x, y, rfl, rfl, hx⟩)
  · have e12 : (op == 12) = false := by simpa using e
    have hb : betaF op l = false := by
      unfold betaF
      split
      · rw [e12]; rfl
      · rfl
    rw [if_neg (by rw [hb]; decide)]
    exact rest hb (.inl e12)
theorem nIs_spec (c : ConT) (h1 : sizeF c ≤ 1000000000) (h2 : okS c) : Spec Tryz.prog 122 [pp (encC c)] [] (.bool (validF c && normF c)) [] := by
  have hV := Valid_spec c h1 h2
  cases hv : validF c with
  | false =>
    rw [hv] at hV
    refine wk (rv := [.tmp 2]) ann122 9 Tryz.func122 ?_
    simp only [go_sem]
    refine aCall_intro hV ?_
    simp only [go_sem]
  | true =>
    rw [hv] at hV
    have hf : formedF c = true := by
      rw [validF, Bool.and_eq_true, Bool.and_eq_true] at hv
      exact hv.2.2
    have hN := isNormal_spec c hf (by have := (valid_dw hv).1; omega)
    refine wk (rv := [.tmp 2]) ann122 9 Tryz.func122 ?_
    simp only [go_sem]
    refine aCall_intro hV ?_
    simp only [go_sem]
    refine aCall_intro hN ?_
    simp only [go_sem, Bool.true_and]
theorem rnormal_spec (c : ConT) : formedF c = true → depthF c ≤ 100000000 → wtF c ≤ 900000000 → Spec Tryz.prog 168 [pp (encC c)] [] (.bool (normF c)) [] := by
  revert c
  refine ConT.ind1 fun op n s k names l ih => ?_
  intro h hd hw
  have hE := reta_spec (.mk op n s k names l) h hd hw
  have hwl := hw
  rw [wtF] at hwl
  have hlen : l.length ≤ 900000000 := by have := wtL_len l; omega
  have hX : ∀ x ∈ l, Spec Tryz.prog 168 [pp (encC x)] [] (.bool (normF x)) [] := fun x hx => ih x hx (formed_l h x hx) (by
      rw [depthF] at hd
      have := depthF_mem hx
      omega) (by
      have := wtF_mem hx
      omega)
  rw [normF, normL_any]
  generalize hg : etaF (.mk op n s k names l) = g at hE ⊢
  rw [encC_mk] at hE ⊢
  generalize hr : (!(l.any fun x => !normF x)) = res
  have rest : ((op == 12) = false ∨ ∃ x y, l = [x, y] ∧ op = 12 ∧ (x.op == 11) = false) → Spec Tryz.prog 168 [pp (.agg [.int .i64 op, .int .i64 n, .str s, .slice (k.map encK), .slice (names.map .str), .slice (l.map encC)])] [] (.bool (if g = true then false else res)) [] := by
    intro hh
    cases g with
    | true =>
      rw [if_pos rfl]
      rcases hh with e | ⟨x, y, rfl, rfl, e⟩
      · refine wk (rv := [.tmp 2]) ann168 33 Tryz.func168 ?_
        simp only [go_sem, e]
        refine aCall_intro hE ?_
        simp only [go_sem]
      · obtain ⟨opx, nx, sx, kx, namesx, lx⟩ := x
        simp only [ConT.op] at e
        simp only [List.map_cons, List.map_nil, encC_mk] at hE ⊢
        refine wk (rv := [.tmp 2]) ann168 33 Tryz.func168 ?_
        simp only [go_sem, e, Int.reduceBEq]
        refine aCall_intro hE ?_
        simp only [go_sem]
    | false =>
      rw [if_neg (by decide)]
      rcases hh with e | ⟨x, y, rfl, rfl, e⟩
      · refine wk (rv := [.tmp 2]) ann168 33 Tryz.func168 ?_
        simp only [go_sem, e]
        refine aCall_intro hE ?_
        simp only [go_sem]
        refine aLoop_list (α := ConT) (β := List ConT) (fun rest pre => ⟨[(3, ii pre.length), (1, pp (.ep (.agg [.int .i64 op, .int .i64 n, .str s, .slice (k.map encK), .slice (names.map .str), .slice (l.map encC)]) 0))], [], []⟩) (fun rest pre => l = pre ++ rest ∧ (!(rest.any fun x => !normF x)) = res) ?_ ?_ l [] _ ?_ ⟨rfl, hr⟩
        · rintro pre ⟨h4, h5⟩ K
          rw [List.append_nil] at h4
          rw [List.any_nil] at h5
          subst h5
          simp only [go_sem, h4, List.length_map, lt_false (Int.le_refl _)]
        · rintro x rest pre ⟨h4, h5⟩ K hK
          have hx : (l.map encC)[pre.length]? = some (encC x) := by simp [h4]
          have hlt : (pre.length : Int) < l.length := by rw [h4]; simp; omega
          have w4 : IntKind.i64.wrap ((pre.length : Int) + 1) = ((pre ++ [x]).length : Int) := by rw [wrap_id (by omega) (by omega)]; simp
          have hS := hX x (by simp [h4])
          rw [List.any_cons] at h5
          simp only [go_sem, decide_eq_true hlt, List.length_map, Int.toNat_natCast, Int.natCast_nonneg, hx]
          refine aCall_intro hS ?_
          simp only [go_sem]
          cases hb : normF x with
          | true =>
            rw [hb] at h5
            simp only [go_sem, w4]
            refine hK (pre ++ [x]) _ ?_ ⟨by simp [h4], by simpa using h5⟩
            simp only [go_sem]
          | false =>
            rw [hb] at h5
            have h5' : false = res := by simpa using h5
            subst h5'
            simp only [go_sem]
        · simp only [go_sem, List.length_nil, Int.natCast_zero]
      · have hx := hX x (by simp)
        have hy := hX y (by simp)
        simp only [List.any_cons, List.any_nil, Bool.or_false] at hr
        generalize normF x = bx at hx hr
        generalize normF y = bz at hy hr
        obtain ⟨opx, nx, sx, kx, namesx, lx⟩ := x
        simp only [ConT.op] at e
        simp only [List.map_cons, List.map_nil, encC_mk] at hE hx ⊢
        have t1 : decide ((0 : Int) < ((2 : Nat) : Int)) = true := rfl
        have t2 : decide ((1 : Int) < ((2 : Nat) : Int)) = true := rfl
        have t3 : decide ((2 : Int) < ((2 : Nat) : Int)) = false := rfl
        have w1 : IntKind.i64.wrap (0 + 1) = 1 := by decide
        have w2 : IntKind.i64.wrap (1 + 1) = 2 := by decide
        subst hr
        refine wk (rv := [.tmp 2]) ann168 33 Tryz.func168 ?_
        simp only [go_sem, e, Int.reduceBEq]
        refine aCall_intro hE ?_
        simp only [go_sem]
        refine ⟨3, ?_⟩
        rw [aLoop_succ]
        simp only [go_sem, List.length_cons, List.length_nil, t1]
        refine aCall_intro hx ?_
        cases bx with
        | false => simp only [go_sem, Bool.not_false, Bool.true_or, Bool.not_true]
        | true =>
          simp only [go_sem, w1]
          rw [aLoop_succ]
          simp only [go_sem, List.length_cons, List.length_nil, t2]
          refine aCall_intro hy ?_
          cases bz with
          | false => simp only [go_sem, Bool.not_false, Bool.not_true, Bool.false_or]
          | true =>
            simp only [go_sem, w2]
            rw [aLoop_succ]
            simp only [go_sem, List.length_cons, List.length_nil, t3, Bool.not_true, Bool.false_or, Bool.not_false]
  by_cases e : op = 12
  · subst e
    obtain ⟨x, y, rfl⟩ := formed_12 h
    have eb : betaF 12 [x, y] = (x.op == 11) := rfl
    cases hx : x.op == 11 with
    | true =>
      rw [if_pos (by rw [eb]; exact hx)]
      obtain ⟨opx, nx, sx, kx, namesx, lx⟩ := x
      simp only [ConT.op] at hx
      simp only [List.map_cons, List.map_nil, encC_mk]
      refine wk (rv := [.tmp 2]) ann168 33 Tryz.func168 ?_
      simp only [go_sem, hx, Int.reduceBEq]
    | false =>
      have hb : betaF 12 [x, y] = false := by rw [eb]; exact hx
      rw [if_neg (by rw [hb]; decide)]
      exact rest (.inr ⟨x, y, rfl, rfl, hx⟩)
  · have e12 : (op == 12) = false := by simpa using e
    have hb : betaF op l = false := by
      unfold betaF
      split
      · rw [e12]; rfl
      · rfl
    rw [if_neg (by rw [hb]; decide)]
    exact rest (.inl e12)

theorem rkequal_spec (a : KindT) : ∀ b, Spec Tryz.prog 169 [pp (encK a), pp (encK b)] [] (.bool (sameK a b)) [] := by
  revert a
  refine KindT.ind1 fun l ih => ?_
  rintro ⟨m⟩
  refine wf (rv := [.tmp 4]) ann169 32 Tryz.func169 fun hfit => ?_
  have hlen : l.length ≤ 9223372036854775807 := by
    simp only [argsFit, SV.pv?, SC.pv?, encK_mk, PV.fit, fitL, List.length_map, maxLen_eq] at hfit
    exact hfit.1.1.1
  clear hfit
  have hl0 : eqL sameK l m = sameK (.mk l) (.mk m) := by rw [sameKs_eq, sameK]
  generalize sameK (.mk l) (.mk m) = res at hl0
  have hle : l.length ≠ m.length → eqL sameK l m = false := eqL_length sameK l m
  simp only [go_sem, encK_mk, List.length_map]
  refine condK_intro (fun hb => ?_) (fun hb => ?_)
  · simp only [go_sem]
    rw [← hl0, hle (by intro h; simp [h] at hb)]
  · have hl : l.length = m.length := by simp at hb; omega
    simp only [go_sem, List.length_map]
    refine aLoop_list (α := KindT) (β := List KindT × List KindT × List KindT) (fun rest b => ⟨[(5, ii b.1.length), (3, pp (.ep (encK (.mk m)) 0)), (2, pp (.ep (encK (.mk l)) 0))], [], []⟩) (fun rest b => l = b.1 ++ rest ∧ m = b.2.1 ++ b.2.2 ∧ b.1.length = b.2.1.length ∧ eqL sameK rest b.2.2 = res) ?_ ?_ l ([], [], m) _ ?_ ⟨rfl, rfl, rfl, hl0⟩
    · rintro ⟨pre, pre', rest'⟩ ⟨h4, h4', h6, h5⟩ K
      simp only [List.append_nil] at h4 h4' h6
      have : rest' = [] := by
        have := congrArg List.length h4'
        rw [← hl, h4] at this; simp at this
        exact List.eq_nil_of_length_eq_zero (by omega)
      rw [this] at h5
      simp only [eqL] at h5
      subst h5
      simp only [go_sem, h4, lt_false (Int.le_refl _), List.length_map, encK_mk]
    · rintro x rest ⟨pre, pre', rest'⟩ ⟨h4, h4', h6, h5⟩ K hK
      simp only at h4 h4' h6 h5
      cases rest' with
      | nil =>
        exfalso
        have h7 := congrArg List.length h4'
        have h8 := congrArg List.length h4
        simp at h7 h8; omega
      | cons y rest' =>
        have hx : (l.map encK)[pre.length]? = some (encK x) := by simp [h4]
        have hy : (m.map encK)[pre.length]? = some (encK y) := by simp [h4', h6]
        have hlt : (pre.length : Int) < l.length := by rw [h4]; simp; omega
        have hm : x ∈ l := by simp [h4]
        simp only [go_sem, decide_eq_true hlt, List.length_map, Int.toNat_natCast, Int.natCast_nonneg, hx, hy, encK_sz, encK_mk]
        refine aCall_intro (ih x hm y) ?_
        simp only [go_sem]
        refine condK_intro (fun hb => ?_) (fun hb => ?_)
        · have hb' : sameK x y = false := by simpa using hb
          simp only [eqL, hb', Bool.false_and] at h5
          subst h5
          simp only [go_sem]
        · have hb' : sameK x y = true := by simpa using hb
          have w4 : IntKind.i64.wrap ((pre.length : Int) + 1) = ((pre ++ [x]).length : Int) := by rw [wrap_id (by omega) (by omega)]; simp
          simp only [eqL, hb', Bool.true_and] at h5
          simp only [go_sem, w4]
          refine hK (pre ++ [x], pre' ++ [y], rest') _ ?_ ⟨by simp [h4], by simp [h4'], by simp [h6], h5⟩
          simp only [go_sem, encK_mk]
    · simp only [go_sem, List.length_nil, Int.natCast_zero, encK_mk]
theorem rkEqual_spec (a b : KindT) (ha : (sizeK a 20000 1).isSome = true) (hb : (sizeK b 20000 1).isSome = true) : Spec Tryz.prog 108 [pp (encK a), pp (encK b)] [] (.bool (sameK a b)) [] := by
  have h1 := rkValid_spec a
  have h2 := rkValid_spec b
  have h3 := rkequal_spec a b
  rw [ha] at h1
  rw [hb] at h2
  refine wk (rv := [.tmp 4]) ann108 16 Tryz.func108 ?_
  simp only [go_sem, encK_sz]
  refine aCall_intro h1 ?_
  simp only [go_sem, encK_sz]
  refine aCall_intro h2 ?_
  simp only [go_sem, encK_sz]
  refine aCall_intro h3 ?_
  simp only [go_sem]

def arK : Nat → KindT
  | 0 => .mk []
  | n + 1 => .mk [.mk [], arK n]
def kbx (i : Nat) : SV := if i = 0 then .agg [.nilS] else pp (encK (arK i))
theorem kbx_0 : kbx 0 = .agg [.nilS] := rfl
theorem kbx_s (i : Nat) : kbx (i + 1) = pp (encK (arK (i + 1))) := if_neg (by omega)
theorem encK_nil : encK (.mk []) = .agg [.slice []] := by rw [encK_mk, List.map_nil]
theorem arK_s (n : Nat) : encK (arK (n + 1)) = .agg [.slice [.agg [.slice []], encK (arK n)]] := by rw [arK, encK_mk, List.map_cons, List.map_cons, List.map_nil, encK_nil]
theorem Star_spec : Spec Tryz.prog 116 [] [] (.agg [.slice []]) [] := by
  refine wk (rv := [.cell 0 24]) ann116 2 Tryz.func116 ?_
  simp only [go_sem]
theorem pair_spec (n : Nat) : Spec Tryz.prog 115 [pp (.agg [.slice []]), pp (encK (arK n))] [] (encK (arK (n + 1))) [] := by
  rw [arK_s]
  refine wk (rv := [.cell 4 24]) ann115 9 Tryz.func115 ?_
  simp only [go_sem, encK_sz]
theorem rPair_spec (n : Nat) : Spec Tryz.prog 170 [pp (.agg [.slice []]), pp (encK (arK n))] [] (encK (arK (n + 1))) [] := by
  rw [arK_s]
  refine wk (rv := [.cell 4 24]) ann170 9 Tryz.func170 ?_
  simp only [go_sem, encK_sz]
theorem kArity_spec (n : Nat) (h : n ≤ 100) : Spec Tryz.prog 62 [ii n] [] (.tuple [encK (arK n), .int .i64 0]) [] := by
  have d1 : decide ((n : Int) < 0) = false := decide_eq_false (by omega)
  have d2 : decide ((n : Int) > 100) = false := decide_eq_false (by omega)
  have hS := Star_spec
  refine wk (rv := [.cell 2 24, .tmp 3]) ann62 20 Tryz.func62 ?_
  simp only [go_sem, d1, d2]
  refine aLoop_list (α := Unit) (β := Nat) (fun rest b => ⟨[(13, ii b), (4, .one (.ptr (.loc 4) 0)), (2, .one (.ptr (.loc 2) 0)), (12, ii n)], [(.loc 2, ⟨.agg 1, .agg [.nilS]⟩), (.loc 4, ⟨.agg 1, kbx b⟩)], []⟩) (fun rest b => b + rest.length = n) ?_ ?_ (List.replicate n ()) 0 _ ?_ (by simp)
  · rintro b h4 K
    simp only [List.length_nil, Nat.add_zero] at h4
    subst h4
    cases b with
    | zero => simp only [go_sem, lt_false (Int.le_refl _), kbx_0, arK, encK_nil]
    | succ b => simp only [go_sem, lt_false (Int.le_refl _), kbx_s, encK_sz]
  · rintro _ rest b h4 K hK
    simp only [List.length_cons] at h4
    have hlt : decide ((b : Int) < (n : Int)) = true := decide_eq_true (by omega)
    have w1 : IntKind.i64.wrap ((b : Int) + 1) = ((b + 1 : Nat) : Int) := by rw [wrap_id (by omega) (by omega)]; omega
    have hP := pair_spec b
    have hK' := fun s' hs => hK (b + 1) s' hs (by omega)
    clear hK
    cases b with
    | zero =>
      simp only [arK, encK_nil] at hP
      simp only [go_sem, hlt, kbx_0]
      refine aCall_intro hS ?_
      simp only [go_sem]
      refine aCall_intro hP ?_
      simp only [go_sem, encK_sz, w1]
      try (refine ⟨by kernel_rfl, ?_⟩; try simp only [go_sem, encK_sz, w1])
      refine hK' _ ?_
      simp only [go_sem, kbx_s, arK]
    | succ b =>
      simp only [go_sem, hlt, kbx_s, encK_sz]
      refine aCall_intro hS ?_
      simp only [go_sem, encK_sz]
      refine aCall_intro hP ?_
      simp only [go_sem, encK_sz, w1]
      try (refine ⟨by kernel_rfl, ?_⟩; try simp only [go_sem, encK_sz, w1])
      refine hK' _ ?_
      simp only [go_sem, kbx_s]
  · simp only [go_sem, kbx_0, Int.natCast_zero]
theorem rkArity_spec (n : Nat) (h : n ≤ 100) : Spec Tryz.prog 109 [ii n] [] (encK (arK n)) [] := by
  refine wk (rv := [.cell 2 24]) ann109 14 Tryz.func109 ?_
  simp only [go_sem]
  refine aLoop_list (α := Unit) (β := Nat) (fun rest b => ⟨[(4, ii b), (3, .one (.ptr (.loc 3) 0)), (2, .one (.ptr (.loc 2) 0)), (0, ii n)], [(.loc 2, ⟨.agg 1, .agg [.nilS]⟩), (.loc 3, ⟨.agg 1, kbx b⟩)], []⟩) (fun rest b => b + rest.length = n) ?_ ?_ (List.replicate n ()) 0 _ ?_ (by simp)
  · rintro b h4 K
    simp only [List.length_nil, Nat.add_zero] at h4
    subst h4
    cases b with
    | zero => simp only [go_sem, lt_false (Int.le_refl _), kbx_0, arK, encK_nil]
    | succ b => simp only [go_sem, lt_false (Int.le_refl _), kbx_s, encK_sz]
  · rintro _ rest b h4 K hK
    simp only [List.length_cons] at h4
    have hlt : decide ((b : Int) < (n : Int)) = true := decide_eq_true (by omega)
    have w1 : IntKind.i64.wrap ((b : Int) + 1) = ((b + 1 : Nat) : Int) := by rw [wrap_id (by omega) (by omega)]; omega
    have hP := rPair_spec b
    have hK' := fun s' hs => hK (b + 1) s' hs (by omega)
    clear hK
    cases b with
    | zero =>
      simp only [arK, encK_nil] at hP
      simp only [go_sem, hlt, kbx_0]
      refine aCall_intro hP ?_
      simp only [go_sem, encK_sz, w1]
      refine hK' _ ?_
      simp only [go_sem, kbx_s, arK]
    | succ b =>
      simp only [go_sem, hlt, kbx_s, encK_sz]
      refine aCall_intro hP ?_
      simp only [go_sem, encK_sz, w1]
      refine hK' _ ?_
      simp only [go_sem, kbx_s]
  · simp only [go_sem, kbx_0, Int.natCast_zero]

mutual
def lamN : ConT → Nat × ConT
  | .mk op n s k names l => if op = 11 ∧ k.length = 0 then lamL l else (0, .mk op n s k names l)
def lamL : List ConT → Nat × ConT
  | [] => (0, zeroC)
  | x :: _ => ((lamN x).1 + 1, (lamN x).2)
end
def shapeF (c : ConT) : Nat × ConT :=
  match c.l with
  | x :: _ => lamN x
  | [] => (0, zeroC)
def upper (s : ByteArray) : Bool := !nameF s 2
def sumOk (k : KindT) (r : Nat × ConT) : Bool := decide (r.1 ≤ 4) && (r.2.op == 8 && (decide (r.2.names.length ≠ 0) && (!(r.2.names.any upper) && sameK k (arK r.1))))
def isDT (c : ConT) : Bool := validF c && (normF c && (c.op == 13 && sumOk (.mk c.k) (shapeF c)))
theorem taken1_spec (s : ByteArray) : Spec Tryz.prog 123 [pp (.str s)] [] (.bool (upper s)) [] := by
  have h := IsUpper_spec s
  rw [upper]
  refine wk (rv := [.tmp 2]) ann123 6 Tryz.func123 ?_
  simp only [go_sem]
  refine aCall_intro h ?_
  simp only [go_sem]
theorem taken1_any (names : List ByteArray) : Spec Tryz.prog 73 [pp (.slice (names.map .str)), pp (.fn 123 [])] [] (.bool (names.any upper)) [] :=
  ContainsFuncS PV.str names 123 [] upper (fun _ _ => rfl) fun e _ => taken1_spec e
theorem formed_13 {n : Int} {s : ByteArray} {k : List KindT} {names : List ByteArray} {l : List ConT} (h : formedF (.mk 13 n s k names l) = true) : ∃ x, l = [x] := by
  have := formed_len h
  have e : partsF 13 names.length = 1 := rfl
  rw [e] at this
  exact List.length_eq_one_iff.1 (by omega)
theorem formed_kind {n : Int} {s : ByteArray} {k : List KindT} {names : List ByteArray} {l : List ConT} (h : formedF (.mk 13 n s k names l) = true) : (sizeK (.mk k) 20000 1).isSome = true := by
  rw [formedF, Bool.and_eq_true, nodeF, Bool.and_eq_true, Bool.and_eq_true, Bool.and_eq_true, Bool.and_eq_true] at h
  have := h.1.2.2.2.1
  rw [if_pos (.inl rfl)] at this
  exact this
theorem arK_ok : ∀ n : Nat, n ≤ 4 → (sizeK (arK n) 20000 1).isSome = true
  | 0, _ => by decide
  | 1, _ => by decide
  | 2, _ => by decide
  | 3, _ => by decide
  | 4, _ => by decide
  | n + 5, h => by omega
def encShape (r : Nat × ConT) : PV := .agg (.int .i64 r.1 :: r.2.cells)
def zeroShape : PV := .agg [.int .i64 0, .int .i64 0, .int .i64 0, .str ByteArray.empty, .slice [], .slice [], .slice []]
def zbx : Box := ⟨.agg 7, .agg [.pv (.int .i64 0), .pv (.int .i64 0), .pv (.int .i64 0), .pv (.str ByteArray.empty), .nilS, .nilS, .nilS]⟩
def takenR (c : ConT) : PV := if isDT c = true then .tuple [encShape (shapeF c), .bool true] else .tuple [zeroShape, .bool false]
theorem taken_spec (c : ConT) (h1 : sizeF c ≤ 1000000000) (h2 : okS c) : Spec Tryz.prog 69 [pp (encC c)] [] (takenR c) [] := by
  have hI := nIs_spec c h1 h2
  obtain ⟨op, n, s, k, names, l⟩ := c
  rw [takenR, isDT]
  cases hv : validF (.mk op n s k names l) with
  | false =>
    rw [hv, Bool.false_and] at hI
    rw [Bool.false_and, if_neg (by decide), zeroShape]
    rw [encC_mk] at hI ⊢
    refine wk (rv := [.cell 2 96, .tmp 3]) ann69 74 Tryz.func69 ?_
    simp only [go_sem]
    refine aCall_intro hI ?_
    simp only [go_sem]
  | true =>
  rw [hv, Bool.true_and] at hI
  rw [Bool.true_and]
  cases hn : normF (.mk op n s k names l) with
  | false =>
    rw [hn] at hI
    rw [Bool.false_and, if_neg (by decide), zeroShape]
    rw [encC_mk] at hI ⊢
    refine wk (rv := [.cell 2 96, .tmp 3]) ann69 74 Tryz.func69 ?_
    simp only [go_sem]
    refine aCall_intro hI ?_
    simp only [go_sem]
  | true =>
  rw [hn] at hI
  rw [Bool.true_and]
  have hf : formedF (.mk op n s k names l) = true := by
    rw [validF, Bool.and_eq_true, Bool.and_eq_true] at hv
    exact hv.2.2
  by_cases e : op = 13
  case neg =>
    have e1 : (op == 13) = false := by simpa using e
    have e2 : (op != 13) = true := by simpa using e
    have er : ((ConT.mk op n s k names l).op == 13) = false := e1
    rw [er, Bool.false_and, if_neg (by decide), zeroShape]
    rw [encC_mk] at hI ⊢
    refine wk (rv := [.cell 2 96, .tmp 3]) ann69 74 Tryz.func69 ?_
    simp only [go_sem]
    refine aCall_intro hI ?_
    simp only [go_sem, e2]
  subst e
  obtain ⟨y, rfl⟩ := formed_13 hf
  have hy := formed_l hf y (by simp)
  have hky := formed_kind hf
  have hdy : depthF y ≤ 400 := by
    have := (valid_dw hv).1
    rw [depthF] at this
    have := depthF_mem (c := y) (l := [y]) (by simp)
    omega
  have er : ((ConT.mk 13 n s k names [y]).op == 13) = true := rfl
  have es : shapeF (.mk 13 n s k names [y]) = lamN y := rfl
  have ek : (ConT.mk 13 n s k names [y]).k = k := rfl
  rw [er, Bool.true_and, es, ek]
  generalize hres : (if sumOk (.mk k) (lamN y) = true then PV.tuple [encShape (lamN y), .bool true] else .tuple [zeroShape, .bool false]) = res
  rw [encC_mk] at hI ⊢
  rw [List.map_cons, List.map_nil] at hI ⊢
  have hEq := fun m (g : m ≤ 4) => kEqual_spec (.mk k) (arK m) hky (arK_ok m g)
  simp only [encK_mk] at hEq
  refine wk (rv := [.cell 2 96, .tmp 3]) ann69 74 Tryz.func69 ?_
  simp only [go_sem]
  refine aCall_intro hI ?_
  simp only [go_sem, Int.reduceBNe, Int.natCast_zero, Int.reduceToNat, Int.natCast_one]
  refine ⟨by kernel_rfl, ?_⟩
  refine aLoop_meas (β := ConT × Nat) (fun b => ⟨[(5, .one (.ptr (.loc 5) 0)), (4, ii b.2), (2, .one (.ptr (.loc 2) 0)), (1, pp (.ep (.agg [.int .i64 13, .int .i64 n, .str s, .slice (k.map encK), .slice (names.map .str), .slice [encC y]]) 0))], [(.loc 2, zbx), (.loc 5, ⟨.agg 6, pp (encC b.1)⟩)], []⟩)
    (fun b => formedF b.1 = true ∧ ((lamN b.1).1 + b.2, (lamN b.1).2) = lamN y ∧ b.2 + depthF b.1 ≤ 1000) (fun b => depthF b.1) ?_ (y, 0) _ ?_ ⟨hy, rfl, by simp only; omega⟩
  · rintro ⟨⟨opx, nx, sx, kx, namesx, lx⟩, m⟩ ⟨g1, g2, g3⟩ K hK
    simp only at g1 g2 g3
    rw [lamN] at g2
    by_cases e : opx = 11
    · subst e
      obtain ⟨x', rfl⟩ := formed_11 g1
      by_cases ek : kx.length = 0
      · rw [if_pos ⟨rfl, ek⟩, lamL] at g2
        have ekx : kx = [] := List.eq_nil_of_length_eq_zero ek
        subst ekx
        have w1 : IntKind.i64.wrap ((m : Int) + 1) = ((m + 1 : Nat) : Int) := by rw [wrap_id (by omega) (by omega)]; omega
        have hdx : depthF x' < depthF (.mk 11 nx sx [] namesx [x']) := by
          rw [depthF]
          have := depthF_mem (c := x') (l := [x']) (by simp)
          omega
        simp only [go_sem, zbx, encC_mk, List.map_cons, List.map_nil, Int.reduceBEq, List.length_nil, Int.natCast_zero, Int.reduceToNat, Int.natCast_one, w1]
        try (refine ⟨by kernel_rfl, ?_⟩; try simp only [go_sem, encC_sz, w1])
        refine hK (x', m + 1) _ ?_ ⟨formed_l g1 x' (by simp), by rw [← g2]; simp only [Prod.mk.injEq, and_true]; omega, by simp only; omega⟩ hdx
        simp only [go_sem, zbx]
      · rw [if_neg (fun h => ek h.2)] at g2
        simp only [Nat.zero_add] at g2
        have f1 : ((kx.length : Int) == 0) = false := by simpa using ek
        have hs : sumOk (.mk k) (lamN y) = false := by
          rw [← g2, sumOk]
          simp [ConT.op]
        rw [hs, if_neg (by decide)] at hres
        subst hres
        by_cases c1 : (m : Int) > 4
        · simp only [go_sem, zbx, zeroShape, encC_mk, List.map_cons, List.map_nil, Int.reduceBEq, List.length_map, f1, decide_eq_true c1]
        · simp only [go_sem, zbx, zeroShape, encC_mk, List.map_cons, List.map_nil, Int.reduceBEq, Int.reduceBNe, List.length_map, f1, decide_eq_false c1]
    · rw [if_neg (fun h => e h.1)] at g2
      simp only [Nat.zero_add] at g2
      have f1 : (opx == 11) = false := by simpa using e
      rw [← g2] at hres
      have hN := taken1_any namesx
      by_cases c1 : (m : Int) > 4
      · have hs : sumOk (.mk k) (m, .mk opx nx sx kx namesx lx) = false := by
          rw [sumOk]
          have : decide (m ≤ 4) = false := decide_eq_false (by omega)
          simp [this]
        rw [hs, if_neg (by decide)] at hres
        subst hres
        simp only [go_sem, zbx, zeroShape, encC_mk, f1, decide_eq_true c1]
      have d1 := decide_eq_false c1
      by_cases c2 : opx = 8
      case neg =>
        have f2 : (opx != 8) = true := by simpa using c2
        have f3 : (opx == 8) = false := by simpa using c2
        have hs : sumOk (.mk k) (m, .mk opx nx sx kx namesx lx) = false := by
          rw [sumOk]
          simp [ConT.op, f3]
        rw [hs, if_neg (by decide)] at hres
        subst hres
        simp only [go_sem, zbx, zeroShape, encC_mk, f1, d1, f2]
      subst c2
      by_cases c3 : namesx.length = 0
      · have hs : sumOk (.mk k) (m, .mk 8 nx sx kx namesx lx) = false := by
          rw [sumOk]
          simp [ConT.names, c3]
        rw [hs, if_neg (by decide)] at hres
        subst hres
        have f3 : ((namesx.length : Int) == 0) = true := by simpa using c3
        simp only [go_sem, zbx, zeroShape, encC_mk, Int.reduceBEq, Int.reduceBNe, d1, List.length_map, f3]
      have f3 : ((namesx.length : Int) == 0) = false := by simpa using c3
      cases c4 : namesx.any upper with
      | true =>
        rw [c4] at hN
        have hs : sumOk (.mk k) (m, .mk 8 nx sx kx namesx lx) = false := by
          rw [sumOk]
          simp only [ConT.names, c4, Bool.not_true, Bool.false_and, Bool.and_false]
        rw [hs, if_neg (by decide)] at hres
        subst hres
        simp only [go_sem, zbx, zeroShape, encC_mk, Int.reduceBEq, Int.reduceBNe, d1, List.length_map, f3]
        refine aCall_intro hN ?_
        simp only [go_sem]
      | false =>
        rw [c4] at hN
        have hA := kArity_spec m (by omega)
        have hE := hEq m (by omega)
        have hs : sumOk (.mk k) (m, .mk 8 nx sx kx namesx lx) = sameK (.mk k) (arK m) := by
          rw [sumOk]
          have e1 : decide (m ≤ 4) = true := decide_eq_true (by omega)
          simp only [ConT.names, ConT.op, c4, e1, Bool.not_false, Bool.true_and, Int.reduceBEq]
          simp [c3]
        rw [hs] at hres
        cases c5 : sameK (.mk k) (arK m) with
        | false =>
          rw [c5] at hE hres
          rw [if_neg (by decide)] at hres
          subst hres
          simp only [go_sem, zbx, zeroShape, encC_mk, Int.reduceBEq, Int.reduceBNe, d1, List.length_map, f3]
          refine aCall_intro hN ?_
          simp only [go_sem]
          refine aCall_intro hA ?_
          simp only [go_sem, encK_sz, Int.reduceBNe]
          refine aCall_intro hE ?_
          simp only [go_sem]
        | true =>
          rw [c5] at hE hres
          rw [if_pos rfl] at hres
          subst hres
          simp only [go_sem, zbx, encC_mk, Int.reduceBEq, Int.reduceBNe, d1, List.length_map, f3]
          refine aCall_intro hN ?_
          simp only [go_sem]
          refine aCall_intro hA ?_
          simp only [go_sem, encK_sz, Int.reduceBNe]
          refine aCall_intro hE ?_
          simp only [go_sem, encShape, ConT.cells, encC_mk]
          rfl
  · simp only [go_sem, zbx, Int.natCast_zero]

theorem encC_zero : encC zeroC = .agg [.int .i64 0, .int .i64 0, .str ByteArray.empty, .slice [], .slice [], .slice []] := by rw [zeroC, encC_mk]; rfl
theorem rnIs_spec (c : ConT) (h2 : okS c) : Spec Tryz.prog 107 [pp (encC c)] [] (.bool (validF c && normF c)) [] := by
  have hV := rValid_spec c h2
  cases hv : validF c with
  | false =>
    rw [hv] at hV
    refine wk (rv := [.tmp 2]) ann107 9 Tryz.func107 ?_
    simp only [go_sem]
    refine aCall_intro hV ?_
    simp only [go_sem, Bool.false_and]
  | true =>
    rw [hv] at hV
    have hf : formedF c = true := by
      rw [validF, Bool.and_eq_true, Bool.and_eq_true] at hv
      exact hv.2.2
    have hN := rnormal_spec c hf (by have := (valid_dw hv).1; omega) (valid_dw hv).2
    refine wk (rv := [.tmp 2]) ann107 9 Tryz.func107 ?_
    simp only [go_sem]
    refine aCall_intro hV ?_
    simp only [go_sem]
    refine aCall_intro hN ?_
    simp only [go_sem, Bool.true_and]
def sumR (c : ConT) : PV := if isDT c = true then .tuple [encC (shapeF c).2, .int .i64 (shapeF c).1, .bool true] else .tuple [encC zeroC, .int .i64 0, .bool false]
def zcx : Box := ⟨.agg 6, .agg [.pv (.int .i64 0), .pv (.int .i64 0), .pv (.str ByteArray.empty), .nilS, .nilS, .nilS]⟩
theorem Sum_spec (c : ConT) (h2 : okS c) : Spec Tryz.prog 49 [pp (encC c)] [] (sumR c) [] := by
  have hI := rnIs_spec c h2
  obtain ⟨op, n, s, k, names, l⟩ := c
  rw [sumR, isDT]
  cases hv : validF (.mk op n s k names l) with
  | false =>
    rw [hv, Bool.false_and] at hI
    rw [Bool.false_and, if_neg (by decide), encC_zero]
    rw [encC_mk] at hI ⊢
    refine wk (rv := [.cell 2 28, .tmp 3, .tmp 4]) ann49 76 Tryz.func49 ?_
    simp only [go_sem]
    refine aCall_intro hI ?_
    simp only [go_sem]
  | true =>
  rw [hv, Bool.true_and] at hI
  rw [Bool.true_and]
  cases hn : normF (.mk op n s k names l) with
  | false =>
    rw [hn] at hI
    rw [Bool.false_and, if_neg (by decide), encC_zero]
    rw [encC_mk] at hI ⊢
    refine wk (rv := [.cell 2 28, .tmp 3, .tmp 4]) ann49 76 Tryz.func49 ?_
    simp only [go_sem]
    refine aCall_intro hI ?_
    simp only [go_sem]
  | true =>
  rw [hn] at hI
  rw [Bool.true_and]
  have hf : formedF (.mk op n s k names l) = true := by
    rw [validF, Bool.and_eq_true, Bool.and_eq_true] at hv
    exact hv.2.2
  by_cases e : op = 13
  case neg =>
    have e1 : (op == 13) = false := by simpa using e
    have e2 : (op != 13) = true := by simpa using e
    have er : ((ConT.mk op n s k names l).op == 13) = false := e1
    rw [er, Bool.false_and, if_neg (by decide), encC_zero]
    rw [encC_mk] at hI ⊢
    refine wk (rv := [.cell 2 28, .tmp 3, .tmp 4]) ann49 76 Tryz.func49 ?_
    simp only [go_sem]
    refine aCall_intro hI ?_
    simp only [go_sem, e2]
  subst e
  obtain ⟨y, rfl⟩ := formed_13 hf
  have hy := formed_l hf y (by simp)
  have hoy : okS y := by
    simp only [okS] at h2
    exact okSs_mem h2.2.2 (by simp)
  have hky := formed_kind hf
  have hdy : depthF y ≤ 400 := by
    have := (valid_dw hv).1
    rw [depthF] at this
    have := depthF_mem (c := y) (l := [y]) (by simp)
    omega
  have er : ((ConT.mk 13 n s k names [y]).op == 13) = true := rfl
  have es : shapeF (.mk 13 n s k names [y]) = lamN y := rfl
  have ek : (ConT.mk 13 n s k names [y]).k = k := rfl
  rw [er, Bool.true_and, es, ek]
  generalize hres : (if sumOk (.mk k) (lamN y) = true then PV.tuple [encC (lamN y).2, .int .i64 (lamN y).1, .bool true] else .tuple [encC zeroC, .int .i64 0, .bool false]) = res
  rw [encC_mk] at hI ⊢
  rw [List.map_cons, List.map_nil] at hI ⊢
  have hEq := fun m (g : m ≤ 4) => rkEqual_spec (.mk k) (arK m) hky (arK_ok m g)
  simp only [encK_mk] at hEq
  refine wk (rv := [.cell 2 28, .tmp 3, .tmp 4]) ann49 76 Tryz.func49 ?_
  simp only [go_sem]
  refine aCall_intro hI ?_
  simp only [go_sem, Int.reduceBNe, Int.natCast_zero, Int.reduceToNat, Int.natCast_one]
  refine aLoop_meas (β := ConT × Nat) (fun b => ⟨[(5, ii b.2), (6, .one (.ptr (.loc 6) 0)), (2, .one (.ptr (.loc 2) 0)), (1, pp (.ep (.agg [.int .i64 13, .int .i64 n, .str s, .slice (k.map encK), .slice (names.map .str), .slice [encC y]]) 0))], [(.loc 2, zcx), (.loc 6, ⟨.agg 6, pp (encC b.1)⟩)], []⟩)
    (fun b => formedF b.1 = true ∧ okS b.1 ∧ ((lamN b.1).1 + b.2, (lamN b.1).2) = lamN y ∧ b.2 ≤ 4) (fun b => depthF b.1) ?_ (y, 0) _ ?_ ⟨hy, hoy, rfl, by simp⟩
  · rintro ⟨⟨opx, nx, sx, kx, namesx, lx⟩, m⟩ ⟨g1, g0, g2, g3⟩ K hK
    simp only at g1 g0 g2 g3
    rw [lamN] at g2
    by_cases e : opx = 11
    · subst e
      obtain ⟨x', rfl⟩ := formed_11 g1
      have bad : sumOk (.mk k) (lamN y) = false → (∀ b : Bool, True) → res = .tuple [encC zeroC, .int .i64 0, .bool false] := by
        intro hs _
        rw [hs, if_neg (by decide)] at hres
        exact hres.symm
      by_cases ek : kx.length = 0
      · rw [if_pos ⟨rfl, ek⟩, lamL] at g2
        have ekx : kx = [] := List.eq_nil_of_length_eq_zero ek
        subst ekx
        by_cases c0 : (m : Int) < 4
        · have w1 : IntKind.i64.wrap ((m : Int) + 1) = ((m + 1 : Nat) : Int) := by rw [wrap_id (by omega) (by omega)]; omega
          have hdx : depthF x' < depthF (.mk 11 nx sx [] namesx [x']) := by
            rw [depthF]
            have := depthF_mem (c := x') (l := [x']) (by simp)
            omega
          have hox : okS x' := by
            simp only [okS] at g0
            exact okSs_mem g0.2.2 (by simp)
          simp only [go_sem, zcx, encC_mk, List.map_cons, List.map_nil, Int.reduceBEq, List.length_nil, Int.natCast_zero, Int.reduceToNat, Int.natCast_one, decide_eq_true c0, w1]
          refine hK (x', m + 1) _ ?_ ⟨formed_l g1 x' (by simp), hox, by rw [← g2]; simp only [Prod.mk.injEq, and_true]; omega, by simp only; omega⟩ hdx
          simp only [go_sem, zcx]
        · have hs : sumOk (.mk k) (lamN y) = false := by
            rw [← g2, sumOk]
            have : decide ((lamN x').1 + 1 + m ≤ 4) = false := decide_eq_false (by omega)
            simp only [this, Bool.false_and]
          obtain rfl := bad hs (fun _ => trivial)
          simp only [go_sem, zcx, encC_zero, encC_mk, List.map_cons, List.map_nil, Int.reduceBEq, Int.reduceBNe, List.length_nil, Int.natCast_zero, decide_eq_false c0]
      · rw [if_neg (fun h => ek h.2)] at g2
        simp only [Nat.zero_add] at g2
        have f1 : ((kx.length : Int) == 0) = false := by simpa using ek
        have hs : sumOk (.mk k) (lamN y) = false := by
          rw [← g2, sumOk]
          simp [ConT.op]
        obtain rfl := bad hs (fun _ => trivial)
        simp only [go_sem, zcx, encC_zero, encC_mk, List.map_cons, List.map_nil, Int.reduceBEq, Int.reduceBNe, List.length_map, f1]
    · rw [if_neg (fun h => e h.1)] at g2
      simp only [Nat.zero_add] at g2
      have f1 : (opx == 11) = false := by simpa using e
      rw [← g2] at hres
      have hm4 : decide (m ≤ 4) = true := decide_eq_true g3
      by_cases c2 : opx = 8
      case neg =>
        have f2 : (opx != 8) = true := by simpa using c2
        have f3 : (opx == 8) = false := by simpa using c2
        have hs : sumOk (.mk k) (m, .mk opx nx sx kx namesx lx) = false := by
          rw [sumOk]
          simp [ConT.op, f3]
        rw [hs, if_neg (by decide)] at hres
        subst hres
        simp only [go_sem, zcx, encC_zero, encC_mk, f1, f2]
      subst c2
      by_cases c3 : namesx.length = 0
      · have hs : sumOk (.mk k) (m, .mk 8 nx sx kx namesx lx) = false := by
          rw [sumOk]
          simp [ConT.names, c3]
        rw [hs, if_neg (by decide)] at hres
        subst hres
        have f3 : ((namesx.length : Int) == 0) = true := by simpa using c3
        simp only [go_sem, zcx, encC_zero, encC_mk, Int.reduceBEq, Int.reduceBNe, List.length_map, f3]
      have f3 : ((namesx.length : Int) == 0) = false := by simpa using c3
      have hA := rkArity_spec m (by omega)
      have hE := hEq m (by omega)
      have hs : sumOk (.mk k) (m, .mk 8 nx sx kx namesx lx) = (!(namesx.any upper) && sameK (.mk k) (arK m)) := by
        rw [sumOk]
        simp only [ConT.names, ConT.op, hm4, Bool.true_and, Int.reduceBEq]
        simp [c3]
      rw [hs] at hres
      cases c5 : sameK (.mk k) (arK m) with
      | false =>
        rw [c5] at hE hres
        rw [Bool.and_false, if_neg (by decide)] at hres
        subst hres
        simp only [go_sem, zcx, encC_zero, encC_mk, Int.reduceBEq, Int.reduceBNe, List.length_map, f3]
        refine aCall_intro hA ?_
        simp only [go_sem, encK_sz, Int.reduceBNe]
        refine aCall_intro hE ?_
        simp only [go_sem]
      | true =>
        rw [c5] at hE hres
        rw [Bool.and_true] at hres
        have hu : ∀ z ∈ namesx, Spec Tryz.prog 110 [pp (.str z)] [] (.bool (nameF z 2)) [] := fun z hz => rIsUpper_spec z (by
          simp only [okS] at g0
          exact g0.2.1 z hz)
        have hnl : namesx.length ≤ 1000000 := by
          rw [formedF, Bool.and_eq_true, nodeF, Bool.and_eq_true, Bool.and_eq_true, Bool.and_eq_true, Bool.and_eq_true, Bool.and_eq_true, Bool.and_eq_true] at g1
          have := of_decide_eq_true g1.1.2.2.2.2.1.2
          omega
        simp only [go_sem, zcx, encC_mk, Int.reduceBEq, Int.reduceBNe, List.length_map, f3]
        refine aCall_intro hA ?_
        simp only [go_sem, encK_sz, Int.reduceBNe]
        refine aCall_intro hE ?_
        simp only [go_sem]
        refine aLoop_list (α := ByteArray) (β := List ByteArray) (fun rest pre => ⟨[(2, .one (.ptr (.loc 2) 0)), (7, ii pre.length), (6, .one (.ptr (.loc 6) 0)), (5, ii m)], [(.loc 2, zcx), (.loc 6, ⟨.agg 6, pp (.agg [.int .i64 8, .int .i64 nx, .str sx, .slice (kx.map encK), .slice (namesx.map .str), .slice (lx.map encC)])⟩)], []⟩) (fun rest pre => namesx = pre ++ rest ∧ namesx.any upper = rest.any upper) ?_ ?_ namesx [] _ ?_ ⟨rfl, rfl⟩
        · rintro pre ⟨h4, h5⟩ K
          rw [List.append_nil] at h4
          rw [h5, List.any_nil, Bool.not_false, if_pos rfl] at hres
          subst hres
          simp only [go_sem, zcx, h4, List.length_map, lt_false (Int.le_refl _), encC_mk]
        · rintro z rest pre ⟨h4, h5⟩ K hK
          have hx : (namesx.map PV.str)[pre.length]? = some (.str z) := by simp [h4]
          have hlt : (pre.length : Int) < namesx.length := by rw [h4]; simp; omega
          have w4 : IntKind.i64.wrap ((pre.length : Int) + 1) = ((pre ++ [z]).length : Int) := by rw [wrap_id (by omega) (by omega)]; simp
          have hS := hu z (by simp [h4])
          rw [List.any_cons] at h5
          simp only [go_sem, zcx, decide_eq_true hlt, List.length_map, Int.toNat_natCast, Int.natCast_nonneg, hx]
          refine aCall_intro hS ?_
          simp only [go_sem]
          cases hb : nameF z 2 with
          | true =>
            have hu' : upper z = false := by rw [upper, hb]; rfl
            rw [hu', Bool.false_or] at h5
            simp only [go_sem, w4]
            refine hK (pre ++ [z]) _ ?_ ⟨by simp [h4], h5⟩
            simp only [go_sem, zcx]
          | false =>
            have hu' : upper z = true := by rw [upper, hb]; rfl
            rw [hu', Bool.true_or] at h5
            rw [h5, Bool.not_true, if_neg (by decide)] at hres
            subst hres
            simp only [go_sem, encC_zero]
        · simp only [go_sem, zcx, List.length_nil, Int.natCast_zero]
  · simp only [go_sem, zcx, Int.natCast_zero]
theorem rIs_spec (c : ConT) (h2 : okS c) : Spec Tryz.prog 12 [pp (encC c)] [] (.bool (isDT c)) [] := by
  have hS := Sum_spec c h2
  rw [sumR] at hS
  cases hd : isDT c with
  | true =>
    rw [hd, if_pos rfl] at hS
    refine wk (rv := [.tmp 2]) ann12 13 Tryz.func12 ?_
    simp only [go_sem, encC_sz]
    refine aCall_intro hS ?_
    simp only [go_sem, encC_sz]
  | false =>
    rw [hd, if_neg (by decide)] at hS
    refine wk (rv := [.tmp 2]) ann12 13 Tryz.func12 ?_
    simp only [go_sem, encC_sz]
    refine aCall_intro hS ?_
    simp only [go_sem, encC_sz]
theorem dIs_spec (c : ConT) (h1 : sizeF c ≤ 1000000000) (h2 : okS c) : Spec Tryz.prog 20 [pp (encC c)] [] (.bool (isDT c)) [] := by
  have hS := taken_spec c h1 h2
  rw [takenR] at hS
  cases hd : isDT c with
  | true =>
    rw [hd, if_pos rfl, encShape, ConT.cells] at hS
    refine wk (rv := [.tmp 2]) ann20 11 Tryz.func20 ?_
    simp only [go_sem, encC_sz]
    refine aCall_intro hS ?_
    simp only [go_sem]
  | false =>
    rw [hd, if_neg (by decide), zeroShape] at hS
    refine wk (rv := [.tmp 2]) ann20 11 Tryz.func20 ?_
    simp only [go_sem, encC_sz]
    refine aCall_intro hS ?_
    simp only [go_sem]

def dEqR (a b : ConT) : Bool × Int := if validF a = false ∨ validF b = false then (false, 1) else if isDT a = false ∨ isDT b = false then (false, 12) else (eqC a b, 0)
theorem dEqual_spec (a b : ConT) (a1 : sizeF a ≤ 1000000000) (a2 : okS a) (b1 : sizeF b ≤ 1000000000) (b2 : okS b) : Spec Tryz.prog 10 [pp (encC a), pp (encC b)] [] (.tuple [.bool (dEqR a b).1, .int .i64 (dEqR a b).2]) [] := by
  have hVa := Valid_spec a a1 a2
  have hVb := Valid_spec b b1 b2
  have hIa := dIs_spec a a1 a2
  have hIb := dIs_spec b b1 b2
  have hE := Equal_spec a b
  rw [dEqR]
  cases va : validF a with
  | false =>
    rw [va] at hVa
    rw [if_pos (.inl rfl)]
    refine wk (rv := [.tmp 4, .tmp 5]) ann10 25 Tryz.func10 ?_
    simp only [go_sem, encC_sz]
    refine aCall_intro hVa ?_
    simp only [go_sem, encC_sz]
  | true =>
  rw [va] at hVa
  cases vb : validF b with
  | false =>
    rw [vb] at hVb
    rw [if_pos (.inr rfl)]
    refine wk (rv := [.tmp 4, .tmp 5]) ann10 25 Tryz.func10 ?_
    simp only [go_sem, encC_sz]
    refine aCall_intro hVa ?_
    simp only [go_sem, encC_sz]
    refine aCall_intro hVb ?_
    simp only [go_sem, encC_sz]
  | true =>
  rw [vb] at hVb
  rw [if_neg (by rintro (h | h) <;> cases h)]
  cases ia : isDT a with
  | false =>
    rw [ia] at hIa
    rw [if_pos (.inl rfl)]
    refine wk (rv := [.tmp 4, .tmp 5]) ann10 25 Tryz.func10 ?_
    simp only [go_sem, encC_sz]
    refine aCall_intro hVa ?_
    simp only [go_sem, encC_sz]
    refine aCall_intro hVb ?_
    simp only [go_sem, encC_sz]
    refine aCall_intro hIa ?_
    simp only [go_sem, encC_sz]
  | true =>
  rw [ia] at hIa
  cases ib : isDT b with
  | false =>
    rw [ib] at hIb
    rw [if_pos (.inr rfl)]
    refine wk (rv := [.tmp 4, .tmp 5]) ann10 25 Tryz.func10 ?_
    simp only [go_sem, encC_sz]
    refine aCall_intro hVa ?_
    simp only [go_sem, encC_sz]
    refine aCall_intro hVb ?_
    simp only [go_sem, encC_sz]
    refine aCall_intro hIa ?_
    simp only [go_sem, encC_sz]
    refine aCall_intro hIb ?_
    simp only [go_sem, encC_sz]
  | true =>
  rw [ib] at hIb
  rw [if_neg (by rintro (h | h) <;> cases h)]
  refine wk (rv := [.tmp 4, .tmp 5]) ann10 25 Tryz.func10 ?_
  simp only [go_sem, encC_sz]
  refine aCall_intro hVa ?_
  simp only [go_sem, encC_sz]
  refine aCall_intro hVb ?_
  simp only [go_sem, encC_sz]
  refine aCall_intro hIa ?_
  simp only [go_sem, encC_sz]
  refine aCall_intro hIb ?_
  simp only [go_sem, encC_sz]
  refine aCall_intro hE ?_
  simp only [go_sem, encC_sz]
theorem DatatypeEquals_of (a b : ConT) (a1 : sizeF a ≤ 1000000000) (a2 : okS a) (b1 : sizeF b ≤ 1000000000) (b2 : okS b)
    (hA : Spec Tryz.prog 8 [] [] (.bool true) []) : Spec Tryz.prog 3 [pp (encC a), pp (encC b)] [] (.bool true) [] := by
  have hF := fits_spec [a, b]
  rw [List.map_cons, List.map_cons, List.map_nil] at hF
  have hD := dEqual_spec a b a1 a2 b1 b2
  have hVa := rValid_spec a a2
  have hVb := rValid_spec b b2
  have hIa := rIs_spec a a2
  have hIb := rIs_spec b b2
  have hS := rSame_spec a b
  cases hf : fitsT [a, b] with
  | false =>
    rw [hf] at hF
    refine wk (rv := [.tmp 4]) ann3 59 Tryz.func3 ?_
    simp only [go_sem, encC_sz]
    refine aCall_intro hA ?_
    simp only [go_sem, encC_sz]
    refine aCall_intro hF ?_
    simp only [go_sem, encC_sz]
  | true =>
  rw [hf] at hF
  rw [dEqR] at hD
  cases va : validF a with
  | false =>
    rw [va] at hVa
    rw [if_pos (.inl va)] at hD
    refine wk (rv := [.tmp 4]) ann3 59 Tryz.func3 ?_
    simp only [go_sem, encC_sz]
    refine aCall_intro hA ?_
    simp only [go_sem, encC_sz]
    refine aCall_intro hF ?_
    simp only [go_sem, encC_sz]
    refine aCall_intro hD ?_
    simp only [go_sem, encC_sz]
    refine aCall_intro hVa ?_
    simp only [go_sem, encC_sz, Int.reduceBEq]
  | true =>
  rw [va] at hVa
  cases vb : validF b with
  | false =>
    rw [vb] at hVb
    rw [if_pos (.inr vb)] at hD
    refine wk (rv := [.tmp 4]) ann3 59 Tryz.func3 ?_
    simp only [go_sem, encC_sz]
    refine aCall_intro hA ?_
    simp only [go_sem, encC_sz]
    refine aCall_intro hF ?_
    simp only [go_sem, encC_sz]
    refine aCall_intro hD ?_
    simp only [go_sem, encC_sz]
    refine aCall_intro hVa ?_
    simp only [go_sem, encC_sz]
    refine aCall_intro hVb ?_
    simp only [go_sem, encC_sz, Int.reduceBEq]
  | true =>
  rw [vb] at hVb
  rw [if_neg (by rw [va, vb]; rintro (h | h) <;> cases h)] at hD
  cases ia : isDT a with
  | false =>
    rw [ia] at hIa
    rw [if_pos (.inl ia)] at hD
    refine wk (rv := [.tmp 4]) ann3 59 Tryz.func3 ?_
    simp only [go_sem, encC_sz]
    refine aCall_intro hA ?_
    simp only [go_sem, encC_sz]
    refine aCall_intro hF ?_
    simp only [go_sem, encC_sz]
    refine aCall_intro hD ?_
    simp only [go_sem, encC_sz]
    refine aCall_intro hVa ?_
    simp only [go_sem, encC_sz]
    refine aCall_intro hVb ?_
    simp only [go_sem, encC_sz]
    refine aCall_intro hIa ?_
    simp only [go_sem, encC_sz, Int.reduceBEq]
  | true =>
  rw [ia] at hIa
  cases ib : isDT b with
  | false =>
    rw [ib] at hIb
    rw [if_pos (.inr ib)] at hD
    refine wk (rv := [.tmp 4]) ann3 59 Tryz.func3 ?_
    simp only [go_sem, encC_sz]
    refine aCall_intro hA ?_
    simp only [go_sem, encC_sz]
    refine aCall_intro hF ?_
    simp only [go_sem, encC_sz]
    refine aCall_intro hD ?_
    simp only [go_sem, encC_sz]
    refine aCall_intro hVa ?_
    simp only [go_sem, encC_sz]
    refine aCall_intro hVb ?_
    simp only [go_sem, encC_sz]
    refine aCall_intro hIa ?_
    simp only [go_sem, encC_sz]
    refine aCall_intro hIb ?_
    simp only [go_sem, encC_sz, Int.reduceBEq]
  | true =>
  rw [ib] at hIb
  rw [if_neg (by rw [ia, ib]; rintro (h | h) <;> cases h)] at hD
  refine wk (rv := [.tmp 4]) ann3 59 Tryz.func3 ?_
  simp only [go_sem, encC_sz]
  refine aCall_intro hA ?_
  simp only [go_sem, encC_sz]
  refine aCall_intro hF ?_
  simp only [go_sem, encC_sz]
  refine aCall_intro hD ?_
  simp only [go_sem, encC_sz]
  refine aCall_intro hVa ?_
  simp only [go_sem, encC_sz]
  refine aCall_intro hVb ?_
  simp only [go_sem, encC_sz]
  refine aCall_intro hIa ?_
  simp only [go_sem, encC_sz]
  refine aCall_intro hIb ?_
  simp only [go_sem, encC_sz, Int.reduceBEq]
  refine aCall_intro hS ?_
  simp only [go_sem, encC_sz, beq_self_eq_true]
end Go.Abs.Kon
