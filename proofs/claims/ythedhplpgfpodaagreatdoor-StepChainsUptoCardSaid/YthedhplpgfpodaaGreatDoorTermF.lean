/- Terms. -/
import Derived.Test.YthedhplpgfpodaaGreatDoorTermE
import Derived.Test.YthedhplpgfpodaaGreatDoorKonG
set_option linter.unusedSimpArgs false
set_option linter.unusedVariables false
namespace Go.Abs.Kon
open Go Go.Proofs Go.Abs
set_option maxRecDepth 100000
set_option maxHeartbeats 4000000
mutual
theorem cntT_rng : ∀ (t : TermT) (left depth : Int), okT t → left ≤ 1000000000 → -2000000002 ≤ cntT t left depth ∧ cntT t left depth ≤ 1000000000
 | .mk op n s con to k names l, left, depth, hok, h => by
   simp only [okT] at hok
   rw [cntT]
   split
   ·omega
   ·rename_i hc
    have h1 : ¬ left < 1 := fun e => hc (.inl e)
    have c1 := hok.2.1.1
    have c2 := hok.2.2.1.1
    exact cntTL_rng l _ depth hok.2.2.2.2.2.2.2 (by split <;> split <;> omega) (by split <;> split <;> omega)
theorem cntTL_rng : ∀ (l : List TermT) (left depth : Int), okTs l → -2000000002 ≤ left → left ≤ 1000000000 → -2000000002 ≤ cntTL l left depth ∧ cntTL l left depth ≤ 1000000000
 | [], left, depth, _, h1, h2 => by rw [cntTL]; omega
 | x :: r, left, depth, hok, h1, h2 => by
   simp only [okTs] at hok
   rw [cntTL]
   split
   ·omega
   ·have := cntT_rng x left (depth - 1) hok.1 h2
    exact cntTL_rng r _ depth hok.2 this.1 this.2
end
theorem cntTL_neg {l : List TermT} {left depth : Int} (h : left < 0) : cntTL l left depth = left := by
 cases l with
 | nil => rw [cntTL]
 | cons x r => rw [cntTL, if_pos h]
theorem rtcount_spec (t : TermT) : okT t → ∀ left depth : Int, -2000000002 ≤ left → left ≤ 1000000000 → 0 ≤ depth → depth ≤ 1000 → Spec Tryz.prog 128 [pp (encT t), ii left, ii depth] [] (.int .i64 (cntT t left depth)) [] := by
 revert t
 refine TermT.ind1 fun op n s con to k names l ih => ?_
 intro hok left depth h1 h2 h3 h4
 have hN := rtnode_spec op n s con to k names l hok
 have hH := qc4 op
 simp only [okT] at hok
 obtain ⟨_, ⟨hc1, _⟩, ⟨ht1, _⟩, _, _, _, hll, hokl⟩ := hok
 have hS1 := rSize_spec con hc1
 have hS2 := rSize_spec to ht1
 generalize hres : cntT (.mk op n s con to k names l) left depth = res
 rw [cntT] at hres
 generalize qbw op n s con to k names l.length = nd at hN hres
 by_cases hout : left < 1 ∨ depth < 1 ∨ nd = false
 ·rw [if_pos hout] at hres
  subst hres
  refine wk (rv := [.tmp 6]) ann128 58 Tryz.func128 ?_
  simp only [go_sem, eTz]
  repeat' (first | (refine cKi (fun _ => ?_) (fun _ => ?_) <;> simp only [go_sem, eTz]) | (refine gKi (fun _ => ?_) (fun _ => ?_) <;> simp only [go_sem, eTz]) | (refine aC hN ?_; simp only [go_sem]))
  all_goals (exfalso; simp_all <;> omega)
 ·rw [if_neg hout] at hres
  have d1 : decide (left < 1) = false := decide_eq_false fun e => hout (.inl e)
  have d2 : decide (depth < 1) = false := decide_eq_false fun e => hout (.inr (.inl e))
  have d3 : nd = true := by
   cases nd with
   | true => rfl
   | false => exact absurd (.inr (.inr rfl)) hout
  subst d3
  have hl1 : 1 ≤ left := by have := of_decide_eq_false d1; omega
  have hd1 : 1 ≤ depth := by have := of_decide_eq_false d2; omega
  clear hout
  have e8 : (op = 8) ↔ (op == 8) = true := by simp
  simp only [e8] at hres
  have w0 : IntKind.i64.wrap (left - 1) = left - 1 := wId (by omega) (by omega)
  have w1 : IntKind.i64.wrap (left - 1 - (sizeF con : Int)) = left - 1 - (sizeF con : Int) := wId (by omega) (by omega)
  have w2 : IntKind.i64.wrap (left - 1 - (sizeF con : Int) - (sizeF to : Int)) = left - 1 - (sizeF con : Int) - (sizeF to : Int) := wId (by omega) (by omega)
  have w3 : IntKind.i64.wrap (left - 1 - (sizeF to : Int)) = left - 1 - (sizeF to : Int) := wId (by omega) (by omega)
  have w5 : IntKind.i64.wrap (depth - 1) = depth - 1 := wId (by omega) (by omega)
  have q8h : (op == 8) = true → qad op = true := fun e => by rw [eq_of_beq e]; decide
  simp only [eTm, qal, ConT.cells] at hN hS1 hS2
  generalize qad op = q at hH hres q8h
  generalize h8 : (op == 8) = q8 at hres q8h
  obtain ⟨n0, hn0⟩ : ∃ n0 : Int, n0 = left - 1 - (if q = true then (sizeF con : Int) else 0) - (if q8 = true then (sizeF to : Int) else 0) := ⟨_, rfl⟩
  rw [← hn0] at hres
  have hcase : (q = true ∧ q8 = true) ∨ (q = true ∧ q8 = false) ∨ (q = false ∧ q8 = false) := by
   cases q8
   ·cases q
    ·exact .inr (.inr ⟨rfl, rfl⟩)
    ·exact .inr (.inl ⟨rfl, rfl⟩)
   ·exact .inl ⟨q8h rfl, rfl⟩
  clear e8 q8h
  have r1 : -2000000002 ≤ n0 := by rw [hn0]; split <;> split <;> omega
  have r2 : n0 ≤ 1000000000 := by rw [hn0]; split <;> split <;> omega
  generalize sizeF con = sc at *
  generalize sizeF to = st at *
  refine wk (rv := [.tmp 6]) ann128 58 Tryz.func128 ?_
  rcases hcase with ⟨rfl, rfl⟩ | ⟨rfl, rfl⟩ | ⟨rfl, rfl⟩
  all_goals
   simp only [Bool.false_eq_true, if_true, if_false, Int.sub_zero] at hn0
   simp only [go_sem, eTm, d1, d2]
   refine aC hN ?_
   simp only [go_sem, w0]
   refine aC hH ?_
   simp only [go_sem, h8]
   try (refine aC hS1 ?_; simp only [go_sem, h8, w1])
   try (refine aC hS2 ?_; simp only [go_sem, h8, w2, w3])
   simp only [← hn0]
   clear hN hH hS1 hS2 h8 w0 w1 w2 w3 hn0 d1 d2
   refine aLl (α := TermT) (β := Nat × Int) (fun rest b => ⟨[(7, ii b.1), (2, ii depth), (1, ii b.2), (3, pp (.ep (encT (.mk op n s con to k names l)) 0))], [], []⟩)
    (fun rest b => ∃ pre, l = pre ++ rest ∧ b.1 = pre.length ∧ -2000000002 ≤ b.2 ∧ b.2 ≤ 1000000000 ∧ cntTL rest b.2 depth = res) ?_ ?_ l (0, n0) _ ?_ ⟨[], rfl, rfl, r1, r2, hres⟩
   ·rintro ⟨m, v⟩ ⟨pre, g1, g2, g3, g4, g5⟩ K
    simp only [List.append_nil] at g1 g2
    subst g1
    rw [cntTL] at g5
    subst g5
    simp only [go_sem, eTm, g2, ltF (Int.le_refl _), List.length_map]
   ·rintro x rest ⟨m, v⟩ ⟨pre, g1, g2, g3, g4, g5⟩ K hK
    simp only at g2 g3 g4 g5
    have hx : (l.map encT)[m]? = some (encT x) := by simp [g1, g2]
    have hlt : (m : Int) < l.length := by rw [g1, g2]; simp; omega
    have hll2 : m < l.length := by rw [g1, g2]; simp
    have hm : x ∈ l := by simp [g1]
    have w4 : IntKind.i64.wrap ((m : Int) + 1) = ((m + 1 : Nat) : Int) := by rw [wId (by omega) (by omega)]; simp
    by_cases hv : v < 0
    ·rw [cntTL_neg hv] at g5
     subst g5
     have hv' : decide (v ≥ 0) = false := decide_eq_false (by omega)
     simp only [go_sem, eTm, List.length_map, decide_eq_true hlt, hv']
    ·have hv' : decide (v ≥ 0) = true := decide_eq_true (by omega)
     rw [cntTL, if_neg hv] at g5
     have hI := ih x hm (okTs_mem.1 hokl x hm) v (depth - 1) (by omega) (by omega) (by omega) (by omega)
     have hr := cntT_rng x v (depth - 1) (okTs_mem.1 hokl x hm) g4
     generalize cntT x v (depth - 1) = y at hI hr g5
     simp only [go_sem, eTm, List.length_map, decide_eq_true hlt, hv', Int.toNat_natCast, Int.natCast_nonneg, hx, eTz, w5]
     refine aC hI ?_
     simp only [go_sem, eTm, w4]
     refine hK (m + 1, y) _ ?_ ⟨pre ++ [x], by simp [g1], by simp [g2], hr.1, hr.2, g5⟩
     simp only [go_sem, eTm]
   ·simp only [go_sem, eTm, Int.natCast_zero]
theorem rtValid_spec (t : TermT) (h : okT t) : Spec Tryz.prog 82 [pp (encT t)] [] (.bool (qab t)) [] := by
 have hC := rtcount_spec t h 20000 400 (by decide) (by decide) (by decide) (by decide)
 rw [validT_cnt]
 generalize cntT t 20000 400 = r at hC
 refine wk (rv := [.tmp 2]) ann82 6 Tryz.func82 ?_
 simp only [go_sem, eTz]
 refine aC hC ?_
 simp only [go_sem]
mutual
def sameT : TermT → TermT → Bool
 | .mk op n s con to k names l, .mk op' n' s' con' to' k' names' l' => op == op' && (n == n' && (qbg s s' && (sameK (.mk k) (.mk k') && (eqL qbg names names' && (eqC con con' && (eqC to to' && sameTs l l'))))))
def sameTs : List TermT → List TermT → Bool
 | [], [] => true
 | x :: a, y :: b => sameT x y && sameTs a b
 | _, _ => false
end
theorem sameTs_eq : ∀ a b, eqL sameT a b = sameTs a b
 | [], [] => by rw [eqL, sameTs]
 | x :: a, y :: b => by rw [eqL, sameTs, sameTs_eq a b]
 | [], _ :: _ => by rw [eqL, sameTs] <;> simp
 | _ :: _, [] => by rw [eqL, sameTs] <;> simp
mutual
theorem sameT_refl : ∀ t, sameT t t = true
 | .mk op n s con to k names l => by
   rw [sameT, beq_self_eq_true, beq_self_eq_true, strEq_refl, sameK_refl, eqL_refl qbg strEq_refl, eqC_refl, eqC_refl, sameTs_refl l]; rfl
theorem sameTs_refl : ∀ l, sameTs l l = true
 | [] => by rw [sameTs]
 | x :: r => by rw [sameTs, sameT_refl x, sameTs_refl r]; rfl
end
theorem qc2 (a : TermT) : ∀ b, Spec Tryz.prog 30 [pp (encT a), pp (encT b)] [] (.bool (sameT a b)) [] := by
 revert a
 refine TermT.ind1 fun op n0 s con to k names es ih => ?_
 rintro ⟨op', n', s', con', to', k', names', fs⟩
 have hk := rSameK_spec (.mk k) (.mk k')
 have hn := rSameS_spec names names'
 have hc := rSame_spec con con'
 have ht := rSame_spec to to'
 simp only [qb4, qal, ConT.cells] at hk hc ht
 refine wf (rv := [.tmp 4]) ann30 85 Tryz.func30 fun hfit => ?_
 have hlen : es.length ≤ 9223372036854775807 := by
  simp only [argsFit, SV.pv?, SC.pv?, eTm, PV.fit, fitL, List.length_map, mLe] at hfit
  exact hfit.1.2.2.2.2.2.2.2.2.2.2.2.2.2.2.2.2.2.1.1
 clear hfit
 have h0 : (op == op' && (n0 == n' && (qbg s s' && (sameK (.mk k) (.mk k') && (eqL qbg names names' && (eqC con con' && (eqC to to' && eqL sameT es fs))))))) = sameT (.mk op n0 s con to k names es) (.mk op' n' s' con' to' k' names' fs) := by rw [sameT, sameTs_eq]
 generalize sameT (.mk op n0 s con to k names es) (.mk op' n' s' con' to' k' names' fs) = res at h0
 have hle : es.length ≠ fs.length → eqL sameT es fs = false := qce sameT es fs
 generalize sameK (.mk k) (.mk k') = b1 at hk h0
 generalize eqL qbg names names' = b2 at hn h0
 generalize eqC con con' = b3 at hc h0
 generalize eqC to to' = b4 at ht h0
 simp only [qbg] at h0
 have hin : es.length = fs.length → (op == op') = true → (n0 == n') = true → (s.toList == s'.toList) = true → b1 = true → b2 = true → b3 = true → b4 = true → eqL sameT es fs = res := by
  intro _ e1 e2 e3 e4 e5 e6 e7
  rw [← h0, e1, e2, e3, e4, e5, e6, e7]; rfl
 by_cases hl : es.length = fs.length
 case neg =>
  have hb : ((es.length : Int) != (fs.length : Int)) = true := by simp; omega
  rw [hle hl] at h0
  simp only [Bool.and_false] at h0
  subst h0
  simp only [go_sem, eTm, List.length_map, hb]
  repeat' ((first | refine cKi (fun _ => ?_) (fun _ => ?_) | refine gKi (fun _ => ?_) (fun _ => ?_) | refine aC hk ?_ | refine aC hn ?_ | refine aC hc ?_ | refine aC ht ?_ | refine ⟨by kernel_rfl, ?_⟩ | fail) <;> simp only [go_sem, List.length_map, hb])
 have hb : ((es.length : Int) != (fs.length : Int)) = false := by simp; omega
 simp only [go_sem, eTm, List.length_map, hb]
 repeat' ((first | refine cKi (fun _ => ?_) (fun _ => ?_) | refine gKi (fun _ => ?_) (fun _ => ?_) | refine aC hk ?_ | refine aC hn ?_ | refine aC hc ?_ | refine aC ht ?_ | refine ⟨by kernel_rfl, ?_⟩ | fail) <;> simp only [go_sem, List.length_map, hb])
 any_goals (clear hk hn hc ht ih hin hle; subst h0; simp_all; done)
 have h1 : eqL sameT es fs = res := by apply hin hl <;> simp_all
 clear hk hn hc ht h0 hle hin hb
 refine aLl (α := TermT) (β := List TermT × List TermT × List TermT) (fun rest b => ⟨[(5, ii b.1.length), (3, pp (.ep (encT (.mk op' n' s' con' to' k' names' fs)) 0)), (2, pp (.ep (encT (.mk op n0 s con to k names es)) 0))], [], []⟩) (fun rest b => es = b.1 ++ rest ∧ fs = b.2.1 ++ b.2.2 ∧ b.1.length = b.2.1.length ∧ eqL sameT rest b.2.2 = res) ?_ ?_ es ([], [], fs) _ ?_ ⟨rfl, rfl, rfl, h1⟩
 ·rintro ⟨pre, pre', rest'⟩ ⟨h4, h4', h6, h5⟩ K
  simp only [List.append_nil] at h4 h4' h6
  simp only [go_sem, eTm, List.length_map, h4, ltF (Int.le_refl _)]
  have : rest' = [] := by
   have := congrArg List.length h4'
   rw [← hl, h4] at this; simp at this
   exact List.eq_nil_of_length_eq_zero (by omega)
  rw [this] at h5
  simp only [eqL] at h5
  rw [h5]
 ·rintro x rest ⟨pre, pre', rest'⟩ ⟨h4, h4', h6, h5⟩ K hK
  simp only at h4 h4' h6 h5
  cases rest' with
  | nil =>
    exfalso
    have h7 := congrArg List.length h4'
    have h8 := congrArg List.length h4
    simp at h7 h8; omega
  | cons y rest' =>
    have hx : (es.map encT)[pre.length]? = some (encT x) := by simp [h4]
    have hy : (fs.map encT)[pre.length]? = some (encT y) := by simp [h4', h6]
    have hlt : (pre.length : Int) < es.length := by rw [h4]; simp; omega
    have hm : x ∈ es := by simp [h4]
    simp only [go_sem, eTm, List.length_map, decide_eq_true hlt, Int.toNat_natCast, Int.natCast_nonneg, hx, hy, eTz]
    refine aC (ih x hm y) ?_
    simp only [go_sem, eTm]
    refine cKi (fun hb => ?_) (fun hb => ?_)
    ·have hb' : sameT x y = false := by simpa using hb
     simp only [eqL, hb', Bool.false_and] at h5
     subst h5
     simp only [go_sem, eTm]
    ·have hb' : sameT x y = true := by simpa using hb
     have w4 : IntKind.i64.wrap ((pre.length : Int) + 1) = ((pre ++ [x]).length : Int) := by rw [wId (by omega) (by omega)]; simp
     simp only [eqL, hb', Bool.true_and] at h5
     simp only [go_sem, eTm, w4]
     refine hK (pre ++ [x], pre' ++ [y], rest') _ ?_ ⟨by simp [h4], by simp [h4'], by simp [h6], h5⟩
     simp only [go_sem, eTm]
 ·simp only [go_sem, eTm, List.length_nil, Int.natCast_zero]
/-! The law's own -/
def sameCf (c : ConT) (_uc _ut : Int) : ConT × Int := qcj c 0 0
def subVf (by' : TermT) (n uc ut : Int) : TermT × Int := if n = ut then shT uc ut by' else (varT (if n > ut then n - 1 else n), 0)
def SubstT (t by' : TermT) : TermT × Int := if qab t = false ∨ qab by' = false then (zeroT, 1) else finT (chT sameCf (subVf by') t 0 0)
def capT (t : TermT) : PV := .ep (encT t) 0
theorem subst1_spec (c : ConT) (uc ut : Int) (h1 : sizeF c ≤ 1000000000) (h2 : okS c) : Spec Tryz.prog 260 (pp (encC c) :: pp (uEnc uc ut) :: ([] : List PV).map pp) [] (.tuple [encC (sameCf c uc ut).1, .int .i64 (sameCf c uc ut).2]) [] := by
 have hS := Shift_specV c 0 0 h1 h2
 rw [sameCf]
 generalize qcj c 0 0 = r at hS
 refine wk (rv := [.cell 4 28, .tmp 5]) ann260 10 Tryz.func260 ?_
 simp only [go_sem, eCz, List.map_nil]
 refine aC hS ?_
 simp only [go_sem, eCz]
theorem subst2_spec (by' : TermT) (hwf : wfT by' = true) (hok : okT by') (hd : depthT by' ≤ 1000) (n uc ut : Int) (h1 : 0 ≤ n) (h2 : n ≤ 20000) (h3 : 0 ≤ ut) (h4 : ut ≤ 1000000) :
  Spec Tryz.prog 261 (ii n :: pp (uEnc uc ut) :: [capT by'].map pp) [] (.tuple [encT (subVf by' n uc ut).1, .int .i64 (subVf by' n uc ut).2]) [] := by
 have hC := change_shiftV uc ut (by omega) (by omega) by' hwf hok hd
 have hSh := shifting_spec uc ut
 rw [subVf]
 by_cases e : n = ut
 ·subst e
  rw [if_pos rfl, shT]
  generalize chT (shCf uc) (shVf n) by' 0 0 = r at hC
  refine wk (rv := [.cell 5 52, .tmp 6]) ann261 31 Tryz.func261 ?_
  simp only [go_sem, capT, List.map_cons, List.map_nil, eTz, beq_self_eq_true]
  refine aC hSh ?_
  simp only [go_sem, eTz]
  try (refine ⟨by kernel_rfl, ?_⟩; try simp only [go_sem, eTz])
  refine aC hC ?_
  simp only [go_sem, eTz]
 ·have e' : (n == ut) = false := by simp [e]
  have w1 : IntKind.i64.wrap (n - 1) = n - 1 := wId (by omega) (by omega)
  rw [if_neg e, encT_var]
  by_cases g : n > ut
  ·rw [if_pos g]
   refine wk (rv := [.cell 5 52, .tmp 6]) ann261 31 Tryz.func261 ?_
   simp only [go_sem, capT, List.map_cons, List.map_nil, eTz, e', decide_eq_true g, w1]
  ·rw [if_neg g]
   refine wk (rv := [.cell 5 52, .tmp 6]) ann261 31 Tryz.func261 ?_
   simp only [go_sem, capT, List.map_cons, List.map_nil, eTz, e', decide_eq_false g]
theorem subVf_ok (by' : TermT) (h1 : okT by') (h2 : wfT by' = true) (n uc ut : Int) : okT (subVf by' n uc ut).1 := by
 rw [subVf]
 split
 ·exact shT_okV uc ut by' 0 0 h1 h2
 ·exact okT_var _
theorem subT_okV (t by' : TermT) (h1 : okT t) (h2 : wfT t = true) (h3 : okT by') (h4 : wfT by' = true) : okT (chT sameCf (subVf by') t 0 0).1 :=
 chT_okW _ _ (fun c _ _ _ h => shiftF_ok c 0 0 h) (fun n uc ut => subVf_ok by' h3 h4 n uc ut) t 0 0 h1 h2
theorem qcp (t by' : TermT) (hok : okT t) (hok' : okT by') : Spec Tryz.prog 206 [pp (encT t), pp (encT by')] [] (.tuple [encT (SubstT t by').1, .int .i64 (SubstT t by').2]) [] := by
 have hV := qcl t hok
 have hV' := qcl by' hok'
 rw [SubstT]
 cases hv : qab t with
 | false =>
   rw [hv] at hV
   rw [if_pos (.inl rfl), eT0]
   refine wk (rv := [.cell 4 52, .tmp 5]) ann206 27 Tryz.func206 ?_
   simp only [go_sem, eTz]
   refine aC hV ?_
   simp only [go_sem]
 | true =>
   rw [hv] at hV
   cases hv' : qab by' with
   | false =>
     rw [hv'] at hV'
     rw [if_pos (.inr rfl), eT0]
     refine wk (rv := [.cell 4 52, .tmp 5]) ann206 27 Tryz.func206 ?_
     simp only [go_sem, eTz]
     refine aC hV ?_
     simp only [go_sem, eTz]
     refine aC hV' ?_
     simp only [go_sem]
   | true =>
     rw [hv'] at hV'
     obtain ⟨hwf, hd⟩ := qae hv
     obtain ⟨hwf', hd'⟩ := qae hv'
     rw [if_neg (by rintro (e | e) <;> cases e)]
     have hC := change_spec 260 261 [] [capT by'] sameCf (subVf by') (fun c uc ut g2 _ _ g5 => subst1_spec c uc ut (sizeF_or g5) g2) (fun n uc ut g1 g2 _ _ g3 g4 => subst2_spec by' hwf' hok' (by omega) n uc ut g1 g2 g3 g4) t 0 0 hwf hok (by decide) (by omega) (by decide) (by omega)
     have hFi := finish_spec (chT sameCf (subVf by') t 0 0) (subT_okV t by' hok hwf hok' hwf')
     generalize chT sameCf (subVf by') t 0 0 = r at hC hFi
     simp only [capT] at hC
     refine wk (rv := [.cell 4 52, .tmp 5]) ann206 27 Tryz.func206 ?_
     simp only [go_sem, eTz]
     refine aC hV ?_
     simp only [go_sem, eTz]
     refine aC hV' ?_
     simp only [go_sem, eTz]
     try (refine ⟨by kernel_rfl, ?_⟩; try simp only [go_sem, eTz])
     refine aC hC ?_
     simp only [go_sem, eTz]
     try (refine ⟨by kernel_rfl, ?_⟩; try simp only [go_sem, eTz])
     refine aC hFi ?_
     simp only [go_sem, eTz]
     try (first | kernel_rfl | (refine ⟨by kernel_rfl, ?_⟩; try simp only [go_sem, eTz]))
def FreeT (t : TermT) : List Int × List Int × Int := if qab t = true then (qar (consF t 0), qar (termsF t 0), 0) else ([], [], 1)
theorem tFreeX_spec (t : TermT) (hok : okT t) (hwc : wcT t) : Spec Tryz.prog 126 [pp (encT t)] [] (.tuple [.slice (ints (FreeT t).1), .slice (ints (FreeT t).2.1), .int .i64 (FreeT t).2.2]) [] := by
 have hV := qcl t hok
 rw [FreeT]
 cases hv : qab t with
 | false =>
   rw [hv] at hV
   rw [if_neg (by decide)]
   refine wk (rv := [.tmp 2, .tmp 3, .tmp 4]) ann126 15 Tryz.func126 ?_
   simp only [go_sem, eTz]
   refine aC hV ?_
   simp only [go_sem]
   try rfl
 | true =>
   rw [hv] at hV
   obtain ⟨hwf, hd⟩ := qae hv
   have hwt := valid_wt hv
   have hl1 := consF_len t 0
   have hl2 := termsF_len t 0
   have hF := free_spec t hwf hok hwc (by omega) (by omega) (by omega)
   rw [if_pos rfl]
   generalize qar (consF t 0) = la at hF
   generalize qar (termsF t 0) = lb at hF
   refine wk (rv := [.tmp 2, .tmp 3, .tmp 4]) ann126 15 Tryz.func126 ?_
   simp only [go_sem, eTz]
   refine aC hV ?_
   simp only [go_sem, eTz]
   refine aC hF ?_
   simp only [go_sem]
end Go.Abs.Kon
