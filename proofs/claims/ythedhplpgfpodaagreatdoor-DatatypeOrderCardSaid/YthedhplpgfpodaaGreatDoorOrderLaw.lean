/- The law DatatypeOrder. -/
import Derived.Test.YthedhplpgfpodaaGreatDoorOrdG
import Derived.Test.YthedhplpgfpodaaGreatDoorOrdF
import Derived.Test.YthedhplpgfpodaaGreatDoorDataG
set_option linter.unusedSimpArgs false
set_option linter.unusedVariables false
namespace Go.Abs.Kon
open Go Go.Proofs Go.Abs
set_option maxRecDepth 100000
set_option maxHeartbeats 8000000

def annOrd : Ann := ⟨ann4.imm, [136], ann4.live, ann4.head⟩
@[go_sem] theorem annOrd_imm : annOrd.imm = ann4.imm := rfl
@[go_sem] theorem annOrd_frz : annOrd.frz = [136] := rfl
@[go_sem] theorem annOrd_live : annOrd.live = ann4.live := rfl
@[go_sem] theorem annOrd_head : annOrd.head = ann4.head := rfl
structure MadeP (p : Int) (l : List CtT) (c : ConT) : Prop where
  pr : Spec Tryz.prog 18 [pp (encC c)] [] (.tuple [.int .i64 p, .int .i64 0]) []
  ct : ∃ (R : List CtT) (e : Int), Spec Tryz.prog 19 [pp (encC c)] [] (.tuple [.slice (R.map encCt), .int .i64 e]) [] ∧ (e = 6 ∨ (e = 0 ∧ R.length = l.length ∧ R.Pairwise (fun x y => nmB x < nmB y) ∧ ∀ x ∈ R, (l.any fun y => y.1.toList == x.1.toList) = true))
  dt : Spec Tryz.prog 20 [pp (encC c)] [] (.bool true) []
theorem made (p : Int) (l : List CtT) (h0 : 0 < l.length) (hl : l.length ≤ 10) (hd : ∀ x ∈ l, okD x.2 ∧ sizeF x.2 ≤ 20000) (h : (mkF p l).2 = 0) : MadeP p l (mkF p l).1 := by
  unfold mkF at h ⊢
  split at h
  · cases h
  rename_i h1
  rw [if_neg h1]
  split at h
  · cases h
  rename_i h2
  rw [if_neg h2]
  have hbm : ∀ x ∈ sortCt l, badCt x = false := fun x hx => by
    have h2' : l.any badCt = false := by simpa using h2
    have := List.any_eq_false.1 h2' x (sortCt_mem.1 hx)
    simpa using this
  have hdm : ∀ x ∈ sortCt l, okD (argOf x) := fun x hx => argOf_okD (hd x (sortCt_mem.1 hx)).1
  have hlen : (sortCt l).length = l.length := (sortCt_perm l).length_eq
  have hne : sortCt l ≠ [] := fun e => by rw [e] at hlen; simp at hlen; omega
  have hp4 : p.toNat ≤ 4 := by omega
  obtain ⟨k1, rs, k2, k3, k4, k5, k6⟩ := mkS_ok hp4 hne hbm hdm h
  rw [k2]
  have hnm : ∀ x ∈ sortCt l, x.1.size ≤ 100000000 := fun x hx => by
    have := hbm x hx
    rw [badCt, Bool.or_eq_false_iff] at this
    exact nameF_size (n := 2) (by simpa using this.1)
  obtain ⟨m1, m2⟩ := muOf_ok p.toNat (sortCt l) rs hnm fun x hx => (k4 x hx).2.2.2.1.1
  have hS := sizeL_le rs fun x hx => (k4 x hx).2.1
  have hS2 : 20000 * rs.length ≤ 20000 * 10 := Nat.mul_le_mul_left _ (by omega)
  have hsz : sizeF (muOf p.toNat (sumC (sortCt l) rs)) ≤ 1000000000 := by omega
  have hsl : (shapeF (muOf p.toNat (sumC (sortCt l) rs))).2.l = rs := by rw [k6]; rfl
  have hsn : (shapeF (muOf p.toNat (sumC (sortCt l) rs))).2.names = (sortCt l).map (·.1) := by rw [k6]; rfl
  have hsp : ((shapeF (muOf p.toNat (sumC (sortCt l) rs))).1 : Int) = p := by rw [k6]; simp only; omega
  have hokD : okD (muOf p.toNat (sumC (sortCt l) rs)) := by
    refine ⟨m1, ?_⟩
    have hsum : okN (sumC (sortCt l) rs) := by
      simp only [sumC, okN, knL]
      refine ⟨by rw [List.length_map]; omega, okNs_of fun x hx => (k4 x hx).2.2.2.1.2⟩
    have hlam : ∀ q : Nat, okN (lamP q (sumC (sortCt l) rs)) := by
      intro q
      induction q with
      | zero => exact hsum
      | succ q ih =>
        rw [lamP]
        simp only [okN, okNs, knL, List.length_nil, and_true]
        exact ⟨by decide, ih⟩
    rw [muOf]
    simp only [okN, okNs, List.length_nil, and_true]
    refine ⟨?_, hlam _⟩
    have : ∀ q : Nat, q ≤ 4 → knL (arL (arK q)) + 0 ≤ 200 := by
      intro q hq
      have : q = 0 ∨ q = 1 ∨ q = 2 ∨ q = 3 ∨ q = 4 := by omega
      rcases this with rfl | rfl | rfl | rfl | rfl <;> decide
    exact this _ hp4
  have hout : ∀ x ∈ (shapeF (muOf p.toNat (sumC (sortCt l) rs))).2.l, ∃ q, OutP (muOf p.toNat (sumC (sortCt l) rs)) x q := by
    intro x hx
    rw [hsl] at hx
    obtain ⟨f1, f2, f3, f4, f5⟩ := k4 x hx
    exact outer_ex _ hokD hsz (by omega) x f1 f4 f3
  have hP := Params_spec _ hsz m1 k5
  rw [hsp] at hP
  have hI := dIs_spec _ hsz m1
  have hC := Ctors_spec (muOf p.toNat (sumC (sortCt l) rs)) hsz m1 k5 hout (by rw [hsl, hsn, List.length_map, k3]) (by rw [hsl]; omega)
  refine ⟨hP, ⟨_, _, hC, ?_⟩, by rw [k5] at hI; exact hI⟩
  obtain ⟨Q, hQ⟩ : ∃ Q, ctL (muOf p.toNat (sumC (sortCt l) rs)) (shapeF (muOf p.toNat (sumC (sortCt l) rs))).2.names (shapeF (muOf p.toNat (sumC (sortCt l) rs))).2.l = Q := ⟨_, rfl⟩
  have hE := ctL_err (c := muOf p.toNat (sumC (sortCt l) rs)) (shapeF (muOf p.toNat (sumC (sortCt l) rs))).2.names _ hout
  have hN := ctL_names (c := muOf p.toNat (sumC (sortCt l) rs)) _ _ (by rw [hsl, hsn, List.length_map, k3] : (shapeF (muOf p.toNat (sumC (sortCt l) rs))).2.names.length = (shapeF (muOf p.toNat (sumC (sortCt l) rs))).2.l.length)
  rw [ctF, hQ]
  rw [hQ] at hE hN
  rw [hsn] at hN
  by_cases g : Q.2 = 0
  · rw [if_pos g]
    right
    have hn := hN g
    have hrl : Q.1.length = l.length := by
      have := congrArg List.length hn
      rw [List.length_map, List.length_map, hlen] at this
      exact this
    have hst := dup_strict (sortCt_sorted l) k1
    have a1 : ((sortCt l).map (·.1)).Pairwise (fun x y : ByteArray => x.data.toList < y.data.toList) := by
      rw [List.pairwise_map]; exact hst
    rw [← hn, List.pairwise_map] at a1
    refine ⟨g, hrl, a1, fun x hx => ?_⟩
    have hx1 : x.1 ∈ (sortCt l).map (·.1) := by
      rw [← hn]
      exact List.mem_map_of_mem hx
    obtain ⟨y, hy, hyx⟩ := List.mem_map.1 hx1
    rw [List.any_eq_true]
    exact ⟨y, sortCt_mem.1 hy, by rw [hyx]; exact beq_self_eq_true _⟩
  · rw [if_neg g]
    left
    rcases hE with h3 | h3
    · exact absurd h3 g
    · exact h3
theorem mkF_zero (p : Int) (l : List CtT) (h : (mkF p l).2 ≠ 0) : (mkF p l).1 = zeroC := by
  unfold mkF at h ⊢
  split
  · rfl
  rename_i h1
  rw [if_neg h1] at h
  split
  · rfl
  rename_i h2
  rw [if_neg h2] at h
  unfold mkS at h ⊢
  split
  · rfl
  rename_i h3
  rw [if_neg h3] at h
  split
  · rfl
  rename_i h4
  rw [if_neg h4] at h
  split
  · rfl
  rename_i h5
  rw [if_neg h5] at h
  split
  · rfl
  rename_i h6
  rw [if_neg h6] at h
  exact absurd rfl h
theorem Order_main (p : Int) (l : List CtT) (turn : Int) (t0 : 0 ≤ turn) (t1 : turn ≤ 255) (h0 : 0 < l.length) (hl : l.length ≤ 10) (hs : smallF l = true) : Spec Tryz.prog 4 [ii p, pp (.slice (l.map encCt)), pp (.int .u8 turn)] [] (.bool true) [] := by
  have hAw := awake19_spec
  have hSm := small_spec l hl
  rw [hs] at hSm
  have hd : ∀ x ∈ l, okD x.2 ∧ sizeF x.2 ≤ 20000 := by
    rw [smallF, Bool.and_eq_true] at hs
    obtain ⟨h1, h2⟩ := fits_ok _ hs.1
    intro x hx
    have hm : x.2 ∈ l.map (·.2) := List.mem_map_of_mem hx
    exact ⟨h1 _ hm, by have := sizeF_mem hm; omega⟩
  obtain ⟨k, hk, hkl⟩ : ∃ k : Nat, turn.tmod (l.length : Int) = (k : Int) ∧ k < l.length := by
    have h1 : 0 ≤ turn.tmod (l.length : Int) := Int.tmod_nonneg _ t0
    have h2 : turn.tmod (l.length : Int) < l.length := Int.tmod_lt_of_pos _ (by omega)
    exact ⟨(turn.tmod (l.length : Int)).toNat, by omega, by omega⟩
  have hperm : l.Perm (l.drop k ++ l.take k) := by
    have h1 : (l.take k ++ l.drop k).Perm (l.drop k ++ l.take k) := List.perm_append_comm
    rwa [List.take_append_drop] at h1
  have hlo : (l.drop k ++ l.take k).length = l.length := hperm.symm.length_eq
  have hCat := ConcatC_spec (l.drop k) (l.take k) (by rw [List.length_drop]; omega) (by rw [List.length_take]; omega) (by rw [List.length_drop, List.length_take]; omega)
  have hM1 := Make_gen p l h0 hl hd
  have hM2 := Make_gen p (l.drop k ++ l.take k) (by omega) (by omega) (fun x hx => hd x (hperm.symm.subset hx))
  rw [mkF_perm hperm] at hM2
  have hE := Equal_spec (mkF p l).1 (mkF p l).1
  rw [eqC_refl] at hE
  have hMd := made p l h0 hl hd
  have hMz := mkF_zero p l
  have hcs := encC_sz (mkF p l).1
  have e1 : ((l.map encCt).take l.length).drop k = (l.drop k).map encCt := by
    rw [List.take_of_length_le (by simp), List.map_drop]
  have e2 : ((l.map encCt).take k).drop 0 = (l.take k).map encCt := by rw [List.drop_zero, List.map_take]
  have hall := cts_all l
  have hany := order1_any l
  have hLm : (l.map encCt).length = l.length := List.length_map ..
  generalize l.map encCt = L at hSm hM1 e1 e2 hall hany hLm ⊢
  generalize (l.drop k).map encCt = L1 at hCat e1
  generalize (l.take k).map encCt = L2 at hCat e2
  generalize (l.drop k ++ l.take k).map encCt = L3 at hCat hM2
  have c1 : decide ((l.length : Int) > 10) = false := decide_eq_false (by omega)
  have c2 : ((l.length : Int) == 0) = false := beq_false_of_ne (by omega)
  have c3 : ((l.length : Int) = 0) = False := eq_false (by omega)
  have c4 : ((k : Int) ≤ (l.length : Int)) = True := eq_true (by omega)
  have c5 : IntKind.i64.wrap turn = turn := wrap_id (by omega) (by omega)
  have c6 : ((0 : Int) ≤ (k : Int)) = True := eq_true (by omega)
  have c7 : ((l.length : Int) ≤ (l.length : Int)) = True := eq_true (Int.le_refl _)
  have c8 : ((0 : Int) ≤ (l.length : Int)) = True := eq_true (by omega)
  generalize mkF p l = r at hM1 hM2 hE hMd hMz hcs
  obtain ⟨c, e⟩ := r
  simp only at hM1 hM2 hE hMd hMz hcs
  by_cases he : e = 0
  case neg =>
    have hc0 := hMz he
    subst hc0
    have b1 : (e != e) = false := by simp
    have b2 : (e == 0) = false := by simpa using he
    have b3 : (e != 0) = true := by simpa using he
    simp only [encC_zero] at hM1 hM2 hE hcs
    refine wk (rv := [.tmp 6]) annOrd 141 Tryz.func4 ?_
    simp only [go_sem]
    refine aCall_intro hAw ?_
    simp only [go_sem, hLm, c1, c2]
    refine aCall_intro hSm ?_
    simp only [go_sem, hLm, c1, c2, c3, c4, c5, c6, c7, c8, hk, hall, e1, e2, Int.toNat_natCast, Int.le_refl, and_self, and_true, true_and]
    refine aCall_intro hCat ?_
    simp only [go_sem]
    refine aCall_intro hM1 ?_
    simp only [go_sem]
    refine aCall_intro hM2 ?_
    simp only [go_sem, b1, b2, b3]
    refine aCall_intro hE ?_
    simp only [go_sem, b1, b2, b3]
  subst he
  obtain ⟨hP, ⟨R, g, hC, hg⟩, hI⟩ := hMd rfl
  have b4 : (p != p) = false := by simp
  rcases hg with rfl | ⟨rfl, hRl, hRp, hRa⟩
  · generalize encC c = C at hM1 hM2 hE hcs hP hC hI
    generalize R.map encCt = RL at hC
    refine wk (rv := [.tmp 6]) annOrd 141 Tryz.func4 ?_
    simp only [go_sem]
    refine aCall_intro hAw ?_
    simp only [go_sem, hLm, c1, c2]
    refine aCall_intro hSm ?_
    simp only [go_sem, hLm, c1, c2, c3, c4, c5, c6, c7, c8, hk, hall, e1, e2, Int.toNat_natCast, Int.le_refl, and_self, and_true, true_and]
    refine aCall_intro hCat ?_
    simp only [go_sem]
    refine aCall_intro hM1 ?_
    simp only [go_sem, hcs]
    refine aCall_intro hM2 ?_
    simp only [go_sem, hcs, Int.reduceBNe]
    refine aCall_intro hE ?_
    simp only [go_sem, hcs, Int.reduceBNe]
    refine aCall_intro hP ?_
    simp only [go_sem, hcs, Int.reduceBNe]
    refine aCall_intro hC ?_
    simp only [go_sem, hcs, Int.reduceBNe]
    refine aCall_intro hI ?_
    simp only [go_sem, hcs, b4, Int.reduceBNe, Int.reduceBEq]
  · have hR1 : (R.map encCt).length = l.length := by rw [List.length_map, hRl]
    have b5 : (((R.map encCt).length : Int) != (l.length : Int)) = false := by rw [hR1]; simp
    generalize encC c = C at hM1 hM2 hE hcs hP hC hI
    refine wk (rv := [.tmp 6]) annOrd 141 Tryz.func4 ?_
    simp only [go_sem]
    refine aCall_intro hAw ?_
    simp only [go_sem, hLm, c1, c2]
    refine aCall_intro hSm ?_
    simp only [go_sem, hLm, c1, c2, c3, c4, c5, c6, c7, c8, hk, hall, e1, e2, Int.toNat_natCast, Int.le_refl, and_self, and_true, true_and]
    refine aCall_intro hCat ?_
    simp only [go_sem]
    refine aCall_intro hM1 ?_
    simp only [go_sem, hcs]
    refine aCall_intro hM2 ?_
    simp only [go_sem, hcs, Int.reduceBNe]
    refine aCall_intro hE ?_
    simp only [go_sem, hcs, Int.reduceBNe]
    refine aCall_intro hP ?_
    simp only [go_sem, hcs, Int.reduceBNe]
    refine aCall_intro hC ?_
    simp only [go_sem, hcs, Int.reduceBNe]
    refine aCall_intro hI ?_
    simp only [go_sem, hcs, b4, b5, hR1, hLm, Int.reduceBNe, Int.reduceBEq]
    have bxx : ((l.length : Int) != (l.length : Int)) = false := by simp
    simp only [go_sem, bxx]
    refine aLoop_list (α := CtT) (β := List CtT × Option CtT) (fun rest b => ⟨[(116, ii b.1.length), (1, pp (.slice L)), (15, pp (.slice (R.map encCt))), (114, pp (.slice (R.map encCt))), (115, ii l.length)], [], []⟩) (fun rest b => R = b.1 ++ rest ∧ (∀ y, b.2 = some y → ∃ q, b.1 = q ++ [y]) ∧ (b.2 = none → b.1 = [])) ?_ ?_ R ([], none) _ ?_ ⟨rfl, fun y h => (by cases h), fun _ => rfl⟩
    · rintro ⟨pre, last⟩ ⟨h4, _, _⟩ K
      simp only [List.append_nil] at h4
      subst h4
      simp only [go_sem, hRl, lt_false (Int.le_refl _)]
    · rintro x rest ⟨pre, last⟩ ⟨h4, h5, h6⟩ K hK
      simp only at h4 h5 h6
      have hx : (R.map encCt)[pre.length]? = some (encCt x) := by simp [h4]
      have hpl : pre.length < R.length := by rw [h4]; simp
      have hdd : decide ((pre.length : Int) < l.length) = true := decide_eq_true (by omega)
      have w5 : IntKind.i64.wrap ((pre.length : Int) + 1) = ((pre ++ [x]).length : Int) := by rw [wrap_id (by omega) (by omega)]; simp
      have hcx := encCt_sz x
      have hAx := hany x
      rw [hRa x (by rw [h4]; simp)] at hAx
      have ex : encCt x = .agg [.str x.1, .int .i64 x.2.op, .int .i64 x.2.n, .str x.2.s, .slice (x.2.k.map encK), .slice (x.2.names.map .str), .slice (x.2.l.map encC)] := rfl
      rw [ex] at hx hcx hAx
      have hK' := fun s' hs => hK (pre ++ [x], some x) s' hs ⟨by simp [h4], fun y h => ⟨pre, by cases h; rfl⟩, fun h => by cases h⟩
      clear hK
      cases last with
      | none =>
        obtain rfl := h6 rfl
        have d0 : decide ((0 : Int) > 0) = false := rfl
        simp only [List.length_nil, Int.natCast_zero] at hx hdd w5
        simp only [go_sem, hdd, d0, hx, hcx, List.length_nil, Int.natCast_zero]
        refine aCall_intro hAx ?_
        simp only [go_sem, w5]
        refine hK' _ ?_
        simp only [go_sem]
      | some y =>
        obtain ⟨q, rfl⟩ := h5 y rfl
        have hq : (q ++ [y]).length = q.length + 1 := by simp
        rw [hq] at hx hdd w5 hpl
        have w6 : IntKind.i64.wrap (((q.length + 1 : Nat) : Int) - 1) = (q.length : Int) := by rw [wrap_id (by omega) (by omega)]; omega
        have d0 : decide (((q.length + 1 : Nat) : Int) > 0) = true := decide_eq_true (by omega)
        have hy : (R.map encCt)[q.length]? = some (encCt y) := by simp [h4]
        have ey : encCt y = .agg [.str y.1, .int .i64 y.2.op, .int .i64 y.2.n, .str y.2.s, .slice (y.2.k.map encK), .slice (y.2.names.map .str), .slice (y.2.l.map encC)] := rfl
        have hcy := encCt_sz y
        rw [ey] at hy hcy
        have hlt : (Op.bytesLess y.1.toList x.1.toList) = true := by
          rw [bytesLess_eq, decide_eq_true_eq, ByteArray.toList_eq, ByteArray.toList_eq]
          rw [h4, List.append_assoc] at hRp
          have := (List.pairwise_append.1 hRp).2.1
          rw [List.singleton_append, List.pairwise_cons] at this
          exact this.1 x (by simp)
        simp only [go_sem, hq, hdd, d0, w6, hx, hcx, hy, hcy, hlt, Int.toNat_natCast, Int.natCast_nonneg, Bool.not_true]
        refine aCall_intro hAx ?_
        simp only [go_sem, w5]
        refine hK' _ ?_
        simp only [go_sem, hq]
    · simp only [go_sem, hR1, List.length_nil, Int.natCast_zero]
theorem DatatypeOrder_spec (p : Int) (l : List CtT) (turn : Int) (t0 : 0 ≤ turn) (t1 : turn ≤ 255) : Spec Tryz.prog 4 [ii p, pp (.slice (l.map encCt)), pp (.int .u8 turn)] [] (.bool true) [] := by
  have hAw := awake19_spec
  by_cases h10 : l.length > 10
  · have c1 : decide ((l.length : Int) > 10) = true := decide_eq_true (by omega)
    refine wk (rv := [.tmp 6]) annOrd 141 Tryz.func4 ?_
    simp only [go_sem]
    refine aCall_intro hAw ?_
    simp only [go_sem, List.length_map, c1]
  have c1 : decide ((l.length : Int) > 10) = false := decide_eq_false (by omega)
  by_cases h0 : l.length = 0
  · have c2 : ((l.length : Int) == 0) = true := by rw [h0]; rfl
    refine wk (rv := [.tmp 6]) annOrd 141 Tryz.func4 ?_
    simp only [go_sem]
    refine aCall_intro hAw ?_
    simp only [go_sem, List.length_map, c1, c2]
  have c2 : ((l.length : Int) == 0) = false := beq_false_of_ne (by omega)
  cases hs : smallF l with
  | true => exact Order_main p l turn t0 t1 (by omega) (by omega) hs
  | false =>
    have hSm := small_spec l (by omega)
    rw [hs] at hSm
    refine wk (rv := [.tmp 6]) annOrd 141 Tryz.func4 ?_
    simp only [go_sem]
    refine aCall_intro hAw ?_
    simp only [go_sem, List.length_map, c1, c2]
    refine aCall_intro hSm ?_
    simp only [go_sem]
end Go.Abs.Kon
