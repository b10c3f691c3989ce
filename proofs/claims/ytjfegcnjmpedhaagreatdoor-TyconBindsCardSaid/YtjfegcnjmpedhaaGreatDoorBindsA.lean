/- The law TyconBinds, plain; lists of constructors side by side. -/
import Derived.Test.YtjfegcnjmpedhaaGreatDoorConsE
import Derived.Test.YtjfegcnjmpedhaaGreatDoorConsF
import Derived.Test.YtjfegcnjmpedhaaGreatDoorKonK
import Derived.Test.YtjfegcnjmpedhaaGreatDoorShelfA
import Derived.Test.YtjfegcnjmpedhaaGreatDoorKonC
import Derived.Test.YtjfegcnjmpedhaaGreatDoorAbsC
set_option linter.unusedSimpArgs false
set_option linter.unusedVariables false
namespace Go.Abs.Kon
open Go Go.Proofs Go.Abs
set_option maxRecDepth 100000
set_option maxHeartbeats 4000000

/-! Applications and their spine -/
theorem spine_app (f a : ConT) : spineF (appC f a) = ((spineF f).1, (spineF f).2 ++ [a]) := by
  rw [appC, spineF, if_pos rfl, spineL]
theorem spine_apps : ∀ (l : List ConT) (c : ConT), spineF (l.foldl appC c) = ((spineF c).1, (spineF c).2 ++ l)
  | [], c => by simp
  | a :: l, c => by
    rw [List.foldl_cons, spine_apps l (appC c a), spine_app]
    simp
theorem appC_parts (f a : ConT) : sizeF (appC f a) = 1 + sizeF f + sizeF a ∧ (depthF (appC f a) ≤ 1 + depthF f + depthF a) ∧ formedF (appC f a) = (formedF f && formedF a) := by
  refine ⟨?_, ?_, ?_⟩
  · rw [appC, sizeF, sizeL, sizeL, sizeL]; omega
  · rw [appC, depthF, depthL, depthL, depthL]; omega
  · rw [appC, formedF, nodeF, formedL, formedL, formedL]
    have e : bytesOf ByteArray.empty = [] := rfl
    simp [isBinder, isLabelled, partsF, ascF, e]
theorem wt_app (f a : ConT) : wtF (appC f a) = 1 + wtF f + wtF a := by
  rw [appC, wtF, wtL, wtL, wtL, knL]; simp; omega
/-! Names that ascend -/
theorem sortN_sorted {zs : List (List UInt8)} (h : zs.Pairwise fun x y => x < y) : sortN zs = zs := by
  rw [sortN]
  refine List.mergeSort_of_pairwise (h.imp fun {a b} h => ?_)
  simpa using List.le_of_lt h
theorem compact_sorted {zs : List (List UInt8)} (h : zs.Pairwise fun x y => x < y) : (Lib.compact zs).length = zs.length := by
  unfold Lib.compact Lib.compactUpTo
  rw [List.length_map, List.filter_eq_self.2, List.length_range]
  intro j hj
  have hj' := List.mem_range.1 hj
  by_cases h0 : j = 0
  · subst h0; exact Lib.keeps_lt_one _ 0 (by decide)
  · refine Lib.keeps_pos ?_
    have h1 : j < zs.toArray.size := by simpa using hj'
    have h2 : j - 1 < zs.toArray.size := by simp; omega
    rw [getElem!_pos zs.toArray j h1, getElem!_pos zs.toArray (j - 1) h2]
    have := List.pairwise_iff_getElem.1 h (j - 1) j (by omega) hj' (by omega)
    intro e
    simp only [List.getElem_toArray] at e
    rw [e] at this
    exact List.lt_irrefl _ this
theorem twice_sorted {l : List CsT} (h : l.Pairwise fun x y => nmX x < nmX y) : twiceN (l.map (·.1)) = false := by
  have hb : bysN (l.map (·.1)) = l.map nmX := by rw [bysN, List.map_map]; rfl
  have hp : (l.map nmX).Pairwise fun x y => x < y := List.pairwise_map.2 h
  rw [twiceN, hb, sortN_sorted hp, compact_sorted hp]
  simp
theorem names_ok {l : List CsT} (h : l.Pairwise fun x y => nmX x < nmX y) (hc : ∀ x ∈ l, constF x.1 = true) (hl : l.length ≤ 1000) : namesN (l.map (·.1)) = 0 := by
  have ha : (l.map (·.1)).any (fun s => !constF s) = false := by
    rw [List.any_eq_false]
    intro s hs
    obtain ⟨x, hx, rfl⟩ := List.mem_map.1 hs
    simp [hc x hx]
  rw [namesN, ha, if_neg (by decide), if_neg (by rw [List.length_map]; omega), twice_sorted h, if_neg (by decide)]
/-! Bound and unbound -/
structure BindsT (c : ConT) (k : List CsT) : Prop where
  eq : constsF c = (k, 0)
  sorted : k.Pairwise fun x y => nmX x < nmX y
  good : ∀ x ∈ k, constF x.1 = true ∧ validK x = true
  all : ∀ x ∈ cstsF c 0, x ∈ k
  len : k.length ≤ sizeF c
theorem sorted_weak {s : List CsT} (h : WeakX s) (hn : NoDupX s) : s.Pairwise fun x y => nmX x < nmX y := dupX_strict h (strict_dupX hn)
theorem binds_of {c : ConT} (hv : validF c = true) : constsF c = ([], 11) ∨ ∃ k, BindsT c k := by
  have hI := pfoldX (cstsF c 0) [] ([], false) pinv_nil
  rw [List.nil_append] at hI
  rw [constsF, if_neg (by rw [hv]; decide)]
  have hlen := pfold_len (cstsF c 0) ([], false)
  have hcl := csts_len c 0
  cases hd : ((cstsF c 0).foldl pstepX ([], false)).2 with
  | true => exact .inl (if_pos rfl)
  | false =>
    refine .inr ⟨sortX ((cstsF c 0).foldl pstepX ([], false)).1, ?_, ?_, fun x hx => ?_, fun x hx => ?_, ?_⟩
    · rw [constsF, if_neg (by rw [hv]; decide), hd]
      exact if_neg (by decide)
    · exact sorted_weak (sortX_weak _) (((sortX_perm _).pairwise_iff (fun {_ _} h => Ne.symm h)).2 hI.nd)
    · exact csts_mem c 0 (validF_formed hv) x (hI.sub x ((sortX_perm _).subset hx))
    · exact (sortX_perm _).symm.subset (hI.all hd x hx)
    · rw [sortX_length]; simp at hlen; omega
theorem bind_wt (ns : List ByteArray) (c : ConT) : wtF (mapF (bindLeaf ns) c 0) ≤ wtF c := wt_le _ c 0 fun x b _ => by
  rw [bindLeaf]
  split
  · exact wt_shiftLeaf _ _ x b
  · split
    · rw [wt_varC]; exact wt_pos x
    · exact wt_leafC x
theorem binds_bind {c : ConT} {k : List CsT} (hv : validF c = true) (hs : sizeF c ≤ 1000) (h : BindsT c k) :
    bindF c (k.map (·.1)) = if validF (mapF (bindLeaf (k.map (·.1))) c 0) = true then (mapF (bindLeaf (k.map (·.1))) c 0, 0) else (zeroC, 6) := by
  have hn := names_ok h.sorted (fun x hx => (h.good x hx).1) (by have := h.len; omega)
  rw [bindF, if_neg (by rw [hv]; decide), hn, if_neg (by decide), replF_eq]
theorem binds_none {c : ConT} {k : List CsT} (hv : validF c = true) (h : BindsT c k) (hm : validF (mapF (bindLeaf (k.map (·.1))) c 0) = true) : constsF (mapF (bindLeaf (k.map (·.1))) c 0) = ([], 0) := by
  have h0 := bind_none (k.map (·.1)) c (validF_formed hv) fun x hx => List.mem_map.2 ⟨x, h.all x hx, rfl⟩
  rw [constsF, if_neg (by rw [hm]; decide), h0]
  have hs0 : sortX [] = [] := List.eq_nil_of_length_eq_zero (by rw [sortX_length]; rfl)
  rw [List.foldl_nil, if_neg (by decide), hs0]
theorem binds_back {c : ConT} {k : List CsT} (hv : validF c = true) (hs : sizeF c ≤ 1000) (h : BindsT c k) (hm : validF (mapF (bindLeaf (k.map (·.1))) c 0) = true) : unbindF (mapF (bindLeaf (k.map (·.1))) c 0) k = (c, 0) := by
  have hn := names_ok h.sorted (fun x hx => (h.good x hx).1) (by have := h.len; omega)
  have hb := bind_back k (strictX_ne h.sorted) c (validF_formed hv) h.all
  rw [unbindF, if_neg, hn, if_neg (by decide), replF_eq, hb, if_pos hv]
  rintro (h1 | h1)
  · rw [hm] at h1; cases h1
  · obtain ⟨x, hx, hk⟩ := List.any_eq_true.1 h1
    rw [(h.good x hx).2] at hk; cases hk

theorem GrowCn_spec (n : Nat) (h0 : 0 < n) (hn : n ≤ 1000000) : SpecX Tryz.prog 84 [pp .nilsl, ii n] (.agg 6) [] := by
  refine ⟨by kernel_rfl, by simp, fun G w vs hW hT hB hr => ?_⟩
  have hvs : vs = #[.slice none 0 0, .int .i64 n] := by
    simp only [RepSVs, pp, ii, RepSV, RepSC, Rep] at hr
    obtain ⟨v, rest, h1, rfl, v2, rest2, rfl, rfl, rfl⟩ := hr
    exact Array.toList_inj.1 h1
  subst hvs
  obtain ⟨e, i, z, hu, hsz, hi, hsi, hby, hpos, hz, hzo⟩ := elemSz_spec (P := Tryz.prog) (t := 26) es26
  have he : e = 28 := by
    have h := Tryz.underlying26
    rw [hu] at h
    cases h
    rfl
  subst he
  have hs1 : i.size = 6 := hsi
  have hge := grownCap_ge w n 0 28
  have hcm := grownCap_le_maxLen w n 0 28 (by rw [maxLen_eq]; omega)
  have hC := Any8.slices_Grow_grow Tryz.growCn i z hi hz (by omega) none 0 0 n [] w (Nat.le_refl _) (by omega) (by rw [hby]; omega) (by omega) (by simp) (fun _ => rfl) (fun a h => by cases h)
  refine hC.mono ?_
  rintro e w' ⟨rfl, rfl⟩
  simp only [Nat.zero_add, Nat.sub_zero]
  obtain ⟨G', g1, g2, g3, g4, g5, g6⟩ := lay_row_x (w := w.drew) hW.drew (([] : List Value).toArray ++ Builtin.zeroCells z.cells n ++ Builtin.zeroCells z.cells (grownCap w n 0 28 - n)) 28 0 (grownCap w n 0 28) (.agg 6) 0 (hT 0) (Nat.zero_le _) hcm (by
    have hzs : z.cells.size = 6 := Sz.size_of_ok (k := .agg 6) hzo
    simp only [Array.size_append, List.size_toArray, size_zeroCells, hzs, List.length_nil, Sz.size]
    omega) [] (by simp)
  exact ⟨_, G', 0, _, rfl, g3, ⟨rfl, rfl, _, _, [], rfl, rfl, by simp [RepL], by simp, rfl⟩, g1, (g2.weaken (fun _ h => h) (fun _ h => by simp at h)).drew⟩

def annCatCn : Ann := ⟨ann33.imm, [9000024, 2000015, 6000015], ann33.live, ann33.head⟩
@[go_sem] theorem annCatCn_imm : annCatCn.imm = ann33.imm := rfl
@[go_sem] theorem annCatCn_frz : annCatCn.frz = [9000024, 2000015, 6000015] := rfl
@[go_sem] theorem annCatCn_live : annCatCn.live = ann33.live := rfl
@[go_sem] theorem annCatCn_head : annCatCn.head = ann33.head := rfl
theorem cns_all (l : List ConT) : ((l.map encC).all fun x => PV.hasSz (.agg 6) x) = true := by
  rw [List.all_eq_true]
  intro x hx
  obtain ⟨n, _, rfl⟩ := List.mem_map.1 hx
  exact encC_sz n
theorem ConcatCn_spec (o r : List ConT) (ho : o.length ≤ 100000) (hr : r.length ≤ 100000) (h0 : 0 < o.length + r.length) : Spec Tryz.prog 33 [pp (.slice [.slice (o.map encC), .slice (r.map encC)])] [] (.slice ((o ++ r).map encC)) [] := by
  have t1 : decide ((0 : Int) < ((2 : Nat) : Int)) = true := rfl
  have t2 : decide ((1 : Int) < ((2 : Nat) : Int)) = true := rfl
  have t3 : decide ((2 : Int) < ((2 : Nat) : Int)) = false := rfl
  have w1 : IntKind.i64.wrap (0 + 1) = 1 := by decide
  have w2 : IntKind.i64.wrap (1 + 1) = 2 := by decide
  have w3 : IntKind.i64.wrap (0 + (o.length : Int)) = o.length := by rw [Int.zero_add]; exact wrap_id (by omega) (by omega)
  have w4 : IntKind.i64.wrap ((o.length : Int) + r.length) = ((o.length + r.length : Nat) : Int) := by rw [wrap_id (by omega) (by omega)]; omega
  have d1 : decide ((o.length : Int) < 0) = false := decide_eq_false (by omega)
  have d2 : decide (((o.length + r.length : Nat) : Int) < 0) = false := decide_eq_false (by omega)
  rw [List.map_append]
  have hG := GrowCn_spec (o.length + r.length) h0 (by omega)
  have ha := cns_all o
  have hb := cns_all r
  have hb1 : o.length * 104 ≤ 140737488355328 := by omega
  have hb2 : o.length ≤ maxLen := by rw [maxLen_eq]; omega
  have hb3 : (o.length + r.length) * 104 ≤ 140737488355328 := by omega
  have hb4 : o.length + r.length ≤ maxLen := by rw [maxLen_eq]; omega
  have hz : 0 < (Sz.agg 6).size := by decide
  have hall : ((o.map encC ++ r.map encC).all fun x => PV.hasSz (.agg 6) x) = true := by rw [List.all_append, ha, hb]; rfl
  refine wk (rv := [.tmp 2]) annCatCn 36 Tryz.func33 ?_
  simp only [go_sem, List.length_cons, List.length_nil]
  refine ⟨3, ?_⟩
  rw [aLoop_succ]
  simp only [go_sem, t1, List.length_map, w1, w3, d1]
  rw [aLoop_succ]
  simp only [go_sem, t2, List.length_map, w2, w4, d2]
  rw [aLoop_succ]
  simp only [go_sem, t3]
  refine aCallX_intro hG ?_
  simp only [go_sem]
  refine ⟨3, ?_⟩
  rw [aLoop_succ]
  simp only [go_sem, t1, List.length_map, ha, hb1, hb2, w1]
  rw [aLoop_succ]
  simp only [go_sem, t2, List.length_map, hb, hb3, hb4, w2]
  rw [aLoop_succ]
  simp only [go_sem, t3]
  refine aFlipOr_ops ?_
  simp only [go_sem, hall, hz, Nat.zero_lt_succ, List.length_append, List.length_map]
theorem GrowCn_0 : Spec Tryz.prog 84 [pp (.slice []), ii 0] [] (.slice []) [] := by
  refine Spec.of_below (by kernel_rfl) fun G w vs hW hr => ?_
  simp only [RepSVs, pp, ii, RepSV, RepSC, Rep] at hr
  obtain ⟨v, rest, h1, ⟨a, len, cap, k, rfl, rfl, h2, h3, h4⟩, v2, rest2, rfl, rfl, rfl⟩ := hr
  have hvs : vs = #[.slice a 0 cap, .int .i64 ((0 : Nat) : Int)] := Array.toList_inj.1 h1
  subst hvs
  rw [maxLen_eq] at h3
  refine (Any8.slices_Grow_room Tryz.growCn a 0 cap 0 w (Nat.zero_le _) h3 (by decide) (Nat.zero_le _)).mono ?_
  rintro e w' ⟨rfl, rfl⟩
  refine ⟨_, rfl, ?_, RowKit.Below.refl _ _⟩
  rw [Rep]
  exact ⟨a, 0, cap, k, rfl, rfl, Nat.zero_le _, by rw [maxLen_eq]; exact h3, .inl rfl⟩
theorem ConcatCn_0 : Spec Tryz.prog 33 [pp (.slice [.slice [], .slice []])] [] (.slice []) [] := by
  have t1 : decide ((0 : Int) < ((2 : Nat) : Int)) = true := rfl
  have t2 : decide ((1 : Int) < ((2 : Nat) : Int)) = true := rfl
  have t3 : decide ((2 : Int) < ((2 : Nat) : Int)) = false := rfl
  have w1 : IntKind.i64.wrap (0 + 1) = 1 := by decide
  have w2 : IntKind.i64.wrap (1 + 1) = 2 := by decide
  have hG := GrowCn_0
  have e0 : IntKind.i64.wrap (0 + 0) = 0 := by decide
  have e1 : decide ((0 : Int) < 0) = false := rfl
  refine wk (rv := [.tmp 2]) ann33 36 Tryz.func33 ?_
  simp only [go_sem, List.length_cons, List.length_nil, List.map_nil]
  refine ⟨3, ?_⟩
  rw [aLoop_succ]
  simp only [go_sem, t1, w1, e0, e1, Int.natCast_zero]
  rw [aLoop_succ]
  simp only [go_sem, t2, w2, e0, e1, Int.natCast_zero]
  rw [aLoop_succ]
  simp only [go_sem, t3]
  refine aCall_intro hG ?_
  simp only [go_sem]
  refine ⟨3, ?_⟩
  rw [aLoop_succ]
  simp only [go_sem, t1, w1]
  rw [aLoop_succ]
  simp only [go_sem, t2, w2]
  rw [aLoop_succ]
  simp only [go_sem, t3]
theorem ConcatCn_all (o r : List ConT) (ho : o.length ≤ 100000) (hr : r.length ≤ 100000) : Spec Tryz.prog 33 [pp (.slice [.slice (o.map encC), .slice (r.map encC)])] [] (.slice ((o ++ r).map encC)) [] := by
  by_cases h0 : 0 < o.length + r.length
  · exact ConcatCn_spec o r ho hr h0
  · obtain rfl : o = [] := List.eq_nil_of_length_eq_zero (by omega)
    obtain rfl : r = [] := List.eq_nil_of_length_eq_zero (by omega)
    exact ConcatCn_0
end Go.Abs.Kon
