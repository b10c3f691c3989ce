/- Terms. -/
import Derived.Test.YthedhplpgfpodaaGreatDoorTermM
import Derived.Test.YthedhplpgfpodaaGreatDoorTermI
set_option linter.unusedSimpArgs false
set_option linter.unusedVariables false
namespace Go.Abs.Kon
open Go Go.Proofs Go.Abs
set_option maxRecDepth 100000
set_option maxHeartbeats 4000000
mutual
def rsubT (by' : TermT) : TermT → Int → Int → TermT
  | .mk op n s con to k names l, u, w =>
    if op = 1 then (if n = w then rshT u w by' 0 0 else if n > w then varT (n - 1) else .mk op n s con to k names l)
    else .mk op n s con to k names (rsubTL by' op l 0 u w)
def rsubTL (by' : TermT) (op : Int) : List TermT → Nat → Int → Int → List TermT
  | [], _, _, _ => []
  | x :: r, i, u, w => rsubT by' x (u + consR op i) (w + termsR op i) :: rsubTL by' op r (i + 1) u w
end
def crsub (us : List ConT) (c : ConT) (u : Int) : ConT := if eqC c zeroC = true then c else rSubstF us c u
mutual
def rsubC (us : List ConT) : TermT → Int → TermT
  | .mk op n s con to k names l, u => .mk op n s (crsub us con u) (crsub us to u) k names (rsubCL us op l 0 u)
def rsubCL (us : List ConT) (op : Int) : List TermT → Nat → Int → List TermT
  | [], _, _ => []
  | x :: r, i, u => rsubC us x (u + consR op i) :: rsubCL us op r (i + 1) u
end
theorem rsubTL_len (by' : TermT) (op : Int) : ∀ (l : List TermT) (i : Nat) (u w : Int), (rsubTL by' op l i u w).length = l.length
  | [], i, u, w => by rw [rsubTL]
  | x :: r, i, u, w => by rw [rsubTL, List.length_cons, List.length_cons, rsubTL_len by' op r]
theorem rsubCL_len (us : List ConT) (op : Int) : ∀ (l : List TermT) (i : Nat) (u : Int), (rsubCL us op l i u).length = l.length
  | [], i, u => by rw [rsubCL]
  | x :: r, i, u => by rw [rsubCL, List.length_cons, List.length_cons, rsubCL_len us op r]
mutual
def vokT : TermT → Prop
  | .mk op n s con to k names l => (op = 1 → nodeT op n s con to k names l.length = true) ∧ vokL l
def vokL : List TermT → Prop
  | [] => True
  | x :: r => vokT x ∧ vokL r
end
theorem vokL_mem : ∀ {l : List TermT}, vokL l ↔ ∀ x ∈ l, vokT x
  | [] => by simp [vokL]
  | x :: r => by simp [vokL, vokL_mem (l := r)]
mutual
theorem wf_vok : ∀ t : TermT, wfT t = true → vokT t
  | .mk op n s con to k names l, h => by
    rw [wfT, Bool.and_eq_true] at h
    rw [vokT]
    exact ⟨fun _ => h.1, wfL_vok l h.2⟩
theorem wfL_vok : ∀ l : List TermT, wfL l = true → vokL l
  | [], _ => trivial
  | x :: r, h => by
    rw [wfL, Bool.and_eq_true] at h
    exact ⟨wf_vok x h.1, wfL_vok r h.2⟩
end
mutual
theorem rsub_map (by' : TermT) (hb : wfT by' = true) : ∀ (t : TermT) (u w : Int), wfT t = true → rsubT by' t u w = mapT cidM (vsubM by') t u w
  | .mk op i s con to k names l, u, w, hwf => by
    rw [wfT, Bool.and_eq_true] at hwf
    obtain ⟨n1, n2, n3, n4⟩ := node_con hwf.1
    rw [rsubT, mapT]
    by_cases ho : op = 1
    · obtain ⟨rfl, rfl, rfl, rfl, rfl, g, _⟩ := node_op1 hwf.1 ho
      have := List.eq_nil_of_length_eq_zero g
      subst this ho
      rw [if_pos rfl, if_pos rfl, vsubM, rsh_map u w by' 0 0 hb, shM]
      by_cases h : i = w
      · rw [if_pos h, if_pos h]
      · rw [if_neg h, if_neg h]
        by_cases h' : i > w
        · rw [if_pos h', if_pos h']
        · rw [if_neg h', if_neg h', varT]
    · rw [if_neg ho, if_neg ho, rsubL_map by' hb op l 0 u w hwf.2 (fun e => by have := ins_le hwf.1 e; omega)]
      have hC : (if hasConF op = true then cidM con u else zeroC) = con := by
        by_cases e : hasConF op = true
        · rw [if_pos e, cidM]
        · rw [if_neg e, n2 (by simpa using e)]
      have hT : (if op = 8 then cidM to u else zeroC) = to := by
        by_cases e : op = 8
        · rw [if_pos e, cidM]
        · rw [if_neg e, n4 e]
      rw [hC, hT]
theorem rsubL_map (by' : TermT) (hb : wfT by' = true) (op : Int) : ∀ (l : List TermT) (i : Nat) (u w : Int), wfL l = true → (op = 9 → i + l.length ≤ 2) → rsubTL by' op l i u w = mapTL cidM (vsubM by') op l i u w
  | [], i, u, w, _, _ => by rw [rsubTL, mapTL]
  | x :: r, i, u, w, hwf, h9 => by
    rw [wfL, Bool.and_eq_true] at hwf
    have h9' : op = 9 → i ≤ 1 := fun e => by have := h9 e; rw [List.length_cons] at this; omega
    rw [rsubTL, mapTL, ins_cons h9', ins_terms h9', rsub_map by' hb x _ _ hwf.1, rsubL_map by' hb op r (i + 1) u w hwf.2 (fun e => by have := h9 e; rw [List.length_cons] at this; omega)]
end
theorem crsub_valid {us : List ConT} (hus : us.all validF = true) {c : ConT} (h : validF c = true) (u : Int) : crsub us c u = csubM us c u := by
  rw [crsub, if_neg (by rw [valid_notzero h]; decide), csubM, ← substM_eq us hus, subst_eq us hus c u (validF_formed h)]
theorem crsub_zero (us : List ConT) (u : Int) : crsub us zeroC u = zeroC := by rw [crsub, if_pos (eqC_refl _)]
mutual
theorem rsubC_map (us : List ConT) (hus : us.all validF = true) : ∀ (t : TermT) (u w : Int), wfT t = true → rsubC us t u = mapT (csubM us) vidM t u w
  | .mk op i s con to k names l, u, w, hwf => by
    rw [wfT, Bool.and_eq_true] at hwf
    obtain ⟨n1, n2, n3, n4⟩ := node_con hwf.1
    rw [rsubC, mapT]
    by_cases ho : op = 1
    · obtain ⟨rfl, rfl, rfl, rfl, rfl, g, _⟩ := node_op1 hwf.1 ho
      have := List.eq_nil_of_length_eq_zero g
      subst this ho
      rw [if_pos rfl, vidM, crsub_zero, rsubCL, varT]
    · rw [if_neg ho, rsubCL_map us hus op l 0 u w hwf.2 (fun e => by have := ins_le hwf.1 e; omega)]
      have hC : crsub us con u = (if hasConF op = true then csubM us con u else zeroC) := by
        by_cases e : hasConF op = true
        · rw [if_pos e, crsub_valid hus (n1 e)]
        · rw [if_neg e, n2 (by simpa using e), crsub_zero]
      have hT : crsub us to u = (if op = 8 then csubM us to u else zeroC) := by
        by_cases e : op = 8
        · rw [if_pos e, crsub_valid hus (n3 e)]
        · rw [if_neg e, n4 e, crsub_zero]
      rw [hC, hT]
theorem rsubCL_map (us : List ConT) (hus : us.all validF = true) (op : Int) : ∀ (l : List TermT) (i : Nat) (u w : Int), wfL l = true → (op = 9 → i + l.length ≤ 2) → rsubCL us op l i u = mapTL (csubM us) vidM op l i u w
  | [], i, u, w, _, _ => by rw [rsubCL, mapTL]
  | x :: r, i, u, w, hwf, h9 => by
    rw [wfL, Bool.and_eq_true] at hwf
    have h9' : op = 9 → i ≤ 1 := fun e => by have := h9 e; rw [List.length_cons] at this; omega
    rw [rsubCL, mapTL, ins_cons h9', rsubC_map us hus x _ (w + insT op i) hwf.1, rsubCL_map us hus op r (i + 1) u w hwf.2 (fun e => by have := h9 e; rw [List.length_cons] at this; omega)]
end
mutual
theorem vok_rsubC (us : List ConT) : ∀ (t : TermT) (u : Int), vokT t → vokT (rsubC us t u)
  | .mk op n s con to k names l, u, h => by
    rw [vokT] at h
    rw [rsubC, vokT, rsubCL_len]
    refine ⟨fun e => ?_, vok_rsubCL us op l 0 u h.2⟩
    have h1 := h.1 e
    obtain ⟨_, rfl, rfl, _⟩ := node_op1 h1 e
    rw [crsub_zero]; exact h1
theorem vok_rsubCL (us : List ConT) (op : Int) : ∀ (l : List TermT) (i : Nat) (u : Int), vokL l → vokL (rsubCL us op l i u)
  | [], _, _, _ => by rw [rsubCL]; trivial
  | x :: r, i, u, h => by
    rw [rsubCL]
    exact ⟨vok_rsubC us x _ h.1, vok_rsubCL us op r _ u h.2⟩
end
mutual
theorem depth_rsubC (us : List ConT) : ∀ (t : TermT) (u : Int), depthT (rsubC us t u) = depthT t
  | .mk op n s con to k names l, u => by rw [rsubC, depthT, depthT, depth_rsubCL us op l 0 u]
theorem depth_rsubCL (us : List ConT) (op : Int) : ∀ (l : List TermT) (i : Nat) (u : Int), depthTL (rsubCL us op l i u) = depthTL l
  | [], _, _ => by rw [rsubCL]
  | x :: r, i, u => by rw [rsubCL, depthTL, depthTL, depth_rsubC us x, depth_rsubCL us op r]
end
/-! How great it is -/
mutual
theorem sub_size (us : List ConT) (hus : us.all validF = true) : ∀ (c : ConT) (b : Int), sizeF (mapF (substM us) c b) ≤ sizeF c * 20000
  | .mk op n s k names l, b => by
    rw [mapF]
    split
    · rw [sizeF, substM]
      split
      · rw [size_leafC]; omega
      · split
        · have : sizeF (varC ((ConT.mk op n s k names l).n - us.length)) = 1 := rfl
          rw [this]; omega
        · have hv := getD_valid hus (i := ((ConT.mk op n s k names l).n - b).toNat) (by omega)
          rw [shift_size _ _ _ _ (validF_formed hv)]
          have := (valid_parts hv).1
          omega
    · have := subL_size us hus l (if isBinder op = true then b + 1 else b)
      rw [sizeF, sizeF]; omega
theorem subL_size (us : List ConT) (hus : us.all validF = true) : ∀ (l : List ConT) (b : Int), sizeL (mapL (substM us) l b) ≤ sizeL l * 20000
  | [], b => by rw [mapL, sizeL]; omega
  | x :: r, b => by
    have h1 := sub_size us hus x b
    have h2 := subL_size us hus r b
    rw [mapL, sizeL, sizeL]; omega
end
theorem sub_okS (us : List ConT) (hl : ∀ x ∈ us, okS x) (c : ConT) (b : Int) (h : okS c) : okS (mapF (substM us) c b) := by
  refine mapF_okS _ c b h fun x b' hx => ?_
  have hx' := (leaves_mem c b x b' hx).2.1 h
  rw [substM]
  split
  · exact okS_leafC hx'
  · split
    · exact okS_varC _
    · exact okS_shift _ _ (okS_getD hl _)
theorem csub_ok (us : List ConT) (hus : us.all validF = true) (hl : ∀ x ∈ us, okS x) (c : ConT) (u : Int) (h : validF c = true) (h' : okS c) : okCon (csubM us c u) := by
  have h1 := sub_size us hus c u
  have h2 := (valid_parts h).1
  exact ⟨by rw [csubM]; omega, sub_okS us hl c u h'⟩
mutual
theorem mapT_okW {cf : ConT → Int → ConT} {vf : Int → Int → Int → TermT} (hc : ∀ c u, validF c = true → okS c → okCon (cf c u)) (hv : ∀ n u w, okT (vf n u w)) :
    ∀ (t : TermT) (u w : Int), okT t → wfT t = true → okT (mapT cf vf t u w)
  | .mk op n s con to k names l, u, w, hok, hwf => by
    rw [wfT, Bool.and_eq_true] at hwf
    obtain ⟨n1, _, n3, _⟩ := node_con hwf.1
    simp only [okT] at hok
    rw [mapT]
    by_cases ho : op = 1
    · rw [if_pos ho]; exact hv n u w
    · rw [if_neg ho]
      have hL := mapTL_okW hc hv op l 0 u w hok.2.2.2.2.2.2.2 hwf.2
      simp only [okT]
      refine ⟨hok.1, ?_, ?_, hok.2.2.2.1, hok.2.2.2.2.1, hok.2.2.2.2.2.1, ?_, hL⟩
      · split
        · rename_i e; exact hc con u (n1 e) hok.2.1.2
        · exact okCon_zero
      · split
        · rename_i e; exact hc to u (n3 e) hok.2.2.1.2
        · exact okCon_zero
      · rw [mapTL_len]; exact hok.2.2.2.2.2.2.1
theorem mapTL_okW {cf : ConT → Int → ConT} {vf : Int → Int → Int → TermT} (hc : ∀ c u, validF c = true → okS c → okCon (cf c u)) (hv : ∀ n u w, okT (vf n u w)) (op : Int) :
    ∀ (l : List TermT) (i : Nat) (u w : Int), okTs l → wfL l = true → okTs (mapTL cf vf op l i u w)
  | [], i, u, w, _, _ => by rw [mapTL]; trivial
  | x :: r, i, u, w, hok, hwf => by
    rw [wfL, Bool.and_eq_true] at hwf
    simp only [okTs] at hok
    rw [mapTL]
    simp only [okTs]
    exact ⟨mapT_okW hc hv x _ _ hok.1 hwf.1, mapTL_okW hc hv op r (i + 1) u w hok.2 hwf.2⟩
end
theorem subCM_okT (us : List ConT) (hus : us.all validF = true) (hl : ∀ x ∈ us, okS x) {t : TermT} (h : okT t) (h' : wfT t = true) : okT (subCM us t) :=
  mapT_okW (csub_ok us hus hl) (fun n _ _ => okT_var n) t 0 0 h h'
/-! Under binders -/
def wrapN : Nat → ConT → ConT
  | 0, c => c
  | m + 1, c => boundC 11 [] (wrapN m c)
theorem lam_node' : nodeF 11 0 ByteArray.empty [] [] 1 = true := by decide +kernel
theorem wrapN_formed {c : ConT} (h : formedF c = true) : ∀ m, formedF (wrapN m c) = true
  | 0 => h
  | m + 1 => by rw [wrapN, boundC, formedF, formedL, formedL, List.length_singleton, lam_node', wrapN_formed h m]; rfl
theorem wrapN_wt (c : ConT) : ∀ m, wtF (wrapN m c) = m + wtF c
  | 0 => by rw [wrapN]; omega
  | m + 1 => by
    rw [wrapN, boundC, wtF, wtL, wtL, wrapN_wt c m]
    simp [knL]; omega
theorem wrapN_sub (us : List ConT) (c : ConT) : ∀ (m : Nat) (d : Int), rSubstF us (wrapN m c) d = wrapN m (rSubstF us c (d + m))
  | 0, d => by rw [wrapN, wrapN, Int.natCast_zero, Int.add_zero]
  | m + 1, d => by
    have e : deepF 11 d = d + 1 := rfl
    have e2 : d + ((m + 1 : Nat) : Int) = d + 1 + (m : Int) := by omega
    rw [wrapN, wrapN, boundC, boundC, rSubstF, if_neg (by decide), rSubstL, rSubstL, e, wrapN_sub us c m (d + 1), e2]
theorem rtsubst_spec (by' : TermT) (hwf' : wfT by' = true) (hok' : okT by') (hwc' : wcT by') (hd' : depthT by' ≤ 1000) (t : TermT) : ∀ uc ut : Int, vokT t → okT t → 0 ≤ uc → uc + depthT t ≤ 20000 → 0 ≤ ut → ut + depthT t ≤ 20000 →
    Spec Tryz.prog 216 [pp (encT t), pp (encT by'), ii uc, ii ut] [] (encT (rsubT by' t uc ut)) [] := by
  revert t
  refine TermT.ind1 fun op n s con to k names l ih => ?_
  intro uc ut hwf hok h1 h2 h3 h4
  rw [vokT] at hwf
  obtain ⟨hnode, hwl⟩ := hwf
  obtain ⟨o1, o2, o3, o4⟩ := okT_con hok
  rw [depthT] at h2 h4
  have hn1 : op = 1 → 0 ≤ n ∧ n ≤ 20000 := fun e => (node_op1 (hnode e) e).2.2.2.2.2.2
  by_cases hop : op = 1
  · obtain ⟨g1, g2⟩ := hn1 hop
    have e1 : (op == 1) = true := by simp [hop]
    have hS := rtShift_spec uc ut (by omega) (by omega) (by omega) (by omega) by' hwf' hok' hwc' hd'
    rw [rsubT, if_pos hop]
    by_cases a1 : n = ut
    · have e2 : (n == ut) = true := by simp [a1]
      rw [if_pos a1]
      generalize rshT uc ut by' 0 0 = r at hS
      refine Spec.walk (rv := [.cell 8 52]) ann216 63 Tryz.func216 mixed rfl rfl (by kernel_rfl) rfl rfl fun hfit => ?_
      clear hfit
      simp only [go_sem, encT_mk, encT_sz, e1, e2]
      refine aCall_intro hS ?_
      simp only [go_sem, encT_sz]
    · have e2 : (n == ut) = false := by simp [a1]
      rw [if_neg a1]
      by_cases a2 : n > ut
      · have w1 : IntKind.i64.wrap (n - 1) = n - 1 := wrap_id (by omega) (by omega)
        rw [if_pos a2, encT_var]
        refine Spec.walk (rv := [.cell 8 52]) ann216 63 Tryz.func216 mixed rfl rfl (by kernel_rfl) rfl rfl fun hfit => ?_
        clear hfit
        simp only [go_sem, encT_mk, encT_sz, e1, e2, decide_eq_true a2, w1]
      · rw [if_neg a2]
        refine Spec.walk (rv := [.cell 8 52]) ann216 63 Tryz.func216 mixed rfl rfl (by kernel_rfl) rfl rfl fun hfit => ?_
        clear hfit
        simp only [go_sem, encT_mk, encT_sz, e1, e2, decide_eq_false a2]
  · have e1 : (op == 1) = false := by simp [hop]
    have hC := fun i => rtCons_spec op n s con to k names l i
    have hT := fun i => rtTerms_spec op n s con to k names l i
    simp only [encT_mk] at hC hT
    generalize hres : rsubT by' (.mk op n s con to k names l) uc ut = res
    rw [rsubT, if_neg hop] at hres
    have loop : ∀ out, out = rsubTL by' op l 0 uc ut → encT (.mk op n s con to k names out) = encT res := fun out e => by rw [e, hres]
    clear hres
    refine Spec.walk (rv := [.cell 8 52]) ann216 63 Tryz.func216 mixed rfl rfl (by kernel_rfl) rfl rfl fun hfit => ?_
    clear hfit
    simp only [go_sem, encT_mk, encT_sz, e1, List.length_map]
    refine aLoop_list (α := TermT) (β := Nat × List TermT) (fun rest b => ⟨[(10, ii b.1), (9, .one (.ptr (.loc 9) 0)), (4, pp (.ep (encT (.mk op n s con to k names l)) 0)), (3, ii ut), (2, ii uc), (5, pp (.ep (encT by') 0)), (8, .one (.ptr (.loc 8) 0))],
        [(.loc 8, zboxT), (.loc 9, ⟨.agg 18, .agg [.pv (.int .i64 op), .pv (.int .i64 n), .pv (.str s), .pv (.int .i64 con.op), .pv (.int .i64 con.n), .pv (.str con.s), .pv (.slice (con.k.map encK)), .pv (.slice (con.names.map .str)), .pv (.slice (con.l.map encC)), .pv (.int .i64 to.op), .pv (.int .i64 to.n), .pv (.str to.s), .pv (.slice (to.k.map encK)), .pv (.slice (to.names.map .str)), .pv (.slice (to.l.map encC)), .pv (.slice (k.map encK)), .pv (.slice (names.map .str)), acc 120 (.agg 18) (b.2.map encT)]⟩)], []⟩)
      (fun rest b => ∃ pre, l = pre ++ rest ∧ b.1 = pre.length ∧ b.2.length = pre.length ∧ b.2 ++ rsubTL by' op rest b.1 uc ut = rsubTL by' op l 0 uc ut) ?_ ?_ l (0, []) _ ?_ ⟨[], rfl, rfl, rfl, rfl⟩
    · rintro ⟨m, out⟩ ⟨pre, g1, g2, g3, g4⟩ K
      simp only [List.append_nil] at g1 g2 g3
      simp only [rsubTL, List.append_nil] at g4
      have hr := loop out g4
      rw [← hr]
      cases out <;> simp only [go_sem, g2, g1, lt_false (Int.le_refl _), List.length_map, acc, zboxT, encT_mk, List.map_nil, List.map_cons]
    · rintro x rest ⟨m, out⟩ ⟨pre, g1, g2, g3, g4⟩ K hK
      simp only at g2 g3 g4
      have hx : (l.map encT)[m]? = some (encT x) := by simp [g1, g2]
      have hlt : (m : Int) < l.length := by rw [g1, g2]; simp; omega
      have hll : m < l.length := by rw [g1, g2]; simp
      have hm : x ∈ l := by simp [g1]
      have hdx := depthTL_mem hm
      have w4 : IntKind.i64.wrap ((m : Int) + 1) = ((m + 1 : Nat) : Int) := by rw [wrap_id (by omega) (by omega)]; simp
      have hC := hC m
      have hT := hT m
      have b1 : 0 ≤ consR op m ∧ consR op m ≤ 1 := by rw [consR]; split <;> omega
      have b2 : 0 ≤ termsR op m ∧ termsR op m ≤ 1 := by rw [termsR]; (repeat' split) <;> omega
      have hI := ih x hm (uc + consR op m) (ut + termsR op m) (vokL_mem.1 hwl x hm) (okTs_mem.1 o4 x hm) (by omega) (by omega) (by omega) (by omega)
      have w5 : IntKind.i64.wrap (uc + consR op m) = uc + consR op m := wrap_id (by omega) (by omega)
      have w6 : IntKind.i64.wrap (ut + termsR op m) = ut + termsR op m := wrap_id (by omega) (by omega)
      have hK' := fun s' hs => hK (m + 1, out ++ [rsubT by' x (uc + consR op m) (ut + termsR op m)]) s' hs ⟨pre ++ [x], by simp [g1], by simp [g2], by simp [g3], by rw [← g4, rsubTL]; simp⟩
      clear hK g4 loop
      generalize rsubT by' x (uc + consR op m) (ut + termsR op m) = y at hI hK'
      have hb1 : (out.length + 1) * 312 ≤ 140737488355328 := by omega
      have hb2 : out.length + 1 ≤ maxLen := by rw [maxLen_eq]; omega
      generalize consR op m = q1 at hC hI w5
      generalize termsR op m = q2 at hT hI w6
      clear b1 b2 ih hdx
      cases out
      · simp only [go_sem, decide_eq_true hlt, Int.toNat_natCast, Int.natCast_nonneg, hx, encT_sz, encT_mk, acc, zboxT, List.map_nil, List.length_map]
        refine aCall_intro hC ?_
        simp only [go_sem, w5]
        refine aCall_intro hT ?_
        simp only [go_sem, w6]
        refine aCall_intro hI ?_
        simp only [go_sem, encT_sz, w4, one_le_maxLen]
        try (refine ⟨by kernel_rfl, ?_⟩; try simp only [go_sem, encT_sz, w4, one_le_maxLen])
        refine hK' _ ?_
        simp only [go_sem, acc, zboxT, encT_mk, List.map_cons, List.map_nil, List.nil_append]
      · simp only [List.length_cons] at hb1 hb2
        simp only [go_sem, decide_eq_true hlt, Int.toNat_natCast, Int.natCast_nonneg, hx, encT_sz, encT_mk, acc, zboxT, List.map_cons, List.length_map]
        refine aCall_intro hC ?_
        simp only [go_sem, w5]
        refine aCall_intro hT ?_
        simp only [go_sem, w6]
        refine aCall_intro hI ?_
        simp only [go_sem, encT_sz, w4, List.length_map, hb1, hb2]
        try (refine ⟨by kernel_rfl, ?_⟩; try simp only [go_sem, encT_sz, w4, List.length_map, hb1, hb2])
        refine hK' _ ?_
        simp only [go_sem, acc, zboxT, encT_mk, List.map_cons, List.map_append, List.map_nil, List.cons_append]
    · simp only [go_sem, acc, zboxT, encT_mk, Int.natCast_zero, List.map_nil]
theorem rtSubst_specV (t by' : TermT) (hwf : vokT t) (hok : okT t) (hd : depthT t ≤ 1000) (hwf' : wfT by' = true) (hok' : okT by') (hwc' : wcT by') (hd' : depthT by' ≤ 1000) :
    Spec Tryz.prog 140 [pp (encT t), pp (encT by')] [] (encT (rsubT by' t 0 0)) [] := by
  have hS := rtsubst_spec by' hwf' hok' hwc' hd' t 0 0 hwf hok (by decide) (by omega) (by decide) (by omega)
  refine Spec.walk (rv := [.cell 4 52]) ann140 8 Tryz.func140 mixed rfl rfl (by kernel_rfl) rfl rfl fun hfit => ?_
  clear hfit
  simp only [go_sem, encT_sz]
  refine aCall_intro hS ?_
  simp only [go_sem, encT_sz]
/-! Constructors -/
theorem encC_wrap (m : Nat) (c : ConT) : encC (wrapN (m + 1) c) = .agg [.int .i64 11, .int .i64 0, .str ByteArray.empty, .slice [], .slice [], .slice [encC (wrapN m c)]] := by
  rw [wrapN, boundC, encC_mk]; rfl
def zboxC : Box := ⟨.agg 6, .agg [.pv (.int .i64 0), .pv (.int .i64 0), .pv (.str ByteArray.empty), .nilS, .nilS, .nilS]⟩
theorem conSubst_spec (us : List ConT) (hus : ∀ x ∈ us, wtF x ≤ 900000000 ∧ formedF x = true) (hul : us.length ≤ 100000000) (c : ConT) (u : Nat) (hu : u ≤ 20000) (h4 : eqC c zeroC = true ∨ formedF c = true) (h5 : wtF c ≤ 900000000) :
    Spec Tryz.prog 274 [pp (encC c), pp (.slice (us.map encC)), ii u] [] (encC (crsub us c u)) [] := by
  have hN := NoCon_spec c
  rw [crsub]
  cases hz : eqC c zeroC with
  | true =>
    rw [hz] at hN
    rw [if_pos rfl]
    refine Spec.walk (rv := [.cell 6 28]) ann274 33 Tryz.func274 mixed rfl rfl (by kernel_rfl) rfl rfl fun hfit => ?_
    clear hfit
    simp only [go_sem, encC_sz]
    refine aCall_intro hN ?_
    simp only [go_sem, encC_sz]
  | false =>
    rw [hz] at hN h4
    have hf := h4.resolve_left (by decide)
    have hB := fun b => rBound_spec 11 [] (wrapN b c)
    have hS := rSubstTop_spec us hus hul (wrapN u c) (wrapN_formed hf u) (by rw [wrapN_wt]; omega)
    rw [wrapN_sub, Int.zero_add] at hS
    rw [if_neg (by decide)]
    generalize rSubstF us c u = D at hS
    refine Spec.walk (rv := [.cell 6 28]) ann274 33 Tryz.func274 mixed rfl rfl (by kernel_rfl) rfl rfl fun hfit => ?_
    clear hfit
    simp only [go_sem, encC_sz]
    refine aCall_intro hN ?_
    simp only [go_sem, encC_sz]
    refine aLoop_list (α := Unit) (β := Nat) (fun rest b => ⟨[(7, ii b), (3, .one (.ptr (.loc 3) 0)), (6, .one (.ptr (.loc 6) 0)), (2, ii u), (1, pp (.slice (us.map encC)))], [(.loc 3, ⟨.agg 6, pp (encC (wrapN b c))⟩), (.loc 6, zboxC)], []⟩)
      (fun rest b => rest.length + b = u) ?_ ?_ (List.replicate u ()) 0 _ ?_ (by simp)
    · rintro b hb K
      simp only [List.length_nil, Nat.zero_add] at hb
      subst hb
      simp only [go_sem, lt_false (Int.le_refl _), encC_sz]
      refine aCall_intro hS ?_
      simp only [go_sem, encC_sz]
      refine aLoop_list (α := Unit) (β := Nat) (fun rest j => ⟨[(8, ii j), (3, .one (.ptr (.loc 3) 0)), (6, .one (.ptr (.loc 6) 0)), (2, ii b)], [(.loc 3, ⟨.agg 6, pp (encC (wrapN rest.length D))⟩), (.loc 6, zboxC)], []⟩)
        (fun rest j => rest.length + j = b) ?_ ?_ (List.replicate b ()) 0 _ ?_ (by simp)
      · rintro j hj K
        simp only [List.length_nil, Nat.zero_add] at hj
        subst hj
        simp only [go_sem, lt_false (Int.le_refl _), encC_sz, List.length_nil, wrapN, zboxC]
      · rintro x rest j hj K hK
        simp only [List.length_cons] at hj
        have hlt : (j : Int) < b := by omega
        have w4 : IntKind.i64.wrap ((j : Int) + 1) = ((j + 1 : Nat) : Int) := by rw [wrap_id (by omega) (by omega)]; simp
        simp only [go_sem, decide_eq_true hlt, encC_sz, List.length_cons, encC_wrap, w4, zboxC]
        refine hK (j + 1) _ ?_ (by omega)
        simp only [go_sem, zboxC]
      · simp only [go_sem, zboxC, List.length_replicate, Int.natCast_zero]
    · rintro x rest b hb K hK
      simp only [List.length_cons] at hb
      have hlt : (b : Int) < u := by omega
      have w4 : IntKind.i64.wrap ((b : Int) + 1) = ((b + 1 : Nat) : Int) := by rw [wrap_id (by omega) (by omega)]; simp
      have hB := hB b
      have hw : boundC 11 [] (wrapN b c) = wrapN (b + 1) c := rfl
      rw [hw] at hB
      simp only [go_sem, decide_eq_true hlt, encC_sz, zboxC]
      refine aCall_intro hB ?_
      simp only [go_sem, encC_sz, w4, zboxC]
      refine hK (b + 1) _ ?_ (by omega)
      simp only [go_sem, zboxC]
    · simp only [go_sem, zboxC, Int.natCast_zero, wrapN]
theorem fit_or' {c : ConT} {b : Bool} (h : fitsC c b = true) : eqC c zeroC = true ∨ formedF c = true := by
  rw [fitsC] at h
  split at h
  · exact .inr (validF_formed h)
  · exact .inl h
theorem rtsubC_spec (us : List ConT) (hus : ∀ x ∈ us, wtF x ≤ 900000000 ∧ formedF x = true) (hul : us.length ≤ 100000000) (t : TermT) : ∀ uc : Int, wfT t = true → okT t → wcT t → 0 ≤ uc → uc + depthT t ≤ 20000 →
    Spec Tryz.prog 217 [pp (encT t), pp (.slice (us.map encC)), ii uc] [] (encT (rsubC us t uc)) [] := by
  revert t
  refine TermT.ind1 fun op n s con to k names l ih => ?_
  intro uc hwf hok hwc h1 h2
  rw [wfT, Bool.and_eq_true] at hwf
  obtain ⟨hnode, hwl⟩ := hwf
  obtain ⟨o1, o2, o3, o4⟩ := okT_con hok
  simp only [wcT] at hwc
  obtain ⟨c1, c2, c3⟩ := hwc
  rw [depthT] at h2
  obtain ⟨_, _, _, _, _, _, _, f1, f2⟩ := node_op hnode
  obtain ⟨u, rfl⟩ := Int.eq_ofNat_of_zero_le h1
  have hS1 := conSubst_spec us hus hul con u (by omega) (fit_or' f1) (by omega)
  have hS2 := conSubst_spec us hus hul to u (by omega) (fit_or' f2) (by omega)
  have hC := fun i => rtCons_spec op n s con to k names l i
  simp only [encC_cells, ConT.cells] at hS1 hS2
  simp only [encT_mk] at hC
  generalize hres : rsubC us (.mk op n s con to k names l) u = res
  rw [rsubC] at hres
  generalize crsub us con u = con' at hS1 hres
  generalize crsub us to u = to' at hS2 hres
  have loop : ∀ out, out = rsubCL us op l 0 u → encT (.mk op n s con' to' k names out) = encT res := fun out e => by rw [e, hres]
  clear hres
  refine Spec.walk (rv := [.cell 6 52]) ann217 48 Tryz.func217 mixed rfl rfl (by kernel_rfl) rfl rfl fun hfit => ?_
  clear hfit
  simp only [go_sem, encT_mk]
  refine aCall_intro hS1 ?_
  simp only [go_sem]
  refine aCall_intro hS2 ?_
  simp only [go_sem, List.length_map]
  clear hS1 hS2
  refine aLoop_list (α := TermT) (β := Nat × List TermT) (fun rest b => ⟨[(8, ii b.1), (7, .one (.ptr (.loc 7) 0)), (3, pp (.ep (encT (.mk op n s con to k names l)) 0)), (2, ii u), (1, pp (.slice (us.map encC))), (6, .one (.ptr (.loc 6) 0))],
      [(.loc 6, zboxT), (.loc 7, ⟨.agg 18, .agg [.pv (.int .i64 op), .pv (.int .i64 n), .pv (.str s), .pv (.int .i64 con'.op), .pv (.int .i64 con'.n), .pv (.str con'.s), .pv (.slice (con'.k.map encK)), .pv (.slice (con'.names.map .str)), .pv (.slice (con'.l.map encC)), .pv (.int .i64 to'.op), .pv (.int .i64 to'.n), .pv (.str to'.s), .pv (.slice (to'.k.map encK)), .pv (.slice (to'.names.map .str)), .pv (.slice (to'.l.map encC)), .pv (.slice (k.map encK)), .pv (.slice (names.map .str)), acc 90 (.agg 18) (b.2.map encT)]⟩)], []⟩)
    (fun rest b => ∃ pre, l = pre ++ rest ∧ b.1 = pre.length ∧ b.2.length = pre.length ∧ b.2 ++ rsubCL us op rest b.1 u = rsubCL us op l 0 u) ?_ ?_ l (0, []) _ ?_ ⟨[], rfl, rfl, rfl, rfl⟩
  · rintro ⟨m, out⟩ ⟨pre, g1, g2, g3, g4⟩ K
    simp only [List.append_nil] at g1 g2 g3
    simp only [rsubCL, List.append_nil] at g4
    have hr := loop out g4
    rw [← hr]
    cases out <;> simp only [go_sem, g2, g1, lt_false (Int.le_refl _), List.length_map, acc, zboxT, encT_mk, List.map_nil, List.map_cons]
  · rintro x rest ⟨m, out⟩ ⟨pre, g1, g2, g3, g4⟩ K hK
    simp only at g2 g3 g4
    have hx : (l.map encT)[m]? = some (encT x) := by simp [g1, g2]
    have hlt : (m : Int) < l.length := by rw [g1, g2]; simp; omega
    have hll : m < l.length := by rw [g1, g2]; simp
    have hm : x ∈ l := by simp [g1]
    have hdx := depthTL_mem hm
    have w4 : IntKind.i64.wrap ((m : Int) + 1) = ((m + 1 : Nat) : Int) := by rw [wrap_id (by omega) (by omega)]; simp
    have hC := hC m
    have b1 : 0 ≤ consR op m ∧ consR op m ≤ 1 := by rw [consR]; split <;> omega
    have hI := ih x hm (u + consR op m) (wfL_mem.1 hwl x hm) (okTs_mem.1 o4 x hm) (wcTs_mem.1 c3 x hm) (by omega) (by omega)
    have w5 : IntKind.i64.wrap (u + consR op m) = u + consR op m := wrap_id (by omega) (by omega)
    have hK' := fun s' hs => hK (m + 1, out ++ [rsubC us x (u + consR op m)]) s' hs ⟨pre ++ [x], by simp [g1], by simp [g2], by simp [g3], by rw [← g4, rsubCL]; simp⟩
    clear hK g4 loop
    generalize rsubC us x (u + consR op m) = y at hI hK'
    have hb1 : (out.length + 1) * 312 ≤ 140737488355328 := by omega
    have hb2 : out.length + 1 ≤ maxLen := by rw [maxLen_eq]; omega
    generalize consR op m = q1 at hC hI w5
    clear b1 ih hdx
    cases out
    · simp only [go_sem, decide_eq_true hlt, Int.toNat_natCast, Int.natCast_nonneg, hx, encT_sz, encT_mk, acc, zboxT, List.map_nil, List.length_map]
      refine aCall_intro hC ?_
      simp only [go_sem, w5]
      refine aCall_intro hI ?_
      simp only [go_sem, encT_sz, w4, one_le_maxLen]
      try (refine ⟨by kernel_rfl, ?_⟩; try simp only [go_sem, encT_sz, w4, one_le_maxLen])
      refine hK' _ ?_
      simp only [go_sem, acc, zboxT, encT_mk, List.map_cons, List.map_nil, List.nil_append]
    · simp only [List.length_cons] at hb1 hb2
      simp only [go_sem, decide_eq_true hlt, Int.toNat_natCast, Int.natCast_nonneg, hx, encT_sz, encT_mk, acc, zboxT, List.map_cons, List.length_map]
      refine aCall_intro hC ?_
      simp only [go_sem, w5]
      refine aCall_intro hI ?_
      simp only [go_sem, encT_sz, w4, List.length_map, hb1, hb2]
      try (refine ⟨by kernel_rfl, ?_⟩; try simp only [go_sem, encT_sz, w4, List.length_map, hb1, hb2])
      refine hK' _ ?_
      simp only [go_sem, acc, zboxT, encT_mk, List.map_cons, List.map_append, List.map_nil, List.cons_append]
  · simp only [go_sem, acc, zboxT, encT_mk, Int.natCast_zero, List.map_nil]
theorem rtSubstCons_spec (us : List ConT) (hus : ∀ x ∈ us, wtF x ≤ 900000000 ∧ formedF x = true) (hul : us.length ≤ 100000000) (t : TermT) (hwf : wfT t = true) (hok : okT t) (hwc : wcT t) (hd : depthT t ≤ 1000) :
    Spec Tryz.prog 141 [pp (encT t), pp (.slice (us.map encC))] [] (encT (rsubC us t 0)) [] := by
  have hS := rtsubC_spec us hus hul t 0 hwf hok hwc (by decide) (by omega)
  refine Spec.walk (rv := [.cell 4 52]) ann141 8 Tryz.func141 mixed rfl rfl (by kernel_rfl) rfl rfl fun hfit => ?_
  clear hfit
  simp only [go_sem, encT_sz]
  refine aCall_intro hS ?_
  simp only [go_sem, encT_sz]
end Go.Abs.Kon
