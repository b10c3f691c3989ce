/- Terms. -/
import Derived.Test.YthedhplpgfpodaaGreatDoorTermM
import Derived.Test.YthedhplpgfpodaaGreatDoorTermI
set_option linter.unusedSimpArgs false
set_option linter.unusedVariables false
namespace Go.Abs.Kon
open Go Go.Proofs Go.Abs
set_option maxRecDepth 100000
set_option maxHeartbeats 4000000
mutual
def qbm (by' : TermT) : TermT → Int → Int → TermT
 | .mk op n s con to k names l, u, w =>
   if op = 1 then (if n = w then rshT u w by' 0 0 else if n > w then varT (n - 1) else .mk op n s con to k names l)
   else .mk op n s con to k names (qct by' op l 0 u w)
def qct (by' : TermT) (op : Int) : List TermT → Nat → Int → Int → List TermT
 | [], _, _, _ => []
 | x :: r, i, u, w => qbm by' x (u + qat op i) (w + qam op i) :: qct by' op r (i + 1) u w
end
def crsub (us : List ConT) (c : ConT) (u : Int) : ConT := if eqC c zeroC = true then c else qbn us c u
mutual
def qdm (us : List ConT) : TermT → Int → TermT
 | .mk op n s con to k names l, u => .mk op n s (crsub us con u) (crsub us to u) k names (qcu us op l 0 u)
def qcu (us : List ConT) (op : Int) : List TermT → Nat → Int → List TermT
 | [], _, _ => []
 | x :: r, i, u => qdm us x (u + qat op i) :: qcu us op r (i + 1) u
end
theorem rsubTL_len (by' : TermT) (op : Int) : ∀ (l : List TermT) (i : Nat) (u w : Int), (qct by' op l i u w).length = l.length
 | [], i, u, w => by rw [qct]
 | x :: r, i, u, w => by rw [qct, List.length_cons, List.length_cons, rsubTL_len by' op r]
theorem rsubCL_len (us : List ConT) (op : Int) : ∀ (l : List TermT) (i : Nat) (u : Int), (qcu us op l i u).length = l.length
 | [], i, u => by rw [qcu]
 | x :: r, i, u => by rw [qcu, List.length_cons, List.length_cons, rsubCL_len us op r]
mutual
def vokT : TermT → Prop
 | .mk op n s con to k names l => (op = 1 → qbw op n s con to k names l.length = true) ∧ vokL l
def vokL : List TermT → Prop
 | [] => True
 | x :: r => vokT x ∧ vokL r
end
theorem vokL_mem : ∀ {l : List TermT}, vokL l ↔ ∀ x ∈ l, vokT x
 | [] => by simp [vokL]
 | x :: r => by simp [vokL, vokL_mem (l := r)]
mutual
theorem wf_vok : ∀ t : TermT, wfT t = true → vokT t
 | .mk op n s con to k names l, h => by
   rw [wfT, Bool.and_eq_true] at h
   rw [vokT]
   exact ⟨fun _ => h.1, wfL_vok l h.2⟩
theorem wfL_vok : ∀ l : List TermT, wfL l = true → vokL l
 | [], _ => trivial
 | x :: r, h => by
   rw [wfL, Bool.and_eq_true] at h
   exact ⟨wf_vok x h.1, wfL_vok r h.2⟩
end
mutual
theorem rsub_map (by' : TermT) (hb : wfT by' = true) : ∀ (t : TermT) (u w : Int), wfT t = true → qbm by' t u w = mapT cidM (vsubM by') t u w
 | .mk op i s con to k names l, u, w, hwf => by
   rw [wfT, Bool.and_eq_true] at hwf
   obtain ⟨n1, n2, n3, n4⟩ := qbi hwf.1
   rw [qbm, mapT]
   by_cases ho : op = 1
   ·obtain ⟨rfl, rfl, rfl, rfl, rfl, g, _⟩ := qbh hwf.1 ho
    have := List.eq_nil_of_length_eq_zero g
    subst this ho
    rw [if_pos rfl, if_pos rfl, vsubM, rsh_map u w by' 0 0 hb, shM]
    by_cases h : i = w
    ·rw [if_pos h, if_pos h]
    ·rw [if_neg h, if_neg h]
     by_cases h' : i > w
     ·rw [if_pos h', if_pos h']
     ·rw [if_neg h', if_neg h', varT]
   ·rw [if_neg ho, if_neg ho, rsubL_map by' hb op l 0 u w hwf.2 (fun e => by have := ins_le hwf.1 e; omega)]
    have hC : (if qad op = true then cidM con u else zeroC) = con := by
     by_cases e : qad op = true
     ·rw [if_pos e, cidM]
     ·rw [if_neg e, n2 (by simpa using e)]
    have hT : (if op = 8 then cidM to u else zeroC) = to := by
     by_cases e : op = 8
     ·rw [if_pos e, cidM]
     ·rw [if_neg e, n4 e]
    rw [hC, hT]
theorem rsubL_map (by' : TermT) (hb : wfT by' = true) (op : Int) : ∀ (l : List TermT) (i : Nat) (u w : Int), wfL l = true → (op = 9 → i + l.length ≤ 2) → qct by' op l i u w = qbx cidM (vsubM by') op l i u w
 | [], i, u, w, _, _ => by rw [qct, qbx]
 | x :: r, i, u, w, hwf, h9 => by
   rw [wfL, Bool.and_eq_true] at hwf
   have h9' : op = 9 → i ≤ 1 := fun e => by have := h9 e; rw [List.length_cons] at this; omega
   rw [qct, qbx, ins_cons h9', ins_terms h9', rsub_map by' hb x _ _ hwf.1, rsubL_map by' hb op r (i + 1) u w hwf.2 (fun e => by have := h9 e; rw [List.length_cons] at this; omega)]
end
theorem crsub_valid {us : List ConT} (hus : us.all qac = true) {c : ConT} (h : qac c = true) (u : Int) : crsub us c u = csubM us c u := by
 rw [crsub, if_neg (by rw [qdy h]; decide), csubM, ← substM_eq us hus, subst_eq us hus c u (qah h)]
theorem crsub_zero (us : List ConT) (u : Int) : crsub us zeroC u = zeroC := by rw [crsub, if_pos (eqC_refl _)]
mutual
theorem rsubC_map (us : List ConT) (hus : us.all qac = true) : ∀ (t : TermT) (u w : Int), wfT t = true → qdm us t u = mapT (csubM us) vidM t u w
 | .mk op i s con to k names l, u, w, hwf => by
   rw [wfT, Bool.and_eq_true] at hwf
   obtain ⟨n1, n2, n3, n4⟩ := qbi hwf.1
   rw [qdm, mapT]
   by_cases ho : op = 1
   ·obtain ⟨rfl, rfl, rfl, rfl, rfl, g, _⟩ := qbh hwf.1 ho
    have := List.eq_nil_of_length_eq_zero g
    subst this ho
    rw [if_pos rfl, vidM, crsub_zero, qcu, varT]
   ·rw [if_neg ho, rsubCL_map us hus op l 0 u w hwf.2 (fun e => by have := ins_le hwf.1 e; omega)]
    have hC : crsub us con u = (if qad op = true then csubM us con u else zeroC) := by
     by_cases e : qad op = true
     ·rw [if_pos e, crsub_valid hus (n1 e)]
     ·rw [if_neg e, n2 (by simpa using e), crsub_zero]
    have hT : crsub us to u = (if op = 8 then csubM us to u else zeroC) := by
     by_cases e : op = 8
     ·rw [if_pos e, crsub_valid hus (n3 e)]
     ·rw [if_neg e, n4 e, crsub_zero]
    rw [hC, hT]
theorem rsubCL_map (us : List ConT) (hus : us.all qac = true) (op : Int) : ∀ (l : List TermT) (i : Nat) (u w : Int), wfL l = true → (op = 9 → i + l.length ≤ 2) → qcu us op l i u = qbx (csubM us) vidM op l i u w
 | [], i, u, w, _, _ => by rw [qcu, qbx]
 | x :: r, i, u, w, hwf, h9 => by
   rw [wfL, Bool.and_eq_true] at hwf
   have h9' : op = 9 → i ≤ 1 := fun e => by have := h9 e; rw [List.length_cons] at this; omega
   rw [qcu, qbx, ins_cons h9', rsubC_map us hus x _ (w + insT op i) hwf.1, rsubCL_map us hus op r (i + 1) u w hwf.2 (fun e => by have := h9 e; rw [List.length_cons] at this; omega)]
end
mutual
theorem vok_rsubC (us : List ConT) : ∀ (t : TermT) (u : Int), vokT t → vokT (qdm us t u)
 | .mk op n s con to k names l, u, h => by
   rw [vokT] at h
   rw [qdm, vokT, rsubCL_len]
   refine ⟨fun e => ?_, vok_rsubCL us op l 0 u h.2⟩
   have h1 := h.1 e
   obtain ⟨_, rfl, rfl, _⟩ := qbh h1 e
   rw [crsub_zero]; exact h1
theorem vok_rsubCL (us : List ConT) (op : Int) : ∀ (l : List TermT) (i : Nat) (u : Int), vokL l → vokL (qcu us op l i u)
 | [], _, _, _ => by rw [qcu]; trivial
 | x :: r, i, u, h => by
   rw [qcu]
   exact ⟨vok_rsubC us x _ h.1, vok_rsubCL us op r _ u h.2⟩
end
mutual
theorem depth_rsubC (us : List ConT) : ∀ (t : TermT) (u : Int), depthT (qdm us t u) = depthT t
 | .mk op n s con to k names l, u => by rw [qdm, depthT, depthT, depth_rsubCL us op l 0 u]
theorem depth_rsubCL (us : List ConT) (op : Int) : ∀ (l : List TermT) (i : Nat) (u : Int), depthTL (qcu us op l i u) = depthTL l
 | [], _, _ => by rw [qcu]
 | x :: r, i, u => by rw [qcu, depthTL, depthTL, depth_rsubC us x, depth_rsubCL us op r]
end
/-! How great it is -/
mutual
theorem sub_size (us : List ConT) (hus : us.all qac = true) : ∀ (c : ConT) (b : Int), sizeF (mapF (qcq us) c b) ≤ sizeF c * 20000
 | .mk op n s k names l, b => by
   rw [mapF]
   split
   ·rw [sizeF, qcq]
    split
    ·rw [size_leafC]; omega
    ·split
     ·have : sizeF (varC ((ConT.mk op n s k names l).n - us.length)) = 1 := rfl
      rw [this]; omega
     ·have hv := getD_valid hus (i := ((ConT.mk op n s k names l).n - b).toNat) (by omega)
      rw [shift_size _ _ _ _ (qah hv)]
      have := (qda hv).1
      omega
   ·have := subL_size us hus l (if qai op = true then b + 1 else b)
    rw [sizeF, sizeF]; omega
theorem subL_size (us : List ConT) (hus : us.all qac = true) : ∀ (l : List ConT) (b : Int), sizeL (mapL (qcq us) l b) ≤ sizeL l * 20000
 | [], b => by rw [mapL, sizeL]; omega
 | x :: r, b => by
   have h1 := sub_size us hus x b
   have h2 := subL_size us hus r b
   rw [mapL, sizeL, sizeL]; omega
end
theorem sub_okS (us : List ConT) (hl : ∀ x ∈ us, okS x) (c : ConT) (b : Int) (h : okS c) : okS (mapF (qcq us) c b) := by
 refine mapF_okS _ c b h fun x b' hx => ?_
 have hx' := (leaves_mem c b x b' hx).2.1 h
 rw [qcq]
 split
 ·exact okS_leafC hx'
 ·split
  ·exact okS_varC _
  ·exact okS_shift _ _ (okS_getD hl _)
theorem csub_ok (us : List ConT) (hus : us.all qac = true) (hl : ∀ x ∈ us, okS x) (c : ConT) (u : Int) (h : qac c = true) (h' : okS c) : okCon (csubM us c u) := by
 have h1 := sub_size us hus c u
 have h2 := (qda h).1
 exact ⟨by rw [csubM]; omega, sub_okS us hl c u h'⟩
mutual
theorem mapT_okW {cf : ConT → Int → ConT} {vf : Int → Int → Int → TermT} (hc : ∀ c u, qac c = true → okS c → okCon (cf c u)) (hv : ∀ n u w, okT (vf n u w)) :
  ∀ (t : TermT) (u w : Int), okT t → wfT t = true → okT (mapT cf vf t u w)
 | .mk op n s con to k names l, u, w, hok, hwf => by
   rw [wfT, Bool.and_eq_true] at hwf
   obtain ⟨n1, _, n3, _⟩ := qbi hwf.1
   simp only [okT] at hok
   rw [mapT]
   by_cases ho : op = 1
   ·rw [if_pos ho]; exact hv n u w
   ·rw [if_neg ho]
    have hL := mapTL_okW hc hv op l 0 u w hok.2.2.2.2.2.2.2 hwf.2
    simp only [okT]
    refine ⟨hok.1, ?_, ?_, hok.2.2.2.1, hok.2.2.2.2.1, hok.2.2.2.2.2.1, ?_, hL⟩
    ·split
     ·rename_i e; exact hc con u (n1 e) hok.2.1.2
     ·exact okCon_zero
    ·split
     ·rename_i e; exact hc to u (n3 e) hok.2.2.1.2
     ·exact okCon_zero
    ·rw [mapTL_len]; exact hok.2.2.2.2.2.2.1
theorem mapTL_okW {cf : ConT → Int → ConT} {vf : Int → Int → Int → TermT} (hc : ∀ c u, qac c = true → okS c → okCon (cf c u)) (hv : ∀ n u w, okT (vf n u w)) (op : Int) :
  ∀ (l : List TermT) (i : Nat) (u w : Int), okTs l → wfL l = true → okTs (qbx cf vf op l i u w)
 | [], i, u, w, _, _ => by rw [qbx]; trivial
 | x :: r, i, u, w, hok, hwf => by
   rw [wfL, Bool.and_eq_true] at hwf
   simp only [okTs] at hok
   rw [qbx]
   simp only [okTs]
   exact ⟨mapT_okW hc hv x _ _ hok.1 hwf.1, mapTL_okW hc hv op r (i + 1) u w hok.2 hwf.2⟩
end
theorem subCM_okT (us : List ConT) (hus : us.all qac = true) (hl : ∀ x ∈ us, okS x) {t : TermT} (h : okT t) (h' : wfT t = true) : okT (subCM us t) :=
 mapT_okW (csub_ok us hus hl) (fun n _ _ => okT_var n) t 0 0 h h'
/-! Under binders -/
def wrapN : Nat → ConT → ConT
 | 0, c => c
 | m + 1, c => boundC 11 [] (wrapN m c)
theorem lam_node' : nodeF 11 0 ByteArray.empty [] [] 1 = true := by decide +kernel
theorem wrapN_formed {c : ConT} (h : formedF c = true) : ∀ m, formedF (wrapN m c) = true
 | 0 => h
 | m + 1 => by rw [wrapN, boundC, formedF, formedL, formedL, List.length_singleton, lam_node', wrapN_formed h m]; rfl
theorem wrapN_wt (c : ConT) : ∀ m, wtF (wrapN m c) = m + wtF c
 | 0 => by rw [wrapN]; omega
 | m + 1 => by
   rw [wrapN, boundC, wtF, wtL, wtL, wrapN_wt c m]
   simp [knL]; omega
theorem wrapN_sub (us : List ConT) (c : ConT) : ∀ (m : Nat) (d : Int), qbn us (wrapN m c) d = wrapN m (qbn us c (d + m))
 | 0, d => by rw [wrapN, wrapN, Int.natCast_zero, Int.add_zero]
 | m + 1, d => by
   have e : qbs 11 d = d + 1 := rfl
   have e2 : d + ((m + 1 : Nat) : Int) = d + 1 + (m : Int) := by omega
   rw [wrapN, wrapN, boundC, boundC, qbn, if_neg (by decide), qdd, qdd, e, wrapN_sub us c m (d + 1), e2]
theorem rtsubst_spec (by' : TermT) (hwf' : wfT by' = true) (hok' : okT by') (hwc' : wcT by') (hd' : depthT by' ≤ 1000) (t : TermT) : ∀ uc ut : Int, vokT t → okT t → 0 ≤ uc → uc + depthT t ≤ 20000 → 0 ≤ ut → ut + depthT t ≤ 20000 →
  Spec Tryz.prog 216 [pp (encT t), pp (encT by'), ii uc, ii ut] [] (encT (qbm by' t uc ut)) [] := by
 revert t
 refine TermT.ind1 fun op n s con to k names l ih => ?_
 intro uc ut hwf hok h1 h2 h3 h4
 rw [vokT] at hwf
 obtain ⟨hnode, hwl⟩ := hwf
 obtain ⟨o1, o2, o3, o4⟩ := qbo hok
 rw [depthT] at h2 h4
 have hn1 : op = 1 → 0 ≤ n ∧ n ≤ 20000 := fun e => (qbh (hnode e) e).2.2.2.2.2.2
 by_cases hop : op = 1
 ·obtain ⟨g1, g2⟩ := hn1 hop
  have e1 : (op == 1) = true := by simp [hop]
  have hS := rtShift_spec uc ut (by omega) (by omega) (by omega) (by omega) by' hwf' hok' hwc' hd'
  rw [qbm, if_pos hop]
  by_cases a1 : n = ut
  ·have e2 : (n == ut) = true := by simp [a1]
   rw [if_pos a1]
   generalize rshT uc ut by' 0 0 = r at hS
   refine wk (rv := [.cell 8 52]) ann216 63 Tryz.func216 ?_
   simp only [go_sem, eTm, eTz, e1, e2]
   refine aC hS ?_
   simp only [go_sem, eTz]
  ·have e2 : (n == ut) = false := by simp [a1]
   rw [if_neg a1]
   by_cases a2 : n > ut
   ·have w1 : IntKind.i64.wrap (n - 1) = n - 1 := wId (by omega) (by omega)
    rw [if_pos a2, encT_var]
    refine wk (rv := [.cell 8 52]) ann216 63 Tryz.func216 ?_
    simp only [go_sem, eTm, eTz, e1, e2, decide_eq_true a2, w1]
   ·rw [if_neg a2]
    refine wk (rv := [.cell 8 52]) ann216 63 Tryz.func216 ?_
    simp only [go_sem, eTm, eTz, e1, e2, decide_eq_false a2]
 ·have e1 : (op == 1) = false := by simp [hop]
  have hC := fun i => rtCons_spec op n s con to k names l i
  have hT := fun i => rtTerms_spec op n s con to k names l i
  simp only [eTm] at hC hT
  generalize hres : qbm by' (.mk op n s con to k names l) uc ut = res
  rw [qbm, if_neg hop] at hres
  have loop : ∀ out, out = qct by' op l 0 uc ut → encT (.mk op n s con to k names out) = encT res := fun out e => by rw [e, hres]
  clear hres
  refine wk (rv := [.cell 8 52]) ann216 63 Tryz.func216 ?_
  simp only [go_sem, eTm, eTz, e1, List.length_map]
  refine aLl (α := TermT) (β := Nat × List TermT) (fun rest b => ⟨[(10, ii b.1), (9, .one (.ptr (.loc 9) 0)), (4, pp (.ep (encT (.mk op n s con to k names l)) 0)), (3, ii ut), (2, ii uc), (5, pp (.ep (encT by') 0)), (8, .one (.ptr (.loc 8) 0))],
    [(.loc 8, zboxT), (.loc 9, ⟨.agg 18, .agg [.pv (.int .i64 op), .pv (.int .i64 n), .pv (.str s), .pv (.int .i64 con.op), .pv (.int .i64 con.n), .pv (.str con.s), .pv (.slice (con.k.map encK)), .pv (.slice (con.names.map .str)), .pv (.slice (con.l.map encC)), .pv (.int .i64 to.op), .pv (.int .i64 to.n), .pv (.str to.s), .pv (.slice (to.k.map encK)), .pv (.slice (to.names.map .str)), .pv (.slice (to.l.map encC)), .pv (.slice (k.map encK)), .pv (.slice (names.map .str)), acc 120 (.agg 18) (b.2.map encT)]⟩)], []⟩)
   (fun rest b => ∃ pre, l = pre ++ rest ∧ b.1 = pre.length ∧ b.2.length = pre.length ∧ b.2 ++ qct by' op rest b.1 uc ut = qct by' op l 0 uc ut) ?_ ?_ l (0, []) _ ?_ ⟨[], rfl, rfl, rfl, rfl⟩
  ·rintro ⟨m, out⟩ ⟨pre, g1, g2, g3, g4⟩ K
   simp only [List.append_nil] at g1 g2 g3
   simp only [qct, List.append_nil] at g4
   have hr := loop out g4
   rw [← hr]
   cases out <;> simp only [go_sem, g2, g1, ltF (Int.le_refl _), List.length_map, acc, zboxT, eTm, List.map_nil, List.map_cons]
  ·rintro x rest ⟨m, out⟩ ⟨pre, g1, g2, g3, g4⟩ K hK
   simp only at g2 g3 g4
   have hx : (l.map encT)[m]? = some (encT x) := by simp [g1, g2]
   have hlt : (m : Int) < l.length := by rw [g1, g2]; simp; omega
   have hll : m < l.length := by rw [g1, g2]; simp
   have hm : x ∈ l := by simp [g1]
   have hdx := qb1 hm
   have w4 : IntKind.i64.wrap ((m : Int) + 1) = ((m + 1 : Nat) : Int) := by rw [wId (by omega) (by omega)]; simp
   have hC := hC m
   have hT := hT m
   have b1 : 0 ≤ qat op m ∧ qat op m ≤ 1 := by rw [qat]; split <;> omega
   have b2 : 0 ≤ qam op m ∧ qam op m ≤ 1 := by rw [qam]; (repeat' split) <;> omega
   have hI := ih x hm (uc + qat op m) (ut + qam op m) (vokL_mem.1 hwl x hm) (okTs_mem.1 o4 x hm) (by omega) (by omega) (by omega) (by omega)
   have w5 : IntKind.i64.wrap (uc + qat op m) = uc + qat op m := wId (by omega) (by omega)
   have w6 : IntKind.i64.wrap (ut + qam op m) = ut + qam op m := wId (by omega) (by omega)
   have hK' := fun s' hs => hK (m + 1, out ++ [qbm by' x (uc + qat op m) (ut + qam op m)]) s' hs ⟨pre ++ [x], by simp [g1], by simp [g2], by simp [g3], by rw [← g4, qct]; simp⟩
   clear hK g4 loop
   generalize qbm by' x (uc + qat op m) (ut + qam op m) = y at hI hK'
   have hb1 : (out.length + 1) * 312 ≤ 140737488355328 := by omega
   have hb2 : out.length + 1 ≤ maxLen := by rw [mLe]; omega
   generalize qat op m = q1 at hC hI w5
   generalize qam op m = q2 at hT hI w6
   clear b1 b2 ih hdx
   cases out
   ·simp only [go_sem, decide_eq_true hlt, Int.toNat_natCast, Int.natCast_nonneg, hx, eTz, eTm, acc, zboxT, List.map_nil, List.length_map]
    refine aC hC ?_
    simp only [go_sem, w5]
    refine aC hT ?_
    simp only [go_sem, w6]
    refine aC hI ?_
    simp only [go_sem, eTz, w4, oneM]
    try (refine ⟨by kernel_rfl, ?_⟩; try simp only [go_sem, eTz, w4, oneM])
    refine hK' _ ?_
    simp only [go_sem, acc, zboxT, eTm, List.map_cons, List.map_nil, List.nil_append]
   ·simp only [List.length_cons] at hb1 hb2
    simp only [go_sem, decide_eq_true hlt, Int.toNat_natCast, Int.natCast_nonneg, hx, eTz, eTm, acc, zboxT, List.map_cons, List.length_map]
    refine aC hC ?_
    simp only [go_sem, w5]
    refine aC hT ?_
    simp only [go_sem, w6]
    refine aC hI ?_
    simp only [go_sem, eTz, w4, List.length_map, hb1, hb2]
    try (refine ⟨by kernel_rfl, ?_⟩; try simp only [go_sem, eTz, w4, List.length_map, hb1, hb2])
    refine hK' _ ?_
    simp only [go_sem, acc, zboxT, eTm, List.map_cons, List.map_append, List.map_nil, List.cons_append]
  ·simp only [go_sem, acc, zboxT, eTm, Int.natCast_zero, List.map_nil]
theorem rtSubst_specV (t by' : TermT) (hwf : vokT t) (hok : okT t) (hd : depthT t ≤ 1000) (hwf' : wfT by' = true) (hok' : okT by') (hwc' : wcT by') (hd' : depthT by' ≤ 1000) :
  Spec Tryz.prog 140 [pp (encT t), pp (encT by')] [] (encT (qbm by' t 0 0)) [] := by
 have hS := rtsubst_spec by' hwf' hok' hwc' hd' t 0 0 hwf hok (by decide) (by omega) (by decide) (by omega)
 refine wk (rv := [.cell 4 52]) ann140 8 Tryz.func140 ?_
 simp only [go_sem, eTz]
 refine aC hS ?_
 simp only [go_sem, eTz]
/-! Constructors -/
theorem encC_wrap (m : Nat) (c : ConT) : encC (wrapN (m + 1) c) = .agg [.int .i64 11, .int .i64 0, .str ByteArray.empty, .slice [], .slice [], .slice [encC (wrapN m c)]] := by
 rw [wrapN, boundC, eCm]; rfl
def zboxC : Box := ⟨.agg 6, .agg [.pv (.int .i64 0), .pv (.int .i64 0), .pv (.str ByteArray.empty), .nilS, .nilS, .nilS]⟩
theorem conSubst_spec (us : List ConT) (hus : ∀ x ∈ us, wtF x ≤ 900000000 ∧ formedF x = true) (hul : us.length ≤ 100000000) (c : ConT) (u : Nat) (hu : u ≤ 20000) (h4 : eqC c zeroC = true ∨ formedF c = true) (h5 : wtF c ≤ 900000000) :
  Spec Tryz.prog 274 [pp (encC c), pp (.slice (us.map encC)), ii u] [] (encC (crsub us c u)) [] := by
 have hN := NoCon_spec c
 rw [crsub]
 cases hz : eqC c zeroC with
 | true =>
   rw [hz] at hN
   rw [if_pos rfl]
   refine wk (rv := [.cell 6 28]) ann274 33 Tryz.func274 ?_
   simp only [go_sem, eCz]
   refine aC hN ?_
   simp only [go_sem, eCz]
 | false =>
   rw [hz] at hN h4
   have hf := h4.resolve_left (by decide)
   have hB := fun b => rBound_spec 11 [] (wrapN b c)
   have hS := rSubstTop_spec us hus hul (wrapN u c) (wrapN_formed hf u) (by rw [wrapN_wt]; omega)
   rw [wrapN_sub, Int.zero_add] at hS
   rw [if_neg (by decide)]
   generalize qbn us c u = D at hS
   refine wk (rv := [.cell 6 28]) ann274 33 Tryz.func274 ?_
   simp only [go_sem, eCz]
   refine aC hN ?_
   simp only [go_sem, eCz]
   refine aLl (α := Unit) (β := Nat) (fun rest b => ⟨[(7, ii b), (3, .one (.ptr (.loc 3) 0)), (6, .one (.ptr (.loc 6) 0)), (2, ii u), (1, pp (.slice (us.map encC)))], [(.loc 3, ⟨.agg 6, pp (encC (wrapN b c))⟩), (.loc 6, zboxC)], []⟩)
    (fun rest b => rest.length + b = u) ?_ ?_ (List.replicate u ()) 0 _ ?_ (by simp)
   ·rintro b hb K
    simp only [List.length_nil, Nat.zero_add] at hb
    subst hb
    simp only [go_sem, ltF (Int.le_refl _), eCz]
    refine aC hS ?_
    simp only [go_sem, eCz]
    refine aLl (α := Unit) (β := Nat) (fun rest j => ⟨[(8, ii j), (3, .one (.ptr (.loc 3) 0)), (6, .one (.ptr (.loc 6) 0)), (2, ii b)], [(.loc 3, ⟨.agg 6, pp (encC (wrapN rest.length D))⟩), (.loc 6, zboxC)], []⟩)
     (fun rest j => rest.length + j = b) ?_ ?_ (List.replicate b ()) 0 _ ?_ (by simp)
    ·rintro j hj K
     simp only [List.length_nil, Nat.zero_add] at hj
     subst hj
     simp only [go_sem, ltF (Int.le_refl _), eCz, List.length_nil, wrapN, zboxC]
    ·rintro x rest j hj K hK
     simp only [List.length_cons] at hj
     have hlt : (j : Int) < b := by omega
     have w4 : IntKind.i64.wrap ((j : Int) + 1) = ((j + 1 : Nat) : Int) := by rw [wId (by omega) (by omega)]; simp
     simp only [go_sem, decide_eq_true hlt, eCz, List.length_cons, encC_wrap, w4, zboxC]
     refine hK (j + 1) _ ?_ (by omega)
     simp only [go_sem, zboxC]
    ·simp only [go_sem, zboxC, List.length_replicate, Int.natCast_zero]
   ·rintro x rest b hb K hK
    simp only [List.length_cons] at hb
    have hlt : (b : Int) < u := by omega
    have w4 : IntKind.i64.wrap ((b : Int) + 1) = ((b + 1 : Nat) : Int) := by rw [wId (by omega) (by omega)]; simp
    have hB := hB b
    have hw : boundC 11 [] (wrapN b c) = wrapN (b + 1) c := rfl
    rw [hw] at hB
    simp only [go_sem, decide_eq_true hlt, eCz, zboxC]
    refine aC hB ?_
    simp only [go_sem, eCz, w4, zboxC]
    refine hK (b + 1) _ ?_ (by omega)
    simp only [go_sem, zboxC]
   ·simp only [go_sem, zboxC, Int.natCast_zero, wrapN]
theorem fit_or' {c : ConT} {b : Bool} (h : qav c b = true) : eqC c zeroC = true ∨ formedF c = true := by
 rw [qav] at h
 split at h
 ·exact .inr (qah h)
 ·exact .inl h
theorem rtsubC_spec (us : List ConT) (hus : ∀ x ∈ us, wtF x ≤ 900000000 ∧ formedF x = true) (hul : us.length ≤ 100000000) (t : TermT) : ∀ uc : Int, wfT t = true → okT t → wcT t → 0 ≤ uc → uc + depthT t ≤ 20000 →
  Spec Tryz.prog 217 [pp (encT t), pp (.slice (us.map encC)), ii uc] [] (encT (qdm us t uc)) [] := by
 revert t
 refine TermT.ind1 fun op n s con to k names l ih => ?_
 intro uc hwf hok hwc h1 h2
 rw [wfT, Bool.and_eq_true] at hwf
 obtain ⟨hnode, hwl⟩ := hwf
 obtain ⟨o1, o2, o3, o4⟩ := qbo hok
 simp only [wcT] at hwc
 obtain ⟨c1, c2, c3⟩ := hwc
 rw [depthT] at h2
 obtain ⟨_, _, _, _, _, _, _, f1, f2⟩ := qc5 hnode
 obtain ⟨u, rfl⟩ := Int.eq_ofNat_of_zero_le h1
 have hS1 := conSubst_spec us hus hul con u (by omega) (fit_or' f1) (by omega)
 have hS2 := conSubst_spec us hus hul to u (by omega) (fit_or' f2) (by omega)
 have hC := fun i => rtCons_spec op n s con to k names l i
 simp only [qal, ConT.cells] at hS1 hS2
 simp only [eTm] at hC
 generalize hres : qdm us (.mk op n s con to k names l) u = res
 rw [qdm] at hres
 generalize crsub us con u = con' at hS1 hres
 generalize crsub us to u = to' at hS2 hres
 have loop : ∀ out, out = qcu us op l 0 u → encT (.mk op n s con' to' k names out) = encT res := fun out e => by rw [e, hres]
 clear hres
 refine wk (rv := [.cell 6 52]) ann217 48 Tryz.func217 ?_
 simp only [go_sem, eTm]
 refine aC hS1 ?_
 simp only [go_sem]
 refine aC hS2 ?_
 simp only [go_sem, List.length_map]
 clear hS1 hS2
 refine aLl (α := TermT) (β := Nat × List TermT) (fun rest b => ⟨[(8, ii b.1), (7, .one (.ptr (.loc 7) 0)), (3, pp (.ep (encT (.mk op n s con to k names l)) 0)), (2, ii u), (1, pp (.slice (us.map encC))), (6, .one (.ptr (.loc 6) 0))],
   [(.loc 6, zboxT), (.loc 7, ⟨.agg 18, .agg [.pv (.int .i64 op), .pv (.int .i64 n), .pv (.str s), .pv (.int .i64 con'.op), .pv (.int .i64 con'.n), .pv (.str con'.s), .pv (.slice (con'.k.map encK)), .pv (.slice (con'.names.map .str)), .pv (.slice (con'.l.map encC)), .pv (.int .i64 to'.op), .pv (.int .i64 to'.n), .pv (.str to'.s), .pv (.slice (to'.k.map encK)), .pv (.slice (to'.names.map .str)), .pv (.slice (to'.l.map encC)), .pv (.slice (k.map encK)), .pv (.slice (names.map .str)), acc 90 (.agg 18) (b.2.map encT)]⟩)], []⟩)
  (fun rest b => ∃ pre, l = pre ++ rest ∧ b.1 = pre.length ∧ b.2.length = pre.length ∧ b.2 ++ qcu us op rest b.1 u = qcu us op l 0 u) ?_ ?_ l (0, []) _ ?_ ⟨[], rfl, rfl, rfl, rfl⟩
 ·rintro ⟨m, out⟩ ⟨pre, g1, g2, g3, g4⟩ K
  simp only [List.append_nil] at g1 g2 g3
  simp only [qcu, List.append_nil] at g4
  have hr := loop out g4
  rw [← hr]
  cases out <;> simp only [go_sem, g2, g1, ltF (Int.le_refl _), List.length_map, acc, zboxT, eTm, List.map_nil, List.map_cons]
 ·rintro x rest ⟨m, out⟩ ⟨pre, g1, g2, g3, g4⟩ K hK
  simp only at g2 g3 g4
  have hx : (l.map encT)[m]? = some (encT x) := by simp [g1, g2]
  have hlt : (m : Int) < l.length := by rw [g1, g2]; simp; omega
  have hll : m < l.length := by rw [g1, g2]; simp
  have hm : x ∈ l := by simp [g1]
  have hdx := qb1 hm
  have w4 : IntKind.i64.wrap ((m : Int) + 1) = ((m + 1 : Nat) : Int) := by rw [wId (by omega) (by omega)]; simp
  have hC := hC m
  have b1 : 0 ≤ qat op m ∧ qat op m ≤ 1 := by rw [qat]; split <;> omega
  have hI := ih x hm (u + qat op m) (wfL_mem.1 hwl x hm) (okTs_mem.1 o4 x hm) (wcTs_mem.1 c3 x hm) (by omega) (by omega)
  have w5 : IntKind.i64.wrap (u + qat op m) = u + qat op m := wId (by omega) (by omega)
  have hK' := fun s' hs => hK (m + 1, out ++ [qdm us x (u + qat op m)]) s' hs ⟨pre ++ [x], by simp [g1], by simp [g2], by simp [g3], by rw [← g4, qcu]; simp⟩
  clear hK g4 loop
  generalize qdm us x (u + qat op m) = y at hI hK'
  have hb1 : (out.length + 1) * 312 ≤ 140737488355328 := by omega
  have hb2 : out.length + 1 ≤ maxLen := by rw [mLe]; omega
  generalize qat op m = q1 at hC hI w5
  clear b1 ih hdx
  cases out
  ·simp only [go_sem, decide_eq_true hlt, Int.toNat_natCast, Int.natCast_nonneg, hx, eTz, eTm, acc, zboxT, List.map_nil, List.length_map]
   refine aC hC ?_
   simp only [go_sem, w5]
   refine aC hI ?_
   simp only [go_sem, eTz, w4, oneM]
   try (refine ⟨by kernel_rfl, ?_⟩; try simp only [go_sem, eTz, w4, oneM])
   refine hK' _ ?_
   simp only [go_sem, acc, zboxT, eTm, List.map_cons, List.map_nil, List.nil_append]
  ·simp only [List.length_cons] at hb1 hb2
   simp only [go_sem, decide_eq_true hlt, Int.toNat_natCast, Int.natCast_nonneg, hx, eTz, eTm, acc, zboxT, List.map_cons, List.length_map]
   refine aC hC ?_
   simp only [go_sem, w5]
   refine aC hI ?_
   simp only [go_sem, eTz, w4, List.length_map, hb1, hb2]
   try (refine ⟨by kernel_rfl, ?_⟩; try simp only [go_sem, eTz, w4, List.length_map, hb1, hb2])
   refine hK' _ ?_
   simp only [go_sem, acc, zboxT, eTm, List.map_cons, List.map_append, List.map_nil, List.cons_append]
 ·simp only [go_sem, acc, zboxT, eTm, Int.natCast_zero, List.map_nil]
theorem rtSubstCons_spec (us : List ConT) (hus : ∀ x ∈ us, wtF x ≤ 900000000 ∧ formedF x = true) (hul : us.length ≤ 100000000) (t : TermT) (hwf : wfT t = true) (hok : okT t) (hwc : wcT t) (hd : depthT t ≤ 1000) :
  Spec Tryz.prog 141 [pp (encT t), pp (.slice (us.map encC))] [] (encT (qdm us t 0)) [] := by
 have hS := rtsubC_spec us hus hul t 0 hwf hok hwc (by decide) (by omega)
 refine wk (rv := [.cell 4 52]) ann141 8 Tryz.func141 ?_
 simp only [go_sem, eTz]
 refine aC hS ?_
 simp only [go_sem, eTz]
end Go.Abs.Kon
