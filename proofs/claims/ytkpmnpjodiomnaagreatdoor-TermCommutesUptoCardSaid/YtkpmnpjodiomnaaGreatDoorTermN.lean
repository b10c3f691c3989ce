/- Terms: the reference's substituting, plain and walked. -/
import Derived.Test.YtkpmnpjodiomnaaGreatDoorTermM
set_option linter.unusedSimpArgs false
set_option linter.unusedVariables false
namespace Go.Abs.Kon
open Go Go.Proofs Go.Abs
set_option maxRecDepth 100000
set_option maxHeartbeats 4000000

mutual
def rsubT (by' : TermT) : TermT → Int → Int → TermT
  | .mk op n s con to k names l, u, w =>
    if op = 1 then (if n = w then rshT u w by' 0 0 else if n > w then varT (n - 1) else .mk op n s con to k names l)
    else .mk op n s con to k names (rsubTL by' op l 0 u w)
def rsubTL (by' : TermT) (op : Int) : List TermT → Nat → Int → Int → List TermT
  | [], _, _, _ => []
  | x :: r, i, u, w => rsubT by' x (u + consR op i) (w + termsR op i) :: rsubTL by' op r (i + 1) u w
end
def crsub (us : List ConT) (c : ConT) (u : Int) : ConT := if eqC c zeroC = true then c else rSubstF us c u
mutual
def rsubC (us : List ConT) : TermT → Int → TermT
  | .mk op n s con to k names l, u => .mk op n s (crsub us con u) (crsub us to u) k names (rsubCL us op l 0 u)
def rsubCL (us : List ConT) (op : Int) : List TermT → Nat → Int → List TermT
  | [], _, _ => []
  | x :: r, i, u => rsubC us x (u + consR op i) :: rsubCL us op r (i + 1) u
end
theorem rsubTL_len (by' : TermT) (op : Int) : ∀ (l : List TermT) (i : Nat) (u w : Int), (rsubTL by' op l i u w).length = l.length
  | [], i, u, w => by rw [rsubTL]
  | x :: r, i, u, w => by rw [rsubTL, List.length_cons, List.length_cons, rsubTL_len by' op r]
theorem rsubCL_len (us : List ConT) (op : Int) : ∀ (l : List TermT) (i : Nat) (u : Int), (rsubCL us op l i u).length = l.length
  | [], i, u => by rw [rsubCL]
  | x :: r, i, u => by rw [rsubCL, List.length_cons, List.length_cons, rsubCL_len us op r]
mutual
theorem rsub_map (by' : TermT) (hb : wfT by' = true) : ∀ (t : TermT) (u w : Int), wfT t = true → rsubT by' t u w = mapT cidM (vsubM by') t u w
  | .mk op i s con to k names l, u, w, hwf => by
    rw [wfT, Bool.and_eq_true] at hwf
    obtain ⟨n1, n2, n3, n4⟩ := node_con hwf.1
    rw [rsubT, mapT]
    by_cases ho : op = 1
    · obtain ⟨rfl, rfl, rfl, rfl, rfl, g, _⟩ := node_op1 hwf.1 ho
      have := List.eq_nil_of_length_eq_zero g
      subst this ho
      rw [if_pos rfl, if_pos rfl, vsubM, rsh_map u w by' 0 0 hb, shM]
      by_cases h : i = w
      · rw [if_pos h, if_pos h]
      · rw [if_neg h, if_neg h]
        by_cases h' : i > w
        · rw [if_pos h', if_pos h']
        · rw [if_neg h', if_neg h', varT]
    · rw [if_neg ho, if_neg ho, rsubL_map by' hb op l 0 u w hwf.2 (fun e => by have := ins_le hwf.1 e; omega)]
      have hC : (if hasConF op = true then cidM con u else zeroC) = con := by
        by_cases e : hasConF op = true
        · rw [if_pos e, cidM]
        · rw [if_neg e, n2 (by simpa using e)]
      have hT : (if op = 8 then cidM to u else zeroC) = to := by
        by_cases e : op = 8
        · rw [if_pos e, cidM]
        · rw [if_neg e, n4 e]
      rw [hC, hT]
theorem rsubL_map (by' : TermT) (hb : wfT by' = true) (op : Int) : ∀ (l : List TermT) (i : Nat) (u w : Int), wfL l = true → (op = 9 → i + l.length ≤ 2) → rsubTL by' op l i u w = mapTL cidM (vsubM by') op l i u w
  | [], i, u, w, _, _ => by rw [rsubTL, mapTL]
  | x :: r, i, u, w, hwf, h9 => by
    rw [wfL, Bool.and_eq_true] at hwf
    have h9' : op = 9 → i ≤ 1 := fun e => by have := h9 e; rw [List.length_cons] at this; omega
    rw [rsubTL, mapTL, ins_cons h9', ins_terms h9', rsub_map by' hb x _ _ hwf.1, rsubL_map by' hb op r (i + 1) u w hwf.2 (fun e => by have := h9 e; rw [List.length_cons] at this; omega)]
end
theorem crsub_valid {us : List ConT} (hus : us.all validF = true) {c : ConT} (h : validF c = true) (u : Int) : crsub us c u = csubM us c u := by
  rw [crsub, if_neg (by rw [valid_notzero h]; decide), csubM, ← substM_eq us hus, subst_eq us hus c u (validF_formed h)]
theorem crsub_zero (us : List ConT) (u : Int) : crsub us zeroC u = zeroC := by rw [crsub, if_pos (eqC_refl _)]
mutual
theorem rsubC_map (us : List ConT) (hus : us.all validF = true) : ∀ (t : TermT) (u w : Int), wfT t = true → rsubC us t u = mapT (csubM us) vidM t u w
  | .mk op i s con to k names l, u, w, hwf => by
    rw [wfT, Bool.and_eq_true] at hwf
    obtain ⟨n1, n2, n3, n4⟩ := node_con hwf.1
    rw [rsubC, mapT]
    by_cases ho : op = 1
    · obtain ⟨rfl, rfl, rfl, rfl, rfl, g, _⟩ := node_op1 hwf.1 ho
      have := List.eq_nil_of_length_eq_zero g
      subst this ho
      rw [if_pos rfl, vidM, crsub_zero, rsubCL, varT]
    · rw [if_neg ho, rsubCL_map us hus op l 0 u w hwf.2 (fun e => by have := ins_le hwf.1 e; omega)]
      have hC : crsub us con u = (if hasConF op = true then csubM us con u else zeroC) := by
        by_cases e : hasConF op = true
        · rw [if_pos e, crsub_valid hus (n1 e)]
        · rw [if_neg e, n2 (by simpa using e), crsub_zero]
      have hT : crsub us to u = (if op = 8 then csubM us to u else zeroC) := by
        by_cases e : op = 8
        · rw [if_pos e, crsub_valid hus (n3 e)]
        · rw [if_neg e, n4 e, crsub_zero]
      rw [hC, hT]
theorem rsubCL_map (us : List ConT) (hus : us.all validF = true) (op : Int) : ∀ (l : List TermT) (i : Nat) (u w : Int), wfL l = true → (op = 9 → i + l.length ≤ 2) → rsubCL us op l i u = mapTL (csubM us) vidM op l i u w
  | [], i, u, w, _, _ => by rw [rsubCL, mapTL]
  | x :: r, i, u, w, hwf, h9 => by
    rw [wfL, Bool.and_eq_true] at hwf
    have h9' : op = 9 → i ≤ 1 := fun e => by have := h9 e; rw [List.length_cons] at this; omega
    rw [rsubCL, mapTL, ins_cons h9', rsubC_map us hus x _ (w + insT op i) hwf.1, rsubCL_map us hus op r (i + 1) u w hwf.2 (fun e => by have := h9 e; rw [List.length_cons] at this; omega)]
end

/-! How great it is -/

mutual
theorem sub_size (us : List ConT) (hus : us.all validF = true) : ∀ (c : ConT) (b : Int), sizeF (mapF (substM us) c b) ≤ sizeF c * 20000
  | .mk op n s k names l, b => by
    rw [mapF]
    split
    · rw [sizeF, substM]
      split
      · rw [size_leafC]; omega
      · split
        · have : sizeF (varC ((ConT.mk op n s k names l).n - us.length)) = 1 := rfl
          rw [this]; omega
        · have hv := getD_valid hus (i := ((ConT.mk op n s k names l).n - b).toNat) (by omega)
          rw [shift_size _ _ _ _ (validF_formed hv)]
          have := (valid_parts hv).1
          omega
    · have := subL_size us hus l (if isBinder op = true then b + 1 else b)
      rw [sizeF, sizeF]; omega
theorem subL_size (us : List ConT) (hus : us.all validF = true) : ∀ (l : List ConT) (b : Int), sizeL (mapL (substM us) l b) ≤ sizeL l * 20000
  | [], b => by rw [mapL, sizeL]; omega
  | x :: r, b => by
    have h1 := sub_size us hus x b
    have h2 := subL_size us hus r b
    rw [mapL, sizeL, sizeL]; omega
end
theorem sub_okS (us : List ConT) (hl : ∀ x ∈ us, okS x) (c : ConT) (b : Int) (h : okS c) : okS (mapF (substM us) c b) := by
  refine mapF_okS _ c b h fun x b' hx => ?_
  have hx' := (leaves_mem c b x b' hx).2.1 h
  rw [substM]
  split
  · exact okS_leafC hx'
  · split
    · exact okS_varC _
    · exact okS_shift _ _ (okS_getD hl _)
theorem csub_ok (us : List ConT) (hus : us.all validF = true) (hl : ∀ x ∈ us, okS x) (c : ConT) (u : Int) (h : validF c = true) (h' : okS c) : okCon (csubM us c u) := by
  have h1 := sub_size us hus c u
  have h2 := (valid_parts h).1
  exact ⟨by rw [csubM]; omega, sub_okS us hl c u h'⟩
mutual
theorem mapT_okW {cf : ConT → Int → ConT} {vf : Int → Int → Int → TermT} (hc : ∀ c u, validF c = true → okS c → okCon (cf c u)) (hv : ∀ n u w, okT (vf n u w)) :
    ∀ (t : TermT) (u w : Int), okT t → wfT t = true → okT (mapT cf vf t u w)
  | .mk op n s con to k names l, u, w, hok, hwf => by
    rw [wfT, Bool.and_eq_true] at hwf
    obtain ⟨n1, _, n3, _⟩ := node_con hwf.1
    simp only [okT] at hok
    rw [mapT]
    by_cases ho : op = 1
    · rw [if_pos ho]; exact hv n u w
    · rw [if_neg ho]
      have hL := mapTL_okW hc hv op l 0 u w hok.2.2.2.2.2.2.2 hwf.2
      simp only [okT]
      refine ⟨hok.1, ?_, ?_, hok.2.2.2.1, hok.2.2.2.2.1, hok.2.2.2.2.2.1, ?_, hL⟩
      · split
        · rename_i e; exact hc con u (n1 e) hok.2.1.2
        · exact okCon_zero
      · split
        · rename_i e; exact hc to u (n3 e) hok.2.2.1.2
        · exact okCon_zero
      · rw [mapTL_len]; exact hok.2.2.2.2.2.2.1
theorem mapTL_okW {cf : ConT → Int → ConT} {vf : Int → Int → Int → TermT} (hc : ∀ c u, validF c = true → okS c → okCon (cf c u)) (hv : ∀ n u w, okT (vf n u w)) (op : Int) :
    ∀ (l : List TermT) (i : Nat) (u w : Int), okTs l → wfL l = true → okTs (mapTL cf vf op l i u w)
  | [], i, u, w, _, _ => by rw [mapTL]; trivial
  | x :: r, i, u, w, hok, hwf => by
    rw [wfL, Bool.and_eq_true] at hwf
    simp only [okTs] at hok
    rw [mapTL]
    simp only [okTs]
    exact ⟨mapT_okW hc hv x _ _ hok.1 hwf.1, mapTL_okW hc hv op r (i + 1) u w hok.2 hwf.2⟩
end
theorem subCM_okT (us : List ConT) (hus : us.all validF = true) (hl : ∀ x ∈ us, okS x) {t : TermT} (h : okT t) (h' : wfT t = true) : okT (subCM us t) :=
  mapT_okW (csub_ok us hus hl) (fun n _ _ => okT_var n) t 0 0 h h'

/-! Under binders -/

def wrapN : Nat → ConT → ConT
  | 0, c => c
  | m + 1, c => boundC 11 [] (wrapN m c)
theorem wrapN_succ (m : Nat) : ∀ c, wrapN (m + 1) c = wrapN m (boundC 11 [] c) := by
  induction m with
  | zero => intro c; rfl
  | succ m ih => intro c; rw [wrapN, ih, wrapN]
theorem lam_node' : nodeF 11 0 ByteArray.empty [] [] 1 = true := by decide +kernel
theorem wrapN_formed {c : ConT} (h : formedF c = true) : ∀ m, formedF (wrapN m c) = true
  | 0 => h
  | m + 1 => by rw [wrapN, boundC, formedF, formedL, formedL, List.length_singleton, lam_node', wrapN_formed h m]; rfl
theorem wrapN_wt (c : ConT) : ∀ m, wtF (wrapN m c) = m + wtF c
  | 0 => by rw [wrapN]; omega
  | m + 1 => by
    rw [wrapN, boundC, wtF, wtL, wtL, wrapN_wt c m]
    simp [knL]; omega
theorem wrapN_sub (us : List ConT) (c : ConT) : ∀ (m : Nat) (d : Int), rSubstF us (wrapN m c) d = wrapN m (rSubstF us c (d + m))
  | 0, d => by rw [wrapN, wrapN, Int.natCast_zero, Int.add_zero]
  | m + 1, d => by
    have e : deepF 11 d = d + 1 := rfl
    have e2 : d + ((m + 1 : Nat) : Int) = d + 1 + (m : Int) := by omega
    rw [wrapN, wrapN, boundC, boundC, rSubstF, if_neg (by decide), rSubstL, rSubstL, e, wrapN_sub us c m (d + 1), e2]
end Go.Abs.Kon
