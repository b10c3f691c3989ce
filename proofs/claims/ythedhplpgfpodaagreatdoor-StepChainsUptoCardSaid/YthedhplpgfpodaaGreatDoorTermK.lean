/- Terms. -/
import Derived.Test.YthedhplpgfpodaaGreatDoorTermH
import Derived.Test.YthedhplpgfpodaaGreatDoorKonH
set_option linter.unusedSimpArgs false
set_option linter.unusedVariables false
namespace Go.Abs.Kon
open Go Go.Proofs Go.Abs
set_option maxRecDepth 100000
set_option maxHeartbeats 4000000
mutual
def replP (us : List ConT) : ConT → Int → ConT
 | .mk op n s k names l, d =>
   if op = 1 then (if n - d < 0 then .mk op n s k names l else if n - d < us.length then (qcj (us.getD (n - d).toNat zeroC) d 0).1 else .mk op (n - us.length) s k names l)
   else .mk op n s k names (qd8 us l (qbs op d))
def qd8 (us : List ConT) : List ConT → Int → List ConT
 | [], _ => []
 | x :: r, d => replP us x d :: qd8 us r d
end
theorem qda {c : ConT} (h : qac c = true) : sizeF c ≤ 20000 ∧ depthF c ≤ 400 ∧ formedF c = true := by
 rw [qac] at h
 simp only [Bool.and_eq_true, decide_eq_true_iff] at h
 exact h
theorem valid_child {op n : Int} {s : ByteArray} {k : List KindT} {names : List ByteArray} {l : List ConT} (h : qac (.mk op n s k names l) = true) : ∀ x ∈ l, qac x = true := by
 intro x hx
 obtain ⟨h1, h2, h3⟩ := qda h
 rw [sizeF] at h1
 rw [depthF] at h2
 rw [formedF, Bool.and_eq_true, formedL_all] at h3
 have e1 := sizeF_mem hx
 have e2 := qdh hx
 rw [qac]
 simp only [Bool.and_eq_true, decide_eq_true_iff]
 exact ⟨by omega, by omega, List.all_eq_true.1 h3.2 x hx⟩
theorem not_child {op n : Int} {s : ByteArray} {k : List KindT} {names : List ByteArray} {l : List ConT} (h : ∃ x ∈ l, qac x = false) : qac (.mk op n s k names l) = false := by
 cases h1 : qac (.mk op n s k names l) with
 | false => rfl
 | true =>
   obtain ⟨x, hx, h2⟩ := h
   rw [valid_child h1 x hx] at h2
   exact h2
theorem getD_valid {us : List ConT} (h : us.all qac = true) {i : Nat} (hi : i < us.length) : qac (us.getD i zeroC) = true := by
 rw [List.getD_eq_getElem?_getD, List.getElem?_eq_getElem hi, Option.getD_some]
 exact List.all_eq_true.1 h _ (List.getElem_mem hi)
mutual
theorem repl_eq (us : List ConT) (hus : us.all qac = true) : ∀ (c : ConT) (d : Int), formedF c = true → 0 ≤ d → d + depthF c ≤ 20000 → replP us c d = mapF (qcq us) c d ∨ (qac (replP us c d) = false ∧ qac (mapF (qcq us) c d) = false)
 | .mk op n s k names l, d, hf, h0, h1 => by
   rw [replP, mapF]
   by_cases ho : op = 1
   ·rw [if_pos ho, if_pos (Or.inl ho : op = 1 ∨ op = 2)]
    by_cases h2 : n - d < 0
    ·rw [if_pos h2, sub_lo (x := .mk op n s k names l) (b := d) (Or.inr h2), leafC_self hf (.inl ho)]
     exact .inl rfl
    ·rw [if_neg h2]
     by_cases h3 : n - d < us.length
     ·rw [if_pos h3, sub_in (x := .mk op n s k names l) (b := d) (m := n - d) ho rfl (by omega) h3]
      have hv := getD_valid hus (i := (n - d).toNat) (by omega)
      generalize us.getD (n - d).toNat zeroC = u at hv
      rw [shiftF_up u d 0 hv h0 (by omega) (Int.le_refl _), replF_eq]
      cases h4 : qac (mapF (qaf d 0) u 0) with
      | true => left; rw [if_pos rfl]
      | false => right; rw [if_neg (by decide)]; exact ⟨valid_zero, rfl⟩
     ·rw [if_neg h3, sub_hi (x := .mk op n s k names l) (b := d) (m := n - us.length) ho (show 0 ≤ n - d by omega) (show n - d ≥ us.length by omega) rfl]
      left
      have := var_formed (x := .mk op n s k names l) ho hf
      rw [varC] at this
      cases this
      rw [varC]
   ·rw [if_neg ho]
    by_cases h2 : op = 2
    ·rw [if_pos (Or.inr h2 : op = 1 ∨ op = 2)]
     have := qdi hf (.inr h2)
     subst this
     left
     rw [sub_lo (x := .mk op n s k names []) (b := d) (Or.inl (show op ≠ 1 from ho)), leafC_self hf (.inr h2), qd8]
    ·rw [if_neg (by rintro (e | e); exact ho e; exact h2 e)]
     rw [depthF] at h1
     rw [formedF, Bool.and_eq_true] at hf
     have e : qbs op d = if qai op = true then d + 1 else d := rfl
     rw [e]
     have hd : 0 ≤ (if qai op = true then d + 1 else d) ∧ (if qai op = true then d + 1 else d) + depthL l ≤ 20000 := by split <;> omega
     generalize (if qai op = true then d + 1 else d) = dd at hd
     rcases replL_eq us hus l dd hf.2 hd.1 hd.2 with h | h
     ·left; rw [h]
     ·right; exact ⟨not_child h.1, not_child h.2⟩
theorem replL_eq (us : List ConT) (hus : us.all qac = true) : ∀ (l : List ConT) (d : Int), formedL l = true → 0 ≤ d → d + depthL l ≤ 20000 → qd8 us l d = mapL (qcq us) l d ∨ ((∃ x ∈ qd8 us l d, qac x = false) ∧ ∃ x ∈ mapL (qcq us) l d, qac x = false)
 | [], d, _, _, _ => .inl (by rw [qd8, mapL])
 | x :: r, d, hf, h0, h1 => by
   rw [formedL, Bool.and_eq_true] at hf
   rw [depthL] at h1
   rw [qd8, mapL]
   rcases repl_eq us hus x d hf.1 h0 (by omega) with h | ⟨h2, h3⟩
   ·rcases replL_eq us hus r d hf.2 h0 (by omega) with h' | ⟨⟨y, hy, e1⟩, z, hz, e2⟩
    ·left; rw [h, h']
    ·right; exact ⟨⟨y, List.mem_cons_of_mem _ hy, e1⟩, z, List.mem_cons_of_mem _ hz, e2⟩
   ·right; exact ⟨⟨_, List.mem_cons_self, h2⟩, _, List.mem_cons_self, h3⟩
end
theorem shiftF_size (c : ConT) (n f : Int) : sizeF (qcj c n f).1 ≤ 20000 := by
 have hz : sizeF zeroC ≤ 20000 := by decide
 rw [qcj]
 split
 ·exact hz
 ·split
  ·exact hz
  ·rw [replF_eq]
   split
   ·rename_i hv
    exact (qda hv).1
   ·exact hz
mutual
theorem repl_size (us : List ConT) : ∀ (c : ConT) (d : Int), sizeF (replP us c d) ≤ sizeF c * 20000
 | .mk op n s k names l, d => by
   rw [replP, sizeF]
   split
   ·split
    ·rw [sizeF]; omega
    ·split
     ·have := shiftF_size (us.getD (n - d).toNat zeroC) d 0; omega
     ·rw [sizeF]; omega
   ·have := replL_size us l (qbs op d)
    rw [sizeF]; omega
theorem replL_size (us : List ConT) : ∀ (l : List ConT) (d : Int), sizeL (qd8 us l d) ≤ sizeL l * 20000
 | [], d => by rw [qd8, sizeL]; omega
 | x :: r, d => by
   have h1 := repl_size us x d
   have h2 := replL_size us r d
   rw [qd8, sizeL, sizeL]; omega
end
theorem okS_getD {us : List ConT} (h : ∀ x ∈ us, okS x) (i : Nat) : okS (us.getD i zeroC) := by
 rw [List.getD_eq_getElem?_getD]
 by_cases hi : i < us.length
 ·rw [List.getElem?_eq_getElem hi, Option.getD_some]
  exact h _ (List.getElem_mem hi)
 ·rw [List.getElem?_eq_none (by omega), Option.getD_none]
  exact okS_zero
mutual
theorem repl_okS (us : List ConT) (hus : ∀ x ∈ us, okS x) : ∀ (c : ConT) (d : Int), okS c → okS (replP us c d)
 | .mk op n s k names l, d, h => by
   rw [replP]
   split
   ·split
    ·exact h
    ·split
     ·exact (shiftF_ok _ d 0 (okS_getD hus _)).2
     ·simp only [okS] at h ⊢; exact h
   ·simp only [okS] at h ⊢
    exact ⟨h.1, h.2.1, replL_okS us hus l _ h.2.2⟩
theorem replL_okS (us : List ConT) (hus : ∀ x ∈ us, okS x) : ∀ (l : List ConT) (d : Int), okSs l → okSs (qd8 us l d)
 | [], d, _ => by rw [qd8, okSs]; trivial
 | x :: r, d, h => by
   simp only [okSs] at h
   rw [qd8, okSs]
   exact ⟨repl_okS us hus x d h.1, replL_okS us hus r d h.2⟩
end
theorem repl_ok (us : List ConT) (hus : ∀ x ∈ us, okS x) (c : ConT) (d : Int) (h : qac c = true) (h1 : okS c) : okCon (replP us c d) := by
 have h2 := repl_size us c d
 have h3 := (qda h).1
 exact ⟨by omega, repl_okS us hus c d h1⟩
def repCf (us : List ConT) (c : ConT) (uc _ut : Int) : ConT × Int := (replP us c uc, 0)
def idVf (n _uc _ut : Int) : TermT × Int := (varT n, 0)
def SubstConsT (t : TermT) (us : List ConT) : TermT × Int := if qab t = false ∨ us.all qac = false then (zeroT, 1) else if us.length > 1000 then (zeroT, 5) else finT (chT (repCf us) idVf t 0 0)
theorem subCT_ok (us : List ConT) (hus : ∀ x ∈ us, okS x) (t : TermT) (h1 : okT t) (h2 : wfT t = true) : okT (chT (repCf us) idVf t 0 0).1 :=
 chT_okW _ _ (fun c uc _ h h' => repl_ok us hus c uc h h') (fun n _ _ => okT_var n) t 0 0 h1 h2
theorem shiftF_err {c : ConT} {n f : Int} (h : (qcj c n f).2 ≠ 0) : (qcj c n f).1 = zeroC := by
 rw [qcj] at h ⊢
 split
 ·rfl
 ·rename_i h1
  rw [if_neg h1] at h
  split
  ·rfl
  ·rename_i h2
   rw [if_neg h2, replF_eq] at h
   rw [replF_eq]
   split
   ·rename_i h3
    rw [if_pos h3] at h; exact absurd rfl h
   ·rfl
theorem replace_spec (us : List ConT) (hus : ∀ x ∈ us, wtF x ≤ 900000000 ∧ okS x) (hul : us.length ≤ 100000000) (c : ConT) : ∀ d : Int, 0 ≤ d → d + depthF c ≤ 100000000 → (formedF c = true ∨ c = zeroC) → wtF c ≤ 900000000 →
  Spec Tryz.prog 264 [pp (encC c), pp (.slice (us.map encC)), ii d] [] (encC (replP us c d)) [] := by
 revert c
 refine ConT.ind1 fun op n s k names l ih => ?_
 intro d h1 h2 h4 h5
 have hn : op = 1 → 0 ≤ n ∧ n ≤ 20000 := fun e => by
  rcases h4 with h4 | h4
  ·exact qdj h4
  ·rw [zeroC] at h4; cases h4; cases e
 have hfm : ∀ x ∈ l, formedF x = true := by
  rcases h4 with h4 | h4
  ·rw [formedF, Bool.and_eq_true, formedL_all] at h4
   exact List.all_eq_true.1 h4.2
  ·rw [zeroC] at h4; cases h4; intro x hx; cases hx
 rw [wtF] at h5
 rw [depthF] at h2
 have hwl := wtL_len l
 clear h4
 by_cases hop : op = 1
 ·obtain ⟨n1, n2⟩ := hn hop
  have e1 : (op == 1) = true := by simp [hop]
  have w1 : IntKind.i64.wrap (n - d) = n - d := wId (by omega) (by omega)
  have w2 : IntKind.i64.wrap (n - us.length) = n - us.length := wId (by omega) (by omega)
  rw [replP, if_pos hop]
  clear ih hfm
  by_cases a1 : n - d < 0
  ·rw [if_pos a1]
   refine wk (rv := [.cell 6 28]) ann264 87 Tryz.func264 ?_
   simp only [go_sem, eCm, e1, w1, decide_eq_true a1]
  ·rw [if_neg a1]
   by_cases a2 : n - d < us.length
   ·rw [if_pos a2]
    obtain ⟨i, hi⟩ := Int.eq_ofNat_of_zero_le (show 0 ≤ n - d by omega)
    have hlt : i < us.length := by omega
    have hx : (us.map encC)[i]? = some (encC us[i]) := by simp [hlt]
    rw [hi, Int.toNat_natCast, List.getD_eq_getElem?_getD, List.getElem?_eq_getElem hlt, Option.getD_some]
    obtain ⟨g1, g2⟩ := hus us[i] (List.getElem_mem _)
    have hS := Shift_specV us[i] d 0 (by have := sizeF_wt us[i]; omega) g2
    have hz := @shiftF_err us[i] d 0
    have w1' : IntKind.i64.wrap (n - d) = (i : Int) := by rw [w1, hi]
    have d1 : decide ((i : Int) < 0) = false := decide_eq_false (by omega)
    have d2 : decide ((i : Int) < us.length) = true := decide_eq_true (by omega)
    generalize qcj us[i] d 0 = r at hS hz
    refine wk (rv := [.cell 6 28]) ann264 87 Tryz.func264 ?_
    simp only [go_sem, eCm, e1, w1', d1, d2, List.length_map, Int.toNat_natCast, Int.natCast_nonneg, hx, eCz]
    refine aC hS ?_
    cases hb : (r.2 != 0)
    ·simp only [go_sem, eCz, hb]
    ·have := hz (by simpa using hb)
     rw [this, zeroC, eCm]
     simp only [go_sem, eCz, hb]
   ·rw [if_neg a2]
    refine wk (rv := [.cell 6 28]) ann264 87 Tryz.func264 ?_
    simp only [go_sem, eCm, e1, w1, w2, decide_eq_false a1, decide_eq_false a2, List.length_map]
 ·have hr : replP us (.mk op n s k names l) d = .mk op n s k names (qd8 us l (qbs op d)) := by rw [replP, if_neg hop]
  rw [hr]
  have e1 : (op == 1) = false := by simp [hop]
  have hN := Clone_spec names (by omega)
  have w2 : IntKind.i64.wrap (d + 1) = d + 1 := wId (by omega) (by omega)
  have hdd0 : 0 ≤ qbs op d := by rw [qbs]; split <;> omega
  have hdd1 : qbs op d + depthL l ≤ 100000000 := by rw [qbs]; split <;> omega
  obtain ⟨dd, hdd⟩ : ∃ dd, qbs op d = dd := ⟨_, rfl⟩
  have hcase : ((op == 9) = true ∧ (op == 10) = false ∧ (op == 11) = false ∧ (op == 13) = false ∧ IntKind.i64.wrap (d + 1) = dd) ∨ ((op == 9) = false ∧ (op == 10) = true ∧ (op == 11) = false ∧ (op == 13) = false ∧ IntKind.i64.wrap (d + 1) = dd) ∨
    ((op == 9) = false ∧ (op == 10) = false ∧ (op == 11) = true ∧ (op == 13) = false ∧ IntKind.i64.wrap (d + 1) = dd) ∨ ((op == 9) = false ∧ (op == 10) = false ∧ (op == 11) = false ∧ (op == 13) = true ∧ IntKind.i64.wrap (d + 1) = dd) ∨
    ((op == 9) = false ∧ (op == 10) = false ∧ (op == 11) = false ∧ (op == 13) = false ∧ d = dd) := by
   rw [w2, ← hdd, qbs, qai]
   rcases (show op = 9 ∨ op = 10 ∨ op = 11 ∨ op = 13 ∨ (op ≠ 9 ∧ op ≠ 10 ∧ op ≠ 11 ∧ op ≠ 13) by omega) with e | e | e | e | ⟨f1, f2, f3, f4⟩
   ·exact .inl ⟨by simp [e], by simp [e], by simp [e], by simp [e], by simp [e]⟩
   ·exact .inr (.inl ⟨by simp [e], by simp [e], by simp [e], by simp [e], by simp [e]⟩)
   ·exact .inr (.inr (.inl ⟨by simp [e], by simp [e], by simp [e], by simp [e], by simp [e]⟩))
   ·exact .inr (.inr (.inr (.inl ⟨by simp [e], by simp [e], by simp [e], by simp [e], by simp [e]⟩)))
   ·exact .inr (.inr (.inr (.inr ⟨by simp [f1], by simp [f2], by simp [f3], by simp [f4], by simp [f1, f2, f3, f4]⟩)))
  rw [hdd] at hdd0 hdd1 ⊢
  clear hdd w2 hn hr
  refine wk (rv := [.cell 6 28]) ann264 87 Tryz.func264 ?_
  simp only [go_sem, eCm, e1]
  refine aC hN ?_
  simp only [go_sem]
  try (refine ⟨by kernel_rfl, ?_⟩; try simp only [go_sem])
  clear hN
  rcases hcase with ⟨q9, q10, q11, q13, e⟩ | ⟨q9, q10, q11, q13, e⟩ | ⟨q9, q10, q11, q13, e⟩ | ⟨q9, q10, q11, q13, e⟩ | ⟨q9, q10, q11, q13, e⟩
  all_goals
   simp only [go_sem, q9, q10, q11, q13, e, List.length_map]
   clear q9 q10 q11 q13 e
   refine aLl (α := ConT) (β := List ConT × Nat) (fun rest b => ⟨[(72, ii b.2), (10, .one (.ptr (.loc 10) 0)), (2, ii dd), (1, pp (.slice (us.map encC))), (70, pp (.slice (l.map encC))), (6, .one (.ptr (.loc 6) 0)), (71, ii l.length)],
     [(.loc 6, ⟨.agg 6, .agg [.pv (.int .i64 0), .pv (.int .i64 0), .pv (.str ByteArray.empty), .nilS, .nilS, .nilS]⟩),
      (.loc 10, ⟨.agg 6, .agg [.pv (.int .i64 op), .pv (.int .i64 n), .pv (.str s), .pv (.slice (k.map encK)), .pv (.slice (names.map .str)), acc 166 (.agg 6) (b.1.map encC)]⟩)], []⟩)
    (fun rest b => ∃ pre, l = pre ++ rest ∧ b.2 = pre.length ∧ b.1.length = pre.length ∧ qd8 us l dd = b.1 ++ qd8 us rest dd) ?_ ?_ l ([], 0) _ ?_ ⟨[], rfl, rfl, rfl, rfl⟩
   ·rintro ⟨out, m⟩ ⟨pre, g1, g2, g3, g4⟩ K
    simp only [List.append_nil] at g1 g2 g3 g4
    subst g1
    simp only [qd8, List.append_nil] at g4
    rw [g4]
    simp only [go_sem, g2, ltF (Int.le_refl _)]
    cases out with
    | nil => simp only [go_sem, acc, eCm]
    | cons x r => simp only [go_sem, acc, eCm]
   ·rintro x rest ⟨out, m⟩ ⟨pre, g1, g2, g3, g4⟩ K hK
    simp only at g2 g3 g4
    have hx : (l.map encC)[m]? = some (encC x) := by simp [g1, g2]
    have hlt : (m : Int) < l.length := by rw [g1, g2]; simp; omega
    have hll : l.length = m + (rest.length + 1) := by rw [g1, g2]; simp
    have hm : x ∈ l := by simp [g1]
    have hw := wtF_mem hm
    have hd := qdh hm
    have hI := ih x hm dd hdd0 (by omega) (.inl (hfm x hm)) (by omega)
    have w4 : IntKind.i64.wrap ((m : Int) + 1) = ((m + 1 : Nat) : Int) := by rw [wId (by omega) (by omega)]; simp
    simp only [qd8] at g4
    generalize replP us x dd = y at hI g4
    have hK' := fun s' hs => hK (out ++ [y], m + 1) s' hs ⟨pre ++ [x], by simp [g1], by simp [g2], by simp [g3], by rw [g4]; simp⟩
    clear hK
    cases out with
    | nil =>
      simp only [go_sem, acc, decide_eq_true hlt, Int.toNat_natCast, Int.natCast_nonneg, hx, eCz]
      refine aC hI ?_
      simp only [go_sem, eCz, oneM, w4]
      refine ⟨by kernel_rfl, hK' _ ?_⟩
      simp only [go_sem, acc]
    | cons z zs =>
      have hb1 : (zs.length + 1 + 1) * 104 ≤ 140737488355328 := by simp at g3; omega
      have hb2 : zs.length + 1 + 1 ≤ maxLen := by rw [mLe]; simp at g3; omega
      simp only [go_sem, acc, decide_eq_true hlt, Int.toNat_natCast, Int.natCast_nonneg, hx, eCz]
      refine aC hI ?_
      simp only [go_sem, eCz, List.length_map, hb1, hb2, w4]
      refine ⟨by kernel_rfl, hK' _ ?_⟩
      simp only [go_sem, acc, List.map_append]
   ·simp only [go_sem, acc, List.length_nil, Int.natCast_zero]
theorem subcons1_spec (c : ConT) (h1 : sizeF c ≤ 1000000000) (h2 : okS c) : Spec Tryz.prog 262 [pp (encC c)] [] (.bool (!qac c)) [] := by
 have hV := Valid_spec c h1 h2
 refine wk (rv := [.tmp 2]) ann262 6 Tryz.func262 ?_
 simp only [go_sem, eCz]
 refine aC hV ?_
 simp only [go_sem]
theorem subconsAny_spec (l : List ConT) (h : ∀ c ∈ l, okCon c) : Spec Tryz.prog 43 [pp (.slice (l.map encC)), pp (.fn 262 [])] [] (.bool (!l.all qac)) [] := by
 have ha : (!l.all qac) = (l.any fun x => !qac x) := by simp [List.all_eq_not_any_not]
 rw [ha]
 exact ContainsFuncC encC l 262 [] _ (fun e _ => eCz e) fun x hx => subcons1_spec x (h x hx).1 (h x hx).2
theorem subcons2_spec (us : List ConT) (hus : ∀ x ∈ us, wtF x ≤ 900000000 ∧ okS x) (hul : us.length ≤ 100000000) (c : ConT) (uc ut : Int) (h3 : 0 ≤ uc) (h4 : uc ≤ 1000000) (h5 : qac c = true ∨ c = zeroC) :
  Spec Tryz.prog 263 (pp (encC c) :: pp (uEnc uc ut) :: [capL us].map pp) [] (.tuple [encC (repCf us c uc ut).1, .int .i64 (repCf us c uc ut).2]) [] := by
 have hdw : depthF c ≤ 400 ∧ wtF c ≤ 900000000 := by
  rcases h5 with h | rfl
  ·exact qdz h
  ·decide
 have hR := replace_spec us hus hul c uc h3 (by omega) (h5.imp qah id) hdw.2
 rw [repCf]
 generalize replP us c uc = r at hR
 refine wk (rv := [.cell 5 28, .tmp 6]) ann263 12 Tryz.func263 ?_
 simp only [go_sem, capL, uEnc, eCz, List.map_cons, List.map_nil]
 refine aC hR ?_
 simp only [go_sem, eCz]
theorem subcons3_spec (n uc ut : Int) : Spec Tryz.prog 265 (ii n :: pp (uEnc uc ut) :: ([] : List PV).map pp) [] (.tuple [encT (idVf n uc ut).1, .int .i64 (idVf n uc ut).2]) [] := by
 rw [idVf, encT_var]
 refine wk (rv := [.cell 4 52, .tmp 5]) ann265 8 Tryz.func265 ?_
 simp only [go_sem, uEnc, List.map_nil]
theorem tSubstCons_specV (t : TermT) (us : List ConT) (hok : okT t) (hus : ∀ x ∈ us, wtF x ≤ 900000000 ∧ okS x) (hul : us.length ≤ 100000000) : Spec Tryz.prog 207 [pp (encT t), pp (.slice (us.map encC))] [] (.tuple [encT (SubstConsT t us).1, .int .i64 (SubstConsT t us).2]) [] := by
 have hV := qcl t hok
 have hA := subconsAny_spec us fun x hx => ⟨by have := sizeF_wt x; have := (hus x hx).1; omega, (hus x hx).2⟩
 rw [SubstConsT]
 cases hv : qab t with
 | false =>
   rw [hv] at hV
   rw [if_pos (.inl rfl), eT0]
   refine wk (rv := [.cell 4 52, .tmp 5]) ann207 30 Tryz.func207 ?_
   simp only [go_sem, eTz]
   refine aC hV ?_
   simp only [go_sem]
 | true =>
   rw [hv] at hV
   cases hv' : us.all qac with
   | false =>
     rw [hv'] at hA
     rw [if_pos (.inr rfl), eT0]
     refine wk (rv := [.cell 4 52, .tmp 5]) ann207 30 Tryz.func207 ?_
     simp only [go_sem, eTz]
     refine aC hV ?_
     simp only [go_sem, eTz]
     refine aC hA ?_
     simp only [go_sem]
   | true =>
     rw [hv'] at hA
     rw [if_neg (by rintro (e | e) <;> cases e)]
     by_cases hl : us.length > 1000
     ·rw [if_pos hl, eT0]
      have d1 : decide ((us.length : Int) > 1000) = true := decide_eq_true (by omega)
      refine wk (rv := [.cell 4 52, .tmp 5]) ann207 30 Tryz.func207 ?_
      simp only [go_sem, eTz]
      refine aC hV ?_
      simp only [go_sem, eTz]
      refine aC hA ?_
      simp only [go_sem, List.length_map, d1]
     ·rw [if_neg hl]
      have d1 : decide ((us.length : Int) > 1000) = false := decide_eq_false (by omega)
      obtain ⟨hwf, hd⟩ := qae hv
      have hC := change_spec 263 265 [capL us] [] (repCf us) idVf (fun c uc ut _ g3 g4 g5 => subcons2_spec us hus hul c uc ut g3 g4 g5) (fun n uc ut _ _ _ _ _ _ => subcons3_spec n uc ut) t 0 0 hwf hok (by decide) (by omega) (by decide) (by omega)
      have hFi := finish_spec (chT (repCf us) idVf t 0 0) (subCT_ok us (fun x hx => (hus x hx).2) t hok hwf)
      generalize chT (repCf us) idVf t 0 0 = r at hC hFi
      simp only [capL] at hC
      refine wk (rv := [.cell 4 52, .tmp 5]) ann207 30 Tryz.func207 ?_
      simp only [go_sem, eTz]
      refine aC hV ?_
      simp only [go_sem, eTz]
      refine aC hA ?_
      simp only [go_sem, eTz, List.length_map, d1]
      try (refine ⟨by kernel_rfl, ?_⟩; try simp only [go_sem, eTz])
      refine aC hC ?_
      simp only [go_sem, eTz]
      try (refine ⟨by kernel_rfl, ?_⟩; try simp only [go_sem, eTz])
      refine aC hFi ?_
      simp only [go_sem, eTz]
      try (first | kernel_rfl | (refine ⟨by kernel_rfl, ?_⟩; try simp only [go_sem, eTz]))
end Go.Abs.Kon
