/- The order of constructors: sorting, and what Make answers, plain. -/
import Derived.Test.YthedhplpgfpodaaGreatDoorOrdB
import Derived.Test.YthedhplpgfpodaaGreatDoorDataE
import Derived.Sort.LotA
import Derived.Test.YthedhplpgfpodaaGreatDoorDataF
import Derived.Test.YthedhplpgfpodaaGreatDoorKonG
set_option linter.unusedSimpArgs false
set_option linter.unusedVariables false
namespace Go.Abs.Kon
open Go Go.Proofs Go.Abs
set_option maxRecDepth 100000
set_option maxHeartbeats 4000000

def annTame : Ann := ⟨[], [], ann117.live, ann117.head⟩
@[go_sem] theorem annTame_imm : annTame.imm = [] := rfl
@[go_sem] theorem annTame_frz : annTame.frz = [] := rfl
@[go_sem] theorem annTame_live : annTame.live = ann117.live := rfl
@[go_sem] theorem annTame_head : annTame.head = ann117.head := rfl
theorem tame_gen (c r : ConT) (s : Nat) (o : Bool) (hN : nSpec c 0 false r s o) : Spec Tryz.prog 117 [pp (encC c)] [] (.tuple [encC r, .bool (!o)]) [] := by
  rw [nSpec, cntB, cntB] at hN
  have hz := encC_sz r
  generalize encC r = R at hN hz ⊢
  refine wk (rv := [.cell 2 28, .tmp 3]) annTame 17 Tryz.func117 ?_
  simp only [go_sem, encC_sz, Int.natCast_zero] at hN ⊢
  refine aCall_intro hN ?_
  simp only [go_sem, encC_sz, hz]
  iterate 3 (try (refine ⟨by kernel_rfl, ?_⟩; try simp only [go_sem, encC_sz, hz]))
def NrmP (c : ConT) (p : ConT × Int) : Prop :=
  Spec Tryz.prog 63 [pp (encC c)] [] (.tuple [encC p.1, .int .i64 p.2]) [] ∧ ((p.2 = 0 ∧ NormP p.1) ∨ (p.2 = 27 ∧ p.1 = zeroC))
theorem Normal_ex (c : ConT) (hv : validF c = true) (hd : okD c) : ∃ p, NrmP c p := by
  obtain ⟨v1, v2, v3⟩ := valid_parts hv
  obtain ⟨r, s, o, n1, n2, n3, n4, n5⟩ := norm_ex _ c 0 (Nat.le_refl _) v1 hd v2 (by omega)
  have hT := tame_gen c r s o n1
  have hV := Valid_spec c (by omega) hd.1
  rw [hv] at hV
  cases o with
  | true =>
    refine ⟨(zeroC, 27), ?_, .inr ⟨rfl, rfl⟩⟩
    rw [n4 rfl] at hT
    simp only [encC_zero] at hT ⊢
    refine wk (rv := [.cell 2 28, .tmp 3]) ann63 20 Tryz.func63 ?_
    simp only [go_sem, encC_sz]
    refine aCall_intro hV ?_
    simp only [go_sem, encC_sz]
    refine aCall_intro hT ?_
    simp only [go_sem, encC_sz, Bool.not_true]
  | false =>
    obtain ⟨_, _, hp⟩ := n5 rfl
    refine ⟨(r, 0), ?_, .inl ⟨rfl, hp⟩⟩
    obtain ⟨p1, p2, p3, p4, p5⟩ := hp
    have hC := ncopied_spec r (by have := okN_wt r p4.2; omega)
    have hz := encC_sz r
    simp only
    generalize encC r = R at hT hC hz ⊢
    refine wk (rv := [.cell 2 28, .tmp 3]) ann63 20 Tryz.func63 ?_
    simp only [go_sem, encC_sz]
    refine aCall_intro hV ?_
    simp only [go_sem, encC_sz]
    refine aCall_intro hT ?_
    simp only [go_sem, encC_sz, hz, Bool.not_false]
    refine aCall_intro hC ?_
    simp only [go_sem, encC_sz, hz]
open Classical in
noncomputable def nrm (c : ConT) : ConT × Int := if h : ∃ p, NrmP c p then Classical.choose h else (zeroC, 1)
theorem nrm_spec (c : ConT) (hv : validF c = true) (hd : okD c) : NrmP c (nrm c) := by
  have h := Normal_ex c hv hd
  unfold nrm
  rw [dif_pos h]
  exact Classical.choose_spec h
end Go.Abs.Kon

namespace Go.Abs.Kon
open Go Go.Proofs Go.Abs
open Go.Sort (SWO PermIn SortedIn insertionSort insertionSort_holds)
set_option maxRecDepth 100000
set_option maxHeartbeats 4000000

theorem cb_lt : ∀ a b : List UInt8, Lib.compareBytes a b < 0 ↔ a < b
  | [], [] => by simp [Lib.compareBytes]
  | [], _ :: _ => by simp [Lib.compareBytes]
  | _ :: _, [] => by simp [Lib.compareBytes]
  | a :: ar, b :: br => by
    rw [Lib.compareBytes, List.cons_lt_cons_iff]
    split
    · rename_i h; simp [h]
    · rename_i h
      split
      · rename_i h2
        have hne : a ≠ b := fun e => h (by subst e; exact h2)
        simp [h, hne]
      · rename_i h2
        have e : a = b := UInt8.le_antisymm (UInt8.not_lt.1 h2) (UInt8.not_lt.1 h)
        subst e
        rw [cb_lt ar br]
        simp [UInt8.lt_irrefl]
def nmB (x : CtT) : List UInt8 := x.1.data.toList
def nmI (l : List CtT) (i : Nat) : List UInt8 := nmB (l.getD i ct0)
theorem ctLt_eq (l : List CtT) (i j : Nat) : ctLt l i j = decide (nmI l i < nmI l j) := by
  unfold ctLt Go.Proofs.ltOf
  exact decide_eq_decide.2 (cb_lt _ _)
theorem ctLt_swo (l : List CtT) : SWO (ctLt l) where
  irrefl x := by simp [ctLt_eq, List.lt_irrefl]
  trans x y z h1 h2 := by simp only [ctLt_eq, decide_eq_true_eq] at *; exact List.lt_trans h1 h2
  ntrans x y z h1 h2 := by
    simp only [ctLt_eq, decide_eq_false_iff_not, List.not_lt] at *
    exact List.le_trans h2 h1
theorem sortIx_perm (l : List CtT) : (sortIx l).size = l.length ∧ (sortIx l).toList.Perm (List.range l.length) ∧ ∀ i j, i < j → j < l.length → ¬ nmI l (sortIx l)[j]! < nmI l (sortIx l)[i]! := by
  obtain ⟨⟨h1, _, h2⟩, h3⟩ := insertionSort_holds (lt := ctLt l) (ctLt_swo l) (Array.range l.length) 0 (Array.range l.length).size (Nat.zero_le _) (Nat.le_refl _)
  have hs : (sortIx l).size = l.length := by rw [sortIx, h1, Array.size_range]
  refine ⟨hs, ?_, fun i j hij hj => ?_⟩
  · have e1 : (sortIx l).extract 0 (Array.range l.length).size = sortIx l := by
      rw [Array.size_range, ← hs]; exact Array.extract_size
    have e2 : (Array.range l.length).extract 0 (Array.range l.length).size = Array.range l.length := Array.extract_size
    have h2' : ((sortIx l).extract 0 (Array.range l.length).size).toList.Perm ((Array.range l.length).extract 0 (Array.range l.length).size).toList := h2
    rw [e1, e2, Array.toList_range] at h2'
    exact h2'
  · have := h3 i j (Nat.zero_le _) hij (by rw [Array.size_range]; exact hj)
    rw [ctLt_eq, decide_eq_false_iff_not] at this
    exact this
theorem range_getD (l : List CtT) : (List.range l.length).map (fun i => l.getD i ct0) = l := by
  apply List.ext_getElem
  · simp
  · intro i h1 h2
    simp at h1
    simp [h1]
theorem sortCt_perm (l : List CtT) : (sortCt l).Perm l := by
  have h := (sortIx_perm l).2.1.map fun i => l.getD i ct0
  rw [range_getD] at h
  exact h
theorem sortCt_sorted (l : List CtT) : (sortCt l).Pairwise fun x y => ¬ nmB y < nmB x := by
  obtain ⟨h1, _, h3⟩ := sortIx_perm l
  rw [List.pairwise_iff_getElem]
  intro i j hi hj hij
  have hi' : i < (sortIx l).size := by simpa [sortCt] using hi
  have hj' : j < (sortIx l).size := by simpa [sortCt] using hj
  have := h3 i j hij (by omega)
  simp only [nmI, getElem!_pos, hi', hj'] at this
  simpa [sortCt] using this
def dupF : List CtT → Bool
  | x :: y :: r => (x.1.toList == y.1.toList) || dupF (y :: r)
  | _ => false
theorem nmB_eq {x y : CtT} : (x.1.toList == y.1.toList) = true ↔ nmB x = nmB y := by
  rw [beq_iff_eq, nmB, nmB]
  constructor
  · intro h
    have hx : x.1.toList = x.1.data.toList := ByteArray.toList_eq x.1
    have hy : y.1.toList = y.1.data.toList := ByteArray.toList_eq y.1
    rw [← hx, ← hy, h]
  · intro h
    rw [ByteArray.toList_eq, ByteArray.toList_eq, h]
theorem dup_strict : ∀ {s : List CtT}, s.Pairwise (fun x y => ¬ nmB y < nmB x) → dupF s = false → s.Pairwise fun x y => nmB x < nmB y
  | [], _, _ => List.Pairwise.nil
  | [x], _, _ => by simp
  | x :: y :: r, h, hd => by
    rw [dupF, Bool.or_eq_false_iff] at hd
    rw [List.pairwise_cons] at h
    have ih := dup_strict h.2 hd.2
    have hxy : nmB x < nmB y := by
      have h1 := h.1 y (by simp)
      rcases List.le_iff_lt_or_eq.1 (List.not_lt.1 h1) with h2 | h2
      · exact h2
      · exfalso
        have := nmB_eq.2 h2
        rw [this] at hd
        exact absurd hd.1 (by decide)
    rw [List.pairwise_cons]
    refine ⟨fun z hz => ?_, ih⟩
    rcases List.mem_cons.1 hz with rfl | hz
    · exact hxy
    · rw [List.pairwise_cons] at ih
      exact List.lt_trans hxy (ih.1 z hz)
theorem strict_dup : ∀ {s : List CtT}, s.Pairwise (fun x y => nmB x ≠ nmB y) → dupF s = false
  | [], _ => rfl
  | [x], _ => rfl
  | x :: y :: r, h => by
    rw [List.pairwise_cons] at h
    rw [dupF, strict_dup h.2, Bool.or_false]
    cases e : (x.1.toList == y.1.toList) with
    | false => rfl
    | true => exact absurd (nmB_eq.1 e) (h.1 y (by simp))
theorem lt_ne {a b : List UInt8} (h : a < b) : a ≠ b := fun e => by subst e; exact absurd h (List.lt_irrefl _)
theorem strict_unique : ∀ {s t : List CtT}, s.Pairwise (fun x y => nmB x < nmB y) → t.Pairwise (fun x y => nmB x < nmB y) → s.Perm t → s = t
  | [], t, _, _, hp => (List.nil_perm.1 hp).symm
  | x :: s, [], _, _, hp => absurd hp.length_eq (by simp)
  | x :: s, y :: t, hs, ht, hp => by
    have hx : x ∈ y :: t := hp.subset (by simp)
    have hy : y ∈ x :: s := hp.symm.subset (by simp)
    rw [List.pairwise_cons] at hs ht
    have e : x = y := by
      rcases List.mem_cons.1 hx with h | h
      · exact h
      · rcases List.mem_cons.1 hy with h' | h'
        · exact h'.symm
        · exact absurd (List.lt_trans (ht.1 x h) (hs.1 y h')) (List.lt_irrefl _)
    subst e
    rw [strict_unique hs.2 ht.2 (List.Perm.cons_inv hp)]
theorem ne_perm {s t : List CtT} (h : s.Pairwise fun x y => nmB x ≠ nmB y) (hp : s.Perm t) : t.Pairwise fun x y => nmB x ≠ nmB y :=
  (hp.pairwise_iff (fun {_ _} h => Ne.symm h)).1 h
theorem dup_perm {l l' : List CtT} (hp : l.Perm l') (h : dupF (sortCt l) = false) : dupF (sortCt l') = false ∧ sortCt l' = sortCt l := by
  have h1 := dup_strict (sortCt_sorted l) h
  have hq : (sortCt l).Perm (sortCt l') := (sortCt_perm l).trans (hp.trans (sortCt_perm l').symm)
  have h2 := strict_dup (ne_perm (h1.imp fun h => lt_ne h) hq)
  exact ⟨h2, (strict_unique h1 (dup_strict (sortCt_sorted l') h2) hq).symm⟩
theorem dup_perm' {l l' : List CtT} (hp : l.Perm l') : dupF (sortCt l') = dupF (sortCt l) ∧ (dupF (sortCt l) = false → sortCt l' = sortCt l) := by
  cases h : dupF (sortCt l) with
  | false => exact ⟨(dup_perm hp h).1, fun _ => (dup_perm hp h).2⟩
  | true =>
    refine ⟨?_, fun h => by cases h⟩
    cases h' : dupF (sortCt l') with
    | true => rfl
    | false => rw [(dup_perm hp.symm h').1] at h; cases h
end Go.Abs.Kon

namespace Go.Abs.Kon
open Go Go.Proofs Go.Abs
set_option maxRecDepth 100000
set_option maxHeartbeats 4000000

def argOf (x : CtT) : ConT := if x.2.op = 0 then exUnit else x.2
def lamP : Nat → ConT → ConT
  | 0, c => c
  | p + 1, c => .mk 11 0 e0 [] [] [lamP p c]
def arL : KindT → List KindT
  | .mk l => l
def muOf (p : Nat) (c : ConT) : ConT := .mk 13 0 e0 (arL (arK p)) [] [lamP p c]
def sumC (s : List CtT) (l : List ConT) : ConT := .mk 8 0 e0 [] (s.map (·.1)) l
noncomputable def nrmL : List ConT → List ConT × Int
  | [] => ([], 0)
  | x :: r => if (nrm x).2 = 0 then ((nrm x).1 :: (nrmL r).1, (nrmL r).2) else ([], (nrm x).2)
noncomputable def mkS (p : Nat) (s : List CtT) : ConT × Int :=
  if dupF s = true then (zeroC, 9) else if validF (muOf p (sumC s (s.map argOf))) = false then (zeroC, 6) else
  if (nrmL (s.map argOf)).2 ≠ 0 then (zeroC, (nrmL (s.map argOf)).2) else
  if validF (muOf p (sumC s (nrmL (s.map argOf)).1)) = false then (zeroC, 6) else (muOf p (sumC s (nrmL (s.map argOf)).1), 0)
noncomputable def mkF (p : Int) (l : List CtT) : ConT × Int :=
  if p < 0 ∨ 4 < p then (zeroC, 2) else if l.any badCt = true then (zeroC, 1) else mkS p.toNat (sortCt l)
theorem mkS_perm {l l' : List CtT} (hp : l.Perm l') (p : Nat) : mkS p (sortCt l') = mkS p (sortCt l) := by
  obtain ⟨h1, h2⟩ := dup_perm' hp
  cases h : dupF (sortCt l) with
  | false => rw [h2 h]
  | true =>
    rw [h] at h1
    unfold mkS
    rw [if_pos h1, if_pos h]
theorem any_perm {l l' : List CtT} (hp : l.Perm l') (f : CtT → Bool) : l'.any f = l.any f := by
  rw [Bool.eq_iff_iff, List.any_eq_true, List.any_eq_true]
  exact ⟨fun ⟨x, h1, h2⟩ => ⟨x, hp.symm.subset h1, h2⟩, fun ⟨x, h1, h2⟩ => ⟨x, hp.subset h1, h2⟩⟩
theorem mkF_perm {l l' : List CtT} (hp : l.Perm l') (p : Int) : mkF p l' = mkF p l := by
  unfold mkF
  rw [any_perm hp, mkS_perm hp]
theorem sortCt_mem {l : List CtT} {x : CtT} : x ∈ sortCt l ↔ x ∈ l := (sortCt_perm l).mem_iff

theorem nrmL_ok : ∀ (l : List ConT), (∀ x ∈ l, validF x = true ∧ okD x) → (nrmL l).2 = 0 → (nrmL l).1.length = l.length ∧ ∀ r ∈ (nrmL l).1, NormP r
  | [], _, _ => ⟨rfl, fun r hr => by simp [nrmL] at hr⟩
  | x :: l, h, h0 => by
    rw [nrmL] at h0 ⊢
    split at h0
    · rename_i hx
      rw [if_pos hx]
      obtain ⟨h1, h2⟩ := nrmL_ok l (fun y hy => h y (by simp [hy])) h0
      refine ⟨by simp [h1], fun r hr => ?_⟩
      rcases List.mem_cons.1 hr with rfl | hr
      · rcases (nrm_spec x (h x (by simp)).1 (h x (by simp)).2).2 with ⟨_, h3⟩ | ⟨h3, _⟩
        · exact h3
        · rw [hx] at h3; exact absurd h3 (by decide)
      · exact h2 r hr
    · rename_i hx
      exact absurd h0 hx
theorem etaF_ne {c : ConT} (h : c.op ≠ 11) : etaF c = false := by
  have h' : (c.op == 11) = false := by simpa using h
  unfold etaF
  (repeat' split) <;> simp [h']
theorem lamP_norm : ∀ (p : Nat) (c : ConT), c.op = 8 → normF c = true → normF (lamP p c) = true ∧ ((lamP p c).op = 8 ∨ (lamP p c).op = 11)
  | 0, c, h, hn => ⟨hn, .inl h⟩
  | p + 1, c, h, hn => by
    obtain ⟨h1, h2⟩ := lamP_norm p c h hn
    refine ⟨?_, .inr rfl⟩
    rw [lamP, normF]
    have hb : betaF 11 [lamP p c] = false := rfl
    have he : etaF (.mk 11 0 e0 [] [] [lamP p c]) = false := by
      generalize lamP p c = y at h2
      obtain ⟨op, n, s, k, names, l⟩ := y
      have ho : (op == 12) = false := by
        simp only [ConT.op] at h2
        rcases h2 with h2 | h2 <;> subst h2 <;> rfl
      unfold etaF
      simp only [ConT.l]
      split
      · simp only [ConT.op, ho, Bool.false_and, Bool.and_false]
      · rfl
    rw [if_neg (by rw [hb]; decide), if_neg (by rw [he]; decide), normL_any]
    simp [h1]
theorem sum_norm {s : List CtT} {l : List ConT} (h : ∀ x ∈ l, normF x = true) : normF (sumC s l) = true := by
  rw [sumC, normF]
  have hb : betaF 8 l = false := by
    unfold betaF
    split
    · rfl
    · rfl
  have he : etaF (.mk 8 0 e0 [] (s.map (·.1)) l) = false := etaF_ne (by show (8 : Int) ≠ 11; decide)
  rw [if_neg (by rw [hb]; decide), if_neg (by rw [he]; decide), normL_any, Bool.not_eq_true', List.any_eq_false]
  intro x hx
  rw [h x hx]
  decide
theorem mu_norm {p : Nat} {s : List CtT} {l : List ConT} (h : ∀ x ∈ l, normF x = true) : normF (muOf p (sumC s l)) = true := by
  rw [muOf, normF]
  have h1 := (lamP_norm p (sumC s l) rfl (sum_norm h)).1
  have hb : betaF 13 [lamP p (sumC s l)] = false := rfl
  have he : etaF (.mk 13 0 e0 (arL (arK p)) [] [lamP p (sumC s l)]) = false := etaF_ne (by show (13 : Int) ≠ 11; decide)
  rw [if_neg (by rw [hb]; decide), if_neg (by rw [he]; decide), normL_any]
  simp [h1]
theorem lamP_lamN (p : Nat) (c : ConT) (h : c.op = 8) : lamN (lamP p c) = (p, c) := by
  induction p with
  | zero =>
    obtain ⟨op, n, s, k, names, l⟩ := c
    simp only [ConT.op] at h
    subst h
    rw [lamP, lamN, if_neg (fun h => by cases h.1)]
  | succ p ih =>
    rw [lamP, lamN, if_pos ⟨rfl, rfl⟩, lamL, ih]
theorem mk_arL (p : Nat) : KindT.mk (arL (arK p)) = arK p := by
  cases arK p; rfl
theorem mkS_ok {p : Nat} {s : List CtT} (hp : p ≤ 4) (hs : s ≠ []) (hb : ∀ x ∈ s, badCt x = false) (hd : ∀ x ∈ s, okD (argOf x)) (h : (mkS p s).2 = 0) :
    dupF s = false ∧ ∃ rs, (mkS p s).1 = muOf p (sumC s rs) ∧ rs.length = s.length ∧ (∀ r ∈ rs, NormP r) ∧ isDT (muOf p (sumC s rs)) = true ∧ shapeF (muOf p (sumC s rs)) = (p, sumC s rs) := by
  unfold mkS at h ⊢
  split at h
  · cases h
  rename_i h1
  rw [if_neg h1]
  split at h
  · cases h
  rename_i h2
  rw [if_neg h2]
  have hva : ∀ x ∈ s.map argOf, validF x = true ∧ okD x := by
    intro y hy
    obtain ⟨x, hx, rfl⟩ := List.mem_map.1 hy
    refine ⟨?_, hd x hx⟩
    have := hb x hx
    rw [badCt, Bool.or_eq_false_iff] at this
    rw [argOf]
    split
    · exact exUnit_valid
    · rename_i ho
      have h3 : (x.2.op != 0) = true := by simpa using ho
      rw [h3, Bool.true_and] at this
      simpa using this.2
  split at h
  · rename_i h3
    exact absurd h h3
  rename_i h3
  rw [if_neg h3]
  have h3' : (nrmL (s.map argOf)).2 = 0 := Decidable.not_not.1 h3
  obtain ⟨n1, n2⟩ := nrmL_ok _ hva h3'
  split at h
  · cases h
  rename_i h4
  rw [if_neg h4]
  have hv : validF (muOf p (sumC s (nrmL (s.map argOf)).1)) = true := by simpa using h4
  have hsh : shapeF (muOf p (sumC s (nrmL (s.map argOf)).1)) = (p, sumC s (nrmL (s.map argOf)).1) := lamP_lamN p _ rfl
  refine ⟨by simpa using h1, _, rfl, by rw [n1, List.length_map], n2, ?_, hsh⟩
  rw [isDT, hv, hsh, mu_norm fun x hx => (n2 x hx).2.2.2.2]
  have e1 : (muOf p (sumC s (nrmL (s.map argOf)).1)).op = 13 := rfl
  have e2 : KindT.mk (muOf p (sumC s (nrmL (s.map argOf)).1)).k = arK p := mk_arL p
  rw [e1, e2, sumOk]
  have e3 : (sumC s (nrmL (s.map argOf)).1).op = 8 := rfl
  have e4 : (sumC s (nrmL (s.map argOf)).1).names = s.map (·.1) := rfl
  have e5 : (s.map (·.1)).any upper = false := by
    rw [List.any_eq_false]
    intro y hy
    obtain ⟨x, hx, rfl⟩ := List.mem_map.1 hy
    have := hb x hx
    rw [badCt, Bool.or_eq_false_iff] at this
    rw [upper, this.1]
    decide
  have e6 : (s.map (·.1)).length ≠ 0 := by
    rw [List.length_map]
    intro e
    exact hs (List.eq_nil_of_length_eq_zero e)
  simp only [e3, e4, e5, sameK_refl]
  simp [hp, e6]
  exact hs
end Go.Abs.Kon

namespace Go.Abs.Kon
open Go Go.Proofs Go.Abs
set_option maxRecDepth 100000
set_option maxHeartbeats 4000000

def annMkG : Ann := ⟨ann16.imm, [9000040, 2000010, 2000012, 6000012, 1000081, 2000023, 7000023, 3000090, 3000100, 2000025, 6700025, 4025090, 2000041, 6500041, 4041190, 4041290, 4041390, 4041090, 4041100], ann16.live, ann16.head⟩
@[go_sem] theorem annMkG_imm : annMkG.imm = ann16.imm := rfl
@[go_sem] theorem annMkG_frz : annMkG.frz = [9000040, 2000010, 2000012, 6000012, 1000081, 2000023, 7000023, 3000090, 3000100, 2000025, 6700025, 4025090, 2000041, 6500041, 4041190, 4041290, 4041390, 4041090, 4041100] := rfl
@[go_sem] theorem annMkG_live : annMkG.live = ann16.live := rfl
@[go_sem] theorem annMkG_head : annMkG.head = ann16.head := rfl
def accX (t : Nat) (k : Sz) (es : List PV) : SC := match es with | [] => .nilS | e :: es => .ex t k (e :: es)
theorem accX_nil (t : Nat) (k : Sz) : accX t k [] = .nilS := rfl
theorem accX_cons (t : Nat) (k : Sz) (e : PV) (es : List PV) : accX t k (e :: es) = .ex t k (e :: es) := rfl
theorem lamP_ok : ∀ (p : Nat) (c : ConT), okS c → okS (lamP p c) ∧ sizeF (lamP p c) = sizeF c + p
  | 0, c, h => ⟨h, rfl⟩
  | p + 1, c, h => by
    obtain ⟨h1, h2⟩ := lamP_ok p c h
    rw [lamP]
    refine ⟨?_, by rw [sizeF, sizeL, sizeL, h2]; omega⟩
    simp only [okS, okSs, and_true]
    exact ⟨by decide, fun x hx => by simp at hx, h1⟩
theorem muOf_ok (p : Nat) (s : List CtT) (l : List ConT) (h1 : ∀ x ∈ s, x.1.size ≤ 100000000) (h2 : ∀ x ∈ l, okS x) : okS (muOf p (sumC s l)) ∧ sizeF (muOf p (sumC s l)) = sizeL l + p + 2 := by
  have hs : okS (sumC s l) := by
    simp only [sumC, okS]
    refine ⟨by decide, fun x hx => ?_, okSs_of h2⟩
    obtain ⟨y, hy, rfl⟩ := List.mem_map.1 hx
    exact h1 y hy
  obtain ⟨g1, g2⟩ := lamP_ok p (sumC s l) hs
  rw [muOf]
  refine ⟨?_, ?_⟩
  · simp only [okS, okSs, and_true]
    exact ⟨by decide, fun x hx => by simp at hx, g1⟩
  · rw [sizeF, sizeL, sizeL, g2, sumC, sizeF]; omega
theorem nameF_size {s : ByteArray} {n : Int} (h : nameF s n = true) : s.size ≤ 100000000 := by
  rw [nameF, Bool.and_eq_true] at h
  have := of_decide_eq_true h.1
  omega
theorem argOf_okD {x : CtT} (h : okD x.2) : okD (argOf x) := by
  rw [argOf]
  split
  · refine ⟨okS_exUnit, ?_⟩
    simp only [exUnit, okN, okNs, knL, List.length_nil, and_true]
    omega
  · exact h
theorem args_ok {s : List CtT} (hb : ∀ x ∈ s, badCt x = false) (hd : ∀ x ∈ s, okD (argOf x)) : ∀ x ∈ s.map argOf, validF x = true ∧ okD x := by
  intro y hy
  obtain ⟨x, hx, rfl⟩ := List.mem_map.1 hy
  refine ⟨?_, hd x hx⟩
  have := hb x hx
  rw [badCt, Bool.or_eq_false_iff] at this
  rw [argOf]
  split
  · exact exUnit_valid
  · rename_i ho
    have h3 : (x.2.op != 0) = true := by simpa using ho
    rw [h3, Bool.true_and] at this
    simpa using this.2
theorem mk_facts (p : Nat) (hp : p ≤ 4) (l : List CtT) (hl : l.length ≤ 10) (hd : ∀ x ∈ l, okD x.2 ∧ sizeF x.2 ≤ 20000) (hb : l.any badCt = false) :
    (validF (muOf p (sumC (sortCt l) ((sortCt l).map argOf))) = true → ∀ x ∈ (sortCt l).map argOf, Spec Tryz.prog 63 [pp (encC x)] [] (.tuple [encC (nrm x).1, .int .i64 (nrm x).2]) []) ∧
    Spec Tryz.prog 46 [pp (encC (muOf p (sumC (sortCt l) ((sortCt l).map argOf))))] [] (.bool (validF (muOf p (sumC (sortCt l) ((sortCt l).map argOf))))) [] ∧
    (validF (muOf p (sumC (sortCt l) ((sortCt l).map argOf))) = true → (nrmL ((sortCt l).map argOf)).2 = 0 → Spec Tryz.prog 46 [pp (encC (muOf p (sumC (sortCt l) (nrmL ((sortCt l).map argOf)).1)))] [] (.bool (validF (muOf p (sumC (sortCt l) (nrmL ((sortCt l).map argOf)).1)))) []) := by
  have hlen : (sortCt l).length ≤ 10 := by rw [(sortCt_perm l).length_eq]; exact hl
  have hbm : ∀ x ∈ sortCt l, badCt x = false := fun x hx => by
    have := List.any_eq_false.1 hb x (sortCt_mem.1 hx)
    simpa using this
  have hdm : ∀ x ∈ sortCt l, okD (argOf x) := fun x hx => argOf_okD (hd x (sortCt_mem.1 hx)).1
  have hsz : ∀ y ∈ (sortCt l).map argOf, sizeF y ≤ 20000 := by
    intro y hy
    obtain ⟨x, hx, rfl⟩ := List.mem_map.1 hy
    rw [argOf]
    split
    · exact of_decide_eq_true (by kernel_rfl)
    · exact (hd x (sortCt_mem.1 hx)).2
  have hnm : ∀ x ∈ sortCt l, x.1.size ≤ 100000000 := fun x hx => by
    have := hbm x hx
    rw [badCt, Bool.or_eq_false_iff] at this
    exact nameF_size (n := 2) (by simpa using this.1)
  have hva := args_ok hbm hdm
  have hS := sizeL_le _ hsz
  rw [List.length_map] at hS
  have hS2 : 20000 * (sortCt l).length ≤ 20000 * 10 := Nat.mul_le_mul_left _ hlen
  refine ⟨fun _ x hx => (nrm_spec x (hva x hx).1 (hva x hx).2).1, ?_, fun _ h0 => ?_⟩
  · obtain ⟨g1, g2⟩ := muOf_ok p (sortCt l) _ hnm fun x hx => (hva x hx).2.1
    exact Valid_spec _ (by omega) g1
  · obtain ⟨n1, n2⟩ := nrmL_ok _ hva h0
    obtain ⟨g1, g2⟩ := muOf_ok p (sortCt l) (nrmL ((sortCt l).map argOf)).1 hnm fun x hx => (n2 x hx).2.2.2.1.1
    have hT := sizeL_le _ fun x hx => (n2 x hx).2.1
    rw [n1, List.length_map] at hT
    exact Valid_spec _ (by omega) g1
end Go.Abs.Kon
