/- Constants of constructors, plain: what is collected, bound, unbound; what comes in. -/
import Derived.Test.YtjfegcnjmpedhaaGreatDoorKonH
import Derived.Test.YtjfegcnjmpedhaaGreatDoorKonG
set_option linter.unusedSimpArgs false
set_option linter.unusedVariables false
namespace Go.Abs.Kon
open Go Go.Proofs Go.Abs
set_option maxRecDepth 100000
set_option maxHeartbeats 4000000

mutual
theorem sameK_eq : ∀ a b : KindT, sameK a b = true → a = b
  | .mk a, .mk b, h => by rw [sameK] at h; rw [sameKs_eq' a b h]
theorem sameKs_eq' : ∀ a b : List KindT, sameKs a b = true → a = b
  | [], [], _ => rfl
  | x :: a, y :: b, h => by
    rw [sameKs, Bool.and_eq_true] at h
    rw [sameK_eq x y h.1, sameKs_eq' a b h.2]
  | [], _ :: _, h => by rw [sameKs] at h; cases h
  | _ :: _, [], h => by rw [sameKs] at h; cases h
end
theorem strEq_iff {s t : ByteArray} : strEq s t = true ↔ s.data.toList = t.data.toList := by
  rw [strEq, beq_iff_eq, ByteArray.toList_eq, ByteArray.toList_eq]
theorem strEq_eq {s t : ByteArray} (h : strEq s t = true) : s = t := by
  have h1 := strEq_iff.1 h
  obtain ⟨⟨s⟩⟩ := s
  obtain ⟨⟨t⟩⟩ := t
  simp only at h1
  rw [h1]
theorem strEq_false {s t : ByteArray} : strEq s t = false ↔ s.data.toList ≠ t.data.toList := by
  rw [Ne, ← strEq_iff]; simp

abbrev CsT := ByteArray × List KindT
def nmX (x : CsT) : List UInt8 := x.1.data.toList
def encX (x : CsT) : PV := .agg [.str x.1, .slice (x.2.map encK)]
theorem cs_ext {x y : CsT} (h1 : nmX x = nmX y) (h2 : x.2 = y.2) : x = y := by
  have h3 : x.1 = y.1 := strEq_eq (strEq_iff.2 h1)
  exact Prod.ext h3 h2
def eqX (x y : CsT) : Bool := strEq x.1 y.1 && sameK (.mk x.2) (.mk y.2)
theorem eqX_iff {x y : CsT} : eqX x y = true ↔ x = y := by
  rw [eqX, Bool.and_eq_true]
  constructor
  · rintro ⟨h1, h2⟩
    refine cs_ext (strEq_iff.1 h1) ?_
    exact KindT.mk.inj (sameK_eq _ _ h2)
  · rintro rfl
    exact ⟨strEq_iff.2 rfl, sameK_refl _⟩

def pstepX (s : List CsT × Bool) (x : CsT) : List CsT × Bool :=
  match s.1.find? (fun y => strEq y.1 x.1) with
  | none => (s.1 ++ [x], s.2)
  | some y => (s.1, s.2 || !sameK (.mk y.2) (.mk x.2))
def rstepX : List CsT → CsT → List CsT
  | [], x => [x]
  | y :: r, x => if nmX y < nmX x then y :: rstepX r x else x :: (y :: r).filter fun z => !eqX z x

theorem rstepX_mem : ∀ (l : List CsT) (x z : CsT), z ∈ rstepX l x ↔ z = x ∨ z ∈ l
  | [], x, z => by simp [rstepX]
  | y :: r, x, z => by
    rw [rstepX]
    split
    · rw [List.mem_cons, rstepX_mem r x z, List.mem_cons]
      constructor
      · rintro (h | h | h)
        · exact .inr (.inl h)
        · exact .inl h
        · exact .inr (.inr h)
      · rintro (h | h | h)
        · exact .inr (.inl h)
        · exact .inl h
        · exact .inr (.inr h)
    · rw [List.mem_cons, List.mem_filter]
      constructor
      · rintro (h | ⟨h, _⟩)
        · exact .inl h
        · exact .inr h
      · rintro (h | h)
        · exact .inl h
        · by_cases e : z = x
          · exact .inl e
          · refine .inr ⟨h, ?_⟩
            rw [Bool.not_eq_true']
            cases e2 : eqX z x with
            | false => rfl
            | true => exact absurd (eqX_iff.1 e2) e
abbrev WeakX (l : List CsT) : Prop := l.Pairwise fun x y => ¬ nmX y < nmX x
theorem rstepX_weak : ∀ (l : List CsT) (x : CsT), WeakX l → WeakX (rstepX l x)
  | [], x, _ => by simp [rstepX, WeakX]
  | y :: r, x, h => by
    rw [WeakX, List.pairwise_cons] at h
    rw [rstepX]
    split
    · rename_i hlt
      rw [WeakX, List.pairwise_cons]
      refine ⟨fun z hz => ?_, rstepX_weak r x h.2⟩
      rcases (rstepX_mem r x z).1 hz with rfl | hz
      · exact fun h2 => absurd (List.lt_trans hlt h2) (List.lt_irrefl _)
      · exact h.1 z hz
    · rename_i hge
      rw [WeakX, List.pairwise_cons]
      refine ⟨fun z hz => ?_, ?_⟩
      · have hz := (List.mem_filter.1 hz).1
        rcases List.mem_cons.1 hz with rfl | hz
        · exact hge
        · have h1 := h.1 z hz
          rw [List.not_lt] at h1 hge ⊢
          exact List.le_trans hge h1
      · refine List.Pairwise.sublist List.filter_sublist ?_
        rw [List.pairwise_cons]
        exact h
theorem rstepX_nodup : ∀ (l : List CsT) (x : CsT), l.Nodup → (rstepX l x).Nodup
  | [], x, _ => by simp [rstepX]
  | y :: r, x, h => by
    rw [List.nodup_cons] at h
    rw [rstepX]
    split
    · rename_i hlt
      rw [List.nodup_cons]
      refine ⟨fun hy => ?_, rstepX_nodup r x h.2⟩
      rcases (rstepX_mem r x y).1 hy with rfl | hy
      · exact List.lt_irrefl _ hlt
      · exact h.1 hy
    · rw [List.nodup_cons]
      refine ⟨fun hx => ?_, ?_⟩
      · have := (List.mem_filter.1 hx).2
        rw [eqX_iff.2 rfl] at this
        cases this
      · exact List.Nodup.sublist List.filter_sublist (List.nodup_cons.2 h)
theorem rfoldX : ∀ (S l : List CsT), WeakX l → l.Nodup → WeakX (S.foldl rstepX l) ∧ (S.foldl rstepX l).Nodup ∧ ∀ z, z ∈ S.foldl rstepX l ↔ z ∈ l ∨ z ∈ S
  | [], l, h1, h2 => ⟨h1, h2, fun z => by simp⟩
  | x :: S, l, h1, h2 => by
    obtain ⟨h3, h4, h5⟩ := rfoldX S (rstepX l x) (rstepX_weak l x h1) (rstepX_nodup l x h2)
    refine ⟨h3, h4, fun z => ?_⟩
    rw [List.foldl_cons, h5 z, rstepX_mem, List.mem_cons]
    constructor
    · rintro ((h | h) | h)
      · exact .inr (.inl h)
      · exact .inl h
      · exact .inr (.inr h)
    · rintro (h | h | h)
      · exact .inl (.inr h)
      · exact .inl (.inl h)
      · exact .inr h

abbrev NoDupX (l : List CsT) : Prop := l.Pairwise fun x y => nmX x ≠ nmX y
structure PInv (T : List CsT) (s : List CsT × Bool) : Prop where
  sub : ∀ x ∈ s.1, x ∈ T
  nd : NoDupX s.1
  has : ∀ x ∈ T, ∃ y ∈ s.1, nmX y = nmX x
  all : s.2 = false → ∀ x ∈ T, x ∈ s.1
  two : s.2 = true → ∃ x ∈ T, ∃ y ∈ T, nmX x = nmX y ∧ x ≠ y
theorem nodup_names {l : List CsT} (h : NoDupX l) {x y : CsT} (hx : x ∈ l) (hy : y ∈ l) (e : nmX x = nmX y) : x = y := by
  induction l with
  | nil => cases hx
  | cons z l ih =>
    rw [NoDupX, List.pairwise_cons] at h
    rcases List.mem_cons.1 hx with h' | hx
    · subst h'
      rcases List.mem_cons.1 hy with h' | hy
      · exact h'.symm
      · exact absurd e (h.1 y hy)
    · rcases List.mem_cons.1 hy with h' | hy
      · rw [h'] at e
        exact absurd e.symm (h.1 x hx)
      · exact ih h.2 hx hy
theorem pstep_inv {T : List CsT} {s : List CsT × Bool} (h : PInv T s) (x : CsT) : PInv (T ++ [x]) (pstepX s x) := by
  obtain ⟨h1, h2, h3, h4, h5⟩ := h
  rw [pstepX]
  cases hf : s.1.find? (fun y => strEq y.1 x.1) with
  | none =>
    have hno : ∀ y ∈ s.1, nmX y ≠ nmX x := fun y hy => by
      have := List.find?_eq_none.1 hf y hy
      exact strEq_false.1 (by simpa using this)
    refine ⟨fun y hy => ?_, ?_, fun y hy => ?_, fun hd y hy => ?_, fun hd => ?_⟩
    · rcases List.mem_append.1 hy with hy | hy
      · exact List.mem_append_left _ (h1 y hy)
      · exact List.mem_append_right _ hy
    · show NoDupX (s.1 ++ [x])
      rw [NoDupX, List.pairwise_append]
      exact ⟨h2, by simp, fun y hy z hz => by rw [List.mem_singleton] at hz; subst hz; exact hno y hy⟩
    · rcases List.mem_append.1 hy with hy | hy
      · obtain ⟨z, hz, e⟩ := h3 y hy
        exact ⟨z, List.mem_append_left _ hz, e⟩
      · rw [List.mem_singleton] at hy; subst hy
        exact ⟨y, List.mem_append_right _ (by simp), rfl⟩
    · rcases List.mem_append.1 hy with hy | hy
      · exact List.mem_append_left _ (h4 hd y hy)
      · exact List.mem_append_right _ hy
    · obtain ⟨a, ha, b, hb, e⟩ := h5 hd
      exact ⟨a, List.mem_append_left _ ha, b, List.mem_append_left _ hb, e⟩
  | some y =>
    have hy := List.mem_of_find?_eq_some hf
    have hn : nmX y = nmX x := strEq_iff.1 (by simpa using List.find?_some hf)
    have hsd : (s.2 || !sameK (.mk y.2) (.mk x.2)) = false → y = x := fun hd => by
      rw [Bool.or_eq_false_iff, Bool.not_eq_false'] at hd
      exact cs_ext hn (KindT.mk.inj (sameK_eq _ _ hd.2))
    refine ⟨fun z hz => List.mem_append_left _ (h1 z hz), h2, fun z hz => ?_, fun hd z hz => ?_, fun hd => ?_⟩
    · rcases List.mem_append.1 hz with hz | hz
      · exact h3 z hz
      · rw [List.mem_singleton] at hz; subst hz
        exact ⟨y, hy, hn⟩
    · rcases List.mem_append.1 hz with hz | hz
      · refine h4 ?_ z hz
        have : (s.2 || !sameK (.mk y.2) (.mk x.2)) = false := hd
        rw [Bool.or_eq_false_iff] at this
        exact this.1
      · rw [List.mem_singleton] at hz; subst hz
        rw [← hsd hd]
        exact hy
    · have hd' : (s.2 || !sameK (.mk y.2) (.mk x.2)) = true := hd
      rw [Bool.or_eq_true] at hd'
      rcases hd' with hd' | hd'
      · obtain ⟨a, ha, b, hb, e⟩ := h5 hd'
        exact ⟨a, List.mem_append_left _ ha, b, List.mem_append_left _ hb, e⟩
      · refine ⟨y, List.mem_append_left _ (h1 y hy), x, List.mem_append_right _ (by simp), hn, fun e => ?_⟩
        rw [e, sameK_refl] at hd'
        cases hd'
theorem pfoldX : ∀ (S T : List CsT) (s : List CsT × Bool), PInv T s → PInv (T ++ S) (S.foldl pstepX s)
  | [], T, s, h => by simpa using h
  | x :: S, T, s, h => by
    have := pfoldX S (T ++ [x]) (pstepX s x) (pstep_inv h x)
    rwa [List.append_assoc, List.singleton_append] at this
theorem pinv_nil : PInv [] (([] : List CsT), false) := ⟨fun x h => by simp at h, by simp [NoDupX], fun x h => by simp at h, fun _ x h => by simp at h, fun h => by cases h⟩

def dupX : List CsT → Bool
  | x :: y :: r => strEq x.1 y.1 || dupX (y :: r)
  | _ => false
theorem dupX_strict : ∀ {s : List CsT}, WeakX s → dupX s = false → s.Pairwise fun x y => nmX x < nmX y
  | [], _, _ => List.Pairwise.nil
  | [x], _, _ => by simp
  | x :: y :: r, h, hd => by
    rw [dupX, Bool.or_eq_false_iff] at hd
    rw [WeakX, List.pairwise_cons] at h
    have ih := dupX_strict h.2 hd.2
    have hxy : nmX x < nmX y := by
      have h1 := h.1 y (by simp)
      rcases List.le_iff_lt_or_eq.1 (List.not_lt.1 h1) with h2 | h2
      · exact h2
      · exact absurd h2 (strEq_false.1 hd.1)
    rw [List.pairwise_cons]
    refine ⟨fun z hz => ?_, ih⟩
    rcases List.mem_cons.1 hz with rfl | hz
    · exact hxy
    · rw [List.pairwise_cons] at ih
      exact List.lt_trans hxy (ih.1 z hz)
theorem strict_dupX : ∀ {s : List CsT}, NoDupX s → dupX s = false
  | [], _ => rfl
  | [x], _ => rfl
  | x :: y :: r, h => by
    rw [NoDupX, List.pairwise_cons] at h
    rw [dupX, strict_dupX h.2, Bool.or_false]
    exact strEq_false.2 (h.1 y (by simp))
theorem strictX_unique : ∀ {s t : List CsT}, s.Pairwise (fun x y => nmX x < nmX y) → t.Pairwise (fun x y => nmX x < nmX y) → s.Perm t → s = t
  | [], t, _, _, hp => (List.nil_perm.1 hp).symm
  | x :: s, [], _, _, hp => absurd hp.length_eq (by simp)
  | x :: s, y :: t, hs, ht, hp => by
    have hx : x ∈ y :: t := hp.subset (by simp)
    have hy : y ∈ x :: s := hp.symm.subset (by simp)
    rw [List.pairwise_cons] at hs ht
    have e : x = y := by
      rcases List.mem_cons.1 hx with h | h
      · exact h
      · rcases List.mem_cons.1 hy with h' | h'
        · exact h'.symm
        · exact absurd (List.lt_trans (ht.1 x h) (hs.1 y h')) (List.lt_irrefl _)
    subst e
    rw [strictX_unique hs.2 ht.2 (List.Perm.cons_inv hp)]
theorem strictX_ne {s : List CsT} (h : s.Pairwise fun x y => nmX x < nmX y) : NoDupX s := h.imp fun h e => by rw [e] at h; exact List.lt_irrefl _ h
theorem nodX {s : List CsT} (h : NoDupX s) : s.Nodup := h.imp fun h e => h (by rw [e])

theorem consts_agree (S : List CsT) (srt : List CsT → List CsT) (hp : ∀ l, (srt l).Perm l) (hs : ∀ l, WeakX (srt l)) :
    dupX (S.foldl rstepX []) = (S.foldl pstepX ([], false)).2 ∧ ((S.foldl pstepX ([], false)).2 = false → srt (S.foldl pstepX ([], false)).1 = S.foldl rstepX [] ∧ (S.foldl rstepX []).Pairwise fun x y => nmX x < nmX y) := by
  obtain ⟨r1, r2, r3⟩ := rfoldX S [] (by simp [WeakX]) (by simp)
  have hI := pfoldX S [] ([], false) pinv_nil
  rw [List.nil_append] at hI
  obtain ⟨p1, p2, p3, p4, p5⟩ := hI
  cases hd : (S.foldl pstepX ([], false)).2 with
  | false =>
    have hm : ∀ z, z ∈ (S.foldl pstepX ([], false)).1 ↔ z ∈ S.foldl rstepX [] := fun z => by
      rw [r3 z]
      constructor
      · exact fun h => .inr (p1 z h)
      · rintro (h | h)
        · cases h
        · exact p4 hd z h
    have hperm : (S.foldl pstepX ([], false)).1.Perm (S.foldl rstepX []) := (List.perm_ext_iff_of_nodup (nodX p2) r2).2 hm
    have hnd : NoDupX (S.foldl rstepX []) := (hperm.pairwise_iff (fun {_ _} h => Ne.symm h)).1 p2
    have hdup := strict_dupX hnd
    have hst := dupX_strict r1 hdup
    refine ⟨hdup, fun _ => ⟨?_, hst⟩⟩
    have hq : (srt (S.foldl pstepX ([], false)).1).Perm (S.foldl rstepX []) := (hp _).trans hperm
    have hnd2 : NoDupX (srt (S.foldl pstepX ([], false)).1) := (hq.pairwise_iff (fun {_ _} h => Ne.symm h)).2 hnd
    exact strictX_unique (dupX_strict (hs _) (strict_dupX hnd2)) hst hq
  | true =>
    refine ⟨?_, fun h => by cases h⟩
    obtain ⟨x, hx, y, hy, e, hne⟩ := p5 hd
    cases hdup : dupX (S.foldl rstepX []) with
    | true => rfl
    | false =>
      have hst := dupX_strict r1 hdup
      exact absurd (nodup_names (strictX_ne hst) ((r3 x).2 (.inr hx)) ((r3 y).2 (.inr hy)) e) hne
end Go.Abs.Kon

namespace Go.Abs.Kon
open Go Go.Proofs Go.Abs
set_option maxRecDepth 100000
set_option maxHeartbeats 4000000

def pickX (xb : ConT × Int) : Option CsT := if xb.1.op = 2 then some (xb.1.s, xb.1.k) else none
def cstsF (c : ConT) (b : Int) : List CsT := (leaves c b).filterMap pickX
def cstsL (l : List ConT) (b : Int) : List CsT := (leavesL l b).filterMap pickX
theorem cstsL_cons (x : ConT) (r : List ConT) (b : Int) : cstsL (x :: r) b = cstsF x b ++ cstsL r b := by
  rw [cstsL, leavesL, List.filterMap_append]; rfl
theorem cstsL_nil (b : Int) : cstsL [] b = [] := by rw [cstsL, leavesL]; rfl
theorem csts_const (n : Int) (s : ByteArray) (k : List KindT) (names : List ByteArray) (l : List ConT) (b : Int) : cstsF (.mk 2 n s k names l) b = [(s, k)] := by
  rw [cstsF, leaves, if_pos (.inr rfl)]; rfl
theorem csts_var (n : Int) (s : ByteArray) (k : List KindT) (names : List ByteArray) (l : List ConT) (b : Int) : cstsF (.mk 1 n s k names l) b = [] := by
  rw [cstsF, leaves, if_pos (.inl rfl)]; rfl
theorem csts_node {op : Int} (h1 : ¬ (op = 1 ∨ op = 2)) (n : Int) (s : ByteArray) (k : List KindT) (names : List ByteArray) (l : List ConT) (b : Int) : cstsF (.mk op n s k names l) b = cstsL l (if isBinder op then b + 1 else b) := by
  rw [cstsF, leaves, if_neg h1]; rfl
mutual
theorem csts_len : ∀ (c : ConT) (b : Int), (cstsF c b).length ≤ sizeF c
  | .mk op n s k names l, b => by
    have ih := cstsL_len l (if isBinder op then b + 1 else b)
    rw [sizeF]
    by_cases h : op = 1 ∨ op = 2
    · rcases h with rfl | rfl
      · rw [csts_var]; simp
      · rw [csts_const]; simp
    · rw [csts_node h]; omega
theorem cstsL_len : ∀ (l : List ConT) (b : Int), (cstsL l b).length ≤ sizeL l
  | [], b => by rw [cstsL_nil]; simp
  | x :: r, b => by
    rw [cstsL_cons, List.length_append, sizeL]
    have := csts_len x b
    have := cstsL_len r b
    omega
end
theorem const_formed {x : ConT} (h : x.op = 2) (hf : formedF x = true) : constF x.s = true ∧ (sizeK (.mk x.k) 20000 1).isSome = true := by
  obtain ⟨op, n, s, k, names, l⟩ := x
  obtain rfl : op = 2 := h
  rw [formedF, nodeF] at hf
  simp only [Bool.and_eq_true] at hf
  obtain ⟨⟨_, _, hc, hk, _⟩, _⟩ := hf
  refine ⟨?_, ?_⟩
  · show constF s = true
    simpa using hc
  · show (sizeK (.mk k) 20000 1).isSome = true
    simpa using hk
def constC (x : CsT) : ConT := .mk 2 0 x.1 x.2 [] []
theorem const_self {x : ConT} (h : x.op = 2) (hf : formedF x = true) : x = constC (x.s, x.k) := by
  have h1 := leafC_formed (.inr h) hf
  obtain ⟨op, n, s, k, names, l⟩ := x
  obtain rfl : op = 2 := h
  have hn : n = 0 := by
    rw [formedF, nodeF] at hf
    simp only [Bool.and_eq_true] at hf
    obtain ⟨⟨_, hn, _⟩, _⟩ := hf
    simpa using hn
  subst hn
  exact h1.symm
theorem constC_formed {x : CsT} (h1 : constF x.1 = true) (h2 : (sizeK (.mk x.2) 20000 1).isSome = true) : formedF (constC x) = true := by
  rw [constC, formedF, nodeF, formedL]
  simp [h1, h2, isBinder, isLabelled, partsF, ascF]
mutual
theorem csts_mem : ∀ (c : ConT) (b : Int), formedF c = true → ∀ x ∈ cstsF c b, constF x.1 = true ∧ (sizeK (.mk x.2) 20000 1).isSome = true
  | .mk op n s k names l, b, hf, x, hx => by
    by_cases h : op = 1 ∨ op = 2
    · rcases h with rfl | rfl
      · rw [csts_var] at hx; cases hx
      · rw [csts_const, List.mem_singleton] at hx
        subst hx
        exact const_formed (x := .mk 2 n s k names l) rfl hf
    · rw [csts_node h] at hx
      exact cstsL_mem l _ (by rw [formedF, Bool.and_eq_true] at hf; exact hf.2) x hx
theorem cstsL_mem : ∀ (l : List ConT) (b : Int), formedL l = true → ∀ x ∈ cstsL l b, constF x.1 = true ∧ (sizeK (.mk x.2) 20000 1).isSome = true
  | [], b, hf, x, hx => by rw [cstsL_nil] at hx; cases hx
  | y :: r, b, hf, x, hx => by
    rw [formedL, Bool.and_eq_true] at hf
    rw [cstsL_cons] at hx
    rcases List.mem_append.1 hx with hx | hx
    · exact csts_mem y b hf.1 x hx
    · exact cstsL_mem r b hf.2 x hx
end

/-! Binding -/
def findX : List ByteArray → ByteArray → Int → Int
  | [], _, _ => -1
  | x :: r, s, i => if strEq x s then i else findX r s (i + 1)
theorem findX_ge : ∀ (l : List ByteArray) (s : ByteArray) (i : Int), 0 ≤ i → findX l s i = -1 ∨ (i ≤ findX l s i ∧ findX l s i < i + l.length)
  | [], s, i, _ => .inl rfl
  | x :: r, s, i, h => by
    rw [findX, List.length_cons]
    split
    · exact .inr ⟨by omega, by omega⟩
    · rcases findX_ge r s (i + 1) (by omega) with h1 | ⟨h1, h2⟩
      · exact .inl h1
      · exact .inr ⟨by omega, by omega⟩
theorem findX_no : ∀ (l : List ByteArray) (s : ByteArray) (i : Int), 0 ≤ i → findX l s i < 0 → ∀ x ∈ l, strEq x s = false
  | [], s, i, _, _, x, hx => by cases hx
  | y :: r, s, i, h, hl, x, hx => by
    rw [findX] at hl
    split at hl
    · omega
    · rename_i hy
      rcases List.mem_cons.1 hx with rfl | hx
      · simpa using hy
      · exact findX_no r s (i + 1) (by omega) hl x hx
theorem findX_at : ∀ (l : List ByteArray) (s : ByteArray) (i : Int), 0 ≤ i → 0 ≤ findX l s i → l[(findX l s i - i).toNat]? = some s
  | [], s, i, _, h => by rw [findX] at h; omega
  | x :: r, s, i, h0, h => by
    rw [findX] at h ⊢
    split at h
    · rename_i hx
      rw [if_pos hx, Int.sub_self]
      rw [strEq_eq hx]; rfl
    · rename_i hx
      rw [if_neg hx]
      have h1 := findX_at r s (i + 1) (by omega) h
      have h2 := findX_ge r s (i + 1) (by omega)
      have e : (findX r s (i + 1) - i).toNat = (findX r s (i + 1) - (i + 1)).toNat + 1 := by omega
      rw [e, List.getElem?_cons_succ, h1]
def bindLeaf (names : List ByteArray) (x : ConT) (b : Int) : ConT :=
  if x.op = 1 then shiftLeaf names.length 0 x b else if findX names x.s 0 ≥ 0 then varC (b + names.length - 1 - findX names x.s 0) else leafC x
mutual
def rBindF (names : List ByteArray) : ConT → Int → ConT
  | .mk op n s k nm l, d => if op = 2 then (if findX names s 0 ≥ 0 then varC (d + names.length - 1 - findX names s 0) else .mk op n s k nm l) else if op = 1 then (if n ≥ d then varC (n + names.length) else .mk op n s k nm l) else .mk op n s k nm (rBindL names l (deepF op d))
def rBindL (names : List ByteArray) : List ConT → Int → List ConT
  | [], _ => []
  | x :: r, d => rBindF names x d :: rBindL names r d
end
mutual
theorem bind_eq (names : List ByteArray) : ∀ (c : ConT) (b : Int), formedF c = true → mapF (bindLeaf names) c b = rBindF names c b
  | .mk op n s k nm l, b, hf => by
    rw [mapF, rBindF]
    by_cases ho : op = 1 ∨ op = 2
    · rw [if_pos ho]
      have hl := leafC_self hf ho
      rcases ho with rfl | rfl
      · rw [if_neg (by decide), if_pos rfl]
        have e : bindLeaf names (.mk 1 n s k nm l) b = shiftLeaf names.length 0 (.mk 1 n s k nm l) b := if_pos rfl
        rw [e]
        by_cases h : n ≥ b
        · rw [shift_hi rfl (by show n - b ≥ 0; omega), if_pos h]
          rfl
        · rw [shift_lo (fun h' => h (by have h2 : n - b ≥ 0 := h'.2; omega)), if_neg h, hl]
      · rw [if_pos rfl]
        have e : bindLeaf names (.mk 2 n s k nm l) b = if findX names s 0 ≥ 0 then varC (b + names.length - 1 - findX names s 0) else leafC (.mk 2 n s k nm l) := if_neg (by show ¬ (2 : Int) = 1; decide)
        rw [e, hl]
    · rw [if_neg ho, if_neg (fun e => ho (.inr e)), if_neg (fun e => ho (.inl e)), bindL_eq names l _ (by rw [formedF, Bool.and_eq_true] at hf; exact hf.2), deepF]
theorem bindL_eq (names : List ByteArray) : ∀ (l : List ConT) (b : Int), formedL l = true → mapL (bindLeaf names) l b = rBindL names l b
  | [], b, _ => by rw [mapL, rBindL]
  | x :: r, b, hf => by
    rw [formedL, Bool.and_eq_true] at hf
    rw [mapL, rBindL, bind_eq names x b hf.1, bindL_eq names r b hf.2]
end
def unbindLeaf (l : List CsT) (x : ConT) (b : Int) : ConT :=
  if x.op ≠ 1 ∨ x.n - b < 0 then leafC x else if x.n - b ≥ l.length then varC (x.n - l.length) else constC (l.getD (l.length - 1 - (x.n - b).toNat) (ByteArray.empty, []))
theorem constC_valid {x : CsT} (h1 : constF x.1 = true) (h2 : (sizeK (.mk x.2) 20000 1).isSome = true) : validF (constC x) = true := by
  rw [validF, constC_formed h1 h2]
  simp [constC, sizeF, sizeL, depthF, depthL]
theorem shift_const (x : CsT) (b : Int) : mapF (shiftLeaf b 0) (constC x) 0 = constC x := by
  rw [constC, mapF, if_pos (.inr rfl), shiftLeaf, if_neg (fun h => absurd h.1 (by show ¬ (2 : Int) = 1; decide))]
  rfl
theorem unbind_eq (l : List CsT) (hl : ∀ x ∈ l, constF x.1 = true ∧ (sizeK (.mk x.2) 20000 1).isSome = true) (c : ConT) (hf : formedF c = true) :
    mapF (unbindLeaf l) c 0 = rSubstF (l.reverse.map constC) c 0 := by
  have hv : (l.reverse.map constC).all validF = true := by
    rw [List.all_eq_true]
    intro y hy
    obtain ⟨x, hx, rfl⟩ := List.mem_map.1 hy
    exact constC_valid (hl x (List.mem_reverse.1 hx)).1 (hl x (List.mem_reverse.1 hx)).2
  rw [← subst_eq _ hv c 0 hf, substM_eq _ hv]
  refine map_congr c 0 0 fun x t ht hx => ?_
  rw [Int.zero_add]
  have hlen : ((l.reverse.map constC).length : Int) = l.length := by simp
  by_cases h1 : x.op ≠ 1 ∨ x.n - t < 0
  · rw [unbindLeaf, if_pos h1, sub_lo h1]
  · have h1a : x.op = 1 := Decidable.byContradiction fun e => h1 (.inl e)
    have h1b : 0 ≤ x.n - t := by
      refine Decidable.byContradiction fun h => h1 (.inr (by omega))
    rw [unbindLeaf, if_neg h1]
    by_cases h2 : x.n - t ≥ l.length
    · rw [if_pos h2, sub_hi h1a h1b (by rw [hlen]; exact h2) (by rw [hlen])]
    · rw [if_neg h2, sub_in h1a rfl h1b (by rw [hlen]; omega)]
      have hlt : (x.n - t).toNat < l.length := by omega
      have e : (l.reverse.map constC).getD (x.n - t).toNat zeroC = constC (l.getD (l.length - 1 - (x.n - t).toNat) (ByteArray.empty, [])) := by
        rw [List.getD_eq_getElem?_getD, List.getElem?_map, List.getElem?_reverse hlt, List.getD_eq_getElem?_getD, List.getElem?_eq_getElem (by omega)]
        rfl
      rw [e, shift_const]
mutual
theorem leaf_keep (leaf : ConT → Int → ConT) : ∀ (c : ConT) (b : Int), formedF c = true → (∀ x b', (x, b') ∈ leaves c b → isLeaf (leaf x b') ∧ formedF (leaf x b') = true) → sizeF (mapF leaf c b) = sizeF c ∧ depthF (mapF leaf c b) = depthF c ∧ formedF (mapF leaf c b) = true
  | .mk op n s k names l, b, hf, h => by
    rw [mapF]
    by_cases ho : op = 1 ∨ op = 2
    · rw [if_pos ho]
      obtain ⟨h1, h2⟩ := h (.mk op n s k names l) b (by rw [leaves, if_pos ho]; simp)
      have e := leafC_formed h1 h2
      have hl := leaf_nil hf ho
      subst hl
      refine ⟨?_, ?_, h2⟩
      · rw [← e, size_leafC, sizeF, sizeL]
      · rw [← e, leafC, depthF, depthF]
    · rw [if_neg ho]
      have hfl : formedL l = true := by rw [formedF, Bool.and_eq_true] at hf; exact hf.2
      obtain ⟨h1, h2, h3, h4⟩ := leaf_keepL leaf l (if isBinder op then b + 1 else b) hfl fun x b' hx => h x b' (by rw [leaves, if_neg ho]; exact hx)
      rw [sizeF, sizeF, depthF, depthF, h1, h2]
      refine ⟨rfl, rfl, ?_⟩
      rw [formedF, h3, h4]
      rw [formedF, Bool.and_eq_true] at hf
      rw [hf.1]; rfl
theorem leaf_keepL (leaf : ConT → Int → ConT) : ∀ (l : List ConT) (b : Int), formedL l = true → (∀ x b', (x, b') ∈ leavesL l b → isLeaf (leaf x b') ∧ formedF (leaf x b') = true) → sizeL (mapL leaf l b) = sizeL l ∧ depthL (mapL leaf l b) = depthL l ∧ formedL (mapL leaf l b) = true ∧ (mapL leaf l b).length = l.length
  | [], b, _, _ => by rw [mapL]; exact ⟨rfl, rfl, rfl, rfl⟩
  | x :: r, b, hf, h => by
    rw [formedL, Bool.and_eq_true] at hf
    obtain ⟨h1, h2, h3⟩ := leaf_keep leaf x b hf.1 fun y b' hy => h y b' (by rw [leavesL]; exact List.mem_append_left _ hy)
    obtain ⟨g1, g2, g3, g4⟩ := leaf_keepL leaf r b hf.2 fun y b' hy => h y b' (by rw [leavesL]; exact List.mem_append_right _ hy)
    rw [mapL, sizeL, sizeL, depthL, depthL, formedL, h1, h2, h3, g1, g2, g3, List.length_cons, List.length_cons, g4]
    exact ⟨rfl, rfl, rfl, rfl⟩
end
theorem var_isF {n : Int} (h1 : 0 ≤ n) (h2 : n ≤ 20000) : formedF (varC n) = true := by
  rw [varC, formedF, nodeF, formedL]
  have e : bytesOf ByteArray.empty = [] := rfl
  simp [isBinder, isLabelled, partsF, ascF, h1, h2, e]
theorem unbind_valid (l : List CsT) (hl : ∀ x ∈ l, constF x.1 = true ∧ (sizeK (.mk x.2) 20000 1).isSome = true) (c : ConT) (hv : validF c = true) : validF (mapF (unbindLeaf l) c 0) = true := by
  have hf := validF_formed hv
  obtain ⟨h1, h2, h3⟩ := leaf_keep (unbindLeaf l) c 0 hf fun x b' hx => by
    obtain ⟨_, _, g3, g4, _, g6⟩ := leaves_mem c 0 x b' hx
    have hxf := g3 hf
    have hn := formed_n hxf
    rw [unbindLeaf]
    split
    · rw [leafC_formed g6 hxf]
      exact ⟨g6, hxf⟩
    · split
      · exact ⟨.inl rfl, var_isF (by omega) (by omega)⟩
      · refine ⟨.inr rfl, ?_⟩
        have hlt : l.length - 1 - (x.n - b').toNat < l.length := by omega
        rw [List.getD_eq_getElem?_getD, List.getElem?_eq_getElem hlt, Option.getD_some]
        have := hl _ (List.getElem_mem hlt)
        exact constC_formed this.1 this.2
  rw [validF] at hv ⊢
  rw [h1, h2, h3]
  rw [hf] at hv
  exact hv
theorem bind_back (ks : List CsT) (hnd : NoDupX ks) (c : ConT) (hf : formedF c = true) (hc : ∀ x ∈ cstsF c 0, x ∈ ks) : mapF (unbindLeaf ks) (mapF (bindLeaf (ks.map (·.1))) c 0) 0 = c := by
  have hlen : ((ks.map (·.1)).length : Int) = ks.length := by simp
  have main : ∀ (x : ConT) (b : Int), 0 ≤ b → isLeaf x → formedF x = true → (x.op = 2 → (x.s, x.k) ∈ ks) → unbindLeaf ks (bindLeaf (ks.map (·.1)) x b) b = x ∧ isLeaf (bindLeaf (ks.map (·.1)) x b) := by
    intro x b hb hx hxf hxc
    have hn := formed_n hxf
    rw [bindLeaf]
    by_cases h1 : x.op = 1
    · rw [if_pos h1]
      by_cases h2 : x.n - b ≥ 0
      · rw [shift_hi h1 h2, unbindLeaf, varC_op, varC_n, hlen, if_neg (by rintro (h | h); exact h rfl; omega), if_pos (by omega)]
        refine ⟨?_, .inl rfl⟩
        rw [show x.n + (ks.length : Int) - ks.length = x.n by omega]
        exact var_formed h1 hxf
      · rw [shift_lo (fun h => h2 h.2), leafC_formed hx hxf, unbindLeaf, if_pos (.inr (by omega)), leafC_formed hx hxf]
        exact ⟨rfl, hx⟩
    · have h2 : x.op = 2 := hx.resolve_left h1
      rw [if_neg h1]
      have hk := hxc h2
      have hfx := findX_ge (ks.map (·.1)) x.s 0 (by decide)
      by_cases hneg : findX (ks.map (·.1)) x.s 0 ≥ 0
      · rw [if_pos hneg]
        obtain ⟨i, hi⟩ : ∃ i : Nat, findX (ks.map (·.1)) x.s 0 = i := ⟨(findX (ks.map (·.1)) x.s 0).toNat, by omega⟩
        have hat := findX_at (ks.map (·.1)) x.s 0 (by decide) hneg
        rw [hi] at hat hfx ⊢
        rw [List.length_map] at hfx
        have hik : i < ks.length := by omega
        rw [show ((i : Int) - 0).toNat = i by omega, List.getElem?_map, List.getElem?_eq_getElem hik, Option.map_some] at hat
        have e1 : ks[i].1 = x.s := Option.some.inj hat
        have e2 : ks[i] = (x.s, x.k) := nodup_names hnd (List.getElem_mem hik) hk (by show ks[i].1.data.toList = x.s.data.toList; rw [e1])
        rw [unbindLeaf, varC_op, varC_n, hlen, if_neg (by rintro (h | h); exact h rfl; omega), if_neg (by omega)]
        refine ⟨?_, .inl rfl⟩
        have e3 : ks.length - 1 - (b + (ks.length : Int) - 1 - i - b).toNat = i := by omega
        rw [e3, List.getD_eq_getElem?_getD, List.getElem?_eq_getElem hik, Option.getD_some, e2]
        exact (const_self h2 hxf).symm
      · have := findX_no (ks.map (·.1)) x.s 0 (by decide) (by omega) x.s (List.mem_map.2 ⟨_, hk, rfl⟩)
        rw [strEq] at this
        simp at this
  have walk : ∀ (c : ConT) (b : Int), 0 ≤ b → formedF c = true → (∀ x ∈ cstsF c b, x ∈ ks) → mapF (unbindLeaf ks) (mapF (bindLeaf (ks.map (·.1))) c b) b = c := by
    intro c
    refine ConT.ind1 (M := fun c => ∀ b : Int, 0 ≤ b → formedF c = true → (∀ x ∈ cstsF c b, x ∈ ks) → mapF (unbindLeaf ks) (mapF (bindLeaf (ks.map (·.1))) c b) b = c) (fun op n s k names l ih b hb hf hc => ?_) c
    by_cases ho : op = 1 ∨ op = 2
    · rw [show mapF (bindLeaf (ks.map (·.1))) (.mk op n s k names l) b = bindLeaf (ks.map (·.1)) (.mk op n s k names l) b by rw [mapF, if_pos ho]]
      obtain ⟨h1, h2⟩ := main (.mk op n s k names l) b hb ho hf fun h => by
        have h' : op = 2 := h
        subst h'
        refine hc _ ?_
        rw [csts_const]
        exact List.mem_singleton.2 rfl
      have h3 : ∀ y : ConT, isLeaf y → mapF (unbindLeaf ks) y b = unbindLeaf ks y b := fun y hy => by
        obtain ⟨op', n', s', k', names', l'⟩ := y
        have hy' : op' = 1 ∨ op' = 2 := hy
        rw [mapF, if_pos hy']
      rw [h3 _ h2, h1]
    · rw [show mapF (bindLeaf (ks.map (·.1))) (.mk op n s k names l) b = .mk op n s k names (mapL (bindLeaf (ks.map (·.1))) l (if isBinder op then b + 1 else b)) by rw [mapF, if_neg ho], mapF, if_neg ho]
      congr 1
      have hfl : formedL l = true := by rw [formedF, Bool.and_eq_true] at hf; exact hf.2
      rw [csts_node ho] at hc
      have hbb : 0 ≤ (if isBinder op then b + 1 else b) := by split <;> omega
      generalize (if isBinder op then b + 1 else b) = bb at hc hbb ⊢
      clear hf ho
      induction l with
      | nil => rw [mapL, mapL]
      | cons x r ihr =>
        rw [formedL, Bool.and_eq_true] at hfl
        rw [cstsL_cons] at hc
        rw [mapL, mapL, ih x (by simp) bb hbb hfl.1 fun y hy => hc y (List.mem_append_left _ hy), ihr (fun y hy => ih y (by simp [hy])) hfl.2 fun y hy => hc y (List.mem_append_right _ hy)]
  exact walk c 0 (by decide) hf hc
theorem bind_none (names : List ByteArray) (c : ConT) (hf : formedF c = true) (hc : ∀ x ∈ cstsF c 0, x.1 ∈ names) : cstsF (mapF (bindLeaf names) c 0) 0 = [] := by
  have walk : ∀ (c : ConT) (b : Int), formedF c = true → (∀ x ∈ cstsF c b, x.1 ∈ names) → cstsF (mapF (bindLeaf names) c b) b = [] := by
    intro c
    refine ConT.ind1 (M := fun c => ∀ b : Int, formedF c = true → (∀ x ∈ cstsF c b, x.1 ∈ names) → cstsF (mapF (bindLeaf names) c b) b = []) (fun op n s k nm l ih b hf hc => ?_) c
    rw [mapF]
    by_cases ho : op = 1 ∨ op = 2
    · rw [if_pos ho]
      have hv : ∀ m : Int, cstsF (varC m) b = [] := fun m => csts_var _ _ _ _ _ _
      rcases ho with rfl | rfl
      · have e : bindLeaf names (.mk 1 n s k nm l) b = shiftLeaf names.length 0 (.mk 1 n s k nm l) b := if_pos rfl
        rw [e, shiftLeaf]
        split
        · exact hv _
        · exact csts_var _ _ _ _ _ _
      · have e : bindLeaf names (.mk 2 n s k nm l) b = if findX names s 0 ≥ 0 then varC (b + names.length - 1 - findX names s 0) else leafC (.mk 2 n s k nm l) := if_neg (by show ¬ (2 : Int) = 1; decide)
        rw [e, if_pos]
        · exact hv _
        · rw [csts_const] at hc
          have h1 := hc (s, k) (by simp)
          refine Decidable.byContradiction fun hneg => ?_
          have := findX_no names s 0 (by decide) (by omega) s h1
          rw [strEq] at this
          simp at this
    · rw [if_neg ho, csts_node ho]
      rw [csts_node ho] at hc
      have hfl : formedL l = true := by rw [formedF, Bool.and_eq_true] at hf; exact hf.2
      generalize (if isBinder op then b + 1 else b) = bb at hc ⊢
      clear hf ho
      induction l with
      | nil => rw [mapL, cstsL_nil]
      | cons x r ihr =>
        rw [formedL, Bool.and_eq_true] at hfl
        rw [cstsL_cons] at hc
        rw [mapL, cstsL_cons, ih x (by simp) bb hfl.1 fun y hy => hc y (List.mem_append_left _ hy), ihr (fun y hy => ih y (by simp [hy])) hfl.2 fun y hy => hc y (List.mem_append_right _ hy)]
        rfl
  exact walk c 0 hf hc
end Go.Abs.Kon

namespace Go.Abs.Kon
open Go Go.Proofs Go.Abs Go.ChangeShapes Go.WideShapes Go.ChangeAt Go.RowKit
set_option maxRecDepth 100000
set_option maxHeartbeats 4000000
theorem cellsX : Tryz.prog.cellsOf 36 = 2 := by kernel_rfl
section
variable {H : Type} {enc : TypeId × Value → H} {W : World} {base base' : Nat} {sp : Nat → Bool} {hd : Bool}
theorem open_const (n : Nat) (cs : List Value) (x : DataW H × List MemPlace) (h : DataW.trod enc Tryz.prog W base sp hd n 36 cs = some x) :
    ∃ (c : CsT) (u : Value), u.cells.toList = cs ∧ Rep (memI W) (encX c) u ∧ Sz.okV (.agg 2) u = true := by
  obtain ⟨xs, m, rfl, _, hl, hxs, hf⟩ := DataW.trod_struct Tryz.underlying36 h
  rw [cellsX] at hl
  obtain ⟨v0, v1, rfl⟩ : ∃ v0 v1, cs = [v0, v1] := by
    match cs, hl with
    | [v0, v1], _ => exact ⟨v0, v1, rfl⟩
  obtain ⟨y0, y1, rfl⟩ : ∃ y0 y1, xs = [y0, y1] := by
    match xs, hxs with
    | [y0, y1], _ => exact ⟨y0, y1, rfl⟩
  have h0 := hf 0 { name := "Name", type := 9, offset := 0, embedded := false, tag := "", pkgPath := "", byteOffset := 0 } rfl
  have h1 := hf 1 { name := "Kind", type := 24, offset := 1, embedded := false, tag := "", pkgPath := "", byteOffset := 16 } rfl
  simp only [cells9, cells24, List.drop_succ_cons, List.drop_zero, List.take_succ_cons, List.take_zero, List.getElem?_cons_zero, List.getElem?_cons_succ] at h0 h1
  obtain ⟨s, us, k0, r0, _⟩ := open_str h0
  obtain ⟨kl, vk, k1, r1, o1⟩ := open_kind _ _ _ h1
  rw [Rep] at r0
  subst r0
  simp [Value.cells] at k0 k1
  subst k0 k1
  have hone : ∀ z ∈ #[Value.string s, v1].toList, z.oneCell' = true := by
    intro z hz
    simp only [List.mem_cons, List.not_mem_nil, or_false] at hz
    rcases hz with rfl | rfl
    · rfl
    · exact o1
  refine ⟨(s, kl), .agg #[.string s, v1], rfl, ?_, ?_⟩
  · rw [encX, Rep]
    refine ⟨_, rfl, ?_, hone⟩
    simp only [RepL, Rep]
    rw [Rep] at r1
    exact ⟨_, _, rfl, rfl, _, _, rfl, r1, rfl⟩
  · simp only [Sz.okV, Bool.and_eq_true, List.all_eq_true]
    exact ⟨rfl, hone⟩
theorem arg_consts {v : Value} {d : DataW H} {ps : List MemPlace} (hv : Value.okWide Tryz.prog W .any base' 29 v) (h : DataW.Trod enc Tryz.prog W base sp hd 29 v d ps) : ∃ l : List CsT, Rep (memI W) (.slice (l.map encX)) v := by
  obtain ⟨n, hn⟩ := h
  haveI : Inhabited CsT := ⟨(ByteArray.empty, [])⟩
  obtain ⟨l, u, h1, h2, h3⟩ := open_elems (k := .agg 2) Tryz.underlying29 cellsX (by decide) encX (fun m' cs' x' hm h' => open_const m' cs' x' h') hn
  have hu : u = v := by
    rw [Value.okWide, Tryz.underlying29] at hv
    simp only [Cell.okWide, Tryz.underlying29] at hv
    cases v <;> simp [Cell.ok, Tryz.underlying29] at hv <;> simp [Value.cells] at h1 <;> exact h1.symm
  exact ⟨l, hu ▸ h2⟩
theorem arg_strs {v : Value} {d : DataW H} {ps : List MemPlace} (hv : Value.okWide Tryz.prog W .any base' 25 v) (h : DataW.Trod enc Tryz.prog W base sp hd 25 v d ps) : ∃ l : List ByteArray, Rep (memI W) (.slice (l.map .str)) v := by
  obtain ⟨n, hn⟩ := h
  obtain ⟨l, u, h1, h2, h3⟩ := open_elems (k := .one) Tryz.underlying25 cells9 (by decide) PV.str (fun m' cs' x' hm h' => open_str h') hn
  have hu : u = v := by
    rw [Value.okWide, Tryz.underlying25] at hv
    simp only [Cell.okWide, Tryz.underlying25] at hv
    cases v <;> simp [Cell.ok, Tryz.underlying25] at hv <;> simp [Value.cells] at h1 <;> exact h1.symm
  exact ⟨l, hu ▸ h2⟩
end
end Go.Abs.Kon
