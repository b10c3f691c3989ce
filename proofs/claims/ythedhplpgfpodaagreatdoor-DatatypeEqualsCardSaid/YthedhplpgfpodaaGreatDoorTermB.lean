/- Terms. -/
import Derived.Test.YthedhplpgfpodaaGreatDoorTermA
import Derived.Test.YthedhplpgfpodaaGreatDoorKonH
import Derived.Test.YthedhplpgfpodaaGreatDoorAbsC
import Derived.Test.YthedhplpgfpodaaGreatDoorShelfA
import Derived.Maps.RangeRun
import Derived.WalkKit
import Derived.Maps.AppendAt
import Derived.BigCall
set_option linter.unusedSimpArgs false
set_option linter.unusedVariables false
namespace Go.Abs.Kon
open Go Go.Proofs Go.Abs
set_option maxRecDepth 100000
set_option maxHeartbeats 4000000
/-! The reference -/
end Go.Abs.Kon
namespace Go.Abs.Kon
open Go Go.Proofs Go.Abs
set_option maxRecDepth 100000
set_option maxHeartbeats 4000000
def addL (n : Int) : List Int → Bool → List Int
  | [], done => if done = true then [] else [n]
  | x :: r, done => (if done = false ∧ x ≥ n then [n] else []) ++ ((if x ≠ n then [x] else []) ++ addL n r (done || decide (x ≥ n)))
theorem addL_done (n : Int) : ∀ l : List Int, (∀ x ∈ l, x > n) → addL n l true = l
  | [], _ => by rw [addL, if_pos rfl]
  | x :: r, h => by
    have hx := h x (by simp)
    rw [addL, if_neg (fun e => by cases e.1), if_pos (by omega), Bool.true_or, addL_done n r fun y hy => h y (by simp [hy])]
    rfl
theorem addL_insU (n : Int) : ∀ l : List Int, l.Pairwise (· < ·) → addL n l false = insU n l
  | [], _ => by rw [addL, insU, if_neg (by decide)]
  | x :: r, h => by
    have h0 := List.pairwise_cons.1 h
    rw [addL, insU]
    by_cases h1 : n < x
    · rw [if_pos h1, if_pos ⟨rfl, by omega⟩, if_pos (by omega), Bool.false_or, decide_eq_true (by omega : x ≥ n), addL_done n r fun y hy => by have := h0.1 y hy; omega]
      rfl
    · rw [if_neg h1]
      by_cases h2 : n = x
      · subst h2
        rw [if_pos rfl, if_pos ⟨rfl, by omega⟩, if_neg (by simp), Bool.false_or, decide_eq_true (by omega : n ≥ n), addL_done n r fun y hy => h0.1 y hy]
        rfl
      · rw [if_neg h2, if_neg (by omega), if_pos (by omega), Bool.false_or, decide_eq_false (by omega : ¬ x ≥ n), addL_insU n r h0.2]
        rfl
def pickA (x : ConT × Int) : Option Int := if x.1.op = 1 ∧ x.1.n ≥ x.2 then some (x.1.n - x.2) else none
theorem pickA_mk (op n : Int) (s : ByteArray) (k : List KindT) (names : List ByteArray) (l : List ConT) (d : Int) : pickA (.mk op n s k names l, d) = if op = 1 ∧ n ≥ d then some (n - d) else none := rfl
def rfreeA (c : ConT) (d : Int) : List Int := (leaves c d).filterMap pickA
def rfreeAL (l : List ConT) (d : Int) : List Int := (leavesL l d).filterMap pickA
theorem rfreeA_0 (c : ConT) : rfreeA c 0 = freeL c := rfl
abbrev insAll (l m : List Int) : List Int := m.foldl (fun acc x => insU x acc) l
theorem rfreeAL_cons (x : ConT) (r : List ConT) (d : Int) : rfreeAL (x :: r) d = rfreeA x d ++ rfreeAL r d := by rw [rfreeAL, leavesL, List.filterMap_append]; rfl
theorem rfreeA_var {n : Int} {s : ByteArray} {k : List KindT} {names : List ByteArray} {l : List ConT} {d : Int} : rfreeA (.mk 1 n s k names l) d = if n ≥ d then [n - d] else [] := by
  rw [rfreeA, leaves, if_pos (.inl rfl)]
  rw [List.filterMap_cons, List.filterMap_nil, pickA_mk]
  by_cases h : n ≥ d
  · have h' : (1 : Int) = 1 ∧ n ≥ d := ⟨rfl, h⟩
    rw [if_pos h', if_pos h]
  · have h' : ¬ ((1 : Int) = 1 ∧ n ≥ d) := fun e => h e.2
    rw [if_neg h', if_neg h]
theorem rfreeA_node {op n : Int} {s : ByteArray} {k : List KindT} {names : List ByteArray} {l : List ConT} {d : Int} (h : formedF (.mk op n s k names l) = true) (h1 : op ≠ 1) : rfreeA (.mk op n s k names l) d = rfreeAL l (deepF op d) := by
  by_cases h2 : op = 2
  · have := leaf_nil h (.inr h2)
    subst this
    rw [rfreeA, leaves, if_pos (.inr h2), rfreeAL, leavesL]
    have h' : ¬ (op = 1 ∧ n ≥ d) := fun e => h1 e.1
    rw [List.filterMap_cons, List.filterMap_nil, pickA_mk, if_neg h']
  · rw [rfreeA, leaves, if_neg (by rintro (e | e); exact h1 e; exact h2 e), rfreeAL, deepF]
end Go.Abs.Kon
namespace Go.Abs.Kon
open Go Go.Proofs Go.Abs
open Go.Sort (putCells putRow grow)
set_option maxRecDepth 100000
set_option maxHeartbeats 4000000
abbrev ints (l : List Int) : List PV := l.map (PV.int .i64)
/-! Nothing to sort -/
/-! Free variables are collected -/
def annFree1 : Ann := ⟨[3], [1000020], [(2, []), (1, [2, 1, 3, 13]), (0, [2, 1, 3])], []⟩
@[go_sem] theorem annFree1_imm : annFree1.imm = [3] := rfl
@[go_sem] theorem annFree1_frz : annFree1.frz = [1000020] := rfl
@[go_sem] theorem annFree1_live : annFree1.live = [(2, []), (1, [2, 1, 3, 13]), (0, [2, 1, 3])] := rfl
@[go_sem] theorem annFree1_head : annFree1.head = [] := rfl
theorem pick_list (op n : Int) (s : ByteArray) (k : List KindT) (names : List ByteArray) (cl : List ConT) (b : Int) (ho : op = 1 ∨ op = 2) : rfreeA (.mk op n s k names cl) b = if op = 1 ∧ n ≥ b then [n - b] else [] := by
  rw [rfreeA, leaves, if_pos ho]
  rw [List.filterMap_cons, List.filterMap_nil, pickA_mk]
  by_cases h : op = 1 ∧ n ≥ b
  · rw [if_pos h, if_pos h]
  · rw [if_neg h, if_neg h]
theorem rfreeAL_len (l : List ConT) (b : Int) : (rfreeAL l b).length ≤ wtL l := by
  rw [rfreeAL]
  refine Nat.le_trans (List.length_filterMap_le _ _) ?_
  have h1 : (∀ c : ConT, ∀ b, (leaves c b).length ≤ wtF c) := by
    refine ConT.ind1 fun op n s k names l ih b => ?_
    have h2 : ∀ (l' : List ConT), (∀ x ∈ l', ∀ b, (leaves x b).length ≤ wtF x) → ∀ b, (leavesL l' b).length ≤ wtL l' := by
      intro l'
      induction l' with
      | nil => intro _ b; rw [leavesL]; simp
      | cons x r ihr =>
        intro h b
        rw [leavesL, wtL, List.length_append]
        have := h x (by simp) b
        have := ihr (fun y hy => h y (by simp [hy])) b
        omega
    rw [leaves, wtF]
    split
    · rw [List.length_singleton]; omega
    · have := h2 l ih (if isBinder op then b + 1 else b)
      omega
  induction l with
  | nil => rw [leavesL]; simp
  | cons x r ih =>
    rw [leavesL, wtL, List.length_append]
    have := h1 x b
    omega
theorem rfreeA_len (c : ConT) (b : Int) (h : formedF c = true) : (rfreeA c b).length ≤ wtF c := by
  obtain ⟨op, n, s, k, names, l⟩ := c
  by_cases h1 : op = 1 ∨ op = 2
  · rw [pick_list op n s k names l b h1, wtF]
    split <;> simp
    omega
  · rw [rfreeA_node h (fun e => h1 (.inl e)), wtF]
    have := rfreeAL_len l (deepF op b)
    omega
/-! tycon.Free -/
def annFree : Ann := ⟨[1], [2000005, 2000006], [(6, [2, 3]), (5, [4]), (4, [4]), (3, [4, 1]), (2, [2, 3]), (1, [1, 7]), (0, [1])], []⟩
@[go_sem] theorem annFree_imm : annFree.imm = [1] := rfl
@[go_sem] theorem annFree_frz : annFree.frz = [2000005, 2000006] := rfl
@[go_sem] theorem annFree_live : annFree.live = [(6, [2, 3]), (5, [4]), (4, [4]), (3, [4, 1]), (2, [2, 3]), (1, [1, 7]), (0, [1])] := rfl
@[go_sem] theorem annFree_head : annFree.head = [] := rfl
end Go.Abs.Kon
namespace Go.Abs.Kon
open Go Go.Proofs Go.Abs Go.RowKit
open Go.ChangeMaps (setBlock)
set_option maxRecDepth 100000
set_option maxHeartbeats 4000000
theorem pw_inj {α β : Type} (f : α → β) : ∀ (l : List α), l.Pairwise (fun a b => f a ≠ f b) → ∀ a ∈ l, ∀ b ∈ l, f a = f b → a = b
  | [], _, a, ha => by cases ha
  | z :: l, hp, a, ha => by
    intro b hb hab
    obtain ⟨p1, p2⟩ := List.pairwise_cons.1 hp
    rcases List.mem_cons.1 ha with e1 | ha
    · rcases List.mem_cons.1 hb with e2 | hb
      · rw [e1, e2]
      · rw [e1] at hab
        exact absurd hab (p1 b hb)
    · rcases List.mem_cons.1 hb with e2 | hb
      · rw [e2] at hab
        exact absurd hab.symm (p1 a ha)
      · exact pw_inj f l p2 a ha b hb hab
def Met (es : Array MapEntry) (seen : Array Nat) (ss : List Int) : Prop :=
  ss.Nodup ∧ (∀ x, x ∈ ss ↔ ∃ e ∈ es.toList, e.key = .int .i64 x ∧ seen.contains e.born = true) ∧ ss.length + (leftOf es seen).size ≤ es.size
theorem Met.start (es : Array MapEntry) : Met es #[] [] := by
  refine ⟨List.nodup_nil, fun x => by simp, ?_⟩
  unfold leftOf
  simp only [List.length_nil, Nat.zero_add]
  exact Array.size_filter_le
theorem Met.step {es : Array MapEntry} {seen : Array Nat} {ss : List Int} {clock : Nat} {ks : List Int} (h : Met es seen ss) (hok : MapOk es clock ks) {e : MapEntry} (he : e ∈ (leftOf es seen).toList) :
    ∃ x, e.key = .int .i64 x ∧ e.val = .bool true ∧ Met es (seen.push e.born) (ss ++ [x]) := by
  obtain ⟨h1, h2, h3⟩ := h
  obtain ⟨k1, k2, k3, k4⟩ := hok
  obtain ⟨g1, g2⟩ := mem_left he
  have hk : e.key ∈ es.toList.map (·.key) := List.mem_map.2 ⟨e, g1, rfl⟩
  rw [k1, List.mem_map] at hk
  obtain ⟨x, hx, hxe⟩ := hk
  have hkeys : (es.toList.map (·.key)).Nodup := by
    rw [k1]
    exact k2.map _ fun a b hab hne => hab (by cases hne; rfl)
  have huniq : ∀ a ∈ es.toList, a.key = e.key → a = e := by
    intro a ha hae
    exact pw_inj (·.key) _ (List.pairwise_map (f := fun x : MapEntry => x.key) |>.1 hkeys) a ha e g1 hae
  refine ⟨x, hxe.symm, (k3 e g1).1, ?_, fun y => ?_, ?_⟩
  · refine List.nodup_append.2 ⟨h1, by simp, fun a ha b hb => ?_⟩
    simp only [List.mem_singleton] at hb
    subst hb
    rintro rfl
    obtain ⟨e', m1, m2, m3⟩ := (h2 a).1 ha
    have := huniq e' m1 (by rw [m2, hxe])
    rw [this, g2] at m3
    cases m3
  · simp only [List.mem_append, List.mem_singleton, h2, contains_push, Bool.or_eq_true, beq_iff_eq]
    constructor
    · rintro (⟨e', m1, m2, m3⟩ | rfl)
      · exact ⟨e', m1, m2, .inl m3⟩
      · exact ⟨e, g1, hxe.symm, .inr rfl⟩
    · rintro ⟨e', m1, m2, m3 | m3⟩
      · exact .inl ⟨e', m1, m2, m3⟩
      · right
        have he' : e' = e := by
          exact pw_inj (·.born) _ (List.pairwise_map (f := fun x : MapEntry => x.born) |>.1 k4) e' m1 e g1 m3
        subst he'
        rw [← hxe] at m2
        cases m2
        rfl
  · have := left_shrinks es seen e he
    rw [List.length_append, List.length_singleton]
    omega
theorem Met.done {es : Array MapEntry} {seen : Array Nat} {ss : List Int} {clock : Nat} {ks : List Int} (h : Met es seen ss) (hok : MapOk es clock ks) (h0 : (leftOf es seen).size = 0) : ∀ x, x ∈ ss ↔ x ∈ ks := by
  obtain ⟨h1, h2, h3⟩ := h
  obtain ⟨k1, k2, k3, k4⟩ := hok
  intro x
  have hall : ∀ e ∈ es.toList, seen.contains e.born = true := by
    intro e he
    cases hc : seen.contains e.born with
    | true => rfl
    | false =>
      exfalso
      have : e ∈ leftOf es seen := by
        unfold leftOf
        exact Array.mem_filter.2 ⟨Array.mem_toList_iff.1 he, by rw [hc]; rfl⟩
      have h4 := Array.size_pos_of_mem this
      omega
  rw [h2]
  have hk : x ∈ ks ↔ Value.int .i64 x ∈ es.toList.map (·.key) := by
    rw [k1, List.mem_map]
    constructor
    · intro h; exact ⟨x, h, rfl⟩
    · rintro ⟨y, hy, e⟩; cases e; exact hy
  rw [hk, List.mem_map]
  constructor
  · rintro ⟨e, m1, m2, _⟩; exact ⟨e, m1, m2⟩
  · rintro ⟨e, m1, m2⟩; exact ⟨e, m1, m2, hall e m1⟩
end Go.Abs.Kon
