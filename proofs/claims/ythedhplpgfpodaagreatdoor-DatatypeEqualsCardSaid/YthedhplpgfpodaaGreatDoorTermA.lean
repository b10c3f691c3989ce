/- Terms as trees. -/
import Derived.Test.YthedhplpgfpodaaGreatDoorKonF
import Derived.Lib.SlicesCompact
set_option linter.unusedSimpArgs false
set_option linter.unusedVariables false
namespace Go.Abs.Kon
open Go Go.Proofs Go.Abs
set_option maxRecDepth 100000
set_option maxHeartbeats 4000000
inductive TermT where
  | mk (op n : Int) (s : ByteArray) (con to : ConT) (k : List KindT) (names : List ByteArray) (l : List TermT)
def ConT.cells (c : ConT) : List PV := [.int .i64 c.op, .int .i64 c.n, .str c.s, .slice (c.k.map encK), .slice (c.names.map .str), .slice (c.l.map encC)]
theorem encC_eta (c : ConT) : PV.agg [.int .i64 c.op, .int .i64 c.n, .str c.s, .slice (c.k.map encK), .slice (c.names.map .str), .slice (c.l.map encC)] = encC c := by cases c; rw [encC_mk]; rfl
theorem encC_cells (c : ConT) : encC c = .agg c.cells := by rw [ConT.cells, encC_eta]
mutual
theorem TermT.ind1 {M : TermT → Prop} (h : ∀ op n s con to k names l, (∀ x ∈ l, M x) → M (.mk op n s con to k names l)) : ∀ c, M c
  | .mk op n s con to k names l => h op n s con to k names l (TermT.ind2 h l)
theorem TermT.ind2 {M : TermT → Prop} (h : ∀ op n s con to k names l, (∀ x ∈ l, M x) → M (.mk op n s con to k names l)) : ∀ l : List TermT, ∀ x ∈ l, M x
  | [], _, hx => absurd hx (by simp)
  | c :: l, x, hx => (List.mem_cons.1 hx).elim (fun e => e ▸ TermT.ind1 h c) (fun hx => TermT.ind2 h l x hx)
end
def TermT.op : TermT → Int | .mk op _ _ _ _ _ _ _ => op
def TermT.n : TermT → Int | .mk _ n _ _ _ _ _ _ => n
def TermT.s : TermT → ByteArray | .mk _ _ s _ _ _ _ _ => s
def TermT.con : TermT → ConT | .mk _ _ _ c _ _ _ _ => c
def TermT.to : TermT → ConT | .mk _ _ _ _ c _ _ _ => c
def TermT.k : TermT → List KindT | .mk _ _ _ _ _ k _ _ => k
def TermT.names : TermT → List ByteArray | .mk _ _ _ _ _ _ ns _ => ns
def TermT.l : TermT → List TermT | .mk _ _ _ _ _ _ _ l => l
/-! The kinds of nodes -/
end Go.Abs.Kon
namespace Go.Abs.Kon
open Go Go.Proofs Go.Abs
set_option maxRecDepth 100000
set_option maxHeartbeats 4000000
def zeroT : TermT := .mk 0 0 ByteArray.empty zeroC zeroC [] [] []
/-! How great a term is -/
end Go.Abs.Kon
namespace Go.Abs.Kon
open Go Go.Proofs Go.Abs
def insU (n : Int) : List Int → List Int
  | [] => [n]
  | x :: r => if n < x then n :: x :: r else if n = x then x :: r else x :: insU n r
def sortU (l : List Int) : List Int := l.foldl (fun acc x => insU x acc) []
theorem insU_mem {n y : Int} : ∀ {l : List Int}, y ∈ insU n l ↔ y = n ∨ y ∈ l
  | [] => by simp [insU]
  | x :: r => by
    rw [insU]
    split
    · simp
    · split
      · rename_i h; subst h; simp
      · rw [List.mem_cons, insU_mem (l := r), List.mem_cons]
        constructor
        · rintro (h | h | h)
          · exact .inr (.inl h)
          · exact .inl h
          · exact .inr (.inr h)
        · rintro (h | h | h)
          · exact .inr (.inl h)
          · exact .inl h
          · exact .inr (.inr h)
theorem insU_asc {n : Int} : ∀ {l : List Int}, l.Pairwise (· < ·) → (insU n l).Pairwise (· < ·)
  | [], _ => by simp [insU]
  | x :: r, h => by
    have h0 := List.pairwise_cons.1 h
    rw [insU]
    split
    · rename_i hn
      refine List.pairwise_cons.2 ⟨fun y hy => ?_, h⟩
      rcases List.mem_cons.1 hy with rfl | hy
      · exact hn
      · exact Int.lt_trans hn (h0.1 y hy)
    · split
      · exact h
      · rename_i h1 h2
        refine List.pairwise_cons.2 ⟨fun y hy => ?_, insU_asc h0.2⟩
        rcases insU_mem.1 hy with rfl | hy
        · omega
        · exact h0.1 y hy
theorem foldU_mem {y : Int} : ∀ (l acc : List Int), y ∈ l.foldl (fun acc x => insU x acc) acc ↔ y ∈ acc ∨ y ∈ l
  | [], acc => by simp
  | x :: r, acc => by
    rw [List.foldl_cons, foldU_mem r, insU_mem, List.mem_cons]
    constructor
    · rintro ((h | h) | h)
      · exact .inr (.inl h)
      · exact .inl h
      · exact .inr (.inr h)
    · rintro (h | h | h)
      · exact .inl (.inr h)
      · exact .inl (.inl h)
      · exact .inr h
theorem foldU_asc : ∀ (l acc : List Int), acc.Pairwise (· < ·) → (l.foldl (fun acc x => insU x acc) acc).Pairwise (· < ·)
  | [], acc, h => h
  | x :: r, acc, h => by rw [List.foldl_cons]; exact foldU_asc r _ (insU_asc h)
theorem sortU_mem {y : Int} (l : List Int) : y ∈ sortU l ↔ y ∈ l := by rw [sortU, foldU_mem]; simp
/-! Sorted, then compacted -/
end Go.Abs.Kon
namespace Go.Abs.Kon
open Go Go.Proofs Go.Abs
set_option maxRecDepth 100000
set_option maxHeartbeats 4000000
/-! Free variables -/
def freeL (c : ConT) : List Int := (leaves c 0).filterMap fun x => if x.1.op = 1 ∧ x.1.n ≥ x.2 then some (x.1.n - x.2) else none
/-! Well-formed terms -/
end Go.Abs.Kon
