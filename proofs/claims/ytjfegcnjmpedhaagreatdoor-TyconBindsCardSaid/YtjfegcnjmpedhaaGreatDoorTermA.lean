/- Terms as trees. -/
import Derived.Test.YtjfegcnjmpedhaaGreatDoorKonF
import Derived.Lib.SlicesCompact
set_option linter.unusedSimpArgs false
set_option linter.unusedVariables false
namespace Go.Abs.Kon
open Go Go.Proofs Go.Abs
set_option maxRecDepth 100000
set_option maxHeartbeats 4000000
inductive TermT where
  | mk (op n : Int) (s : ByteArray) (con to : ConT) (k : List KindT) (names : List ByteArray) (l : List TermT)
def ConT.cells (c : ConT) : List PV := [.int .i64 c.op, .int .i64 c.n, .str c.s, .slice (c.k.map encK), .slice (c.names.map .str), .slice (c.l.map encC)]
mutual
theorem TermT.ind1 {M : TermT → Prop} (h : ∀ op n s con to k names l, (∀ x ∈ l, M x) → M (.mk op n s con to k names l)) : ∀ c, M c
  | .mk op n s con to k names l => h op n s con to k names l (TermT.ind2 h l)
theorem TermT.ind2 {M : TermT → Prop} (h : ∀ op n s con to k names l, (∀ x ∈ l, M x) → M (.mk op n s con to k names l)) : ∀ l : List TermT, ∀ x ∈ l, M x
  | [], _, hx => absurd hx (by simp)
  | c :: l, x, hx => (List.mem_cons.1 hx).elim (fun e => e ▸ TermT.ind1 h c) (fun hx => TermT.ind2 h l x hx)
end
def TermT.op : TermT → Int | .mk op _ _ _ _ _ _ _ => op
def TermT.n : TermT → Int | .mk _ n _ _ _ _ _ _ => n
def TermT.s : TermT → ByteArray | .mk _ _ s _ _ _ _ _ => s
def TermT.con : TermT → ConT | .mk _ _ _ c _ _ _ _ => c
def TermT.to : TermT → ConT | .mk _ _ _ _ c _ _ _ => c
def TermT.k : TermT → List KindT | .mk _ _ _ _ _ k _ _ => k
def TermT.names : TermT → List ByteArray | .mk _ _ _ _ _ _ ns _ => ns
def TermT.l : TermT → List TermT | .mk _ _ _ _ _ _ _ l => l
/-! The kinds of nodes -/
end Go.Abs.Kon
namespace Go.Abs.Kon
open Go Go.Proofs Go.Abs
set_option maxRecDepth 100000
set_option maxHeartbeats 4000000
/-! How great a term is -/
end Go.Abs.Kon
namespace Go.Abs.Kon
open Go Go.Proofs Go.Abs
/-! Sorted, then compacted -/
end Go.Abs.Kon
namespace Go.Abs.Kon
open Go Go.Proofs Go.Abs
set_option maxRecDepth 100000
set_option maxHeartbeats 4000000
/-! Free variables -/
/-! Well-formed terms -/
end Go.Abs.Kon
