/- A constructor that comes in. -/
import Derived.Test.YthedhplpgfpodaaGreatDoorDataG
import Derived.Test.YthedhplpgfpodaaGreatDoorTermO
set_option linter.unusedSimpArgs false
set_option linter.unusedVariables false
namespace Go.Abs.Kon
open Go Go.Proofs Go.Abs Go.ChangeShapes Go.WideShapes Go.ChangeAt Go.RowKit
open Go.Proofs.YthedhplpgfpodaaGreatDoor
set_option maxRecDepth 100000
set_option maxHeartbeats 4000000
section
variable {H : Type} {enc : TypeId × Value → H} {W : World} {base base' : Nat} {sp : Nat → Bool} {hd : Bool}
theorem arg_con_b {v : Value} {d : DataW H} {ps : List MemPlace} (hv : Value.okWide Tryz.prog W .any base' 28 v) (h : DataW.Trod enc Tryz.prog W base sp hd 28 v d ps) : ∃ c : ConT, Rep (memI W) (encC c) v ∧ blC c ≤ Rows.uptoBulk d := by
  obtain ⟨n, hn⟩ := h
  obtain ⟨c, u, h1, h2, h3, h4⟩ := open_con_b n _ _ hn
  rw [Value.okWide, Tryz.underlying28] at hv
  obtain ⟨cs, rfl, _⟩ := hv
  have hu : u = .agg cs := by
    cases u with
    | agg us => simp [Value.cells] at h1; rw [h1]
    | _ => simp [Sz.okV] at h3
  exact ⟨c, hu ▸ h2, h4⟩
end
end Go.Abs.Kon
