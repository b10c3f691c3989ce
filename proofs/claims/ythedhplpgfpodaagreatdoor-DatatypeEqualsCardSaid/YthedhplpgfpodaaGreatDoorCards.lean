/-
  DERIVED. GIVEN WITH THE SEED: THE CARDS: each row of YthedhplpgfpodaaGreatDoorRows.lean that lists a variable, with what it lists TIED to the program's text (the seventh form; the later family's looks); each row that meets fmt, with fmt's text TOLD by the authors' own Lean function (tested against real Go, not proved from fmt's source: count such statements apart). THE CARD IS WHAT COUNTS. Prove the row's statement (the work); the ties are given (YthedhplpgfpodaaGreatDoorTie.lean); close each card by the builder's one call (the guide's Derived/Test/ToyasCard.lean, 'card_holds'). Laid BY PROGRAM, IN A SANDBOX (cutbox-door.mjs). By AI agents, Wed Nov 11 2026. No macro, syntax, notation, axiom, sorry.
-/
import Derived.Test.YthedhplpgfpodaaGreatDoorRows
import GoSem.ClaimSeven
namespace Go.Proofs.YthedhplpgfpodaaGreatDoor
namespace Rows

/-- THE TIED CARD OF 'pilasterlaw19.DatatypeEquals'. -/
def datatypeEqualsCard : Claim7 := { stood := { row := datatypeEqualsRow, standIns := [], harness := (true, "63e6719cab1d44eb1ced6a348081cdf4a1f816b229630e2420b2eb5bea127b0c"), looks := true }, kinds := [], alts := [], laidByText := true, laidKinds := [.data, .data, .data, .sentinel, .sentinel], laidTests := true, laidLooks := .later }
def DatatypeEqualsCardSaid : Prop := Claim7.holds Tryz.pinned (.plain (OpenSpec.ofChange datatypeEqualsSpec)) datatypeEqualsCard

/-- THE TIED CARD OF 'pilasterlaw19.DatatypeOrder'. -/
def datatypeOrderCard : Claim7 := { stood := { row := datatypeOrderRow, standIns := [], harness := (true, "63e6719cab1d44eb1ced6a348081cdf4a1f816b229630e2420b2eb5bea127b0c"), looks := true }, kinds := [], alts := [], laidByText := true, laidKinds := [.data, .data, .data, .sentinel, .sentinel], laidTests := true, laidLooks := .later }
def DatatypeOrderCardSaid : Prop := Claim7.holds Tryz.pinned (.plain (OpenSpec.ofChange datatypeOrderSpec)) datatypeOrderCard

/-- THE TIED CARD OF 'pilasterlaw16.StepRuns'. -/
def stepRunsCard : Claim7 := { stood := { row := stepRunsRow, standIns := [], harness := (true, "63e6719cab1d44eb1ced6a348081cdf4a1f816b229630e2420b2eb5bea127b0c"), looks := true }, kinds := [], alts := [], laidByText := true, laidKinds := [.data, .data, .data, .sentinel, .sentinel], laidTests := true, laidLooks := .later }
def StepRunsCardSaid : Prop := Claim7.holds Tryz.pinned (.plain (OpenSpec.ofChange stepRunsSpec)) stepRunsCard

/-- THE TIED CARD OF 'pilasterlaw16.StepMakes'. -/
def stepMakesCard : Claim7 := { stood := { row := stepMakesRow, standIns := [], harness := (true, "63e6719cab1d44eb1ced6a348081cdf4a1f816b229630e2420b2eb5bea127b0c"), looks := true }, kinds := [], alts := [], laidByText := true, laidKinds := [.data, .data, .data, .sentinel, .sentinel], laidTests := true, laidLooks := .later }
def StepMakesCardSaid : Prop := Claim7.holds Tryz.pinned (.plain (OpenSpec.ofChange stepMakesSpec)) stepMakesCard

/-- THE TIED CARD OF 'pilasterlaw16.StepChains'. -/
def stepChainsCard : Claim7 := { stood := { row := stepChainsRow, standIns := [], harness := (true, "63e6719cab1d44eb1ced6a348081cdf4a1f816b229630e2420b2eb5bea127b0c"), looks := true }, kinds := [], alts := [], laidByText := true, laidKinds := [.data, .data, .data, .sentinel, .sentinel], laidTests := true, laidLooks := .later }
def StepChainsCardSaid : Prop := Claim7.holds Tryz.pinned (.plain (OpenSpec.ofChange stepChainsSpec)) stepChainsCard

/-- THE SECOND FORM's CARD OF 'pilasterlaw19.DatatypeEquals'. -/
def datatypeEqualsUptoCard : Claim7 := { stood := { row := datatypeEqualsUptoRow, standIns := [], harness := (true, "63e6719cab1d44eb1ced6a348081cdf4a1f816b229630e2420b2eb5bea127b0c"), looks := true }, kinds := [], alts := [], laidByText := true, laidKinds := [.data, .data, .data, .sentinel, .sentinel], laidTests := true, laidLooks := .later }
def DatatypeEqualsUptoCardSaid : Prop := Claim7.holds Tryz.pinned (.plain (OpenSpec.upto datatypeEqualsSpec)) datatypeEqualsUptoCard

/-- THE SECOND FORM's CARD OF 'pilasterlaw19.DatatypeOrder'. -/
def datatypeOrderUptoCard : Claim7 := { stood := { row := datatypeOrderUptoRow, standIns := [], harness := (true, "63e6719cab1d44eb1ced6a348081cdf4a1f816b229630e2420b2eb5bea127b0c"), looks := true }, kinds := [], alts := [], laidByText := true, laidKinds := [.data, .data, .data, .sentinel, .sentinel], laidTests := true, laidLooks := .later }
def DatatypeOrderUptoCardSaid : Prop := Claim7.holds Tryz.pinned (.plain (OpenSpec.upto datatypeOrderSpec)) datatypeOrderUptoCard

/-- THE SECOND FORM's CARD OF 'pilasterlaw16.StepRuns'. -/
def stepRunsUptoCard : Claim7 := { stood := { row := stepRunsUptoRow, standIns := [], harness := (true, "63e6719cab1d44eb1ced6a348081cdf4a1f816b229630e2420b2eb5bea127b0c"), looks := true }, kinds := [], alts := [], laidByText := true, laidKinds := [.data, .data, .data, .sentinel, .sentinel], laidTests := true, laidLooks := .later }
def StepRunsUptoCardSaid : Prop := Claim7.holds Tryz.pinned (.plain (OpenSpec.upto stepRunsSpec)) stepRunsUptoCard

/-- THE SECOND FORM's CARD OF 'pilasterlaw16.StepMakes'. -/
def stepMakesUptoCard : Claim7 := { stood := { row := stepMakesUptoRow, standIns := [], harness := (true, "63e6719cab1d44eb1ced6a348081cdf4a1f816b229630e2420b2eb5bea127b0c"), looks := true }, kinds := [], alts := [], laidByText := true, laidKinds := [.data, .data, .data, .sentinel, .sentinel], laidTests := true, laidLooks := .later }
def StepMakesUptoCardSaid : Prop := Claim7.holds Tryz.pinned (.plain (OpenSpec.upto stepMakesSpec)) stepMakesUptoCard

/-- THE SECOND FORM's CARD OF 'pilasterlaw16.StepChains'. -/
def stepChainsUptoCard : Claim7 := { stood := { row := stepChainsUptoRow, standIns := [], harness := (true, "63e6719cab1d44eb1ced6a348081cdf4a1f816b229630e2420b2eb5bea127b0c"), looks := true }, kinds := [], alts := [], laidByText := true, laidKinds := [.data, .data, .data, .sentinel, .sentinel], laidTests := true, laidLooks := .later }
def StepChainsUptoCardSaid : Prop := Claim7.holds Tryz.pinned (.plain (OpenSpec.upto stepChainsSpec)) stepChainsUptoCard
end Rows
end Go.Proofs.YthedhplpgfpodaaGreatDoor
