/-
  DERIVED. GIVEN WITH THE SEED: THE CARDS: each row of YtokeiaiddaojnaaGreatDoorRows.lean that lists a variable, with what it lists TIED to the program's text (the seventh form; the later family's looks); each row that meets fmt, with fmt's text TOLD by the authors' own Lean function (tested against real Go, not proved from fmt's source: count such statements apart). THE CARD IS WHAT COUNTS. Prove the row's statement (the work); the ties are given (YtokeiaiddaojnaaGreatDoorTie.lean); close each card by the builder's one call (the guide's Derived/Test/ToyasCard.lean, 'card_holds'). Laid BY PROGRAM, IN A SANDBOX (cutbox-door.mjs). By AI agents, Wed Nov 11 2026. No macro, syntax, notation, axiom, sorry.
-/
import Derived.Test.YtokeiaiddaojnaaGreatDoorRows
import GoSem.ClaimSeven
namespace Go.Proofs.YtokeiaiddaojnaaGreatDoor
namespace Rows

/-- THE TIED CARD OF 'pilasterlaw15.EvalRuns'. -/
def evalRunsCard : Claim7 := { stood := { row := evalRunsRow, standIns := [], harness := (true, "a501ea79d3706a89ef7316c4be6640075ed0e90b342c7b39fe6af615df83358f"), looks := true }, kinds := [], alts := [], laidByText := true, laidKinds := [.data, .data, .data, .sentinel, .sentinel], laidTests := true, laidLooks := .later }
def EvalRunsCardSaid : Prop := Claim7.holds Tryz.pinned (.plain (OpenSpec.ofChange evalRunsSpec)) evalRunsCard

/-- THE TIED CARD OF 'pilasterlaw15.EvalFuel'. -/
def evalFuelCard : Claim7 := { stood := { row := evalFuelRow, standIns := [], harness := (true, "a501ea79d3706a89ef7316c4be6640075ed0e90b342c7b39fe6af615df83358f"), looks := true }, kinds := [], alts := [], laidByText := true, laidKinds := [.data, .data, .data, .sentinel, .sentinel], laidTests := true, laidLooks := .later }
def EvalFuelCardSaid : Prop := Claim7.holds Tryz.pinned (.plain (OpenSpec.ofChange evalFuelSpec)) evalFuelCard

/-- THE TIED CARD OF 'pilasterlaw15.EvalObserves'. -/
def evalObservesCard : Claim7 := { stood := { row := evalObservesRow, standIns := [], harness := (true, "a501ea79d3706a89ef7316c4be6640075ed0e90b342c7b39fe6af615df83358f"), looks := true }, kinds := [], alts := [], laidByText := true, laidKinds := [.data, .data, .data, .sentinel, .sentinel], laidTests := true, laidLooks := .later }
def EvalObservesCardSaid : Prop := Claim7.holds Tryz.pinned (.plain (OpenSpec.ofChange evalObservesSpec)) evalObservesCard

/-- THE TIED CARD OF 'pilasterlaw15.EvalPrims'. -/
def evalPrimsCard : Claim7 := { stood := { row := evalPrimsRow, standIns := [], harness := (true, "a501ea79d3706a89ef7316c4be6640075ed0e90b342c7b39fe6af615df83358f"), looks := true }, kinds := [], alts := [], laidByText := true, laidKinds := [.data, .data, .data, .sentinel, .sentinel], laidTests := true, laidLooks := .later }
def EvalPrimsCardSaid : Prop := Claim7.holds Tryz.pinned (.plain (OpenSpec.ofChange evalPrimsSpec)) evalPrimsCard

/-- THE TIED CARD OF 'pilasterlaw15.EvalApplies'. -/
def evalAppliesCard : Claim7 := { stood := { row := evalAppliesRow, standIns := [], harness := (true, "a501ea79d3706a89ef7316c4be6640075ed0e90b342c7b39fe6af615df83358f"), looks := true }, kinds := [], alts := [], laidByText := true, laidKinds := [.data, .data, .data, .sentinel, .sentinel], laidTests := true, laidLooks := .later }
def EvalAppliesCardSaid : Prop := Claim7.holds Tryz.pinned (.plain (OpenSpec.ofChange evalAppliesSpec)) evalAppliesCard

/-- THE SECOND FORM's CARD OF 'pilasterlaw15.EvalRuns'. -/
def evalRunsUptoCard : Claim7 := { stood := { row := evalRunsUptoRow, standIns := [], harness := (true, "a501ea79d3706a89ef7316c4be6640075ed0e90b342c7b39fe6af615df83358f"), looks := true }, kinds := [], alts := [], laidByText := true, laidKinds := [.data, .data, .data, .sentinel, .sentinel], laidTests := true, laidLooks := .later }
def EvalRunsUptoCardSaid : Prop := Claim7.holds Tryz.pinned (.plain (OpenSpec.upto evalRunsSpec)) evalRunsUptoCard

/-- THE SECOND FORM's CARD OF 'pilasterlaw15.EvalFuel'. -/
def evalFuelUptoCard : Claim7 := { stood := { row := evalFuelUptoRow, standIns := [], harness := (true, "a501ea79d3706a89ef7316c4be6640075ed0e90b342c7b39fe6af615df83358f"), looks := true }, kinds := [], alts := [], laidByText := true, laidKinds := [.data, .data, .data, .sentinel, .sentinel], laidTests := true, laidLooks := .later }
def EvalFuelUptoCardSaid : Prop := Claim7.holds Tryz.pinned (.plain (OpenSpec.upto evalFuelSpec)) evalFuelUptoCard

/-- THE SECOND FORM's CARD OF 'pilasterlaw15.EvalObserves'. -/
def evalObservesUptoCard : Claim7 := { stood := { row := evalObservesUptoRow, standIns := [], harness := (true, "a501ea79d3706a89ef7316c4be6640075ed0e90b342c7b39fe6af615df83358f"), looks := true }, kinds := [], alts := [], laidByText := true, laidKinds := [.data, .data, .data, .sentinel, .sentinel], laidTests := true, laidLooks := .later }
def EvalObservesUptoCardSaid : Prop := Claim7.holds Tryz.pinned (.plain (OpenSpec.upto evalObservesSpec)) evalObservesUptoCard

/-- THE SECOND FORM's CARD OF 'pilasterlaw15.EvalPrims'. -/
def evalPrimsUptoCard : Claim7 := { stood := { row := evalPrimsUptoRow, standIns := [], harness := (true, "a501ea79d3706a89ef7316c4be6640075ed0e90b342c7b39fe6af615df83358f"), looks := true }, kinds := [], alts := [], laidByText := true, laidKinds := [.data, .data, .data, .sentinel, .sentinel], laidTests := true, laidLooks := .later }
def EvalPrimsUptoCardSaid : Prop := Claim7.holds Tryz.pinned (.plain (OpenSpec.upto evalPrimsSpec)) evalPrimsUptoCard

/-- THE SECOND FORM's CARD OF 'pilasterlaw15.EvalApplies'. -/
def evalAppliesUptoCard : Claim7 := { stood := { row := evalAppliesUptoRow, standIns := [], harness := (true, "a501ea79d3706a89ef7316c4be6640075ed0e90b342c7b39fe6af615df83358f"), looks := true }, kinds := [], alts := [], laidByText := true, laidKinds := [.data, .data, .data, .sentinel, .sentinel], laidTests := true, laidLooks := .later }
def EvalAppliesUptoCardSaid : Prop := Claim7.holds Tryz.pinned (.plain (OpenSpec.upto evalAppliesSpec)) evalAppliesUptoCard
end Rows
end Go.Proofs.YtokeiaiddaojnaaGreatDoor
