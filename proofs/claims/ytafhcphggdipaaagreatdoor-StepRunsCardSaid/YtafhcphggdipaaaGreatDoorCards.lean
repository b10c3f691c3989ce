/-
  DERIVED. GIVEN WITH THE SEED: THE CARDS: each row of YtafhcphggdipaaaGreatDoorRows.lean that lists a variable, with what it lists TIED to the program's text (the seventh form; the later family's looks); each row that meets fmt, with fmt's text TOLD by the authors' own Lean function (tested against real Go, not proved from fmt's source: count such statements apart). THE CARD IS WHAT COUNTS. Prove the row's statement (the work); the ties are given (YtafhcphggdipaaaGreatDoorTie.lean); close each card by the builder's one call (the guide's Derived/Test/ToyasCard.lean, 'card_holds'). Laid BY PROGRAM, IN A SANDBOX (cutbox-door.mjs). By AI agents, Wed Nov 11 2026. No macro, syntax, notation, axiom, sorry.
-/
import Derived.Test.YtafhcphggdipaaaGreatDoorRows
import GoSem.ClaimSeven
namespace Go.Proofs.YtafhcphggdipaaaGreatDoor
namespace Rows

/-- THE TIED CARD OF 'pilasterlaw12.TermFree'. -/
def termFreeCard : Claim7 := { stood := { row := termFreeRow, standIns := [], harness := (true, "7e71a8029800f6ede59930c67a9e42e13a05ec963165c82fefa201b0867359bd"), looks := true }, kinds := [], alts := [], laidByText := true, laidKinds := [.data, .data, .data, .sentinel, .sentinel], laidTests := true, laidLooks := .later }
def TermFreeCardSaid : Prop := Claim7.holds Tryz.pinned (.plain (OpenSpec.ofChange termFreeSpec)) termFreeCard

/-- THE TIED CARD OF 'pilasterlaw12.TermBack'. -/
def termBackCard : Claim7 := { stood := { row := termBackRow, standIns := [], harness := (true, "7e71a8029800f6ede59930c67a9e42e13a05ec963165c82fefa201b0867359bd"), looks := true }, kinds := [], alts := [], laidByText := true, laidKinds := [.data, .data, .data, .sentinel, .sentinel], laidTests := true, laidLooks := .later }
def TermBackCardSaid : Prop := Claim7.holds Tryz.pinned (.plain (OpenSpec.ofChange termBackSpec)) termBackCard

/-- THE TIED CARD OF 'pilasterlaw12.TermCommutes'. -/
def termCommutesCard : Claim7 := { stood := { row := termCommutesRow, standIns := [], harness := (true, "7e71a8029800f6ede59930c67a9e42e13a05ec963165c82fefa201b0867359bd"), looks := true }, kinds := [], alts := [], laidByText := true, laidKinds := [.data, .data, .data, .sentinel, .sentinel], laidTests := true, laidLooks := .later }
def TermCommutesCardSaid : Prop := Claim7.holds Tryz.pinned (.plain (OpenSpec.ofChange termCommutesSpec)) termCommutesCard

/-- THE TIED CARD OF 'pilasterlaw12.TermValues'. -/
def termValuesCard : Claim7 := { stood := { row := termValuesRow, standIns := [], harness := (true, "7e71a8029800f6ede59930c67a9e42e13a05ec963165c82fefa201b0867359bd"), looks := true }, kinds := [], alts := [], laidByText := true, laidKinds := [.data, .data, .data, .sentinel, .sentinel], laidTests := true, laidLooks := .later }
def TermValuesCardSaid : Prop := Claim7.holds Tryz.pinned (.plain (OpenSpec.ofChange termValuesSpec)) termValuesCard

/-- THE TIED CARD OF 'pilasterlaw16.StepRuns'. -/
def stepRunsCard : Claim7 := { stood := { row := stepRunsRow, standIns := [], harness := (true, "7e71a8029800f6ede59930c67a9e42e13a05ec963165c82fefa201b0867359bd"), looks := true }, kinds := [], alts := [], laidByText := true, laidKinds := [.data, .data, .data, .sentinel, .sentinel], laidTests := true, laidLooks := .later }
def StepRunsCardSaid : Prop := Claim7.holds Tryz.pinned (.plain (OpenSpec.ofChange stepRunsSpec)) stepRunsCard

/-- THE TIED CARD OF 'pilasterlaw16.StepMakes'. -/
def stepMakesCard : Claim7 := { stood := { row := stepMakesRow, standIns := [], harness := (true, "7e71a8029800f6ede59930c67a9e42e13a05ec963165c82fefa201b0867359bd"), looks := true }, kinds := [], alts := [], laidByText := true, laidKinds := [.data, .data, .data, .sentinel, .sentinel], laidTests := true, laidLooks := .later }
def StepMakesCardSaid : Prop := Claim7.holds Tryz.pinned (.plain (OpenSpec.ofChange stepMakesSpec)) stepMakesCard

/-- THE TIED CARD OF 'pilasterlaw16.StepChains'. -/
def stepChainsCard : Claim7 := { stood := { row := stepChainsRow, standIns := [], harness := (true, "7e71a8029800f6ede59930c67a9e42e13a05ec963165c82fefa201b0867359bd"), looks := true }, kinds := [], alts := [], laidByText := true, laidKinds := [.data, .data, .data, .sentinel, .sentinel], laidTests := true, laidLooks := .later }
def StepChainsCardSaid : Prop := Claim7.holds Tryz.pinned (.plain (OpenSpec.ofChange stepChainsSpec)) stepChainsCard

/-- THE SECOND FORM's CARD OF 'pilasterlaw12.TermFree'. -/
def termFreeUptoCard : Claim7 := { stood := { row := termFreeUptoRow, standIns := [], harness := (true, "7e71a8029800f6ede59930c67a9e42e13a05ec963165c82fefa201b0867359bd"), looks := true }, kinds := [], alts := [], laidByText := true, laidKinds := [.data, .data, .data, .sentinel, .sentinel], laidTests := true, laidLooks := .later }
def TermFreeUptoCardSaid : Prop := Claim7.holds Tryz.pinned (.plain (OpenSpec.upto termFreeSpec)) termFreeUptoCard

/-- THE SECOND FORM's CARD OF 'pilasterlaw12.TermBack'. -/
def termBackUptoCard : Claim7 := { stood := { row := termBackUptoRow, standIns := [], harness := (true, "7e71a8029800f6ede59930c67a9e42e13a05ec963165c82fefa201b0867359bd"), looks := true }, kinds := [], alts := [], laidByText := true, laidKinds := [.data, .data, .data, .sentinel, .sentinel], laidTests := true, laidLooks := .later }
def TermBackUptoCardSaid : Prop := Claim7.holds Tryz.pinned (.plain (OpenSpec.upto termBackSpec)) termBackUptoCard

/-- THE SECOND FORM's CARD OF 'pilasterlaw12.TermCommutes'. -/
def termCommutesUptoCard : Claim7 := { stood := { row := termCommutesUptoRow, standIns := [], harness := (true, "7e71a8029800f6ede59930c67a9e42e13a05ec963165c82fefa201b0867359bd"), looks := true }, kinds := [], alts := [], laidByText := true, laidKinds := [.data, .data, .data, .sentinel, .sentinel], laidTests := true, laidLooks := .later }
def TermCommutesUptoCardSaid : Prop := Claim7.holds Tryz.pinned (.plain (OpenSpec.upto termCommutesSpec)) termCommutesUptoCard

/-- THE SECOND FORM's CARD OF 'pilasterlaw12.TermValues'. -/
def termValuesUptoCard : Claim7 := { stood := { row := termValuesUptoRow, standIns := [], harness := (true, "7e71a8029800f6ede59930c67a9e42e13a05ec963165c82fefa201b0867359bd"), looks := true }, kinds := [], alts := [], laidByText := true, laidKinds := [.data, .data, .data, .sentinel, .sentinel], laidTests := true, laidLooks := .later }
def TermValuesUptoCardSaid : Prop := Claim7.holds Tryz.pinned (.plain (OpenSpec.upto termValuesSpec)) termValuesUptoCard

/-- THE SECOND FORM's CARD OF 'pilasterlaw16.StepRuns'. -/
def stepRunsUptoCard : Claim7 := { stood := { row := stepRunsUptoRow, standIns := [], harness := (true, "7e71a8029800f6ede59930c67a9e42e13a05ec963165c82fefa201b0867359bd"), looks := true }, kinds := [], alts := [], laidByText := true, laidKinds := [.data, .data, .data, .sentinel, .sentinel], laidTests := true, laidLooks := .later }
def StepRunsUptoCardSaid : Prop := Claim7.holds Tryz.pinned (.plain (OpenSpec.upto stepRunsSpec)) stepRunsUptoCard

/-- THE SECOND FORM's CARD OF 'pilasterlaw16.StepMakes'. -/
def stepMakesUptoCard : Claim7 := { stood := { row := stepMakesUptoRow, standIns := [], harness := (true, "7e71a8029800f6ede59930c67a9e42e13a05ec963165c82fefa201b0867359bd"), looks := true }, kinds := [], alts := [], laidByText := true, laidKinds := [.data, .data, .data, .sentinel, .sentinel], laidTests := true, laidLooks := .later }
def StepMakesUptoCardSaid : Prop := Claim7.holds Tryz.pinned (.plain (OpenSpec.upto stepMakesSpec)) stepMakesUptoCard

/-- THE SECOND FORM's CARD OF 'pilasterlaw16.StepChains'. -/
def stepChainsUptoCard : Claim7 := { stood := { row := stepChainsUptoRow, standIns := [], harness := (true, "7e71a8029800f6ede59930c67a9e42e13a05ec963165c82fefa201b0867359bd"), looks := true }, kinds := [], alts := [], laidByText := true, laidKinds := [.data, .data, .data, .sentinel, .sentinel], laidTests := true, laidLooks := .later }
def StepChainsUptoCardSaid : Prop := Claim7.holds Tryz.pinned (.plain (OpenSpec.upto stepChainsSpec)) stepChainsUptoCard
end Rows
end Go.Proofs.YtafhcphggdipaaaGreatDoor
