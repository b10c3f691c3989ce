/-
  DERIVED. GIVEN WITH THE SEED: THE CARDS: each row of YtkpmnpjodiomnaaGreatDoorRows.lean that lists a variable, with what it lists TIED to the program's text (the seventh form; the later family's looks); each row that meets fmt, with fmt's text TOLD by the authors' own Lean function (tested against real Go, not proved from fmt's source: count such statements apart). THE CARD IS WHAT COUNTS. Prove the row's statement (the work); the ties are given (YtkpmnpjodiomnaaGreatDoorTie.lean); close each card by the builder's one call (the guide's Derived/Test/ToyasCard.lean, 'card_holds'). Laid BY PROGRAM, IN A SANDBOX (cutbox-door.mjs). By AI agents, Wed Nov 11 2026. No macro, syntax, notation, axiom, sorry.
-/
import Derived.Test.YtkpmnpjodiomnaaGreatDoorRows
import GoSem.ClaimSeven
namespace Go.Proofs.YtkpmnpjodiomnaaGreatDoor
namespace Rows

/-- THE TIED CARD OF 'pilasterlaw12.TermShifts'. -/
def termShiftsCard : Claim7 := { stood := { row := termShiftsRow, standIns := [], harness := (true, "7f89b89163e1561d3e9070c2527be95502e807b08b54784279d1c6b513efd144"), looks := true }, kinds := [], alts := [], laidByText := true, laidKinds := [.data, .data, .data, .sentinel, .sentinel], laidTests := true, laidLooks := .later }
def TermShiftsCardSaid : Prop := Claim7.holds Tryz.pinned (.plain (OpenSpec.ofChange termShiftsSpec)) termShiftsCard

/-- THE TIED CARD OF 'pilasterlaw12.TermFree'. -/
def termFreeCard : Claim7 := { stood := { row := termFreeRow, standIns := [], harness := (true, "7f89b89163e1561d3e9070c2527be95502e807b08b54784279d1c6b513efd144"), looks := true }, kinds := [], alts := [], laidByText := true, laidKinds := [.data, .data, .data, .sentinel, .sentinel], laidTests := true, laidLooks := .later }
def TermFreeCardSaid : Prop := Claim7.holds Tryz.pinned (.plain (OpenSpec.ofChange termFreeSpec)) termFreeCard

/-- THE TIED CARD OF 'pilasterlaw12.TermBuilds'. -/
def termBuildsCard : Claim7 := { stood := { row := termBuildsRow, standIns := [], harness := (true, "7f89b89163e1561d3e9070c2527be95502e807b08b54784279d1c6b513efd144"), looks := true }, kinds := [], alts := [], laidByText := true, laidKinds := [.data, .data, .data, .sentinel, .sentinel], laidTests := true, laidLooks := .later }
def TermBuildsCardSaid : Prop := Claim7.holds Tryz.pinned (.plain (OpenSpec.ofChange termBuildsSpec)) termBuildsCard

/-- THE TIED CARD OF 'pilasterlaw12.TermForms'. -/
def termFormsCard : Claim7 := { stood := { row := termFormsRow, standIns := [], harness := (true, "7f89b89163e1561d3e9070c2527be95502e807b08b54784279d1c6b513efd144"), looks := true }, kinds := [], alts := [], laidByText := true, laidKinds := [.data, .data, .data, .sentinel, .sentinel], laidTests := true, laidLooks := .later }
def TermFormsCardSaid : Prop := Claim7.holds Tryz.pinned (.plain (OpenSpec.ofChange termFormsSpec)) termFormsCard

/-- THE TIED CARD OF 'pilasterlaw12.TermSubstitutes'. -/
def termSubstitutesCard : Claim7 := { stood := { row := termSubstitutesRow, standIns := [], harness := (true, "7f89b89163e1561d3e9070c2527be95502e807b08b54784279d1c6b513efd144"), looks := true }, kinds := [], alts := [], laidByText := true, laidKinds := [.data, .data, .data, .sentinel, .sentinel], laidTests := true, laidLooks := .later }
def TermSubstitutesCardSaid : Prop := Claim7.holds Tryz.pinned (.plain (OpenSpec.ofChange termSubstitutesSpec)) termSubstitutesCard

/-- THE TIED CARD OF 'pilasterlaw12.TermBack'. -/
def termBackCard : Claim7 := { stood := { row := termBackRow, standIns := [], harness := (true, "7f89b89163e1561d3e9070c2527be95502e807b08b54784279d1c6b513efd144"), looks := true }, kinds := [], alts := [], laidByText := true, laidKinds := [.data, .data, .data, .sentinel, .sentinel], laidTests := true, laidLooks := .later }
def TermBackCardSaid : Prop := Claim7.holds Tryz.pinned (.plain (OpenSpec.ofChange termBackSpec)) termBackCard

/-- THE TIED CARD OF 'pilasterlaw12.TermCommutes'. -/
def termCommutesCard : Claim7 := { stood := { row := termCommutesRow, standIns := [], harness := (true, "7f89b89163e1561d3e9070c2527be95502e807b08b54784279d1c6b513efd144"), looks := true }, kinds := [], alts := [], laidByText := true, laidKinds := [.data, .data, .data, .sentinel, .sentinel], laidTests := true, laidLooks := .later }
def TermCommutesCardSaid : Prop := Claim7.holds Tryz.pinned (.plain (OpenSpec.ofChange termCommutesSpec)) termCommutesCard

/-- THE TIED CARD OF 'pilasterlaw12.TermValues'. -/
def termValuesCard : Claim7 := { stood := { row := termValuesRow, standIns := [], harness := (true, "7f89b89163e1561d3e9070c2527be95502e807b08b54784279d1c6b513efd144"), looks := true }, kinds := [], alts := [], laidByText := true, laidKinds := [.data, .data, .data, .sentinel, .sentinel], laidTests := true, laidLooks := .later }
def TermValuesCardSaid : Prop := Claim7.holds Tryz.pinned (.plain (OpenSpec.ofChange termValuesSpec)) termValuesCard

/-- THE TIED CARD OF 'pilasterlaw09.TyconConsts'. -/
def tyconConstsCard : Claim7 := { stood := { row := tyconConstsRow, standIns := [], harness := (true, "7f89b89163e1561d3e9070c2527be95502e807b08b54784279d1c6b513efd144"), looks := true }, kinds := [], alts := [], laidByText := true, laidKinds := [.data, .data, .data, .sentinel, .sentinel], laidTests := true, laidLooks := .later }
def TyconConstsCardSaid : Prop := Claim7.holds Tryz.pinned (.plain (OpenSpec.ofChange tyconConstsSpec)) tyconConstsCard

/-- THE TIED CARD OF 'pilasterlaw09.TyconBinds'. -/
def tyconBindsCard : Claim7 := { stood := { row := tyconBindsRow, standIns := [], harness := (true, "7f89b89163e1561d3e9070c2527be95502e807b08b54784279d1c6b513efd144"), looks := true }, kinds := [], alts := [], laidByText := true, laidKinds := [.data, .data, .data, .sentinel, .sentinel], laidTests := true, laidLooks := .later }
def TyconBindsCardSaid : Prop := Claim7.holds Tryz.pinned (.plain (OpenSpec.ofChange tyconBindsSpec)) tyconBindsCard

/-- THE SECOND FORM's CARD OF 'pilasterlaw12.TermShifts'. -/
def termShiftsUptoCard : Claim7 := { stood := { row := termShiftsUptoRow, standIns := [], harness := (true, "7f89b89163e1561d3e9070c2527be95502e807b08b54784279d1c6b513efd144"), looks := true }, kinds := [], alts := [], laidByText := true, laidKinds := [.data, .data, .data, .sentinel, .sentinel], laidTests := true, laidLooks := .later }
def TermShiftsUptoCardSaid : Prop := Claim7.holds Tryz.pinned (.plain (OpenSpec.upto termShiftsSpec)) termShiftsUptoCard

/-- THE SECOND FORM's CARD OF 'pilasterlaw12.TermFree'. -/
def termFreeUptoCard : Claim7 := { stood := { row := termFreeUptoRow, standIns := [], harness := (true, "7f89b89163e1561d3e9070c2527be95502e807b08b54784279d1c6b513efd144"), looks := true }, kinds := [], alts := [], laidByText := true, laidKinds := [.data, .data, .data, .sentinel, .sentinel], laidTests := true, laidLooks := .later }
def TermFreeUptoCardSaid : Prop := Claim7.holds Tryz.pinned (.plain (OpenSpec.upto termFreeSpec)) termFreeUptoCard

/-- THE SECOND FORM's CARD OF 'pilasterlaw12.TermBuilds'. -/
def termBuildsUptoCard : Claim7 := { stood := { row := termBuildsUptoRow, standIns := [], harness := (true, "7f89b89163e1561d3e9070c2527be95502e807b08b54784279d1c6b513efd144"), looks := true }, kinds := [], alts := [], laidByText := true, laidKinds := [.data, .data, .data, .sentinel, .sentinel], laidTests := true, laidLooks := .later }
def TermBuildsUptoCardSaid : Prop := Claim7.holds Tryz.pinned (.plain (OpenSpec.upto termBuildsSpec)) termBuildsUptoCard

/-- THE SECOND FORM's CARD OF 'pilasterlaw12.TermForms'. -/
def termFormsUptoCard : Claim7 := { stood := { row := termFormsUptoRow, standIns := [], harness := (true, "7f89b89163e1561d3e9070c2527be95502e807b08b54784279d1c6b513efd144"), looks := true }, kinds := [], alts := [], laidByText := true, laidKinds := [.data, .data, .data, .sentinel, .sentinel], laidTests := true, laidLooks := .later }
def TermFormsUptoCardSaid : Prop := Claim7.holds Tryz.pinned (.plain (OpenSpec.upto termFormsSpec)) termFormsUptoCard

/-- THE SECOND FORM's CARD OF 'pilasterlaw12.TermSubstitutes'. -/
def termSubstitutesUptoCard : Claim7 := { stood := { row := termSubstitutesUptoRow, standIns := [], harness := (true, "7f89b89163e1561d3e9070c2527be95502e807b08b54784279d1c6b513efd144"), looks := true }, kinds := [], alts := [], laidByText := true, laidKinds := [.data, .data, .data, .sentinel, .sentinel], laidTests := true, laidLooks := .later }
def TermSubstitutesUptoCardSaid : Prop := Claim7.holds Tryz.pinned (.plain (OpenSpec.upto termSubstitutesSpec)) termSubstitutesUptoCard

/-- THE SECOND FORM's CARD OF 'pilasterlaw12.TermBack'. -/
def termBackUptoCard : Claim7 := { stood := { row := termBackUptoRow, standIns := [], harness := (true, "7f89b89163e1561d3e9070c2527be95502e807b08b54784279d1c6b513efd144"), looks := true }, kinds := [], alts := [], laidByText := true, laidKinds := [.data, .data, .data, .sentinel, .sentinel], laidTests := true, laidLooks := .later }
def TermBackUptoCardSaid : Prop := Claim7.holds Tryz.pinned (.plain (OpenSpec.upto termBackSpec)) termBackUptoCard

/-- THE SECOND FORM's CARD OF 'pilasterlaw12.TermCommutes'. -/
def termCommutesUptoCard : Claim7 := { stood := { row := termCommutesUptoRow, standIns := [], harness := (true, "7f89b89163e1561d3e9070c2527be95502e807b08b54784279d1c6b513efd144"), looks := true }, kinds := [], alts := [], laidByText := true, laidKinds := [.data, .data, .data, .sentinel, .sentinel], laidTests := true, laidLooks := .later }
def TermCommutesUptoCardSaid : Prop := Claim7.holds Tryz.pinned (.plain (OpenSpec.upto termCommutesSpec)) termCommutesUptoCard

/-- THE SECOND FORM's CARD OF 'pilasterlaw12.TermValues'. -/
def termValuesUptoCard : Claim7 := { stood := { row := termValuesUptoRow, standIns := [], harness := (true, "7f89b89163e1561d3e9070c2527be95502e807b08b54784279d1c6b513efd144"), looks := true }, kinds := [], alts := [], laidByText := true, laidKinds := [.data, .data, .data, .sentinel, .sentinel], laidTests := true, laidLooks := .later }
def TermValuesUptoCardSaid : Prop := Claim7.holds Tryz.pinned (.plain (OpenSpec.upto termValuesSpec)) termValuesUptoCard

/-- THE SECOND FORM's CARD OF 'pilasterlaw09.TyconConsts'. -/
def tyconConstsUptoCard : Claim7 := { stood := { row := tyconConstsUptoRow, standIns := [], harness := (true, "7f89b89163e1561d3e9070c2527be95502e807b08b54784279d1c6b513efd144"), looks := true }, kinds := [], alts := [], laidByText := true, laidKinds := [.data, .data, .data, .sentinel, .sentinel], laidTests := true, laidLooks := .later }
def TyconConstsUptoCardSaid : Prop := Claim7.holds Tryz.pinned (.plain (OpenSpec.upto tyconConstsSpec)) tyconConstsUptoCard

/-- THE SECOND FORM's CARD OF 'pilasterlaw09.TyconBinds'. -/
def tyconBindsUptoCard : Claim7 := { stood := { row := tyconBindsUptoRow, standIns := [], harness := (true, "7f89b89163e1561d3e9070c2527be95502e807b08b54784279d1c6b513efd144"), looks := true }, kinds := [], alts := [], laidByText := true, laidKinds := [.data, .data, .data, .sentinel, .sentinel], laidTests := true, laidLooks := .later }
def TyconBindsUptoCardSaid : Prop := Claim7.holds Tryz.pinned (.plain (OpenSpec.upto tyconBindsSpec)) tyconBindsUptoCard
end Rows
end Go.Proofs.YtkpmnpjodiomnaaGreatDoor
