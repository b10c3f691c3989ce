/-
  DERIVED. GIVEN WITH THE SEED: THE CARDS: each row of YthbfnaaminlopaaGreatDoorRows.lean that lists a variable, with what it lists TIED to the program's text (the seventh form; the later family's looks); each row that meets fmt, with fmt's text TOLD by the authors' own Lean function (tested against real Go, not proved from fmt's source: count such statements apart). THE CARD IS WHAT COUNTS. Prove the row's statement (the work); the ties are given (YthbfnaaminlopaaGreatDoorTie.lean); close each card by the builder's one call (the guide's Derived/Test/ToyasCard.lean, 'card_holds'). Laid BY PROGRAM, IN A SANDBOX (cutbox-door.mjs). By AI agents, Wed Nov 11 2026. No macro, syntax, notation, axiom, sorry.
-/
import Derived.Test.YthbfnaaminlopaaGreatDoorRows
import GoSem.ClaimSeven
namespace Go.Proofs.YthbfnaaminlopaaGreatDoor
namespace Rows

/-- THE TIED CARD OF 'pilasterlaw09.TyconSubsts'. -/
def tyconSubstsCard : Claim7 := { stood := { row := tyconSubstsRow, standIns := [], harness := (true, "09cb16a763c6a4ab09a497536352801ce32925f4e87424487516e232a395501b"), looks := true }, kinds := [], alts := [], laidByText := true, laidKinds := [.data, .data, .data, .sentinel, .sentinel], laidTests := true, laidLooks := .later }
def TyconSubstsCardSaid : Prop := Claim7.holds Tryz.pinned (.plain (OpenSpec.ofChange tyconSubstsSpec)) tyconSubstsCard

/-- THE TIED CARD OF 'pilasterlaw09.TyconChecks'. -/
def tyconChecksCard : Claim7 := { stood := { row := tyconChecksRow, standIns := [], harness := (true, "09cb16a763c6a4ab09a497536352801ce32925f4e87424487516e232a395501b"), looks := true }, kinds := [], alts := [], laidByText := true, laidKinds := [.data, .data, .data, .sentinel, .sentinel], laidTests := true, laidLooks := .later }
def TyconChecksCardSaid : Prop := Claim7.holds Tryz.pinned (.plain (OpenSpec.ofChange tyconChecksSpec)) tyconChecksCard

/-- THE TIED CARD OF 'pilasterlaw09.TyconBack'. -/
def tyconBackCard : Claim7 := { stood := { row := tyconBackRow, standIns := [], harness := (true, "09cb16a763c6a4ab09a497536352801ce32925f4e87424487516e232a395501b"), looks := true }, kinds := [], alts := [], laidByText := true, laidKinds := [.data, .data, .data, .sentinel, .sentinel], laidTests := true, laidLooks := .later }
def TyconBackCardSaid : Prop := Claim7.holds Tryz.pinned (.plain (OpenSpec.ofChange tyconBackSpec)) tyconBackCard

/-- THE TIED CARD OF 'pilasterlaw09.TyconCommute'. -/
def tyconCommuteCard : Claim7 := { stood := { row := tyconCommuteRow, standIns := [], harness := (true, "09cb16a763c6a4ab09a497536352801ce32925f4e87424487516e232a395501b"), looks := true }, kinds := [], alts := [], laidByText := true, laidKinds := [.data, .data, .data, .sentinel, .sentinel], laidTests := true, laidLooks := .later }
def TyconCommuteCardSaid : Prop := Claim7.holds Tryz.pinned (.plain (OpenSpec.ofChange tyconCommuteSpec)) tyconCommuteCard

/-- THE TIED CARD OF 'pilasterlaw09.TyconBuilds'. -/
def tyconBuildsCard : Claim7 := { stood := { row := tyconBuildsRow, standIns := [], harness := (true, "09cb16a763c6a4ab09a497536352801ce32925f4e87424487516e232a395501b"), looks := true }, kinds := [], alts := [], laidByText := true, laidKinds := [.data, .data, .data, .sentinel, .sentinel], laidTests := true, laidLooks := .later }
def TyconBuildsCardSaid : Prop := Claim7.holds Tryz.pinned (.plain (OpenSpec.ofChange tyconBuildsSpec)) tyconBuildsCard

/-- THE SECOND FORM's CARD OF 'pilasterlaw09.TyconSubsts'. -/
def tyconSubstsUptoCard : Claim7 := { stood := { row := tyconSubstsUptoRow, standIns := [], harness := (true, "09cb16a763c6a4ab09a497536352801ce32925f4e87424487516e232a395501b"), looks := true }, kinds := [], alts := [], laidByText := true, laidKinds := [.data, .data, .data, .sentinel, .sentinel], laidTests := true, laidLooks := .later }
def TyconSubstsUptoCardSaid : Prop := Claim7.holds Tryz.pinned (.plain (OpenSpec.upto tyconSubstsSpec)) tyconSubstsUptoCard

/-- THE SECOND FORM's CARD OF 'pilasterlaw09.TyconChecks'. -/
def tyconChecksUptoCard : Claim7 := { stood := { row := tyconChecksUptoRow, standIns := [], harness := (true, "09cb16a763c6a4ab09a497536352801ce32925f4e87424487516e232a395501b"), looks := true }, kinds := [], alts := [], laidByText := true, laidKinds := [.data, .data, .data, .sentinel, .sentinel], laidTests := true, laidLooks := .later }
def TyconChecksUptoCardSaid : Prop := Claim7.holds Tryz.pinned (.plain (OpenSpec.upto tyconChecksSpec)) tyconChecksUptoCard

/-- THE SECOND FORM's CARD OF 'pilasterlaw09.TyconBack'. -/
def tyconBackUptoCard : Claim7 := { stood := { row := tyconBackUptoRow, standIns := [], harness := (true, "09cb16a763c6a4ab09a497536352801ce32925f4e87424487516e232a395501b"), looks := true }, kinds := [], alts := [], laidByText := true, laidKinds := [.data, .data, .data, .sentinel, .sentinel], laidTests := true, laidLooks := .later }
def TyconBackUptoCardSaid : Prop := Claim7.holds Tryz.pinned (.plain (OpenSpec.upto tyconBackSpec)) tyconBackUptoCard

/-- THE SECOND FORM's CARD OF 'pilasterlaw09.TyconCommute'. -/
def tyconCommuteUptoCard : Claim7 := { stood := { row := tyconCommuteUptoRow, standIns := [], harness := (true, "09cb16a763c6a4ab09a497536352801ce32925f4e87424487516e232a395501b"), looks := true }, kinds := [], alts := [], laidByText := true, laidKinds := [.data, .data, .data, .sentinel, .sentinel], laidTests := true, laidLooks := .later }
def TyconCommuteUptoCardSaid : Prop := Claim7.holds Tryz.pinned (.plain (OpenSpec.upto tyconCommuteSpec)) tyconCommuteUptoCard

/-- THE SECOND FORM's CARD OF 'pilasterlaw09.TyconBuilds'. -/
def tyconBuildsUptoCard : Claim7 := { stood := { row := tyconBuildsUptoRow, standIns := [], harness := (true, "09cb16a763c6a4ab09a497536352801ce32925f4e87424487516e232a395501b"), looks := true }, kinds := [], alts := [], laidByText := true, laidKinds := [.data, .data, .data, .sentinel, .sentinel], laidTests := true, laidLooks := .later }
def TyconBuildsUptoCardSaid : Prop := Claim7.holds Tryz.pinned (.plain (OpenSpec.upto tyconBuildsSpec)) tyconBuildsUptoCard
end Rows
end Go.Proofs.YthbfnaaminlopaaGreatDoor
