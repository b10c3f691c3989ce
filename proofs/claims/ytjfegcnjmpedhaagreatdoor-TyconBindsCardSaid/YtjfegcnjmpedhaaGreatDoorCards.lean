/-
  DERIVED. GIVEN WITH THE SEED: THE CARDS: each row of YtjfegcnjmpedhaaGreatDoorRows.lean that lists a variable, with what it lists TIED to the program's text (the seventh form; the later family's looks); each row that meets fmt, with fmt's text TOLD by the authors' own Lean function (tested against real Go, not proved from fmt's source: count such statements apart). THE CARD IS WHAT COUNTS. Prove the row's statement (the work); the ties are given (YtjfegcnjmpedhaaGreatDoorTie.lean); close each card by the builder's one call (the guide's Derived/Test/ToyasCard.lean, 'card_holds'). Laid BY PROGRAM, IN A SANDBOX (cutbox-door.mjs). By AI agents, Wed Nov 11 2026. No macro, syntax, notation, axiom, sorry.
-/
import Derived.Test.YtjfegcnjmpedhaaGreatDoorRows
import GoSem.ClaimSeven
namespace Go.Proofs.YtjfegcnjmpedhaaGreatDoor
namespace Rows

/-- THE TIED CARD OF 'pilasterlaw09.TyconConsts'. -/
def tyconConstsCard : Claim7 := { stood := { row := tyconConstsRow, standIns := [], harness := (true, "380fb1f05e137f09bf9e018ddea309354acffdd9c763a91e38d7c4a1afe6a0d8"), looks := true }, kinds := [], alts := [], laidByText := true, laidKinds := [.data, .data, .data, .sentinel, .sentinel], laidTests := true, laidLooks := .later }
def TyconConstsCardSaid : Prop := Claim7.holds Tryz.pinned (.plain (OpenSpec.ofChange tyconConstsSpec)) tyconConstsCard

/-- THE TIED CARD OF 'pilasterlaw09.TyconBinds'. -/
def tyconBindsCard : Claim7 := { stood := { row := tyconBindsRow, standIns := [], harness := (true, "380fb1f05e137f09bf9e018ddea309354acffdd9c763a91e38d7c4a1afe6a0d8"), looks := true }, kinds := [], alts := [], laidByText := true, laidKinds := [.data, .data, .data, .sentinel, .sentinel], laidTests := true, laidLooks := .later }
def TyconBindsCardSaid : Prop := Claim7.holds Tryz.pinned (.plain (OpenSpec.ofChange tyconBindsSpec)) tyconBindsCard

/-- THE SECOND FORM's CARD OF 'pilasterlaw09.TyconConsts'. -/
def tyconConstsUptoCard : Claim7 := { stood := { row := tyconConstsUptoRow, standIns := [], harness := (true, "380fb1f05e137f09bf9e018ddea309354acffdd9c763a91e38d7c4a1afe6a0d8"), looks := true }, kinds := [], alts := [], laidByText := true, laidKinds := [.data, .data, .data, .sentinel, .sentinel], laidTests := true, laidLooks := .later }
def TyconConstsUptoCardSaid : Prop := Claim7.holds Tryz.pinned (.plain (OpenSpec.upto tyconConstsSpec)) tyconConstsUptoCard

/-- THE SECOND FORM's CARD OF 'pilasterlaw09.TyconBinds'. -/
def tyconBindsUptoCard : Claim7 := { stood := { row := tyconBindsUptoRow, standIns := [], harness := (true, "380fb1f05e137f09bf9e018ddea309354acffdd9c763a91e38d7c4a1afe6a0d8"), looks := true }, kinds := [], alts := [], laidByText := true, laidKinds := [.data, .data, .data, .sentinel, .sentinel], laidTests := true, laidLooks := .later }
def TyconBindsUptoCardSaid : Prop := Claim7.holds Tryz.pinned (.plain (OpenSpec.upto tyconBindsSpec)) tyconBindsUptoCard
end Rows
end Go.Proofs.YtjfegcnjmpedhaaGreatDoor
