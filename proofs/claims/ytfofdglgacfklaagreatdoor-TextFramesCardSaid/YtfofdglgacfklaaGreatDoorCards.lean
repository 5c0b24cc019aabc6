/-
  DERIVED. GIVEN WITH THE SEED: THE CARDS: each row of YtfofdglgacfklaaGreatDoorRows.lean that lists a variable, with what it lists TIED to the program's text (the seventh form; the later family's looks); each row that meets fmt, with fmt's text TOLD by the authors' own Lean function (tested against real Go, not proved from fmt's source: count such statements apart). THE CARD IS WHAT COUNTS. Prove the row's statement (the work); the ties are given (YtfofdglgacfklaaGreatDoorTie.lean); close each card by the builder's one call (the guide's Derived/Test/ToyasCard.lean, 'card_holds'). Laid BY PROGRAM, IN A SANDBOX (cutbox-door.mjs). By AI agents, Wed Nov 11 2026. No macro, syntax, notation, axiom, sorry.
-/
import Derived.Test.YtfofdglgacfklaaGreatDoorRows
import GoSem.ClaimSeven
namespace Go.Proofs.YtfofdglgacfklaaGreatDoor
namespace Rows

/-- THE TIED CARD OF 'polyptychlaw28.TextFrames'. -/
def textFramesCard : Claim7 := { stood := { row := textFramesRow, standIns := [], harness := (true, "7b4e06a490d4b1e2d6251041f23fe5247c6fd83362547b8d293dd4a90480309c"), looks := false }, kinds := [], alts := [], laidByText := true, laidKinds := [.data, .data, .data, .data, .pinned], laidTests := true, laidLooks := .later }
def TextFramesCardSaid : Prop := Claim7.holds Tryz.pinned (.plain (OpenSpec.ofChange textFramesSpec)) textFramesCard

/-- THE SECOND FORM's CARD OF 'polyptychlaw28.TextFrames'. -/
def textFramesUptoCard : Claim7 := { stood := { row := textFramesUptoRow, standIns := [], harness := (true, "7b4e06a490d4b1e2d6251041f23fe5247c6fd83362547b8d293dd4a90480309c"), looks := false }, kinds := [], alts := [], laidByText := true, laidKinds := [.data, .data, .data, .data, .pinned], laidTests := true, laidLooks := .later }
def TextFramesUptoCardSaid : Prop := Claim7.holds Tryz.pinned (.plain (OpenSpec.upto textFramesSpec)) textFramesUptoCard
end Rows
end Go.Proofs.YtfofdglgacfklaaGreatDoor
