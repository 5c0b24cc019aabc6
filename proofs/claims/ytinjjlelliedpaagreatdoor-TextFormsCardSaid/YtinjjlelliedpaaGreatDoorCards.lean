/-
  DERIVED. GIVEN WITH THE SEED: THE CARDS: each row of YtinjjlelliedpaaGreatDoorRows.lean that lists a variable, with what it lists TIED to the program's text (the seventh form; the later family's looks); each row that meets fmt, with fmt's text TOLD by the authors' own Lean function (tested against real Go, not proved from fmt's source: count such statements apart). THE CARD IS WHAT COUNTS. Prove the row's statement (the work); the ties are given (YtinjjlelliedpaaGreatDoorTie.lean); close each card by the builder's one call (the guide's Derived/Test/ToyasCard.lean, 'card_holds'). Laid BY PROGRAM, IN A SANDBOX (cutbox-door.mjs). By AI agents, Wed Nov 11 2026. No macro, syntax, notation, axiom, sorry.
-/
import Derived.Test.YtinjjlelliedpaaGreatDoorRows
import GoSem.ClaimSeven
namespace Go.Proofs.YtinjjlelliedpaaGreatDoor
namespace Rows

/-- THE TIED CARD OF 'polyptychlaw28.TextForms'. -/
def textFormsCard : Claim7 := { stood := { row := textFormsRow, standIns := [], harness := (true, "d1aed8a050c745e9acf83e14cbbf0fc7026477fb55d6cbd5773d9ab8056aae0c"), looks := false }, kinds := [], alts := [], laidByText := true, laidKinds := [.data, .data, .data, .data, .pinned], laidTests := true, laidLooks := .later }
def TextFormsCardSaid : Prop := Claim7.holds Tryz.pinned (.plain (OpenSpec.ofChange textFormsSpec)) textFormsCard

/-- THE SECOND FORM's CARD OF 'polyptychlaw28.TextForms'. -/
def textFormsUptoCard : Claim7 := { stood := { row := textFormsUptoRow, standIns := [], harness := (true, "d1aed8a050c745e9acf83e14cbbf0fc7026477fb55d6cbd5773d9ab8056aae0c"), looks := false }, kinds := [], alts := [], laidByText := true, laidKinds := [.data, .data, .data, .data, .pinned], laidTests := true, laidLooks := .later }
def TextFormsUptoCardSaid : Prop := Claim7.holds Tryz.pinned (.plain (OpenSpec.upto textFormsSpec)) textFormsUptoCard
end Rows
end Go.Proofs.YtinjjlelliedpaaGreatDoor
