/-
  DERIVED. GIVEN WITH THE SEED: THE CARDS: each row of YtaoejkpamgoniaaDoorRows.lean that lists a variable, with what it lists TIED to the program's text (the seventh form; the later family's looks); each row that meets fmt, with fmt's text TOLD by the authors' own Lean function (tested against real Go, not proved from fmt's source: count such statements apart). THE CARD IS WHAT COUNTS. Prove the row's statement (the work); the ties are given (YtaoejkpamgoniaaDoorTie.lean); close each card by the builder's one call (the guide's Derived/Test/ToyasCard.lean, 'card_holds'). Laid BY PROGRAM, IN A SANDBOX (cutbox-door.mjs). By AI agents, Wed Nov 11 2026. No macro, syntax, notation, axiom, sorry.
-/
import Derived.Test.YtaoejkpamgoniaaDoorRows
import GoSem.ClaimSeven
namespace Go.Proofs.YtaoejkpamgoniaaDoor
namespace Rows

/-- THE TIED CARD OF 'polyptychlaw15.CommForms'. -/
def commFormsCard : Claim7 := { stood := { row := commFormsRow, standIns := [], harness := (true, "d974c2a8c6ea7ce5b9b21d0e58e60145ba2d5c2c133e2d547fa828fff0f94968"), looks := false }, kinds := [], alts := [], laidByText := true, laidKinds := [.data, .data, .data, .data, .pinned], laidTests := true, laidLooks := .later }
def CommFormsCardSaid : Prop := Claim7.holds Tryd.pinned (.plain (OpenSpec.ofChange commFormsSpec)) commFormsCard

/-- THE TIED CARD OF 'polyptychlaw15.CommRatios'. -/
def commRatiosCard : Claim7 := { stood := { row := commRatiosRow, standIns := [], harness := (true, "d974c2a8c6ea7ce5b9b21d0e58e60145ba2d5c2c133e2d547fa828fff0f94968"), looks := false }, kinds := [], alts := [], laidByText := true, laidKinds := [.data, .data, .data, .data, .pinned], laidTests := true, laidLooks := .later }
def CommRatiosCardSaid : Prop := Claim7.holds Tryd.pinned (.plain (OpenSpec.ofChange commRatiosSpec)) commRatiosCard

/-- THE TIED CARD OF 'polyptychlaw15.CommTells'. -/
def commTellsCard : Claim7 := { stood := { row := commTellsRow, standIns := [], harness := (true, "d974c2a8c6ea7ce5b9b21d0e58e60145ba2d5c2c133e2d547fa828fff0f94968"), looks := false }, kinds := [], alts := [], laidByText := true, laidKinds := [.data, .data, .data, .data, .pinned], laidTests := true, laidLooks := .later }
def CommTellsCardSaid : Prop := Claim7.holds Tryd.pinned (.plain (OpenSpec.ofChange commTellsSpec)) commTellsCard

/-- THE TIED CARD OF 'polyptychlaw15.CommBack'. -/
def commBackCard : Claim7 := { stood := { row := commBackRow, standIns := [], harness := (true, "d974c2a8c6ea7ce5b9b21d0e58e60145ba2d5c2c133e2d547fa828fff0f94968"), looks := false }, kinds := [], alts := [], laidByText := true, laidKinds := [.data, .data, .data, .data, .pinned], laidTests := true, laidLooks := .later }
def CommBackCardSaid : Prop := Claim7.holds Tryd.pinned (.plain (OpenSpec.ofChange commBackSpec)) commBackCard

/-- THE SECOND FORM's CARD OF 'polyptychlaw15.CommForms'. -/
def commFormsUptoCard : Claim7 := { stood := { row := commFormsUptoRow, standIns := [], harness := (true, "d974c2a8c6ea7ce5b9b21d0e58e60145ba2d5c2c133e2d547fa828fff0f94968"), looks := false }, kinds := [], alts := [], laidByText := true, laidKinds := [.data, .data, .data, .data, .pinned], laidTests := true, laidLooks := .later }
def CommFormsUptoCardSaid : Prop := Claim7.holds Tryd.pinned (.plain (OpenSpec.upto commFormsSpec)) commFormsUptoCard

/-- THE SECOND FORM's CARD OF 'polyptychlaw15.CommRatios'. -/
def commRatiosUptoCard : Claim7 := { stood := { row := commRatiosUptoRow, standIns := [], harness := (true, "d974c2a8c6ea7ce5b9b21d0e58e60145ba2d5c2c133e2d547fa828fff0f94968"), looks := false }, kinds := [], alts := [], laidByText := true, laidKinds := [.data, .data, .data, .data, .pinned], laidTests := true, laidLooks := .later }
def CommRatiosUptoCardSaid : Prop := Claim7.holds Tryd.pinned (.plain (OpenSpec.upto commRatiosSpec)) commRatiosUptoCard

/-- THE SECOND FORM's CARD OF 'polyptychlaw15.CommTells'. -/
def commTellsUptoCard : Claim7 := { stood := { row := commTellsUptoRow, standIns := [], harness := (true, "d974c2a8c6ea7ce5b9b21d0e58e60145ba2d5c2c133e2d547fa828fff0f94968"), looks := false }, kinds := [], alts := [], laidByText := true, laidKinds := [.data, .data, .data, .data, .pinned], laidTests := true, laidLooks := .later }
def CommTellsUptoCardSaid : Prop := Claim7.holds Tryd.pinned (.plain (OpenSpec.upto commTellsSpec)) commTellsUptoCard

/-- THE SECOND FORM's CARD OF 'polyptychlaw15.CommBack'. -/
def commBackUptoCard : Claim7 := { stood := { row := commBackUptoRow, standIns := [], harness := (true, "d974c2a8c6ea7ce5b9b21d0e58e60145ba2d5c2c133e2d547fa828fff0f94968"), looks := false }, kinds := [], alts := [], laidByText := true, laidKinds := [.data, .data, .data, .data, .pinned], laidTests := true, laidLooks := .later }
def CommBackUptoCardSaid : Prop := Claim7.holds Tryd.pinned (.plain (OpenSpec.upto commBackSpec)) commBackUptoCard
end Rows
end Go.Proofs.YtaoejkpamgoniaaDoor
