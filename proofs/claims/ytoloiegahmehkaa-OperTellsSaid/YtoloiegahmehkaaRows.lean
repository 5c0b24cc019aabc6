/-
  No cell of these rows narrows 'for every input' (looked for: loops, veiled, ifaces, maps, wideKeys, modest, calm, conditions, laid).
  DERIVED. THE GIVEN ROWS OF THIS SEAT. 3 by the template 'for every input the law returns true; each argument reads behind the call as it read before'; 0 by the template 'total and deterministic' (their statements: YtoloiegahmehkaaTotals.lean).
  GIVEN WITH THE SEED: the statements are not yours to turn. If you find one false, say at which input.
  Laid BY PROGRAM, IN A SANDBOX (cutbox-rows.mjs): the forced cells as the released guide's own fill.sh prints them over the translation 77471458d71ce0df… (all of the seat's roots in one cut). By AI agents, Wed Nov 11 2026. No macro, syntax, notation, axiom, sorry.
-/
import Derived.Test.YtoloiegahmehkaaChecked
import GoSem.Claim
import GoSem.ClaimJoined
import GoSem.ClaimMapViews
import Derived.JoinedTies
import Derived.KernelRfl
namespace Go.Proofs.Ytoloiegahmehkaa
/- THE CELL 'sum', in the pinned program and in every row, IS THE sha256 OF THE DUMP (.gsa) THAT YtoloiegahmehkaaProg.lean LOADS. Nothing in Lean hashes anything: it is a label: what it is worth is what the hold of that sum in a sandbox is worth. -/
noncomputable def Try.pinned : Pinned := { name := "ytoloiegahmehkaa", sum := "77471458d71ce0df2b3852979da150a30c3b1ead741576c0d190cd0a8ce3e2d1", checked := Try.checked }
namespace Rows
def none {H : Type} : Left H := { results := [], args := [] }

/-- 'polyptychlaw13.OperOthers': WHATEVER THE INPUT: true; the input reads as it did. -/
def operOthersSpec : ChangeSpec := { name := "operOthers", fn := fun _ => fun
  | [d1, d2] => { results := [.lit (.bool true)], args := [d1, d2] }
  | _ => none }
def operOthersRow : OpenClaim := { program := "ytoloiegahmehkaa", sum := "77471458d71ce0df2b3852979da150a30c3b1ead741576c0d190cd0a8ce3e2d1", func := "polyptych/polyptychlaw13.OperOthers", spec := "operOthers", apart := false }
def OperOthersSaid : Prop := operOthersRow.holds Try.pinned (OpenSpec.ofChange operOthersSpec)

/-- ITS FALSE NEIGHBOUR: 'it returns false'. Refute it at one input. -/
def operOthersWrong : ChangeSpec := { name := "operOthers", fn := fun _ => fun
  | [d1, d2] => { results := [.lit (.bool false)], args := [d1, d2] }
  | _ => none }
def OperOthersWrongFalsely : Prop := operOthersRow.holds Try.pinned (OpenSpec.ofChange operOthersWrong)

/-- 'polyptychlaw13.OperTells': WHATEVER THE INPUT: true; the input reads as it did. -/
def operTellsSpec : ChangeSpec := { name := "operTells", fn := fun _ => fun
  | [d1, d2] => { results := [.lit (.bool true)], args := [d1, d2] }
  | _ => none }
def operTellsRow : OpenClaim := { program := "ytoloiegahmehkaa", sum := "77471458d71ce0df2b3852979da150a30c3b1ead741576c0d190cd0a8ce3e2d1", func := "polyptych/polyptychlaw13.OperTells", spec := "operTells", apart := false }
def OperTellsSaid : Prop := operTellsRow.holds Try.pinned (OpenSpec.ofChange operTellsSpec)

/-- ITS FALSE NEIGHBOUR: 'it returns false'. Refute it at one input. -/
def operTellsWrong : ChangeSpec := { name := "operTells", fn := fun _ => fun
  | [d1, d2] => { results := [.lit (.bool false)], args := [d1, d2] }
  | _ => none }
def OperTellsWrongFalsely : Prop := operTellsRow.holds Try.pinned (OpenSpec.ofChange operTellsWrong)

/-- 'polyptychlaw13.OperForms': WHATEVER THE INPUT: true; the input reads as it did. -/
def operFormsSpec : ChangeSpec := { name := "operForms", fn := fun _ => fun
  | [d] => { results := [.lit (.bool true)], args := [d] }
  | _ => none }
def operFormsRow : OpenClaim := { program := "ytoloiegahmehkaa", sum := "77471458d71ce0df2b3852979da150a30c3b1ead741576c0d190cd0a8ce3e2d1", func := "polyptych/polyptychlaw13.OperForms", spec := "operForms", apart := false }
def OperFormsSaid : Prop := operFormsRow.holds Try.pinned (OpenSpec.ofChange operFormsSpec)

/-- ITS FALSE NEIGHBOUR: 'it returns false'. Refute it at one input. -/
def operFormsWrong : ChangeSpec := { name := "operForms", fn := fun _ => fun
  | [d] => { results := [.lit (.bool false)], args := [d] }
  | _ => none }
def OperFormsWrongFalsely : Prop := operFormsRow.holds Try.pinned (OpenSpec.ofChange operFormsWrong)

/- THE SECOND FORM. 'bulk': how many values and letters a reading holds, each counted each time it is reached (what is shared counts as often as it is met; a slice's spare places count too). A statement '..UptoSaid' is the law's where the arguments, and the package variables that the reading takes, are together of bulk at most 1048576: NARROWER than '..Said'. Prove '..Said' where nothing that the law and all that it calls make is longer than what came in: it says more and counts as full. Else prove '..UptoSaid'. A law counts once. -/
mutual
def uptoBulk {H : Type} : DataW H → Nat
  | .lit (.string bytes) => bytes.length + 1
  | .lit _ => 1
  | .nil => 1
  | .ptr d => uptoBulk d + 1
  | .slice elems spare => uptoBulkAll elems + uptoBulkAll spare + 1
  | .agg parts => uptoBulkAll parts + 1
  | .iface _ d => uptoBulk d + 1
  | .map entries => uptoBulkEntries entries + 1
  | .held _ => 1
def uptoBulkAll {H : Type} : List (DataW H) → Nat
  | [] => 0
  | d :: r => uptoBulk d + uptoBulkAll r
def uptoBulkEntries {H : Type} : List (Lit × DataW H) → Nat
  | [] => 0
  | x :: r => uptoBulkEntry x + uptoBulkEntries r
def uptoBulkEntry {H : Type} : Lit × DataW H → Nat
  | (.string bytes, d) => bytes.length + uptoBulk d + 1
  | (_, d) => uptoBulk d + 1
 end
def uptoSmall : (H : Type) → List (DataW H) → Bool := fun _ ds => decide (uptoBulkAll ds ≤ 1048576)
def OpenSpec.upto (s : _root_.Go.ChangeSpec) : _root_.Go.OpenSpec := { _root_.Go.OpenSpec.ofChange s with cond := some uptoSmall }

/-- 'polyptychlaw13.OperOthers', WHERE WHAT IT READS IS OF BULK AT MOST 1048576: true; the input reads as it did. -/
def operOthersUptoRow : OpenClaim := { program := "ytoloiegahmehkaa", sum := "77471458d71ce0df2b3852979da150a30c3b1ead741576c0d190cd0a8ce3e2d1", func := "polyptych/polyptychlaw13.OperOthers", spec := "operOthers", apart := false, narrowed := true }
def OperOthersUptoSaid : Prop := operOthersUptoRow.holds Try.pinned (OpenSpec.upto operOthersSpec)

/-- 'polyptychlaw13.OperTells', WHERE WHAT IT READS IS OF BULK AT MOST 1048576: true; the input reads as it did. -/
def operTellsUptoRow : OpenClaim := { program := "ytoloiegahmehkaa", sum := "77471458d71ce0df2b3852979da150a30c3b1ead741576c0d190cd0a8ce3e2d1", func := "polyptych/polyptychlaw13.OperTells", spec := "operTells", apart := false, narrowed := true }
def OperTellsUptoSaid : Prop := operTellsUptoRow.holds Try.pinned (OpenSpec.upto operTellsSpec)

/-- 'polyptychlaw13.OperForms', WHERE WHAT IT READS IS OF BULK AT MOST 1048576: true; the input reads as it did. -/
def operFormsUptoRow : OpenClaim := { program := "ytoloiegahmehkaa", sum := "77471458d71ce0df2b3852979da150a30c3b1ead741576c0d190cd0a8ce3e2d1", func := "polyptych/polyptychlaw13.OperForms", spec := "operForms", apart := false, narrowed := true }
def OperFormsUptoSaid : Prop := operFormsUptoRow.holds Try.pinned (OpenSpec.upto operFormsSpec)

end Rows
end Go.Proofs.Ytoloiegahmehkaa
