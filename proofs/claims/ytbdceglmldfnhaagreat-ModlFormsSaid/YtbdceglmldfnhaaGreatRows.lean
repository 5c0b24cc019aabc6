/-
  No cell of these rows narrows 'for every input' (looked for: loops, veiled, ifaces, maps, wideKeys, modest, calm, conditions, laid).
  DERIVED. THE GIVEN ROWS OF THIS SEAT. 5 by the template 'for every input the law returns true; each argument reads behind the call as it read before'; 0 by the template 'total and deterministic' (their statements: YtbdceglmldfnhaaGreatTotals.lean).
  GIVEN WITH THE SEED: the statements are not yours to turn. If you find one false, say at which input.
  Laid BY PROGRAM, IN A SANDBOX (cutbox-rows.mjs): the forced cells as the released guide's own fill.sh prints them over the translation 6b75b834efea93d0… (all of the seat's roots in one cut). By AI agents, Wed Nov 11 2026. No macro, syntax, notation, axiom, sorry.
-/
import Derived.Test.YtbdceglmldfnhaaGreatChecked
import GoSem.Claim
import GoSem.ClaimJoined
import GoSem.ClaimMapViews
import Derived.JoinedTies
import Derived.KernelRfl
namespace Go.Proofs.YtbdceglmldfnhaaGreat
/- THE CELL 'sum', in the pinned program and in every row, IS THE sha256 OF THE DUMP (.gsa) THAT YtbdceglmldfnhaaGreatProg.lean LOADS. Nothing in Lean hashes anything: it is a label: what it is worth is what the hold of that sum in a sandbox is worth. -/
noncomputable def Tryz.pinned : Pinned := { name := "ytbdceglmldfnhaagreat", sum := "6b75b834efea93d0d480839dc148cfc6a30a329ceb1394fe96a092d4c7a2a89f", checked := Tryz.checked }
namespace Rows
def none {H : Type} : Left H := { results := [], args := [] }

/-- 'polyptychlaw14.ModlForms': WHATEVER THE INPUT: true; the input reads as it did. -/
def modlFormsSpec : ChangeSpec := { name := "modlForms", fn := fun _ => fun
  | [d] => { results := [.lit (.bool true)], args := [d] }
  | _ => none }
def modlFormsRow : OpenClaim := { program := "ytbdceglmldfnhaagreat", sum := "6b75b834efea93d0d480839dc148cfc6a30a329ceb1394fe96a092d4c7a2a89f", func := "polyptych/polyptychlaw14.ModlForms", spec := "modlForms", unfollowed := true, recurses := true, apart := false }
def ModlFormsSaid : Prop := modlFormsRow.holds Tryz.pinned (OpenSpec.ofChange modlFormsSpec)

/-- ITS FALSE NEIGHBOUR: 'it returns false'. Refute it at one input. -/
def modlFormsWrong : ChangeSpec := { name := "modlForms", fn := fun _ => fun
  | [d] => { results := [.lit (.bool false)], args := [d] }
  | _ => none }
def ModlFormsWrongFalsely : Prop := modlFormsRow.holds Tryz.pinned (OpenSpec.ofChange modlFormsWrong)

/-- 'polyptychlaw14.ModlLinks': WHATEVER THE INPUT: true; the input reads as it did. -/
def modlLinksSpec : ChangeSpec := { name := "modlLinks", fn := fun _ => fun
  | [d1, d2] => { results := [.lit (.bool true)], args := [d1, d2] }
  | _ => none }
def modlLinksRow : OpenClaim := { program := "ytbdceglmldfnhaagreat", sum := "6b75b834efea93d0d480839dc148cfc6a30a329ceb1394fe96a092d4c7a2a89f", func := "polyptych/polyptychlaw14.ModlLinks", spec := "modlLinks", unfollowed := true, recurses := true, apart := false }
def ModlLinksSaid : Prop := modlLinksRow.holds Tryz.pinned (OpenSpec.ofChange modlLinksSpec)

/-- ITS FALSE NEIGHBOUR: 'it returns false'. Refute it at one input. -/
def modlLinksWrong : ChangeSpec := { name := "modlLinks", fn := fun _ => fun
  | [d1, d2] => { results := [.lit (.bool false)], args := [d1, d2] }
  | _ => none }
def ModlLinksWrongFalsely : Prop := modlLinksRow.holds Tryz.pinned (OpenSpec.ofChange modlLinksWrong)

/-- 'polyptychlaw14.ModlFull': WHATEVER THE INPUT: true; the input reads as it did. -/
def modlFullSpec : ChangeSpec := { name := "modlFull", fn := fun _ => fun
  | [d1, d2] => { results := [.lit (.bool true)], args := [d1, d2] }
  | _ => none }
def modlFullRow : OpenClaim := { program := "ytbdceglmldfnhaagreat", sum := "6b75b834efea93d0d480839dc148cfc6a30a329ceb1394fe96a092d4c7a2a89f", func := "polyptych/polyptychlaw14.ModlFull", spec := "modlFull", unfollowed := true, recurses := true, apart := false }
def ModlFullSaid : Prop := modlFullRow.holds Tryz.pinned (OpenSpec.ofChange modlFullSpec)

/-- ITS FALSE NEIGHBOUR: 'it returns false'. Refute it at one input. -/
def modlFullWrong : ChangeSpec := { name := "modlFull", fn := fun _ => fun
  | [d1, d2] => { results := [.lit (.bool false)], args := [d1, d2] }
  | _ => none }
def ModlFullWrongFalsely : Prop := modlFullRow.holds Tryz.pinned (OpenSpec.ofChange modlFullWrong)

/-- 'polyptychlaw14.ModlOwn': WHATEVER THE INPUT: true; the input reads as it did. -/
def modlOwnSpec : ChangeSpec := { name := "modlOwn", fn := fun _ => fun
  | [d1, d2] => { results := [.lit (.bool true)], args := [d1, d2] }
  | _ => none }
def modlOwnRow : OpenClaim := { program := "ytbdceglmldfnhaagreat", sum := "6b75b834efea93d0d480839dc148cfc6a30a329ceb1394fe96a092d4c7a2a89f", func := "polyptych/polyptychlaw14.ModlOwn", spec := "modlOwn", inPlace := ["math.Float64bits", "math.Float64frombits"], unfollowed := true, recurses := true, apart := false }
def ModlOwnSaid : Prop := modlOwnRow.holds Tryz.pinned (OpenSpec.ofChange modlOwnSpec)

/-- ITS FALSE NEIGHBOUR: 'it returns false'. Refute it at one input. -/
def modlOwnWrong : ChangeSpec := { name := "modlOwn", fn := fun _ => fun
  | [d1, d2] => { results := [.lit (.bool false)], args := [d1, d2] }
  | _ => none }
def ModlOwnWrongFalsely : Prop := modlOwnRow.holds Tryz.pinned (OpenSpec.ofChange modlOwnWrong)

/-- 'polyptychlaw14.ModlWhole': WHATEVER THE INPUT: true; the input reads as it did. -/
def modlWholeSpec : ChangeSpec := { name := "modlWhole", fn := fun _ => fun
  | [d1, d2] => { results := [.lit (.bool true)], args := [d1, d2] }
  | _ => none }
def modlWholeRow : OpenClaim := { program := "ytbdceglmldfnhaagreat", sum := "6b75b834efea93d0d480839dc148cfc6a30a329ceb1394fe96a092d4c7a2a89f", func := "polyptych/polyptychlaw14.ModlWhole", spec := "modlWhole", inPlace := ["math.Float64bits", "math.Float64frombits"], unfollowed := true, recurses := true, apart := false }
def ModlWholeSaid : Prop := modlWholeRow.holds Tryz.pinned (OpenSpec.ofChange modlWholeSpec)

/-- ITS FALSE NEIGHBOUR: 'it returns false'. Refute it at one input. -/
def modlWholeWrong : ChangeSpec := { name := "modlWhole", fn := fun _ => fun
  | [d1, d2] => { results := [.lit (.bool false)], args := [d1, d2] }
  | _ => none }
def ModlWholeWrongFalsely : Prop := modlWholeRow.holds Tryz.pinned (OpenSpec.ofChange modlWholeWrong)

/- THE SECOND FORM. 'bulk': how many values and letters a reading holds, each counted each time it is reached (what is shared counts as often as it is met; a slice's spare places count too). A statement '..UptoSaid' is the law's where the arguments, and the package variables that the reading takes, are together of bulk at most 1048576: NARROWER than '..Said'. Prove '..Said' where nothing that the law and all that it calls make is longer than what came in: it says more and counts as full. Else prove '..UptoSaid'. A law counts once. -/
mutual
def uptoBulk {H : Type} : DataW H → Nat
  | .lit (.string bytes) => bytes.length + 1
  | .lit _ => 1
  | .nil => 1
  | .ptr d => uptoBulk d + 1
  | .slice elems spare => uptoBulkAll elems + uptoBulkAll spare + 1
  | .agg parts => uptoBulkAll parts + 1
  | .iface _ d => uptoBulk d + 1
  | .map entries => uptoBulkEntries entries + 1
  | .held _ => 1
def uptoBulkAll {H : Type} : List (DataW H) → Nat
  | [] => 0
  | d :: r => uptoBulk d + uptoBulkAll r
def uptoBulkEntries {H : Type} : List (Lit × DataW H) → Nat
  | [] => 0
  | x :: r => uptoBulkEntry x + uptoBulkEntries r
def uptoBulkEntry {H : Type} : Lit × DataW H → Nat
  | (.string bytes, d) => bytes.length + uptoBulk d + 1
  | (_, d) => uptoBulk d + 1
 end
def uptoSmall : (H : Type) → List (DataW H) → Bool := fun _ ds => decide (uptoBulkAll ds ≤ 1048576)
def OpenSpec.upto (s : _root_.Go.ChangeSpec) : _root_.Go.OpenSpec := { _root_.Go.OpenSpec.ofChange s with cond := some uptoSmall }

/-- 'polyptychlaw14.ModlForms', WHERE WHAT IT READS IS OF BULK AT MOST 1048576: true; the input reads as it did. -/
def modlFormsUptoRow : OpenClaim := { program := "ytbdceglmldfnhaagreat", sum := "6b75b834efea93d0d480839dc148cfc6a30a329ceb1394fe96a092d4c7a2a89f", func := "polyptych/polyptychlaw14.ModlForms", spec := "modlForms", unfollowed := true, recurses := true, apart := false, narrowed := true }
def ModlFormsUptoSaid : Prop := modlFormsUptoRow.holds Tryz.pinned (OpenSpec.upto modlFormsSpec)

/-- 'polyptychlaw14.ModlLinks', WHERE WHAT IT READS IS OF BULK AT MOST 1048576: true; the input reads as it did. -/
def modlLinksUptoRow : OpenClaim := { program := "ytbdceglmldfnhaagreat", sum := "6b75b834efea93d0d480839dc148cfc6a30a329ceb1394fe96a092d4c7a2a89f", func := "polyptych/polyptychlaw14.ModlLinks", spec := "modlLinks", unfollowed := true, recurses := true, apart := false, narrowed := true }
def ModlLinksUptoSaid : Prop := modlLinksUptoRow.holds Tryz.pinned (OpenSpec.upto modlLinksSpec)

/-- 'polyptychlaw14.ModlFull', WHERE WHAT IT READS IS OF BULK AT MOST 1048576: true; the input reads as it did. -/
def modlFullUptoRow : OpenClaim := { program := "ytbdceglmldfnhaagreat", sum := "6b75b834efea93d0d480839dc148cfc6a30a329ceb1394fe96a092d4c7a2a89f", func := "polyptych/polyptychlaw14.ModlFull", spec := "modlFull", unfollowed := true, recurses := true, apart := false, narrowed := true }
def ModlFullUptoSaid : Prop := modlFullUptoRow.holds Tryz.pinned (OpenSpec.upto modlFullSpec)

/-- 'polyptychlaw14.ModlOwn', WHERE WHAT IT READS IS OF BULK AT MOST 1048576: true; the input reads as it did. -/
def modlOwnUptoRow : OpenClaim := { program := "ytbdceglmldfnhaagreat", sum := "6b75b834efea93d0d480839dc148cfc6a30a329ceb1394fe96a092d4c7a2a89f", func := "polyptych/polyptychlaw14.ModlOwn", spec := "modlOwn", inPlace := ["math.Float64bits", "math.Float64frombits"], unfollowed := true, recurses := true, apart := false, narrowed := true }
def ModlOwnUptoSaid : Prop := modlOwnUptoRow.holds Tryz.pinned (OpenSpec.upto modlOwnSpec)

/-- 'polyptychlaw14.ModlWhole', WHERE WHAT IT READS IS OF BULK AT MOST 1048576: true; the input reads as it did. -/
def modlWholeUptoRow : OpenClaim := { program := "ytbdceglmldfnhaagreat", sum := "6b75b834efea93d0d480839dc148cfc6a30a329ceb1394fe96a092d4c7a2a89f", func := "polyptych/polyptychlaw14.ModlWhole", spec := "modlWhole", inPlace := ["math.Float64bits", "math.Float64frombits"], unfollowed := true, recurses := true, apart := false, narrowed := true }
def ModlWholeUptoSaid : Prop := modlWholeUptoRow.holds Tryz.pinned (OpenSpec.upto modlWholeSpec)

end Rows
end Go.Proofs.YtbdceglmldfnhaaGreat
