/-
  No cell of these rows narrows 'for every input' (looked for: loops, veiled, ifaces, maps, wideKeys, modest, calm, conditions, laid).
  DERIVED. THE GIVEN ROWS OF THIS SEAT. 4 by the template 'for every input the law returns true; each argument reads behind the call as it read before'; 0 by the template 'total and deterministic' (their statements: YtigeegdnhmgkbaaGreatTotals.lean).
  GIVEN WITH THE SEED: the statements are not yours to turn. If you find one false, say at which input.
  Laid BY PROGRAM, IN A SANDBOX (cutbox-rows.mjs): the forced cells as the released guide's own fill.sh prints them over the translation d094741afeb9e5af… (all of the seat's roots in one cut). By AI agents, Wed Nov 11 2026. No macro, syntax, notation, axiom, sorry.
-/
import Derived.Test.YtigeegdnhmgkbaaGreatChecked
import GoSem.Claim
import GoSem.ClaimJoined
import GoSem.ClaimMapViews
import Derived.JoinedTies
import Derived.KernelRfl
namespace Go.Proofs.YtigeegdnhmgkbaaGreat
/- THE CELL 'sum', in the pinned program and in every row, IS THE sha256 OF THE DUMP (.gsa) THAT YtigeegdnhmgkbaaGreatProg.lean LOADS. Nothing in Lean hashes anything: it is a label: what it is worth is what the hold of that sum in a sandbox is worth. -/
noncomputable def Tryz.pinned : Pinned := { name := "ytigeegdnhmgkbaagreat", sum := "d094741afeb9e5af8d32659d263d393d2e60abf28b37228aa094d13992090da9", checked := Tryz.checked }
namespace Rows
def none {H : Type} : Left H := { results := [], args := [] }

/-- 'polyptychlaw23.RegiFull': WHATEVER THE INPUT: true; the input reads as it did. -/
def regiFullSpec : ChangeSpec := { name := "regiFull", fn := fun _ => fun
  | [d1, d2] => { results := [.lit (.bool true)], args := [d1, d2] }
  | _ => none }
def regiFullRow : OpenClaim := { program := "ytigeegdnhmgkbaagreat", sum := "d094741afeb9e5af8d32659d263d393d2e60abf28b37228aa094d13992090da9", func := "polyptych/polyptychlaw23.RegiFull", spec := "regiFull", unfollowed := true, recurses := true, plainKeys := false, apart := false }
def RegiFullSaid : Prop := regiFullRow.holds Tryz.pinned (OpenSpec.ofChange regiFullSpec)

/-- ITS FALSE NEIGHBOUR: 'it returns false'. Refute it at one input. -/
def regiFullWrong : ChangeSpec := { name := "regiFull", fn := fun _ => fun
  | [d1, d2] => { results := [.lit (.bool false)], args := [d1, d2] }
  | _ => none }
def RegiFullWrongFalsely : Prop := regiFullRow.holds Tryz.pinned (OpenSpec.ofChange regiFullWrong)

/-- 'polyptychlaw24.StepPins': WHATEVER THE INPUT: true; the input reads as it did. -/
def stepPinsSpec : ChangeSpec := { name := "stepPins", fn := fun _ => fun
  | [d1, d2] => { results := [.lit (.bool true)], args := [d1, d2] }
  | _ => none }
def stepPinsRow : OpenClaim := { program := "ytigeegdnhmgkbaagreat", sum := "d094741afeb9e5af8d32659d263d393d2e60abf28b37228aa094d13992090da9", func := "polyptych/polyptychlaw24.StepPins", spec := "stepPins", unfollowed := true, recurses := true, plainKeys := false, apart := false }
def StepPinsSaid : Prop := stepPinsRow.holds Tryz.pinned (OpenSpec.ofChange stepPinsSpec)

/-- ITS FALSE NEIGHBOUR: 'it returns false'. Refute it at one input. -/
def stepPinsWrong : ChangeSpec := { name := "stepPins", fn := fun _ => fun
  | [d1, d2] => { results := [.lit (.bool false)], args := [d1, d2] }
  | _ => none }
def StepPinsWrongFalsely : Prop := stepPinsRow.holds Tryz.pinned (OpenSpec.ofChange stepPinsWrong)

/-- 'polyptychlaw24.StepBlocks': WHATEVER THE INPUT: true; the input reads as it did. -/
def stepBlocksSpec : ChangeSpec := { name := "stepBlocks", fn := fun _ => fun
  | [d1, d2] => { results := [.lit (.bool true)], args := [d1, d2] }
  | _ => none }
def stepBlocksRow : OpenClaim := { program := "ytigeegdnhmgkbaagreat", sum := "d094741afeb9e5af8d32659d263d393d2e60abf28b37228aa094d13992090da9", func := "polyptych/polyptychlaw24.StepBlocks", spec := "stepBlocks", unfollowed := true, recurses := true, plainKeys := false, apart := false }
def StepBlocksSaid : Prop := stepBlocksRow.holds Tryz.pinned (OpenSpec.ofChange stepBlocksSpec)

/-- ITS FALSE NEIGHBOUR: 'it returns false'. Refute it at one input. -/
def stepBlocksWrong : ChangeSpec := { name := "stepBlocks", fn := fun _ => fun
  | [d1, d2] => { results := [.lit (.bool false)], args := [d1, d2] }
  | _ => none }
def StepBlocksWrongFalsely : Prop := stepBlocksRow.holds Tryz.pinned (OpenSpec.ofChange stepBlocksWrong)

/-- 'polyptychlaw25.SchdNone': WHATEVER THE INPUT: true; the input reads as it did. -/
def schdNoneSpec : ChangeSpec := { name := "schdNone", fn := fun _ => fun
  | [d1, d2] => { results := [.lit (.bool true)], args := [d1, d2] }
  | _ => none }
def schdNoneRow : OpenClaim := { program := "ytigeegdnhmgkbaagreat", sum := "d094741afeb9e5af8d32659d263d393d2e60abf28b37228aa094d13992090da9", func := "polyptych/polyptychlaw25.SchdNone", spec := "schdNone", unfollowed := true, recurses := true, plainKeys := false, apart := false }
def SchdNoneSaid : Prop := schdNoneRow.holds Tryz.pinned (OpenSpec.ofChange schdNoneSpec)

/-- ITS FALSE NEIGHBOUR: 'it returns false'. Refute it at one input. -/
def schdNoneWrong : ChangeSpec := { name := "schdNone", fn := fun _ => fun
  | [d1, d2] => { results := [.lit (.bool false)], args := [d1, d2] }
  | _ => none }
def SchdNoneWrongFalsely : Prop := schdNoneRow.holds Tryz.pinned (OpenSpec.ofChange schdNoneWrong)

/- THE SECOND FORM. 'bulk': how many values and letters a reading holds, each counted each time it is reached (what is shared counts as often as it is met; a slice's spare places count too). A statement '..UptoSaid' is the law's where the arguments, and the package variables that the reading takes, are together of bulk at most 1048576: NARROWER than '..Said'. Prove '..Said' where nothing that the law and all that it calls make is longer than what came in: it says more and counts as full. Else prove '..UptoSaid'. A law counts once. -/
mutual
def uptoBulk {H : Type} : DataW H → Nat
  | .lit (.string bytes) => bytes.length + 1
  | .lit _ => 1
  | .nil => 1
  | .ptr d => uptoBulk d + 1
  | .slice elems spare => uptoBulkAll elems + uptoBulkAll spare + 1
  | .agg parts => uptoBulkAll parts + 1
  | .iface _ d => uptoBulk d + 1
  | .map entries => uptoBulkEntries entries + 1
  | .held _ => 1
def uptoBulkAll {H : Type} : List (DataW H) → Nat
  | [] => 0
  | d :: r => uptoBulk d + uptoBulkAll r
def uptoBulkEntries {H : Type} : List (Lit × DataW H) → Nat
  | [] => 0
  | x :: r => uptoBulkEntry x + uptoBulkEntries r
def uptoBulkEntry {H : Type} : Lit × DataW H → Nat
  | (.string bytes, d) => bytes.length + uptoBulk d + 1
  | (_, d) => uptoBulk d + 1
 end
def uptoSmall : (H : Type) → List (DataW H) → Bool := fun _ ds => decide (uptoBulkAll ds ≤ 1048576)
def OpenSpec.upto (s : _root_.Go.ChangeSpec) : _root_.Go.OpenSpec := { _root_.Go.OpenSpec.ofChange s with cond := some uptoSmall }

/-- 'polyptychlaw23.RegiFull', WHERE WHAT IT READS IS OF BULK AT MOST 1048576: true; the input reads as it did. -/
def regiFullUptoRow : OpenClaim := { program := "ytigeegdnhmgkbaagreat", sum := "d094741afeb9e5af8d32659d263d393d2e60abf28b37228aa094d13992090da9", func := "polyptych/polyptychlaw23.RegiFull", spec := "regiFull", unfollowed := true, recurses := true, plainKeys := false, apart := false, narrowed := true }
def RegiFullUptoSaid : Prop := regiFullUptoRow.holds Tryz.pinned (OpenSpec.upto regiFullSpec)

/-- 'polyptychlaw24.StepPins', WHERE WHAT IT READS IS OF BULK AT MOST 1048576: true; the input reads as it did. -/
def stepPinsUptoRow : OpenClaim := { program := "ytigeegdnhmgkbaagreat", sum := "d094741afeb9e5af8d32659d263d393d2e60abf28b37228aa094d13992090da9", func := "polyptych/polyptychlaw24.StepPins", spec := "stepPins", unfollowed := true, recurses := true, plainKeys := false, apart := false, narrowed := true }
def StepPinsUptoSaid : Prop := stepPinsUptoRow.holds Tryz.pinned (OpenSpec.upto stepPinsSpec)

/-- 'polyptychlaw24.StepBlocks', WHERE WHAT IT READS IS OF BULK AT MOST 1048576: true; the input reads as it did. -/
def stepBlocksUptoRow : OpenClaim := { program := "ytigeegdnhmgkbaagreat", sum := "d094741afeb9e5af8d32659d263d393d2e60abf28b37228aa094d13992090da9", func := "polyptych/polyptychlaw24.StepBlocks", spec := "stepBlocks", unfollowed := true, recurses := true, plainKeys := false, apart := false, narrowed := true }
def StepBlocksUptoSaid : Prop := stepBlocksUptoRow.holds Tryz.pinned (OpenSpec.upto stepBlocksSpec)

/-- 'polyptychlaw25.SchdNone', WHERE WHAT IT READS IS OF BULK AT MOST 1048576: true; the input reads as it did. -/
def schdNoneUptoRow : OpenClaim := { program := "ytigeegdnhmgkbaagreat", sum := "d094741afeb9e5af8d32659d263d393d2e60abf28b37228aa094d13992090da9", func := "polyptych/polyptychlaw25.SchdNone", spec := "schdNone", unfollowed := true, recurses := true, plainKeys := false, apart := false, narrowed := true }
def SchdNoneUptoSaid : Prop := schdNoneUptoRow.holds Tryz.pinned (OpenSpec.upto schdNoneSpec)

end Rows
end Go.Proofs.YtigeegdnhmgkbaaGreat
