/-
  No cell of these rows narrows 'for every input' (looked for: loops, veiled, ifaces, maps, wideKeys, modest, calm, conditions, laid).
  DERIVED. THE GIVEN ROWS OF THIS SEAT. 5 by the template 'for every input the law returns true; each argument reads behind the call as it read before'; 0 by the template 'total and deterministic' (their statements: YtkcibhokjiciiaaTotals.lean).
  GIVEN WITH THE SEED: the statements are not yours to turn. If you find one false, say at which input.
  Laid BY PROGRAM, IN A SANDBOX (cutbox-rows.mjs): the forced cells as the released guide's own fill.sh prints them over the translation f9fe0c0d9e9931f0… (all of the seat's roots in one cut). By AI agents, Wed Nov 11 2026. No macro, syntax, notation, axiom, sorry.
-/
import Derived.Test.YtkcibhokjiciiaaChecked
import GoSem.Claim
import GoSem.ClaimJoined
import GoSem.ClaimMapViews
import Derived.JoinedTies
import Derived.KernelRfl
namespace Go.Proofs.Ytkcibhokjiciiaa
/- THE CELL 'sum', in the pinned program and in every row, IS THE sha256 OF THE DUMP (.gsa) THAT YtkcibhokjiciiaaProg.lean LOADS. Nothing in Lean hashes anything: it is a label: what it is worth is what the hold of that sum in a sandbox is worth. -/
noncomputable def Try.pinned : Pinned := { name := "ytkcibhokjiciiaa", sum := "f9fe0c0d9e9931f022716e4bbf754383551351ad619931e91642c445359c162a", checked := Try.checked }
namespace Rows
def none {H : Type} : Left H := { results := [], args := [] }

/-- 'polyptychlaw10.TreeBack': WHATEVER THE INPUT: true; the input reads as it did. -/
def treeBackSpec : ChangeSpec := { name := "treeBack", fn := fun _ => fun
  | [d1, d2, d3, d4] => { results := [.lit (.bool true)], args := [d1, d2, d3, d4] }
  | _ => none }
def treeBackRow : OpenClaim := { program := "ytkcibhokjiciiaa", sum := "f9fe0c0d9e9931f022716e4bbf754383551351ad619931e91642c445359c162a", func := "polyptych/polyptychlaw10.TreeBack", spec := "treeBack", inPlace := ["math.Float64bits", "math.Float64frombits"], recurses := true, apart := false }
def TreeBackSaid : Prop := treeBackRow.holds Try.pinned (OpenSpec.ofChange treeBackSpec)

/-- ITS FALSE NEIGHBOUR: 'it returns false'. Refute it at one input. -/
def treeBackWrong : ChangeSpec := { name := "treeBack", fn := fun _ => fun
  | [d1, d2, d3, d4] => { results := [.lit (.bool false)], args := [d1, d2, d3, d4] }
  | _ => none }
def TreeBackWrongFalsely : Prop := treeBackRow.holds Try.pinned (OpenSpec.ofChange treeBackWrong)

/-- 'polyptychlaw10.TreeSwaps': WHATEVER THE INPUT: true; the input reads as it did. -/
def treeSwapsSpec : ChangeSpec := { name := "treeSwaps", fn := fun _ => fun
  | [d1, d2, d3] => { results := [.lit (.bool true)], args := [d1, d2, d3] }
  | _ => none }
def treeSwapsRow : OpenClaim := { program := "ytkcibhokjiciiaa", sum := "f9fe0c0d9e9931f022716e4bbf754383551351ad619931e91642c445359c162a", func := "polyptych/polyptychlaw10.TreeSwaps", spec := "treeSwaps", inPlace := ["math.Float64bits", "math.Float64frombits"], recurses := true, apart := false }
def TreeSwapsSaid : Prop := treeSwapsRow.holds Try.pinned (OpenSpec.ofChange treeSwapsSpec)

/-- ITS FALSE NEIGHBOUR: 'it returns false'. Refute it at one input. -/
def treeSwapsWrong : ChangeSpec := { name := "treeSwaps", fn := fun _ => fun
  | [d1, d2, d3] => { results := [.lit (.bool false)], args := [d1, d2, d3] }
  | _ => none }
def TreeSwapsWrongFalsely : Prop := treeSwapsRow.holds Try.pinned (OpenSpec.ofChange treeSwapsWrong)

/-- 'polyptychlaw10.TreeOrder': WHATEVER THE INPUT: true; the input reads as it did. -/
def treeOrderSpec : ChangeSpec := { name := "treeOrder", fn := fun _ => fun
  | [d1, d2, d3] => { results := [.lit (.bool true)], args := [d1, d2, d3] }
  | _ => none }
def treeOrderRow : OpenClaim := { program := "ytkcibhokjiciiaa", sum := "f9fe0c0d9e9931f022716e4bbf754383551351ad619931e91642c445359c162a", func := "polyptych/polyptychlaw10.TreeOrder", spec := "treeOrder", inPlace := ["math.Float64bits", "math.Float64frombits"], recurses := true, apart := false }
def TreeOrderSaid : Prop := treeOrderRow.holds Try.pinned (OpenSpec.ofChange treeOrderSpec)

/-- ITS FALSE NEIGHBOUR: 'it returns false'. Refute it at one input. -/
def treeOrderWrong : ChangeSpec := { name := "treeOrder", fn := fun _ => fun
  | [d1, d2, d3] => { results := [.lit (.bool false)], args := [d1, d2, d3] }
  | _ => none }
def TreeOrderWrongFalsely : Prop := treeOrderRow.holds Try.pinned (OpenSpec.ofChange treeOrderWrong)

/-- 'polyptychlaw10.TreeKeeps': WHATEVER THE INPUT: true; the input reads as it did. -/
def treeKeepsSpec : ChangeSpec := { name := "treeKeeps", fn := fun _ => fun
  | [d1, d2, d3] => { results := [.lit (.bool true)], args := [d1, d2, d3] }
  | _ => none }
def treeKeepsRow : OpenClaim := { program := "ytkcibhokjiciiaa", sum := "f9fe0c0d9e9931f022716e4bbf754383551351ad619931e91642c445359c162a", func := "polyptych/polyptychlaw10.TreeKeeps", spec := "treeKeeps", inPlace := ["math.Float64bits", "math.Float64frombits"], recurses := true, apart := false }
def TreeKeepsSaid : Prop := treeKeepsRow.holds Try.pinned (OpenSpec.ofChange treeKeepsSpec)

/-- ITS FALSE NEIGHBOUR: 'it returns false'. Refute it at one input. -/
def treeKeepsWrong : ChangeSpec := { name := "treeKeeps", fn := fun _ => fun
  | [d1, d2, d3] => { results := [.lit (.bool false)], args := [d1, d2, d3] }
  | _ => none }
def TreeKeepsWrongFalsely : Prop := treeKeepsRow.holds Try.pinned (OpenSpec.ofChange treeKeepsWrong)

/-- 'polyptychlaw10.TreeWhole': WHATEVER THE INPUT: true; the input reads as it did. -/
def treeWholeSpec : ChangeSpec := { name := "treeWhole", fn := fun _ => fun
  | [d1, d2, d3, d4, d5] => { results := [.lit (.bool true)], args := [d1, d2, d3, d4, d5] }
  | _ => none }
def treeWholeRow : OpenClaim := { program := "ytkcibhokjiciiaa", sum := "f9fe0c0d9e9931f022716e4bbf754383551351ad619931e91642c445359c162a", func := "polyptych/polyptychlaw10.TreeWhole", spec := "treeWhole", inPlace := ["math.Float64bits", "math.Float64frombits"], recurses := true, apart := false }
def TreeWholeSaid : Prop := treeWholeRow.holds Try.pinned (OpenSpec.ofChange treeWholeSpec)

/-- ITS FALSE NEIGHBOUR: 'it returns false'. Refute it at one input. -/
def treeWholeWrong : ChangeSpec := { name := "treeWhole", fn := fun _ => fun
  | [d1, d2, d3, d4, d5] => { results := [.lit (.bool false)], args := [d1, d2, d3, d4, d5] }
  | _ => none }
def TreeWholeWrongFalsely : Prop := treeWholeRow.holds Try.pinned (OpenSpec.ofChange treeWholeWrong)

/- THE SECOND FORM. 'bulk': how many values and letters a reading holds, each counted each time it is reached (what is shared counts as often as it is met; a slice's spare places count too). A statement '..UptoSaid' is the law's where the arguments, and the package variables that the reading takes, are together of bulk at most 1048576: NARROWER than '..Said'. Prove '..Said' where nothing that the law and all that it calls make is longer than what came in: it says more and counts as full. Else prove '..UptoSaid'. A law counts once. -/
mutual
def uptoBulk {H : Type} : DataW H → Nat
  | .lit (.string bytes) => bytes.length + 1
  | .lit _ => 1
  | .nil => 1
  | .ptr d => uptoBulk d + 1
  | .slice elems spare => uptoBulkAll elems + uptoBulkAll spare + 1
  | .agg parts => uptoBulkAll parts + 1
  | .iface _ d => uptoBulk d + 1
  | .map entries => uptoBulkEntries entries + 1
  | .held _ => 1
def uptoBulkAll {H : Type} : List (DataW H) → Nat
  | [] => 0
  | d :: r => uptoBulk d + uptoBulkAll r
def uptoBulkEntries {H : Type} : List (Lit × DataW H) → Nat
  | [] => 0
  | x :: r => uptoBulkEntry x + uptoBulkEntries r
def uptoBulkEntry {H : Type} : Lit × DataW H → Nat
  | (.string bytes, d) => bytes.length + uptoBulk d + 1
  | (_, d) => uptoBulk d + 1
 end
def uptoSmall : (H : Type) → List (DataW H) → Bool := fun _ ds => decide (uptoBulkAll ds ≤ 1048576)
def OpenSpec.upto (s : _root_.Go.ChangeSpec) : _root_.Go.OpenSpec := { _root_.Go.OpenSpec.ofChange s with cond := some uptoSmall }

/-- 'polyptychlaw10.TreeBack', WHERE WHAT IT READS IS OF BULK AT MOST 1048576: true; the input reads as it did. -/
def treeBackUptoRow : OpenClaim := { program := "ytkcibhokjiciiaa", sum := "f9fe0c0d9e9931f022716e4bbf754383551351ad619931e91642c445359c162a", func := "polyptych/polyptychlaw10.TreeBack", spec := "treeBack", inPlace := ["math.Float64bits", "math.Float64frombits"], recurses := true, apart := false, narrowed := true }
def TreeBackUptoSaid : Prop := treeBackUptoRow.holds Try.pinned (OpenSpec.upto treeBackSpec)

/-- 'polyptychlaw10.TreeSwaps', WHERE WHAT IT READS IS OF BULK AT MOST 1048576: true; the input reads as it did. -/
def treeSwapsUptoRow : OpenClaim := { program := "ytkcibhokjiciiaa", sum := "f9fe0c0d9e9931f022716e4bbf754383551351ad619931e91642c445359c162a", func := "polyptych/polyptychlaw10.TreeSwaps", spec := "treeSwaps", inPlace := ["math.Float64bits", "math.Float64frombits"], recurses := true, apart := false, narrowed := true }
def TreeSwapsUptoSaid : Prop := treeSwapsUptoRow.holds Try.pinned (OpenSpec.upto treeSwapsSpec)

/-- 'polyptychlaw10.TreeOrder', WHERE WHAT IT READS IS OF BULK AT MOST 1048576: true; the input reads as it did. -/
def treeOrderUptoRow : OpenClaim := { program := "ytkcibhokjiciiaa", sum := "f9fe0c0d9e9931f022716e4bbf754383551351ad619931e91642c445359c162a", func := "polyptych/polyptychlaw10.TreeOrder", spec := "treeOrder", inPlace := ["math.Float64bits", "math.Float64frombits"], recurses := true, apart := false, narrowed := true }
def TreeOrderUptoSaid : Prop := treeOrderUptoRow.holds Try.pinned (OpenSpec.upto treeOrderSpec)

/-- 'polyptychlaw10.TreeKeeps', WHERE WHAT IT READS IS OF BULK AT MOST 1048576: true; the input reads as it did. -/
def treeKeepsUptoRow : OpenClaim := { program := "ytkcibhokjiciiaa", sum := "f9fe0c0d9e9931f022716e4bbf754383551351ad619931e91642c445359c162a", func := "polyptych/polyptychlaw10.TreeKeeps", spec := "treeKeeps", inPlace := ["math.Float64bits", "math.Float64frombits"], recurses := true, apart := false, narrowed := true }
def TreeKeepsUptoSaid : Prop := treeKeepsUptoRow.holds Try.pinned (OpenSpec.upto treeKeepsSpec)

/-- 'polyptychlaw10.TreeWhole', WHERE WHAT IT READS IS OF BULK AT MOST 1048576: true; the input reads as it did. -/
def treeWholeUptoRow : OpenClaim := { program := "ytkcibhokjiciiaa", sum := "f9fe0c0d9e9931f022716e4bbf754383551351ad619931e91642c445359c162a", func := "polyptych/polyptychlaw10.TreeWhole", spec := "treeWhole", inPlace := ["math.Float64bits", "math.Float64frombits"], recurses := true, apart := false, narrowed := true }
def TreeWholeUptoSaid : Prop := treeWholeUptoRow.holds Try.pinned (OpenSpec.upto treeWholeSpec)

end Rows
end Go.Proofs.Ytkcibhokjiciiaa
