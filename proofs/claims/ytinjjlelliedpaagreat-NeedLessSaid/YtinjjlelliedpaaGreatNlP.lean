/-
  DERIVED: THE SHELF's CONTRACTS AT THIS DUMP, IN PLAIN WORDS (tools/lay-plain.mjs out of 'YtinjjlelliedpaaGreatNlL.lean', which tools/lay-shelf.mjs wrote): THE SAME DECLARATIONS UNDER THE SAME NAMES: 'import', 'namespace', 'open', 'def', 'theorem' AND NOTHING ELSE: no command of the shelf's: FOR A HAND-IN. Each laying: the table of numbers ('.._ren') and one theorem, a field a fact of the dump's own or the kernel's comparison; each contract: ONE APPLICATION.
-/
import Derived.Shelf.SlicesQ.IndexFunc
import Derived.Ground.SlgfProg
import Derived.Test.YtinjjlelliedpaaGreatChecked
namespace Go.Proofs
open Go.Shelf
def Tryz.containsA_ren : Go.Shelf.Ren := ⟨fun | 8 => 6 | 6 => 14 | n => n, fun | 22 => 23 | 23 => 25 | 25 => 30 | 4 => 4 | 3 => 3 | 0 => 0 | n => n, fun | n => n⟩
theorem Tryz.containsA : Go.Proofs.SlLaysH0.n8 Tryz.prog Tryz.containsA_ren := {
  mixed := by kernel_rfl
  f6 := ⟨Tryz.f14.name, by decide, Tryz.func14.trans (congrArg some (by kernel_rfl))⟩
  f8 := ⟨Tryz.f6.name, by decide, Tryz.func6.trans (congrArg some (by kernel_rfl))⟩
  t0 := Tryz.underlying0
  a0 := Tryz.isAgg0
  z0 := Tryz.sizeOf0
  v0 := Tryz.zeroValue0
  t3 := Tryz.underlying3
  a3 := Tryz.isAgg3
  z3 := Tryz.sizeOf3
  v3 := Tryz.zeroValue3
  t4 := Tryz.underlying4
  a4 := Tryz.isAgg4
  z4 := Tryz.sizeOf4
  v4 := Tryz.zeroValue4
  t22 := Tryz.underlying23
  a22 := Tryz.isAgg23
  z22 := Tryz.sizeOf23
  v22 := Tryz.zeroValue23
  t25 := Tryz.underlying30
  a25 := Tryz.isAgg30
  z25 := Tryz.sizeOf30
  v25 := Tryz.zeroValue30 }
def Tryz.indexA_ren : Go.Shelf.Ren := ⟨fun | 6 => 14 | n => n, fun | 22 => 23 | 23 => 25 | 25 => 30 | 3 => 3 | 0 => 0 | 4 => 4 | n => n, fun | n => n⟩
theorem Tryz.indexA : Go.Proofs.SlLaysH0.n6 Tryz.prog Tryz.indexA_ren := {
  mixed := by kernel_rfl
  f6 := ⟨Tryz.f14.name, by decide, Tryz.func14.trans (congrArg some (by kernel_rfl))⟩
  t0 := Tryz.underlying0
  a0 := Tryz.isAgg0
  z0 := Tryz.sizeOf0
  v0 := Tryz.zeroValue0
  t3 := Tryz.underlying3
  a3 := Tryz.isAgg3
  z3 := Tryz.sizeOf3
  v3 := Tryz.zeroValue3
  t4 := Tryz.underlying4
  a4 := Tryz.isAgg4
  z4 := Tryz.sizeOf4
  v4 := Tryz.zeroValue4
  t22 := Tryz.underlying23
  a22 := Tryz.isAgg23
  z22 := Tryz.sizeOf23
  v22 := Tryz.zeroValue23
  t25 := Tryz.underlying30
  a25 := Tryz.isAgg30
  z25 := Tryz.sizeOf30
  v25 := Tryz.zeroValue30 }
end Go.Proofs
