/-
  The tables; and what awake answers, by the machine.
-/
import Derived.Test.YtbdceglmldfnhaaGreatCmZ
import Derived.Test.YtbdceglmldfnhaaGreatChecked
namespace Go.Proofs.YtbdceglmldfnhaaGreat.Cl
open Go Go.Cm

noncomputable def uds : T TypeDesc := unds Tryz.prog
noncomputable def tis : T TypeInfo := infos Tryz.prog
noncomputable def fns : T Func := Cm.funcs Tryz.prog 0x3ffffffffffffffffffffffffffffffffffffffffbffffffbffffffffffffffffc
noncomputable def env0 : Env := { P := Tryz.prog, und := uds.get, info := tis.get, fn := fns.get, ext := externs Tryz.prog [70, 98], glob := fun g => Nat.blt g 1 }
theorem good0 : goodAll env0 0x3ffffffffffffffffffffffffffffffffffffffffbffffffbffffffffffffffffc Tryz.prog.funcs.size = true := by kernel_rfl
set_option maxRecDepth 100000 in
theorem made0 : env0.Made 0x3ffffffffffffffffffffffffffffffffffffffffbffffffbffffffffffffffffc := ⟨rfl, rfl, rfl, good0, Tryz.checked.mixed, externs_ok _ _, fun _ _ _ _ _ h => by cases h⟩
theorem awake0 : yes env0 100000 11 [] 1 = true := by kernel_rfl
theorem awake (w : World) : Calls Tryz.prog 11 #[] w fun e w' => e = .returned (.bool true) ∧ Go.RowKit.Below w.heap.size w w' :=
  closedAt made0.ok made0.coded (fun _ h => blt_lt0 h) awake0 .nil w
end Go.Proofs.YtbdceglmldfnhaaGreat.Cl
