/-
  The tables; and what awake answers, by the machine.
-/
import Derived.Test.YtaoejkpamgoniaaDoorCmY
import Derived.Test.YtaoejkpamgoniaaDoorChecked
namespace Go.Proofs.YtaoejkpamgoniaaDoor.Cl
open Go Go.Cm

noncomputable def uds : T TypeDesc := unds Tryd.prog
noncomputable def tis : T TypeInfo := infos Tryd.prog
noncomputable def fns : T Func := Cm.funcs Tryd.prog 0x3ff5ebfffffffffffcfffffc
noncomputable def env0 : Env := { P := Tryd.prog, und := uds.get, info := tis.get, fn := fns.get, ext := externs Tryd.prog [24, 25, 74, 76], glob := fun g => Nat.blt g 7 }
theorem good0 : goodAll env0 0x3ff5ebfffffffffffcfffffc Tryd.prog.funcs.size = true := by kernel_rfl
theorem made0 : env0.Made 0x3ff5ebfffffffffffcfffffc := ⟨rfl, rfl, rfl, good0, Tryd.checked.mixed, externs_ok _ _⟩
theorem awake0 : yes env0 100000 8 [] 7 = true := by kernel_rfl
theorem awake (w : World) : Calls Tryd.prog 8 #[] w fun e w' => e = .returned (.bool true) ∧ Go.RowKit.Below w.heap.size w w' :=
  closedAt made0.ok made0.coded (fun _ h => blt_lt0 h) awake0 .nil w

noncomputable def env1 : Env := { P := Tryd.prog, und := uds.get, info := tis.get, fn := fns.get, ext := orExt (trueAt 8) (externs Tryd.prog [24, 25, 74, 76]), glob := fun g => Nat.blt g 7 }
theorem made1 : env1.Made 0x3ff5ebfffffffffffcfffffc := ⟨rfl, rfl, rfl, good0, Tryd.checked.mixed, orExt_ok (trueAt_ok (known_of Tryd.func8 (by decide) rfl awake)) (externs_ok _ _)⟩
end Go.Proofs.YtaoejkpamgoniaaDoor.Cl
