/-
  The tables; and what awake answers, by the machine.
-/
import Derived.Test.YtiloiedikadngaaCmY
import Derived.Test.YtiloiedikadngaaChecked
namespace Go.Proofs.Ytiloiedikadngaa.Cl
open Go Go.Cm

noncomputable def uds : T TypeDesc := unds Try.prog
noncomputable def tis : T TypeInfo := infos Try.prog
noncomputable def fns : T Func := Cm.funcs Try.prog 0x3ffffeffefffffffffffffc
noncomputable def env0 : Env := { P := Try.prog, und := uds.get, info := tis.get, fn := fns.get, ext := externs Try.prog [56, 68], glob := fun _ => false }
theorem good0 : goodAll env0 0x3ffffeffefffffffffffffc Try.prog.funcs.size = true := by kernel_rfl
theorem made0 : env0.Made 0x3ffffeffefffffffffffffc := ⟨rfl, rfl, rfl, good0, Try.checked.mixed, externs_ok _ _⟩
theorem awake0 : yes env0 100000 14 [] 0 = true := by kernel_rfl
theorem awake (w : World) : Calls Try.prog 14 #[] w fun e w' => e = .returned (.bool true) ∧ Go.RowKit.Below w.heap.size w w' :=
  closed made0.ok made0.coded (fun _ => rfl) awake0 .nil w

noncomputable def env1 : Env := { P := Try.prog, und := uds.get, info := tis.get, fn := fns.get, ext := orExt (trueAt 14) (externs Try.prog [56, 68]), glob := fun _ => false }
theorem made1 : env1.Made 0x3ffffeffefffffffffffffc := ⟨rfl, rfl, rfl, good0, Try.checked.mixed, orExt_ok (trueAt_ok (known_of Try.func14 (by decide) rfl awake)) (externs_ok _ _)⟩
end Go.Proofs.Ytiloiedikadngaa.Cl
