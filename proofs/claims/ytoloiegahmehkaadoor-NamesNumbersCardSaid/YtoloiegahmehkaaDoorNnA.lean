/-
  NamesNumbers: the call, by the machine.
-/
import Derived.Test.YtoloiegahmehkaaDoorCmY
import Derived.Test.YtoloiegahmehkaaDoorChecked
namespace Go.Proofs.YtoloiegahmehkaaDoor.Cl
open Go Go.Cm

noncomputable def uds : T TypeDesc := unds Tryd.prog
noncomputable def tis : T TypeInfo := infos Tryd.prog
noncomputable def fns : T Func := Cm.funcs Tryd.prog 0xfeffc
noncomputable def env0 : Env := { P := Tryd.prog, und := uds.get, info := tis.get, fn := fns.get, ext := fun _ => none, glob := fun _ => false }
theorem made0 : env0.Made 0xfeffc := ⟨rfl, rfl, rfl, by kernel_rfl, Tryd.checked.mixed, fun _ _ _ _ h => by cases h⟩
theorem law0 : yes env0 100000 3 [] 0 = true := by kernel_rfl
theorem law (w : World) : Calls Tryd.prog 3 #[] w fun e w' => e = .returned (.bool true) ∧ Go.RowKit.Below w.heap.size w w' :=
  closed made0.ok made0.coded (fun _ => rfl) law0 .nil w
end Go.Proofs.YtoloiegahmehkaaDoor.Cl
