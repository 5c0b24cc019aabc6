/-
  The tables; and what awake answers, by the machine.
-/
import Derived.Test.YtmigckegflpkfaaGreatCmY
import Derived.Test.YtmigckegflpkfaaGreatChecked
namespace Go.Proofs.YtmigckegflpkfaaGreat.Cl
open Go Go.Cm

noncomputable def uds : T TypeDesc := unds Tryz.prog
noncomputable def tis : T TypeInfo := infos Tryz.prog
noncomputable def fns : T Func := Cm.funcs Tryz.prog 0x7ffffffffffffffffffffffffdfffffffffdfffffffffffffffffffc
noncomputable def env0 : Env := { P := Tryz.prog, und := uds.get, info := tis.get, fn := fns.get, ext := externs Tryz.prog [81, 121], glob := fun g => Nat.blt g 1 }
theorem good0 : goodAll env0 0x7ffffffffffffffffffffffffdfffffffffdfffffffffffffffffffc Tryz.prog.funcs.size = true := by kernel_rfl
set_option maxRecDepth 100000 in
theorem made0 : env0.Made 0x7ffffffffffffffffffffffffdfffffffffdfffffffffffffffffffc := ⟨rfl, rfl, rfl, good0, Tryz.checked.mixed, externs_ok _ _, fun _ _ _ _ _ h => by cases h⟩
theorem awake0 : yes env0 100000 12 [] 1 = true := by kernel_rfl
theorem awake (w : World) : Calls Tryz.prog 12 #[] w fun e w' => e = .returned (.bool true) ∧ Go.RowKit.Below w.heap.size w w' :=
  closedAt made0.ok made0.coded (fun _ h => blt_lt0 h) awake0 .nil w

noncomputable def env1 : Env := { P := Tryz.prog, und := uds.get, info := tis.get, fn := fns.get, ext := orExt (trueAt 12) (externs Tryz.prog [81, 121]), glob := fun g => Nat.blt g 1 }
set_option maxRecDepth 100000 in
theorem made1 : env1.Made 0x7ffffffffffffffffffffffffdfffffffffdfffffffffffffffffffc := ⟨rfl, rfl, rfl, good0, Tryz.checked.mixed, orExt_ok (trueAt_ok (known_of Tryz.func12 (by decide) rfl awake)) (externs_ok _ _), fun _ _ _ _ _ h => by cases h⟩
end Go.Proofs.YtmigckegflpkfaaGreat.Cl
