/-
  The tables; and what awake answers, by the machine.
-/
import Derived.Test.YtffgmholjgfniaaGreatCmY
import Derived.Test.YtffgmholjgfniaaGreatChecked
namespace Go.Proofs.YtffgmholjgfniaaGreat.Cl
open Go Go.Cm

noncomputable def uds : T TypeDesc := unds Tryz.prog
noncomputable def tis : T TypeInfo := infos Tryz.prog
noncomputable def fns : T Func := Cm.funcs Tryz.prog 0xfffffffffffffffffffffffffffffffffffffffffffffffffffffffffffc
noncomputable def env0 : Env := { P := Tryz.prog, und := uds.get, info := tis.get, fn := fns.get, ext := externs Tryz.prog [], glob := fun g => Nat.blt g 1 }
theorem good0 : goodAll env0 0xfffffffffffffffffffffffffffffffffffffffffffffffffffffffffffc Tryz.prog.funcs.size = true := by kernel_rfl
theorem noDk (E : Env) (hE : E.dk = fun _ => none) : ∀ (f : FuncId) (F : List Value → Option (Value × List (Nat × List Value))) (ds : List Value) (v : Value)
    (rows : List (Nat × List Value)), E.dk f = some F → F ds = some (v, rows) → DeepOk E.P f ds v rows := fun _ _ _ _ _ h => by rw [hE] at h; cases h
set_option maxRecDepth 100000 in
theorem made0 : env0.Made 0xfffffffffffffffffffffffffffffffffffffffffffffffffffffffffffc where
  und := rfl
  info := rfl
  fn := rfl
  good := good0
  mixed := Tryz.checked.mixed
  ext := externs_ok Tryz.prog []
  dk := noDk _ rfl
  ask := noAsk
  askLen := noLen
  kt := noKt
  askC := noC
  askS := noS
theorem awake0 : yes env0 100000 9 [] 1 = true := by kernel_rfl
theorem awake (w : World) : Calls Tryz.prog 9 #[] w fun e w' => e = .returned (.bool true) ∧ Go.RowKit.Below w.heap.size w w' :=
  closedAt made0.ok made0.coded (fun _ h => blt_lt0 h) awake0 .nil w
noncomputable def env1 : Env := { P := Tryz.prog, und := uds.get, info := tis.get, fn := fns.get, ext := orExt (trueAt 9) (externs Tryz.prog []), glob := fun g => Nat.blt g 1 }
set_option maxRecDepth 100000 in
theorem made1 : env1.Made 0xfffffffffffffffffffffffffffffffffffffffffffffffffffffffffffc where
  und := rfl
  info := rfl
  fn := rfl
  good := good0
  mixed := Tryz.checked.mixed
  ext := orExt_ok (P := Tryz.prog) (a := trueAt 9) (b := externs Tryz.prog []) (trueAt_ok (known_of Tryz.func9 (by decide) rfl awake)) (externs_ok Tryz.prog [])
  dk := noDk _ rfl
  ask := noAsk
  askLen := noLen
  kt := noKt
  askC := noC
  askS := noS
end Go.Proofs.YtffgmholjgfniaaGreat.Cl
