/-
  What awake answers, by the machine.
-/
import Derived.Test.YtkcibhokjiciiaaMm
import Derived.Test.YtkcibhokjiciiaaChecked
namespace Go.Proofs.Ytkcibhokjiciiaa.Cl
open Go Go.Cm

noncomputable def uds : T TypeDesc := unds Try.prog
noncomputable def tis : T TypeInfo := infos Try.prog
noncomputable def fns : T Func := Cm.funcs Try.prog 0x7fffffbffbfffffffffffc
noncomputable def env0 : Env := { P := Try.prog, und := uds.get, info := tis.get, fn := fns.get, ext := externs Try.prog [], glob := fun g => Nat.blt g 1 }
theorem good0 : goodAll env0 0x7fffffbffbfffffffffffc Try.prog.funcs.size = true := by kernel_rfl
theorem noDk (E : Env) (hE : E.dk = fun _ => none) : ∀ (f : FuncId) (F : List Value → Option (Value × List (Nat × List Value))) (ds : List Value) (v : Value)
    (rows : List (Nat × List Value)), E.dk f = some F → F ds = some (v, rows) → DeepOk E.P f ds v rows := fun _ _ _ _ _ h => by rw [hE] at h; cases h
set_option maxRecDepth 100000 in
theorem made0 : env0.Made 0x7fffffbffbfffffffffffc where
  und := rfl
  info := rfl
  fn := rfl
  good := good0
  mixed := Try.checked.mixed
  ext := externs_ok Try.prog []
  dk := noDk _ rfl
  ask := noAsk
  askLen := noLen
  kt := noKt
  askC := noC
  askS := noS

theorem awake0 : yesC env0 1000 100 12 [] 1 = true := by kernel_rfl
theorem awake (w : World) : Calls Try.prog 12 #[] w fun e w' => e = .returned (.bool true) ∧ Go.RowKit.Below w.heap.size w w' := by
  obtain ⟨n, h⟩ := yes_of_fast awake0
  exact closedAt made0.ok made0.coded (fun _ h => blt_lt0 h) h .nil w
end Go.Proofs.Ytkcibhokjiciiaa.Cl
