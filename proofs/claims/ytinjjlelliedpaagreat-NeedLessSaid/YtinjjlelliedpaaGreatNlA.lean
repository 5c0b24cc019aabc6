/-
  The tables.
-/
import Derived.Test.YtinjjlelliedpaaGreatFmF
import Derived.Test.YtinjjlelliedpaaGreatChecked
namespace Go.Proofs.YtinjjlelliedpaaGreat.Cl
open Go Go.Cm

noncomputable def uds : T TypeDesc := unds Tryz.prog
noncomputable def tis : T TypeInfo := infos Tryz.prog
noncomputable def fns : T Func := Cm.funcs Tryz.prog 0x1fffffffffffffffffffffffffffffffffffffffffffffffffc
noncomputable def env0 : Env := { P := Tryz.prog, und := uds.get, info := tis.get, fn := fns.get, ext := externs Tryz.prog [], glob := fun g => Nat.blt g 1 }
theorem good0_0 : ((List.range 50).all fun i => !Nat.testBit 0x1fffffffffffffffffffffffffffffffffffffffffffffffffc (0 * 50 + i) || goodAt env0 (0 * 50 + i)) = true := by kernel_rfl
theorem good0_1 : ((List.range 50).all fun i => !Nat.testBit 0x1fffffffffffffffffffffffffffffffffffffffffffffffffc (1 * 50 + i) || goodAt env0 (1 * 50 + i)) = true := by kernel_rfl
theorem good0_2 : ((List.range 50).all fun i => !Nat.testBit 0x1fffffffffffffffffffffffffffffffffffffffffffffffffc (2 * 50 + i) || goodAt env0 (2 * 50 + i)) = true := by kernel_rfl
theorem good0_3 : ((List.range 50).all fun i => !Nat.testBit 0x1fffffffffffffffffffffffffffffffffffffffffffffffffc (3 * 50 + i) || goodAt env0 (3 * 50 + i)) = true := by kernel_rfl
theorem good0_4 : ((List.range 50).all fun i => !Nat.testBit 0x1fffffffffffffffffffffffffffffffffffffffffffffffffc (4 * 50 + i) || goodAt env0 (4 * 50 + i)) = true := by kernel_rfl
theorem good0 : goodAll env0 0x1fffffffffffffffffffffffffffffffffffffffffffffffffc Tryz.prog.funcs.size = true := goodAll_of 50 (by decide) fun k hk => match k, hk with
  | 0, _ => good0_0
  | 1, _ => good0_1
  | 2, _ => good0_2
  | 3, _ => good0_3
  | 4, _ => good0_4
  | k + 5, hk => by
    exfalso
    have hs : Tryz.prog.funcs.size ≤ 250 := of_decide_eq_true (by kernel_rfl)
    have : (k + 5) * 50 < Tryz.prog.funcs.size := hk
    omega
theorem noDk (E : Env) (hE : E.dk = fun _ => none) : ∀ (f : FuncId) (F : List Value → Option (Value × List (Nat × List Value))) (ds : List Value) (v : Value)
    (rows : List (Nat × List Value)), E.dk f = some F → F ds = some (v, rows) → DeepOk E.P f ds v rows := fun _ _ _ _ _ h => by rw [hE] at h; cases h
set_option maxRecDepth 100000 in
theorem made0 : env0.Made 0x1fffffffffffffffffffffffffffffffffffffffffffffffffc where
  und := rfl
  info := rfl
  fn := rfl
  good := good0
  mixed := Tryz.checked.mixed
  ext := externs_ok Tryz.prog []
  dk := noDk _ rfl
  ask := noAsk
  askLen := noLen
  kt := noKt
  askC := noC
  askS := noS

theorem awake0 : yesC env0 1000 100 5 [] 1 = true := by kernel_rfl
theorem awake (w : World) : Calls Tryz.prog 5 #[] w fun e w' => e = .returned (.bool true) ∧ Go.RowKit.Below w.heap.size w w' := by
  obtain ⟨n, h⟩ := yes_of_fast awake0
  exact closedAt made0.ok made0.coded (fun _ h => blt_lt0 h) h .nil w
noncomputable def env1 : Env := { env0 with ext := orExt (trueAt 5) (externs Tryz.prog []) }
theorem good1 : goodAll env1 0x1fffffffffffffffffffffffffffffffffffffffffffffffffc Tryz.prog.funcs.size = true := (goodAll_same env0 (orExt (trueAt 5) (externs Tryz.prog [])) 0x1fffffffffffffffffffffffffffffffffffffffffffffffffc Tryz.prog.funcs.size).trans good0
set_option maxRecDepth 100000 in
theorem made1 : env1.Made 0x1fffffffffffffffffffffffffffffffffffffffffffffffffc where
  und := rfl
  info := rfl
  fn := rfl
  good := good1
  mixed := Tryz.checked.mixed
  ext := orExt_ok (P := Tryz.prog) (a := trueAt 5) (b := externs Tryz.prog []) (trueAt_ok (known_of Tryz.func5 (by decide) rfl awake)) (externs_ok Tryz.prog [])
  dk := noDk _ rfl
  ask := noAsk
  askLen := noLen
  kt := noKt
  askC := noC
  askS := noS
end Go.Proofs.YtinjjlelliedpaaGreat.Cl
