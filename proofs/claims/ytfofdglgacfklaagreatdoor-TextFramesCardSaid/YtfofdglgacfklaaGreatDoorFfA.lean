/-
  The tables; what abi.NoEscape answers; and what awake answers, by the machine.
-/
import Derived.Test.YtfofdglgacfklaaGreatDoorFmF
import Derived.Test.YtfofdglgacfklaaGreatDoorSbK
import Derived.Test.YtfofdglgacfklaaGreatDoorChecked
namespace Go.Proofs.YtfofdglgacfklaaGreatDoor.Cl
open Go Go.Cm

noncomputable def uds : T TypeDesc := unds Tryz.prog
noncomputable def tis : T TypeInfo := infos Tryz.prog
noncomputable def fns : T Func := Cm.funcs Tryz.prog 0x3ffffffffffffffffffffffffffffffffffffffffffffffffffffffffffffffffff9ffff7ffffa3ff7ffffffdffffc
/-- abi.NoEscape hands back what it is handed. -/
noncomputable def same1 (args : List Value) : Option Value :=
  match args with
  | [x] => some x
  | _ => none
noncomputable def ktT (f : FuncId) : Option (List Value → Option Value) := bif Nat.beq f 21 then some same1 else none
theorem escape (x : Value) (w : World) : (callFunc 21 #[x]).run Tryz.prog w = .ok (.value x) w := by kernel_rfl
noncomputable def skT (f : FuncId) : Option FuncId := bif Nat.beq f 151 then some 176 else none
theorem skT_ok : ∀ f g, skT f = some g → SkOk Tryz.prog f g := by
  intro f g h
  unfold skT at h
  cases hb : Nat.beq f 151 with
  | false => rw [hb] at h; cases h
  | true =>
    rw [hb] at h
    injection h with h; subst h
    rw [Nat.eq_of_beq_eq_true hb]; exact Tryz.skOk
noncomputable def env0 : Env := { P := Tryz.prog, und := uds.get, info := tis.get, fn := fns.get, ext := externs Tryz.prog [51, 66, 87, 105, 106], glob := fun g => Nat.blt g 2, kt := ktT, sk := skT }
theorem ktT_ok : ∀ f e args v (μ : Mu) args' (w : World), env0.kt f = some e → e args = some v → μ.sy = env0.sy → (∀ b o, μ.fz b = some o → w.heap[b]? = some o) → VRels μ args args'.toList → ∃ v', VRel μ v v' ∧ Known env0.P f args' v' w := by
  intro f e args v μ args' w hf he _ _ hv
  have hf : ktT f = some e := hf
  unfold ktT at hf
  cases hb : Nat.beq f 21 with
  | false => rw [hb] at hf; cases hf
  | true =>
    rw [hb, cond_true] at hf
    injection hf with hf; subst hf
    have := Nat.eq_of_beq_eq_true hb
    subst this
    unfold same1 at he
    split at he
    · injection he with he; subst he
      obtain ⟨x', rfl, hx⟩ := args_one hv
      exact ⟨x', hx, Or.inl ⟨w, escape x' w, Go.RowKit.Below.refl _ _⟩⟩
    · cases he
theorem good0_0 : ((List.range 50).all fun i => !Nat.testBit 0x3ffffffffffffffffffffffffffffffffffffffffffffffffffffffffffffffffff9ffff7ffffa3ff7ffffffdffffc (0 * 50 + i) || goodAt env0 (0 * 50 + i)) = true := by kernel_rfl
theorem good0_1 : ((List.range 50).all fun i => !Nat.testBit 0x3ffffffffffffffffffffffffffffffffffffffffffffffffffffffffffffffffff9ffff7ffffa3ff7ffffffdffffc (1 * 50 + i) || goodAt env0 (1 * 50 + i)) = true := by kernel_rfl
theorem good0_2 : ((List.range 50).all fun i => !Nat.testBit 0x3ffffffffffffffffffffffffffffffffffffffffffffffffffffffffffffffffff9ffff7ffffa3ff7ffffffdffffc (2 * 50 + i) || goodAt env0 (2 * 50 + i)) = true := by kernel_rfl
theorem good0_3 : ((List.range 50).all fun i => !Nat.testBit 0x3ffffffffffffffffffffffffffffffffffffffffffffffffffffffffffffffffff9ffff7ffffa3ff7ffffffdffffc (3 * 50 + i) || goodAt env0 (3 * 50 + i)) = true := by kernel_rfl
theorem good0_4 : ((List.range 50).all fun i => !Nat.testBit 0x3ffffffffffffffffffffffffffffffffffffffffffffffffffffffffffffffffff9ffff7ffffa3ff7ffffffdffffc (4 * 50 + i) || goodAt env0 (4 * 50 + i)) = true := by kernel_rfl
theorem good0_5 : ((List.range 50).all fun i => !Nat.testBit 0x3ffffffffffffffffffffffffffffffffffffffffffffffffffffffffffffffffff9ffff7ffffa3ff7ffffffdffffc (5 * 50 + i) || goodAt env0 (5 * 50 + i)) = true := by kernel_rfl
theorem good0_6 : ((List.range 50).all fun i => !Nat.testBit 0x3ffffffffffffffffffffffffffffffffffffffffffffffffffffffffffffffffff9ffff7ffffa3ff7ffffffdffffc (6 * 50 + i) || goodAt env0 (6 * 50 + i)) = true := by kernel_rfl
theorem good0_7 : ((List.range 50).all fun i => !Nat.testBit 0x3ffffffffffffffffffffffffffffffffffffffffffffffffffffffffffffffffff9ffff7ffffa3ff7ffffffdffffc (7 * 50 + i) || goodAt env0 (7 * 50 + i)) = true := by kernel_rfl
theorem good0_8 : ((List.range 50).all fun i => !Nat.testBit 0x3ffffffffffffffffffffffffffffffffffffffffffffffffffffffffffffffffff9ffff7ffffa3ff7ffffffdffffc (8 * 50 + i) || goodAt env0 (8 * 50 + i)) = true := by kernel_rfl
theorem good0 : goodAll env0 0x3ffffffffffffffffffffffffffffffffffffffffffffffffffffffffffffffffff9ffff7ffffa3ff7ffffffdffffc Tryz.prog.funcs.size = true := goodAll_of 50 (by decide) fun k hk => match k, hk with
  | 0, _ => good0_0
  | 1, _ => good0_1
  | 2, _ => good0_2
  | 3, _ => good0_3
  | 4, _ => good0_4
  | 5, _ => good0_5
  | 6, _ => good0_6
  | 7, _ => good0_7
  | 8, _ => good0_8
  | k + 9, hk => by
    exfalso
    have hs : Tryz.prog.funcs.size ≤ 450 := of_decide_eq_true (by kernel_rfl)
    have : (k + 9) * 50 < Tryz.prog.funcs.size := hk
    omega
theorem noDk (E : Env) (hE : E.dk = fun _ => none) : ∀ (f : FuncId) (F : List Value → Option (Value × List (Nat × List Value))) (ds : List Value) (v : Value)
    (rows : List (Nat × List Value)), E.dk f = some F → F ds = some (v, rows) → DeepOk E.P f ds v rows := fun _ _ _ _ _ h => by rw [hE] at h; cases h
set_option maxRecDepth 100000 in
theorem made0 : env0.Made 0x3ffffffffffffffffffffffffffffffffffffffffffffffffffffffffffffffffff9ffff7ffffa3ff7ffffffdffffc where
  und := rfl
  info := rfl
  fn := rfl
  good := good0
  mixed := Tryz.checked.mixed
  sk := skT_ok
  ext := externs_ok Tryz.prog [51, 66, 87, 105, 106]
  dk := noDk _ rfl
  ask := noAsk
  askLen := noLen
  kt := ktT_ok
  askC := noC
  askS := noS

theorem awake0 : yesC env0 1000 100 7 [] 2 = true := by kernel_rfl
theorem awake (w : World) : Calls Tryz.prog 7 #[] w fun e w' => e = .returned (.bool true) ∧ Go.RowKit.Below w.heap.size w w' := by
  obtain ⟨n, h⟩ := yes_of_fast awake0
  exact closedAt made0.ok made0.coded (fun _ h => blt_lt0 h) h .nil w
noncomputable def env1 : Env := { env0 with ext := orExt (trueAt 7) (externs Tryz.prog [51, 66, 87, 105, 106]) }
theorem good1 : goodAll env1 0x3ffffffffffffffffffffffffffffffffffffffffffffffffffffffffffffffffff9ffff7ffffa3ff7ffffffdffffc Tryz.prog.funcs.size = true := (goodAll_same env0 (orExt (trueAt 7) (externs Tryz.prog [51, 66, 87, 105, 106])) 0x3ffffffffffffffffffffffffffffffffffffffffffffffffffffffffffffffffff9ffff7ffffa3ff7ffffffdffffc Tryz.prog.funcs.size).trans good0
set_option maxRecDepth 100000 in
theorem made1 : env1.Made 0x3ffffffffffffffffffffffffffffffffffffffffffffffffffffffffffffffffff9ffff7ffffa3ff7ffffffdffffc where
  und := rfl
  info := rfl
  fn := rfl
  good := good1
  mixed := Tryz.checked.mixed
  sk := skT_ok
  ext := orExt_ok (P := Tryz.prog) (a := trueAt 7) (b := externs Tryz.prog [51, 66, 87, 105, 106]) (trueAt_ok (known_of Tryz.func7 (by decide) rfl awake)) (externs_ok Tryz.prog [51, 66, 87, 105, 106])
  dk := noDk _ rfl
  ask := noAsk
  askLen := noLen
  kt := ktT_ok
  askC := noC
  askS := noS
end Go.Proofs.YtfofdglgacfklaaGreatDoor.Cl
