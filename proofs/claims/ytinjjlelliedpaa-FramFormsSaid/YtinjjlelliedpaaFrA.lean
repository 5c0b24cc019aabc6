/-
  The tables; what abi.NoEscape answers; and what awake answers, by the machine.
-/
import Derived.Test.YtinjjlelliedpaaFmF
import Derived.Test.YtinjjlelliedpaaChecked
namespace Go.Proofs.Ytinjjlelliedpaa.Cl
open Go Go.Cm

noncomputable def uds : T TypeDesc := unds Try.prog
noncomputable def tis : T TypeInfo := infos Try.prog
noncomputable def fns : T Func := Cm.funcs Try.prog 0x3fffffdffffffffffc
/-- abi.NoEscape hands back what it is handed. -/
noncomputable def same1 (args : List Value) : Option Value :=
  match args with
  | [x] => some x
  | _ => none
noncomputable def ktT (f : FuncId) : Option (List Value → Option Value) := bif Nat.beq f 45 then some same1 else none
theorem escape (x : Value) (w : World) : (callFunc 45 #[x]).run Try.prog w = .ok (.value x) w := by kernel_rfl
noncomputable def env0 : Env := { P := Try.prog, und := uds.get, info := tis.get, fn := fns.get, ext := externs Try.prog [], glob := fun g => Nat.blt g 1, kt := ktT }
theorem ktT_ok : ∀ f e args v (μ : Mu) args' (w : World), env0.kt f = some e → e args = some v → μ.sy = env0.sy → (∀ b o, μ.fz b = some o → w.heap[b]? = some o) → VRels μ args args'.toList → ∃ v', VRel μ v v' ∧ Known env0.P f args' v' w := by
  intro f e args v μ args' w hf he _ _ hv
  have hf : ktT f = some e := hf
  unfold ktT at hf
  cases hb : Nat.beq f 45 with
  | false => rw [hb] at hf; cases hf
  | true =>
    rw [hb, cond_true] at hf
    injection hf with hf; subst hf
    have := Nat.eq_of_beq_eq_true hb
    subst this
    unfold same1 at he
    split at he
    · injection he with he; subst he
      obtain ⟨x', rfl, hx⟩ := args_one hv
      exact ⟨x', hx, Or.inl ⟨w, escape x' w, Go.RowKit.Below.refl _ _⟩⟩
    · cases he
theorem good0 : goodAll env0 0x3fffffdffffffffffc Try.prog.funcs.size = true := by kernel_rfl
theorem noDk (E : Env) (hE : E.dk = fun _ => none) : ∀ (f : FuncId) (F : List Value → Option (Value × List (Nat × List Value))) (ds : List Value) (v : Value)
    (rows : List (Nat × List Value)), E.dk f = some F → F ds = some (v, rows) → DeepOk E.P f ds v rows := fun _ _ _ _ _ h => by rw [hE] at h; cases h
set_option maxRecDepth 100000 in
theorem made0 : env0.Made 0x3fffffdffffffffffc where
  und := rfl
  info := rfl
  fn := rfl
  good := good0
  mixed := Try.checked.mixed
  ext := externs_ok Try.prog []
  dk := noDk _ rfl
  ask := noAsk
  askLen := noLen
  kt := ktT_ok
  askC := noC
  askS := noS

theorem awake0 : yesC env0 1000 100 9 [] 1 = true := by kernel_rfl
theorem awake (w : World) : Calls Try.prog 9 #[] w fun e w' => e = .returned (.bool true) ∧ Go.RowKit.Below w.heap.size w w' := by
  obtain ⟨n, h⟩ := yes_of_fast awake0
  exact closedAt made0.ok made0.coded (fun _ h => blt_lt0 h) h .nil w
noncomputable def env1 : Env := { env0 with ext := orExt (trueAt 9) (externs Try.prog []) }
theorem good1 : goodAll env1 0x3fffffdffffffffffc Try.prog.funcs.size = true := good0
set_option maxRecDepth 100000 in
theorem made1 : env1.Made 0x3fffffdffffffffffc where
  und := rfl
  info := rfl
  fn := rfl
  good := good1
  mixed := Try.checked.mixed
  ext := orExt_ok (P := Try.prog) (a := trueAt 9) (b := externs Try.prog []) (trueAt_ok (known_of Try.func9 (by decide) rfl awake)) (externs_ok Try.prog [])
  dk := noDk _ rfl
  ask := noAsk
  askLen := noLen
  kt := ktT_ok
  askC := noC
  askS := noS
end Go.Proofs.Ytinjjlelliedpaa.Cl
