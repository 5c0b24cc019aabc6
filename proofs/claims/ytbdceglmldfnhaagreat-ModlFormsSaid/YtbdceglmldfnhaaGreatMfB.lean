/-
  The model that the laws begin with, once run; and the tables that know it.
-/
import Derived.Test.YtbdceglmldfnhaaGreatMfA
namespace Go.Proofs.YtbdceglmldfnhaaGreat.Cl
open Go Go.Cm

noncomputable def i (n : Nat) : Value := .int .i64 (.ofNat n)
noncomputable def r (n : Nat) : Value := .int .i32 (.ofNat n)
noncomputable def baseLit : Option (Value × List (Nat × List Value)) := (some (Prod.mk (.tuple (Array.mk [(.agg (Array.mk [(fzs 2 [(.string ⟨⟨[97]⟩⟩), (fzs 2 [(i 1), (i 2)]), (i 1), (.string ⟨⟨[98]⟩⟩), (fzs 2 [(i 3), (i 1)]), (i 1)]), (.func (.yield 0) (Array.mk [(i 1), (i 9), (i 5), (fzs 3 [(i 0), (i 1), (i 4), (i 1), (i 2), (i 1), (i 0), (i 0), (i 0), (i 0), (i 3), (i 0), (i 0), (i 0), (i 0)]), (.func (.yield 0) (Array.mk [(i 1), (i 0), (i 0), (i 0), (i 0), (.slice none 0 0), (i 0), (.bool false), (.bool false), (i 4), (i 5), (i 0), (i 0), (.bool false), (i 0), (i 0), (i 4), (i 0), (i 0), (i 0), (.bool false), (.bool false), (fzs 5 [(fzs 4 [(r 32), (i 0), (r 32), (i 0), (r 32), (i 0), (r 32), (i 0)]), (fzs 4 [(r 32), (i 0), (r 32), (i 0), (r 32), (i 0), (r 32), (i 0)]), (fzs 4 [(r 32), (i 0), (r 32), (i 0), (r 32), (i 0), (r 32), (i 0)]), (fzs 4 [(r 32), (i 0), (r 32), (i 0), (r 32), (i 0), (r 32), (i 0)]), (fzs 4 [(r 32), (i 0), (r 32), (i 0), (r 32), (i 0), (r 32), (i 0)])]), (.slice none 0 0), (i 3), (i 0), (i 0), (i 0), (i 0), (.slice none 0 0), (i 0), (.bool false), (.bool false), (i 4), (i 5), (i 0), (i 0), (.bool false), (i 0), (i 0), (i 4), (i 0), (i 0), (i 0), (.bool false), (.bool false), (fzs 5 [(fzs 4 [(r 32), (i 0), (r 32), (i 0), (r 32), (i 0), (r 32), (i 0)]), (fzs 4 [(r 32), (i 0), (r 32), (i 0), (r 32), (i 0), (r 32), (i 0)]), (fzs 4 [(r 32), (i 0), (r 32), (i 0), (r 32), (i 0), (r 32), (i 0)]), (fzs 4 [(r 32), (i 0), (r 32), (i 0), (r 32), (i 0), (r 32), (i 0)]), (fzs 4 [(r 32), (i 0), (r 32), (i 0), (r 32), (i 0), (r 32), (i 0)])]), (.slice none 0 0)]) (Array.mk [(i 2)])), (i 3), (i 2), (i 4), (i 4), (fzs 1 [(i 2), (i 0), (i 0), (i 0), (i 0)]), (.func (.yield 0) (Array.mk [(i 2), (i 0), (i 0), (i 0), (i 0), (.slice none 0 0), (i 0), (.bool false), (.bool false), (i 4), (i 4), (i 0), (i 0), (.bool false), (i 0), (i 0), (i 3), (i 0), (i 0), (i 0), (.bool false), (.bool false), (fzs 4 [(fzs 4 [(r 32), (i 0), (r 32), (i 0), (r 32), (i 0), (r 32), (i 0)]), (fzs 4 [(r 32), (i 0), (r 32), (i 0), (r 32), (i 0), (r 32), (i 0)]), (fzs 4 [(r 32), (i 0), (r 32), (i 0), (r 32), (i 0), (r 32), (i 0)]), (fzs 4 [(r 32), (i 0), (r 32), (i 0), (r 32), (i 0), (r 32), (i 0)])]), (.slice none 0 0)]) (Array.mk [(i 1)])), (i 2), (i 3), (i 2), (i 2), (fzs 1 [(i 4), (i 0), (i 0), (i 0), (i 0)]), (.func (.yield 0) (Array.mk [(i 4), (i 0), (i 0), (i 0), (i 0), (.slice none 0 0), (i 0), (.bool false), (.bool false), (i 2), (i 2), (i 0), (i 0), (.bool false), (i 0), (i 0), (i 1), (i 0), (i 0), (i 0), (.bool false), (.bool false), (fzs 2 [(fzs 2 [(r 32), (i 0), (r 32), (i 0)]), (fzs 2 [(r 32), (i 0), (r 32), (i 0)])]), (.slice none 0 0)]) (Array.mk [(i 1)])), (i 4)]) (Array.mk [(i 3)])), (i 4), (i 5)])), (.bool true)])) []))
theorem base0 : deepRun env0 100000 1 [] 8 [] = baseLit := by kernel_rfl
/-- What is known of the model that the laws begin with. -/
noncomputable def knownBase : FuncId → Option (List Value → Option (Value × List (Nat × List Value))) := fun g => bif Nat.beq g 8 then some (fun l => match l with | [] => baseLit | _ => none) else none
theorem knownBase_ok : ∀ f F ds v rows, knownBase f = some F → F ds = some (v, rows) → DeepOk Tryz.prog f ds v rows := by
  intro f F ds v rows hf hF
  unfold knownBase at hf
  cases hb : Nat.beq f 8 with
  | false => rw [hb] at hf; cases hf
  | true =>
    rw [hb, cond_true] at hf
    have := Nat.eq_of_beq_eq_true hb
    subst this
    injection hf with hf
    subst hf
    cases ds with
    | nil =>
      have hF' : baseLit = some (v, rows) := hF
      exact deep_of_run (E := env0) made0.ok made0.coded (fun _ h => blt_lt0 h) (base0.trans hF')
    | cons => cases hF
noncomputable def env1 : Env := { P := Tryz.prog, und := uds.get, info := tis.get, fn := fns.get, ext := orExt (trueAt 11) (externs Tryz.prog [70, 98]), glob := fun g => Nat.blt g 1, dk := knownBase }
set_option maxRecDepth 100000 in
theorem made1 : env1.Made 0x3ffffffffffffffffffffffffffffffffffffffffbffffffbffffffffffffffffc := ⟨rfl, rfl, rfl, good0, Tryz.checked.mixed, orExt_ok (trueAt_ok (known_of Tryz.func11 (by decide) rfl awake)) (externs_ok _ _), knownBase_ok⟩
end Go.Proofs.YtbdceglmldfnhaaGreat.Cl
