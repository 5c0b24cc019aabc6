/-
  OperForms: the calls, by the machine.
-/
import Derived.Test.YtoloiegahmehkaaCmY
import Derived.Test.YtoloiegahmehkaaChecked
namespace Go.Proofs.Ytoloiegahmehkaa.Of
open Go Go.Cm

noncomputable def uds : T TypeDesc := unds Try.prog
noncomputable def tis : T TypeInfo := infos Try.prog
noncomputable def fns : T Func := Cm.funcs Try.prog 0xfff8
noncomputable def env0 : Env := { P := Try.prog, und := uds.get, info := tis.get, fn := fns.get, ext := fun _ => none, glob := fun _ => false }
theorem made0 : env0.Made 0xfff8 := ⟨rfl, rfl, rfl, by kernel_rfl, Try.checked.mixed, fun _ _ _ _ h => by cases h⟩
theorem awake0 : yes env0 1000 6 [] 0 = true := by kernel_rfl
theorem awake (w : World) : Calls Try.prog 6 #[] w fun e w' => e = .returned (.bool true) ∧ Go.RowKit.Below w.heap.size w w' :=
  closed made0.ok made0.coded (fun _ => rfl) awake0 .nil w

noncomputable def env1 : Env := { P := Try.prog, und := uds.get, info := tis.get, fn := fns.get, ext := trueAt 6, glob := fun _ => false }
theorem made1 : env1.Made 0xfff8 := ⟨rfl, rfl, rfl, by kernel_rfl, Try.checked.mixed, trueAt_ok (known_of Try.func6 (by decide) rfl awake)⟩
theorem all1 : (List.range 23).all (fun k => yes env1 1000 5 [symAt 0 23 k] 0) = true := by kernel_rfl

theorem forms (a0 : Int) (w : World) : Calls Try.prog 5 #[.int .i64 a0] w fun e w' => e = .returned (.bool true) ∧ Go.RowKit.Below w.heap.size w w' := by
  obtain ⟨k, hk, hr⟩ := sym_rest a0 23 (by decide) (by decide)
  have h := all1
  rw [List.all_eq_true] at h
  exact closed made1.ok made1.coded (fun _ => rfl) (h k (List.mem_range.2 hk)) (.cons _ _ _ _ (hr _) .nil) w
end Go.Proofs.Ytoloiegahmehkaa.Of
