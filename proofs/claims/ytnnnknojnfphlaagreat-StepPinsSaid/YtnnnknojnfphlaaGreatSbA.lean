/-
  The tables.
-/
import Derived.Test.YtnnnknojnfphlaaGreatFmF
import Derived.Test.YtnnnknojnfphlaaGreatSbK
import Derived.Test.YtnnnknojnfphlaaGreatChecked
namespace Go.Proofs.YtnnnknojnfphlaaGreat.Cl
open Go Go.Cm

noncomputable def uds : T TypeDesc := unds Tryz.prog
noncomputable def tis : T TypeInfo := infos Tryz.prog
noncomputable def fns : T Func := Cm.funcs Tryz.prog 0xffffffffffffffffffffffffffffffffffffffffffffffffffffffffffffffffffffffffffffffffffffffffffffffffffffffffffc
noncomputable def skT (f : FuncId) : Option FuncId := bif Nat.beq f 197 then some 246 else none
theorem skT_ok : ∀ f g, skT f = some g → SkOk Tryz.prog f g := by
  intro f g h
  unfold skT at h
  cases hb : Nat.beq f 197 with
  | false => rw [hb] at h; cases h
  | true =>
    rw [hb] at h
    injection h with h; subst h
    rw [Nat.eq_of_beq_eq_true hb]; exact Tryz.skOk
noncomputable def env0 : Env := { P := Tryz.prog, und := uds.get, info := tis.get, fn := fns.get, ext := externs Tryz.prog [], glob := fun g => Nat.blt g 1, sk := skT }
theorem good0_0 : ((List.range 50).all fun i => !Nat.testBit 0xffffffffffffffffffffffffffffffffffffffffffffffffffffffffffffffffffffffffffffffffffffffffffffffffffffffffffc (0 * 50 + i) || goodAt env0 (0 * 50 + i)) = true := by kernel_rfl
theorem good0_1 : ((List.range 50).all fun i => !Nat.testBit 0xffffffffffffffffffffffffffffffffffffffffffffffffffffffffffffffffffffffffffffffffffffffffffffffffffffffffffc (1 * 50 + i) || goodAt env0 (1 * 50 + i)) = true := by kernel_rfl
theorem good0_2 : ((List.range 50).all fun i => !Nat.testBit 0xffffffffffffffffffffffffffffffffffffffffffffffffffffffffffffffffffffffffffffffffffffffffffffffffffffffffffc (2 * 50 + i) || goodAt env0 (2 * 50 + i)) = true := by kernel_rfl
theorem good0_3 : ((List.range 50).all fun i => !Nat.testBit 0xffffffffffffffffffffffffffffffffffffffffffffffffffffffffffffffffffffffffffffffffffffffffffffffffffffffffffc (3 * 50 + i) || goodAt env0 (3 * 50 + i)) = true := by kernel_rfl
theorem good0_4 : ((List.range 50).all fun i => !Nat.testBit 0xffffffffffffffffffffffffffffffffffffffffffffffffffffffffffffffffffffffffffffffffffffffffffffffffffffffffffc (4 * 50 + i) || goodAt env0 (4 * 50 + i)) = true := by kernel_rfl
theorem good0_5 : ((List.range 50).all fun i => !Nat.testBit 0xffffffffffffffffffffffffffffffffffffffffffffffffffffffffffffffffffffffffffffffffffffffffffffffffffffffffffc (5 * 50 + i) || goodAt env0 (5 * 50 + i)) = true := by kernel_rfl
theorem good0_6 : ((List.range 50).all fun i => !Nat.testBit 0xffffffffffffffffffffffffffffffffffffffffffffffffffffffffffffffffffffffffffffffffffffffffffffffffffffffffffc (6 * 50 + i) || goodAt env0 (6 * 50 + i)) = true := by kernel_rfl
theorem good0_7 : ((List.range 50).all fun i => !Nat.testBit 0xffffffffffffffffffffffffffffffffffffffffffffffffffffffffffffffffffffffffffffffffffffffffffffffffffffffffffc (7 * 50 + i) || goodAt env0 (7 * 50 + i)) = true := by kernel_rfl
theorem good0_8 : ((List.range 50).all fun i => !Nat.testBit 0xffffffffffffffffffffffffffffffffffffffffffffffffffffffffffffffffffffffffffffffffffffffffffffffffffffffffffc (8 * 50 + i) || goodAt env0 (8 * 50 + i)) = true := by kernel_rfl
theorem good0 : goodAll env0 0xffffffffffffffffffffffffffffffffffffffffffffffffffffffffffffffffffffffffffffffffffffffffffffffffffffffffffc Tryz.prog.funcs.size = true := goodAll_of 50 (by decide) fun k hk => match k, hk with
  | 0, _ => good0_0
  | 1, _ => good0_1
  | 2, _ => good0_2
  | 3, _ => good0_3
  | 4, _ => good0_4
  | 5, _ => good0_5
  | 6, _ => good0_6
  | 7, _ => good0_7
  | 8, _ => good0_8
  | k + 9, hk => by
    exfalso
    have hs : Tryz.prog.funcs.size ≤ 450 := of_decide_eq_true (by kernel_rfl)
    have : (k + 9) * 50 < Tryz.prog.funcs.size := hk
    omega
theorem noDk (E : Env) (hE : E.dk = fun _ => none) : ∀ (f : FuncId) (F : List Value → Option (Value × List (Nat × List Value))) (ds : List Value) (v : Value)
    (rows : List (Nat × List Value)), E.dk f = some F → F ds = some (v, rows) → DeepOk E.P f ds v rows := fun _ _ _ _ _ h => by rw [hE] at h; cases h
set_option maxRecDepth 100000 in
theorem made0 : env0.Made 0xffffffffffffffffffffffffffffffffffffffffffffffffffffffffffffffffffffffffffffffffffffffffffffffffffffffffffc where
  und := rfl
  info := rfl
  fn := rfl
  good := good0
  mixed := Tryz.checked.mixed
  sk := skT_ok
  ext := externs_ok Tryz.prog []
  dk := noDk _ rfl
  ask := noAsk
  askLen := noLen
  kt := noKt
  askC := noC
  askS := noS

end Go.Proofs.YtnnnknojnfphlaaGreat.Cl
