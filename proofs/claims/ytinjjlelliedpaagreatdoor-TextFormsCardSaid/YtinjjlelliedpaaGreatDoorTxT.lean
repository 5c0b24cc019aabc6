/-
  What is known of text.Main; the Env of TextForms' cases.
-/
import Derived.Test.YtinjjlelliedpaaGreatDoorFmT
import Derived.Test.YtinjjlelliedpaaGreatDoorTxM0
import Derived.Test.YtinjjlelliedpaaGreatDoorTxM1
import Derived.Test.YtinjjlelliedpaaGreatDoorTxM2
import Derived.Test.YtinjjlelliedpaaGreatDoorTxM3
import Derived.Test.YtinjjlelliedpaaGreatDoorTxM4
import Derived.Test.YtinjjlelliedpaaGreatDoorTxM5
import Derived.Test.YtinjjlelliedpaaGreatDoorTxM6
import Derived.Test.YtinjjlelliedpaaGreatDoorTxM7
import Derived.Test.YtinjjlelliedpaaGreatDoorTxM8
namespace Go.Proofs.YtinjjlelliedpaaGreatDoor.Cl
open Go Go.Cm
noncomputable def tab : List (List Value × Value) := [([a0], r0), ([b0], r0), ([a1], r1), ([b1], r1), ([a2], r2), ([b2], r2), ([a3], r3), ([b3], r3), ([a4], r4), ([b4], r4), ([a5], r5), ([b5], r5), ([a6], r6), ([b6], r6), ([a7], r7), ([b7], r7), ([a8], r8), ([b8], r8), ([a9], r9), ([b9], r9), ([a10], r10), ([b10], r10), ([a11], r11), ([b11], r11), ([a12], r12), ([b12], r12), ([a13], r13), ([b13], r13)]
noncomputable def dkT (f : FuncId) : Option (List Value → Option (Value × List (Nat × List Value))) := bif Nat.beq f 4 then some fun ds => lookT ds tab else none
noncomputable def envT : Env := { env1 with dk := dkT }
theorem known_ {f : FuncId} {ds : List Value} {v : Value} (h : deepRunC env0 1000 100 1 [] f ds = some (v, [])) : DeepOk Tryz.prog f ds v [] :=
  deep_of_fast made0.ok made0.coded (fun _ h => blt_lt0 h) h
def AllKnown (f : FuncId) : List (List Value × Value) → Prop
  | [] => True
  | e :: l => DeepOk Tryz.prog f e.1 e.2 [] ∧ AllKnown f l
theorem AllKnown.mem {f : FuncId} : ∀ {l : List (List Value × Value)}, AllKnown f l → ∀ e, e ∈ l → DeepOk Tryz.prog f e.1 e.2 []
  | [], _, _, h => by cases h
  | x :: l, h, e, he => by
    rw [List.mem_cons] at he
    rcases he with rfl | he
    · exact h.1
    · exact AllKnown.mem h.2 e he
theorem allT : AllKnown 4 tab := ⟨known_ m0a, known_ m0b, known_ m1a, known_ m1b, known_ m2a, known_ m2b, known_ m3a, known_ m3b, known_ m4a, known_ m4b, known_ m5a, known_ m5b, known_ m6a, known_ m6b, known_ m7a, known_ m7b, known_ m8a, known_ m8b, known_ m9a, known_ m9b, known_ m10a, known_ m10b, known_ m11a, known_ m11b, known_ m12a, known_ m12b, known_ m13a, known_ m13b, trivial⟩
theorem dkT_ok : ∀ (f : FuncId) (F : List Value → Option (Value × List (Nat × List Value))) (ds : List Value) (v : Value) (rows : List (Nat × List Value)), dkT f = some F → F ds = some (v, rows) → DeepOk Tryz.prog f ds v rows := by
  intro f F ds v rows h hF
  unfold dkT at h
  cases h1 : Nat.beq f 4 with
  | true =>
    rw [h1, cond_true] at h
    injection h with h; subst h
    obtain ⟨e, he, rfl, rfl, rfl⟩ := lookT_some hF
    rw [Nat.eq_of_beq_eq_true h1]
    exact allT.mem e he
  | false => rw [h1] at h; cases h
section
variable (E : Env) (y : FuncId → Option (List Value → Option (Value × List (Nat × List Value))))
theorem operOk_dk : operOk { E with dk := y } = operOk E := by funext o; cases o <;> rfl
theorem opOk_dk : opOk { E with dk := y } = opOk E := by funext o; unfold opOk; rw [operOk_dk]
theorem codeOk_dk : ∀ c, codeOk { E with dk := y } c = codeOk E c := by
  intro c
  induction c with
  | region id ops draw => unfold codeOk; rw [opOk_dk]
  | seq a b iha ihb => unfold codeOk; rw [iha, ihb]
  | cond v a b iha ihb => unfold codeOk; rw [iha, ihb, operOk_dk]
  | block id c ih => unfold codeOk; exact ih
  | loop c ih => unfold codeOk; exact ih
  | scope c ih => unfold codeOk; exact ih
  | _ => rfl
theorem goodAt_dk (i : Nat) : goodAt { E with dk := y } i = goodAt E i := by
  unfold goodAt
  simp only [codeOk_dk]
theorem goodAll_dk (mask n : Nat) : goodAll { E with dk := y } mask n = goodAll E mask n := by
  unfold goodAll
  simp only [goodAt_dk]
end
theorem goodT : goodAll envT 0x1fffffffffffffffffffffffffffffffffffffffffffffffffffffffffffff3fffff3fffff7fbfffafff7fdffffffc Tryz.prog.funcs.size = true := (goodAll_dk env1 dkT 0x1fffffffffffffffffffffffffffffffffffffffffffffffffffffffffffff3fffff3fffff7fbfffafff7fdffffffc Tryz.prog.funcs.size).trans good1
set_option maxRecDepth 100000 in
theorem madeT : envT.Made 0x1fffffffffffffffffffffffffffffffffffffffffffffffffffffffffffff3fffff3fffff7fbfffafff7fdffffffc where
  und := rfl
  info := rfl
  fn := rfl
  good := goodT
  mixed := Tryz.checked.mixed
  sk := skT_ok
  ext := made1.ext
  dk := dkT_ok
  ask := noAsk
  askLen := noLen
  kt := ktT_ok
  askC := noC
  askS := noS
end Go.Proofs.YtinjjlelliedpaaGreatDoor.Cl
