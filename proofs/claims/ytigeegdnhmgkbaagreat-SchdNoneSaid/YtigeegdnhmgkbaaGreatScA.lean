/-
  What awake answers here, by the machine; and the tables for a thread of which only this is known: that it is below 0, or 8 and more.
-/
import Derived.Test.YtigeegdnhmgkbaaGreatSbA
import Derived.Test.YtigeegdnhmgkbaaGreatCmTa
namespace Go.Proofs.YtigeegdnhmgkbaaGreat.Cl
open Go Go.Cm

theorem awake41 : yesC env0 1000 100 41 [] 1 = true := by kernel_rfl
theorem awakeS (w : World) : Calls Tryz.prog 41 #[] w fun e w' => e = .returned (.bool true) ∧ Go.RowKit.Below w.heap.size w w' := by
  obtain ⟨n, h⟩ := yes_of_fast awake41
  exact closedAt made0.ok made0.coded (fun _ h => blt_lt0 h) h .nil w
noncomputable def ext2 : FuncId → Option (List Value → Option Value) := orExt (trueAt 41) (externs Tryz.prog [])
theorem ext2_ok : ExtOk Tryz.prog ext2 := orExt_ok (P := Tryz.prog) (a := trueAt 41) (b := externs Tryz.prog []) (trueAt_ok (known_of Tryz.func41 (by decide) rfl awakeS)) (externs_ok Tryz.prog [])
noncomputable def env2 : Env := { env0 with ext := ext2 }
theorem good2 : goodAll env2 0xffffffffffffffffffffffffffffffffffffffffffffffffffffffffffffffffffffffffffffffffffffffffffffffffffffffffffffc Tryz.prog.funcs.size = true := (goodAll_same env0 ext2 0xffffffffffffffffffffffffffffffffffffffffffffffffffffffffffffffffffffffffffffffffffffffffffffffffffffffffffffc Tryz.prog.funcs.size).trans good0
set_option maxRecDepth 100000 in
theorem made2 : env2.Made 0xffffffffffffffffffffffffffffffffffffffffffffffffffffffffffffffffffffffffffffffffffffffffffffffffffffffffffffc where
  und := rfl
  info := rfl
  fn := rfl
  good := good2
  mixed := Tryz.checked.mixed
  sk := skT_ok
  ext := ext2_ok
  dk := noDk _ rfl
  ask := noAsk
  askLen := noLen
  kt := noKt
  askC := noC
  askS := noS

section
variable (E : Env) (y : Nat → Value → Prop) (z : BinOp → Value → Value → Option Value)
theorem operOk_tok : operOk { E with sy := y, ask := z } = operOk E := by funext o; cases o <;> rfl
theorem opOk_tok : opOk { E with sy := y, ask := z } = opOk E := by funext o; unfold opOk; rw [operOk_tok]
theorem codeOk_tok : ∀ c, codeOk { E with sy := y, ask := z } c = codeOk E c := by
  intro c
  induction c with
  | region id ops draw => unfold codeOk; rw [opOk_tok]
  | seq a b iha ihb => unfold codeOk; rw [iha, ihb]
  | cond v a b iha ihb => unfold codeOk; rw [iha, ihb, operOk_tok]
  | block id c ih => unfold codeOk; exact ih
  | loop c ih => unfold codeOk; exact ih
  | scope c ih => unfold codeOk; exact ih
  | _ => rfl
theorem goodAt_tok (i : Nat) : goodAt { E with sy := y, ask := z } i = goodAt E i := by
  unfold goodAt
  simp only [codeOk_tok]
theorem goodAll_tok (mask n : Nat) : goodAll { E with sy := y, ask := z } mask n = goodAll E mask n := by
  unfold goodAll
  simp only [goodAt_tok]
end

def sayN : List (Value → Prop) := [fun v => ∃ n : Int, v = .int .i64 n ∧ n < 0]
def sayP : List (Value → Prop) := [fun v => ∃ n : Int, v = .int .i64 n ∧ 8 ≤ n]
noncomputable def factsN : List Fact := [⟨.lss, 0, 0, .bool true⟩]
noncomputable def factsP : List Fact := [⟨.lss, 0, 0, .bool false⟩, ⟨.geq, 0, 0, .bool true⟩, ⟨.geq, 0, 8, .bool true⟩]
noncomputable def envN : Env := { env2 with sy := sayAt sayN, ask := askT factsN }
noncomputable def envP : Env := { env2 with sy := sayAt sayP, ask := askT factsP }
theorem goodN : goodAll envN 0xffffffffffffffffffffffffffffffffffffffffffffffffffffffffffffffffffffffffffffffffffffffffffffffffffffffffffffc Tryz.prog.funcs.size = true := (goodAll_tok env2 (sayAt sayN) (askT factsN) 0xffffffffffffffffffffffffffffffffffffffffffffffffffffffffffffffffffffffffffffffffffffffffffffffffffffffffffffc Tryz.prog.funcs.size).trans good2
theorem goodP : goodAll envP 0xffffffffffffffffffffffffffffffffffffffffffffffffffffffffffffffffffffffffffffffffffffffffffffffffffffffffffffc Tryz.prog.funcs.size = true := (goodAll_tok env2 (sayAt sayP) (askT factsP) 0xffffffffffffffffffffffffffffffffffffffffffffffffffffffffffffffffffffffffffffffffffffffffffffffffffffffffffffc Tryz.prog.funcs.size).trans good2
theorem askN_ok : ∀ f, f ∈ factsN → f.Ok sayN := fun f hf p' x' hp' hx' => by
  simp only [factsN, List.mem_cons, List.not_mem_nil, or_false] at hf
  subst hf
  injection hp' with hp'; subst hp'
  obtain ⟨n, e, hn⟩ := hx'
  exact ⟨n, _, e, .plain rfl, rfl, fun _ _ _ _ => lt_fact (by simpa using hn)⟩
theorem askP_ok : ∀ f, f ∈ factsP → f.Ok sayP := fun f hf p' x' hp' hx' => by
  simp only [factsP, List.mem_cons, List.not_mem_nil, or_false] at hf
  rcases hf with rfl | rfl | rfl
  · injection hp' with hp'; subst hp'
    obtain ⟨n, e, hn⟩ := hx'
    exact ⟨n, _, e, .plain rfl, rfl, fun _ _ _ _ => lt_fact (decide_eq_false (show ¬ n < 0 by omega))⟩
  · injection hp' with hp'; subst hp'
    obtain ⟨n, e, hn⟩ := hx'
    exact ⟨n, _, e, .plain rfl, rfl, fun _ _ _ _ => ge_fact (by rw [decide_eq_false (show ¬ n < 0 by omega)]; rfl)⟩
  · injection hp' with hp'; subst hp'
    obtain ⟨n, e, hn⟩ := hx'
    exact ⟨n, _, e, .plain rfl, rfl, fun _ _ _ _ => ge_fact (by rw [decide_eq_false (show ¬ n < 8 by omega)]; rfl)⟩
set_option maxRecDepth 100000 in
theorem madeN : envN.Made 0xffffffffffffffffffffffffffffffffffffffffffffffffffffffffffffffffffffffffffffffffffffffffffffffffffffffffffffc where
  und := rfl
  info := rfl
  fn := rfl
  good := goodN
  mixed := Tryz.checked.mixed
  sk := skT_ok
  ext := ext2_ok
  dk := noDk _ rfl
  ask := askT_ok made0.ok rfl askN_ok
  askLen := noLen
  kt := noKt
  askC := noC
  askS := noS

set_option maxRecDepth 100000 in
theorem madeP : envP.Made 0xffffffffffffffffffffffffffffffffffffffffffffffffffffffffffffffffffffffffffffffffffffffffffffffffffffffffffffc where
  und := rfl
  info := rfl
  fn := rfl
  good := goodP
  mixed := Tryz.checked.mixed
  sk := skT_ok
  ext := ext2_ok
  dk := noDk _ rfl
  ask := askT_ok made0.ok rfl askP_ok
  askLen := noLen
  kt := noKt
  askC := noC
  askS := noS

end Go.Proofs.YtigeegdnhmgkbaaGreat.Cl
