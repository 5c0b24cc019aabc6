/-
  The tables hold; the Env of StepPins's cases is made.
-/
import Derived.Test.YtnnnknojnfphlaaGreatStE
import Derived.Test.YtnnnknojnfphlaaGreatStD0
import Derived.Test.YtnnnknojnfphlaaGreatStD1
import Derived.Test.YtnnnknojnfphlaaGreatStD2
namespace Go.Proofs.YtnnnknojnfphlaaGreat.Cl
open Go Go.Cm
theorem known_ {f : FuncId} {ds : List Value} {v : Value} (h : deepRunC env0 1000 100 1 [] f ds = some (v, [])) : DeepOk Tryz.prog f ds v [] :=
  deep_of_fast made0.ok made0.coded (fun _ h => blt_lt0 h) h
def AllKnown (f : FuncId) : List (List Value × Value) → Prop
  | [] => True
  | e :: l => DeepOk Tryz.prog f e.1 e.2 [] ∧ AllKnown f l
theorem AllKnown.mem {f : FuncId} : ∀ {l : List (List Value × Value)}, AllKnown f l → ∀ e, e ∈ l → DeepOk Tryz.prog f e.1 e.2 []
  | [], _, _, h => by cases h
  | x :: l, h, e, he => by
    rw [List.mem_cons] at he
    rcases he with rfl | he
    · exact h.1
    · exact AllKnown.mem h.2 e he
theorem all_d : AllKnown 19 tab_d := ⟨known_ do0, known_ do1, known_ do2, known_ do3, known_ do4, known_ do5, known_ do6, known_ do7, known_ do8, known_ do9, known_ do10, known_ do11, known_ do12, known_ do13, known_ do14, known_ do15, known_ do16, known_ dox2, known_ dox3, known_ dox4, known_ dox5, known_ dox6, known_ dox7, known_ dox8, known_ dox9, known_ dox10, known_ dox11, known_ dox12, known_ dox13, known_ dox14, known_ dox15, known_ dox16, known_ dox17, trivial⟩
theorem all_c : AllKnown 193 tab_c := ⟨known_ ch0, known_ ch1, known_ ch2, known_ ch3, known_ ch4, known_ ch5, known_ ch6, known_ ch7, known_ ch8, known_ ch9, known_ ch10, known_ ch11, known_ ch12, known_ ch13, known_ ch14, known_ ch15, known_ ch16, known_ chx2, known_ chx3, known_ chx4, known_ chx5, known_ chx6, known_ chx7, known_ chx8, known_ chx9, known_ chx10, known_ chx11, known_ chx12, known_ chx13, known_ chx14, known_ chx15, known_ chx16, known_ chx17, trivial⟩
theorem all_l : AllKnown 124 tab_l := ⟨known_ lk0, known_ lk1, known_ lk2, known_ lk3, known_ lk4, known_ lk5, known_ lk6, known_ lk7, known_ lk8, known_ lk9, known_ lk10, known_ lk11, known_ lk12, known_ lk13, known_ lk14, known_ lk15, known_ lk16, known_ lkx2, known_ lkx3, known_ lkx4, known_ lkx5, known_ lkx6, known_ lkx7, known_ lkx8, known_ lkx9, known_ lkx10, known_ lkx11, known_ lkx12, known_ lkx13, known_ lkx14, known_ lkx15, known_ lkx16, known_ lkx17, trivial⟩
theorem all_f : AllKnown 134 tab_f := ⟨known_ fr1, known_ fr2, known_ fr3, known_ fr4, known_ fr5, known_ fr6, known_ fr7, known_ fr8, known_ fr9, known_ fr10, known_ fr11, known_ fr12, known_ fr13, known_ fr14, known_ fr15, known_ fr16, known_ fr17, trivial⟩
theorem all_g : AllKnown 15 tab_g := ⟨known_ rd0, known_ rd1, known_ rd2, known_ rd3, known_ rd4, known_ rd5, known_ rd6, known_ rd7, known_ rd8, known_ rd9, known_ rd10, known_ rd11, known_ rd12, known_ rd13, known_ rd14, known_ rd15, known_ rd16, trivial⟩
theorem all_h : AllKnown 17 tab_h := ⟨known_ rf1, known_ rf2, known_ rf3, known_ rf4, known_ rf5, known_ rf6, known_ rf7, known_ rf8, known_ rf9, known_ rf10, known_ rf11, known_ rf12, known_ rf13, known_ rf14, known_ rf15, known_ rf16, known_ rf17, trivial⟩
theorem dkP_ok : ∀ (f : FuncId) (F : List Value → Option (Value × List (Nat × List Value))) (ds : List Value) (v : Value) (rows : List (Nat × List Value)), dkP f = some F → F ds = some (v, rows) → DeepOk Tryz.prog f ds v rows := by
  intro f F ds v rows h hF
  have at_ : ∀ (g : FuncId) (l : List (List Value × Value)), AllKnown g l → f = g → lookT ds l = some (v, rows) → DeepOk Tryz.prog f ds v rows := by
    intro g l hl hf hl2
    subst hf
    obtain ⟨e, he, rfl, rfl, rfl⟩ := lookT_some hl2
    exact hl.mem e he
  unfold dkP at h
  cases h0 : Nat.beq f 19 with
  | true => rw [h0, cond_true] at h; injection h with h; subst h; exact at_ 19 tab_d all_d (Nat.eq_of_beq_eq_true h0) hF
  | false =>
    rw [h0, cond_false] at h
    cases h1 : Nat.beq f 193 with
    | true => rw [h1, cond_true] at h; injection h with h; subst h; exact at_ 193 tab_c all_c (Nat.eq_of_beq_eq_true h1) hF
    | false =>
      rw [h1, cond_false] at h
      cases h2 : Nat.beq f 124 with
      | true => rw [h2, cond_true] at h; injection h with h; subst h; exact at_ 124 tab_l all_l (Nat.eq_of_beq_eq_true h2) hF
      | false =>
        rw [h2, cond_false] at h
        cases h3 : Nat.beq f 134 with
        | true => rw [h3, cond_true] at h; injection h with h; subst h; exact at_ 134 tab_f all_f (Nat.eq_of_beq_eq_true h3) hF
        | false =>
          rw [h3, cond_false] at h
          cases h4 : Nat.beq f 15 with
          | true => rw [h4, cond_true] at h; injection h with h; subst h; exact at_ 15 tab_g all_g (Nat.eq_of_beq_eq_true h4) hF
          | false =>
            rw [h4, cond_false] at h
            cases h5 : Nat.beq f 17 with
            | true => rw [h5, cond_true] at h; injection h with h; subst h; exact at_ 17 tab_h all_h (Nat.eq_of_beq_eq_true h5) hF
            | false =>
              rw [h5, cond_false] at h
              cases h
theorem awakeP0 : yesC env0 1000 100 18 [] 1 = true := by kernel_rfl
theorem awakeP (w : World) : Calls Tryz.prog 18 #[] w fun e w' => e = .returned (.bool true) ∧ Go.RowKit.Below w.heap.size w w' := by
  obtain ⟨n, h⟩ := yes_of_fast awakeP0
  exact closedAt made0.ok made0.coded (fun _ h => blt_lt0 h) h .nil w
section
variable (E : Env) (x : FuncId → Option (List Value → Option Value)) (y : FuncId → Option (List Value → Option (Value × List (Nat × List Value))))
theorem operOk_dk : operOk { E with ext := x, dk := y } = operOk E := by funext o; cases o <;> rfl
theorem opOk_dk : opOk { E with ext := x, dk := y } = opOk E := by funext o; unfold opOk; rw [operOk_dk]
theorem codeOk_dk : ∀ c, codeOk { E with ext := x, dk := y } c = codeOk E c := by
  intro c
  induction c with
  | region id ops draw => unfold codeOk; rw [opOk_dk]
  | seq a b iha ihb => unfold codeOk; rw [iha, ihb]
  | cond v a b iha ihb => unfold codeOk; rw [iha, ihb, operOk_dk]
  | block id c ih => unfold codeOk; exact ih
  | loop c ih => unfold codeOk; exact ih
  | scope c ih => unfold codeOk; exact ih
  | _ => rfl
theorem goodAt_dk (i : Nat) : goodAt { E with ext := x, dk := y } i = goodAt E i := by
  unfold goodAt
  simp only [codeOk_dk]
theorem goodAll_dk (mask n : Nat) : goodAll { E with ext := x, dk := y } mask n = goodAll E mask n := by
  unfold goodAll
  simp only [goodAt_dk]
end
theorem goodP : goodAll envP 0xffffffffffffffffffffffffffffffffffffffffffffffffffffffffffffffffffffffffffffffffffffffffffffffffffffffffffc Tryz.prog.funcs.size = true := (goodAll_dk env0 (orExt (trueAt 18) (externs Tryz.prog [])) dkP 0xffffffffffffffffffffffffffffffffffffffffffffffffffffffffffffffffffffffffffffffffffffffffffffffffffffffffffc Tryz.prog.funcs.size).trans good0
set_option maxRecDepth 100000 in
theorem madeP : envP.Made 0xffffffffffffffffffffffffffffffffffffffffffffffffffffffffffffffffffffffffffffffffffffffffffffffffffffffffffc where
  und := rfl
  info := rfl
  fn := rfl
  good := goodP
  mixed := Tryz.checked.mixed
  sk := skT_ok
  ext := orExt_ok (P := Tryz.prog) (a := trueAt 18) (b := externs Tryz.prog []) (trueAt_ok (known_of Tryz.func18 (by decide) rfl awakeP)) (externs_ok Tryz.prog [])
  dk := dkP_ok
  ask := noAsk
  askLen := noLen
  kt := noKt
  askC := noC
  askS := noS
end Go.Proofs.YtnnnknojnfphlaaGreat.Cl
