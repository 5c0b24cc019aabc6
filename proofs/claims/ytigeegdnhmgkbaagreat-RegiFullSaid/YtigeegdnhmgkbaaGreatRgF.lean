/-
  The tables hold; the Env of RegiFull's cases is made.
-/
import Derived.Test.YtigeegdnhmgkbaaGreatRgE
import Derived.Test.YtigeegdnhmgkbaaGreatRgD0
import Derived.Test.YtigeegdnhmgkbaaGreatRgD1
namespace Go.Proofs.YtigeegdnhmgkbaaGreat.Cl
open Go Go.Cm
theorem known_ {f : FuncId} {ds : List Value} {v : Value} (h : deepRunC env0 1000 100 1 [] f ds = some (v, [])) : DeepOk Tryz.prog f ds v [] :=
  deep_of_fast made0.ok made0.coded (fun _ h => blt_lt0 h) h
def AllKnown (f : FuncId) : List (List Value × Value) → Prop
  | [] => True
  | e :: l => DeepOk Tryz.prog f e.1 e.2 [] ∧ AllKnown f l
theorem AllKnown.mem {f : FuncId} : ∀ {l : List (List Value × Value)}, AllKnown f l → ∀ e, e ∈ l → DeepOk Tryz.prog f e.1 e.2 []
  | [], _, _, h => by cases h
  | x :: l, h, e, he => by
    rw [List.mem_cons] at he
    rcases he with rfl | he
    · exact h.1
    · exact AllKnown.mem h.2 e he
theorem allDo : AllKnown 94 tabDo := ⟨known_ do0, known_ do1, known_ do2, known_ do3, known_ do4, known_ do5, known_ do6, known_ do7, known_ do8, known_ do9, known_ do10, known_ do11, known_ do12, known_ do13, known_ do14, known_ do15, known_ do16, known_ do17, known_ do18, known_ do19, known_ do20, known_ do21, known_ do22, known_ do23, known_ do24, known_ do25, known_ do26, known_ do27, known_ do28, known_ dox21, known_ dox22, known_ dox23, known_ dox24, known_ dox25, known_ dox26, known_ dox27, known_ dox28, known_ don21, known_ don22, known_ don23, known_ don24, known_ don25, known_ don26, known_ don27, known_ don28, trivial⟩
theorem allCh : AllKnown 95 tabCh := ⟨known_ ch0, known_ ch1, known_ ch2, known_ ch3, known_ ch4, known_ ch5, known_ ch6, known_ ch7, known_ ch8, known_ ch9, known_ ch10, known_ ch11, known_ ch12, known_ ch13, known_ ch14, known_ ch15, known_ ch16, known_ ch17, known_ ch18, known_ ch19, known_ ch20, known_ ch21, known_ ch22, known_ ch23, known_ ch24, known_ ch25, known_ ch26, known_ ch27, known_ ch28, known_ chx21, known_ chx22, known_ chx23, known_ chx24, known_ chx25, known_ chx26, known_ chx27, known_ chx28, known_ chn21, known_ chn22, known_ chn23, known_ chn24, known_ chn25, known_ chn26, known_ chn27, known_ chn28, trivial⟩
theorem dkR_ok : ∀ (f : FuncId) (F : List Value → Option (Value × List (Nat × List Value))) (ds : List Value) (v : Value) (rows : List (Nat × List Value)), dkR f = some F → F ds = some (v, rows) → DeepOk Tryz.prog f ds v rows := by
  intro f F ds v rows h hF
  unfold dkR at h
  cases h1 : Nat.beq f 94 with
  | true =>
    rw [h1, cond_true] at h
    injection h with h; subst h
    obtain ⟨e, he, rfl, rfl, rfl⟩ := lookT_some hF
    rw [Nat.eq_of_beq_eq_true h1]
    exact allDo.mem e he
  | false =>
    rw [h1, cond_false] at h
    cases h2 : Nat.beq f 95 with
    | true =>
      rw [h2, cond_true] at h
      injection h with h; subst h
      obtain ⟨e, he, rfl, rfl, rfl⟩ := lookT_some hF
      rw [Nat.eq_of_beq_eq_true h2]
      exact allCh.mem e he
    | false => rw [h2] at h; cases h
theorem awake17 : yesC env0 1000 100 17 [] 1 = true := by kernel_rfl
theorem awakeR (w : World) : Calls Tryz.prog 17 #[] w fun e w' => e = .returned (.bool true) ∧ Go.RowKit.Below w.heap.size w w' := by
  obtain ⟨n, h⟩ := yes_of_fast awake17
  exact closedAt made0.ok made0.coded (fun _ h => blt_lt0 h) h .nil w
section
variable (E : Env) (x : FuncId → Option (List Value → Option Value)) (y : FuncId → Option (List Value → Option (Value × List (Nat × List Value))))
theorem operOk_dk : operOk { E with ext := x, dk := y } = operOk E := by funext o; cases o <;> rfl
theorem opOk_dk : opOk { E with ext := x, dk := y } = opOk E := by funext o; unfold opOk; rw [operOk_dk]
theorem codeOk_dk : ∀ c, codeOk { E with ext := x, dk := y } c = codeOk E c := by
  intro c
  induction c with
  | region id ops draw => unfold codeOk; rw [opOk_dk]
  | seq a b iha ihb => unfold codeOk; rw [iha, ihb]
  | cond v a b iha ihb => unfold codeOk; rw [iha, ihb, operOk_dk]
  | block id c ih => unfold codeOk; exact ih
  | loop c ih => unfold codeOk; exact ih
  | scope c ih => unfold codeOk; exact ih
  | _ => rfl
theorem goodAt_dk (i : Nat) : goodAt { E with ext := x, dk := y } i = goodAt E i := by
  unfold goodAt
  simp only [codeOk_dk]
theorem goodAll_dk (mask n : Nat) : goodAll { E with ext := x, dk := y } mask n = goodAll E mask n := by
  unfold goodAll
  simp only [goodAt_dk]
end
theorem goodR : goodAll envR 0xffffffffffffffffffffffffffffffffffffffffffffffffffffffffffffffffffffffffffffffffffffffffffffffffffffffffffffc Tryz.prog.funcs.size = true := (goodAll_dk env0 (orExt (trueAt 17) (externs Tryz.prog [])) dkR 0xffffffffffffffffffffffffffffffffffffffffffffffffffffffffffffffffffffffffffffffffffffffffffffffffffffffffffffc Tryz.prog.funcs.size).trans good0
set_option maxRecDepth 100000 in
theorem madeR : envR.Made 0xffffffffffffffffffffffffffffffffffffffffffffffffffffffffffffffffffffffffffffffffffffffffffffffffffffffffffffc where
  und := rfl
  info := rfl
  fn := rfl
  good := goodR
  mixed := Tryz.checked.mixed
  sk := skT_ok
  ext := orExt_ok (P := Tryz.prog) (a := trueAt 17) (b := externs Tryz.prog []) (trueAt_ok (known_of Tryz.func17 (by decide) rfl awakeR)) (externs_ok Tryz.prog [])
  dk := dkR_ok
  ask := noAsk
  askLen := noLen
  kt := noKt
  askC := noC
  askS := noS
end Go.Proofs.YtigeegdnhmgkbaaGreat.Cl
