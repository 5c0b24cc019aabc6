/-
  What is wrong with an op: the program's answer, and the document's.
-/
import Derived.Test.YtoloiegahmehkaaUOoA
namespace Go.Proofs.Ytoloiegahmehkaa.Oo
open Go Go.Cm Go.RowKit

noncomputable def nameK (args : List Value) : Option (Value × List (Nat × List Value)) :=
  match args with
  | [.string st] => bif Nat.ble st.size 9223372036854775807 then some (.bool (nameB st), []) else none
  | _ => none
theorem nameK_at {st : ByteArray} (h : st.size ≤ 9223372036854775807) : nameK [.string st] = some (.bool (nameB st), []) := by
  unfold nameK
  simp only [Nat.ble_eq_true_of_le h, cond_true]
theorem nameK_ok {f : FuncId} (h : ∀ st : ByteArray, st.size ≤ 9223372036854775807 → DeepOk Try.prog f [.string st] (.bool (nameB st)) []) : ∀ ds v rows, nameK ds = some (v, rows) → DeepOk Try.prog f ds v rows := by
  intro ds v rows hk
  unfold nameK at hk
  split at hk
  · rename_i st
    cases hb : Nat.ble st.size 9223372036854775807 with
    | false => rw [hb] at hk; cases hk
    | true =>
      rw [hb, cond_true] at hk
      injection hk with hk; injection hk with h1 h2; subst h1; subst h2
      exact h st (Nat.le_of_ble_eq_true hb)
  · cases hk
noncomputable def inK (args : List Value) : Option (Value × List (Nat × List Value)) :=
  match args with
  | [.int .i64 n, .int .i64 lo, .int .i64 hi] => some (.bool (inB n lo hi), [])
  | _ => none
noncomputable def dk1 (f : FuncId) : Option (List Value → Option (Value × List (Nat × List Value))) := bif Nat.beq f 8 || Nat.beq f 9 then some nameK else bif Nat.beq f 15 then some inK else none
theorem dk1_ok : ∀ f F ds v rows, dk1 f = some F → F ds = some (v, rows) → DeepOk Try.prog f ds v rows := by
  intro f F ds v rows hf hF
  unfold dk1 at hf
  cases h8 : Nat.beq f 8 with
  | true =>
    have := Nat.eq_of_beq_eq_true h8; subst this
    injection hf with hf; subst hf
    exact nameK_ok our_name ds v rows hF
  | false =>
    cases h9 : Nat.beq f 9 with
    | true =>
      have := Nat.eq_of_beq_eq_true h9; subst this
      injection hf with hf; subst hf
      exact nameK_ok ref_name ds v rows hF
    | false =>
      rw [h8, h9] at hf
      cases h15 : Nat.beq f 15 with
      | true =>
        have := Nat.eq_of_beq_eq_true h15; subst this
        injection hf with hf; subst hf
        unfold inK at hF
        split at hF
        · injection hF with hF; injection hF with h1 h2; subst h1; subst h2
          exact within_deep _ _ _
        · cases hF
      | false => rw [h15] at hf; cases hf
noncomputable def env1 : Env := { P := Try.prog, und := uds.get, info := tis.get, fn := fns.get, ext := trueAt 6, glob := fun _ => false, dk := dk1 }
theorem made1 : env1.Made 0xfff8 := ⟨rfl, rfl, rfl, made0.good, Try.checked.mixed, trueAt_ok (known_of Try.func6 (by decide) rfl awake), dk1_ok, noAsk, noLen, noKt, noC, noS⟩
theorem noGlob1 : ∀ g, env1.glob g = true → g < 0 := fun _ h => by cases h
theorem fn7 : env1.fn 7 = some Try.f7 := by kernel_rfl
theorem fn10 : env1.fn 10 = some Try.f10 := by kernel_rfl
theorem fn11 : env1.fn 11 = some Try.f11 := by kernel_rfl
theorem fn12 : env1.fn 12 = some Try.f12 := by kernel_rfl
theorem fn13 : env1.fn 13 = some Try.f13 := by kernel_rfl
theorem fn14 : env1.fn 14 = some Try.f14 := by kernel_rfl
theorem dk8 : env1.dk 8 = some nameK := by kernel_rfl
theorem dk9 : env1.dk 9 = some nameK := by kernel_rfl
theorem dk15 : env1.dk 15 = some inK := by kernel_rfl

def named (nm : ByteArray) : Int := if nameB nm = true then 0 else 2
def sized (w h : Int) : Int := if w < 2 ∨ 100 < w ∨ h < 2 ∨ 50 < h then 3 else 0
def dird (d : Int) : Int := if d = 1 ∨ d = 2 then 0 else 4
def both (nm : ByteArray) (w h : Int) : Int := if nameB nm = true then sized w h else 2
/-- What is wrong. -/
def chk (k : Int) (nm : ByteArray) (w h d : Int) (n : Nat) : Int :=
  if k = 1 then both nm w h else if k = 3 then both nm w h else if k = 2 then named nm else if k = 4 then named nm else if k = 5 then named nm else if k = 6 then named nm else if k = 14 then named nm
  else if k = 7 then dird d else if k = 11 then dird d else if k = 8 then 0 else if k = 9 then 0 else if k = 10 then 0 else if k = 12 then sized w h else if k = 13 then (if 1000 < n then 5 else 0) else 1

/-- An op, as it is handed over. -/
@[reducible] def opV (k : Int) (nm : ByteArray) (wi pa ot w h d : Int) (fk : FloatKind) (fb : Nat) (dt : Value) : Value := .agg ⟨[.int .i64 k, .string nm, .int .i64 wi, .int .i64 pa, .int .i64 ot, .int .i64 w, .int .i64 h, .int .i64 d, .float fk fb, dt]⟩
section
variable (k wi pa ot w h d : Int) (nm : ByteArray) (fk : FloatKind) (fb : Nat) (dt : Value)
theorem in_yes {n lo hi : Int} (h : lo ≤ n ∧ n ≤ hi) : inK [.int .i64 n, .int .i64 lo, .int .i64 hi] = some (.bool true, []) := by
  show some (Value.bool (inB n lo hi), _) = _
  rw [show inB n lo hi = true by unfold inB; rw [decide_eq_true h.1, decide_eq_true h.2]; rfl]
theorem in_no {n lo hi : Int} (h : ¬ (lo ≤ n ∧ n ≤ hi)) : inK [.int .i64 n, .int .i64 lo, .int .i64 hi] = some (.bool false, []) := by
  show some (Value.bool (inB n lo hi), _) = _
  rw [show inB n lo hi = false by
    unfold inB
    by_cases h1 : lo ≤ n
    · rw [decide_eq_false (show ¬ n ≤ hi from fun h2 => h ⟨h1, h2⟩), Bool.and_false]
    · rw [decide_eq_false h1]; rfl]
theorem size_deep : DeepOk env1.P 12 [opV k nm wi pa ot w h d fk fb dt] (.int .i64 (sized w h)) [] := by
  refine deep_of_wpP made1.ok made1.coded (d := 5) noGlob1 fn12 rfl rfl (fl := []) ?_
  repeat (refine Exists.intro _ (Exists.intro _ (And.intro rfl ?_)))
  by_cases h1 : 2 ≤ w ∧ w ≤ 100
  · refine Or.inl (Exists.intro _ (Exists.intro _ (Exists.intro _ (And.intro (dk15) (And.intro (known_at rfl (fun _ _ => rfl) (in_yes h1) rfl) ?_)))))
    repeat (refine Exists.intro _ (Exists.intro _ (And.intro rfl ?_)))
    by_cases h2 : 2 ≤ h ∧ h ≤ 50
    · refine Or.inl (Exists.intro _ (Exists.intro _ (Exists.intro _ (And.intro (dk15) (And.intro (known_at rfl (fun _ _ => rfl) (in_yes h2) rfl) ?_)))))
      repeat (refine Exists.intro _ (Exists.intro _ (And.intro rfl ?_)))
      rw [show sized w h = 0 from if_neg (by omega)]; kernel_rfl
    · refine Or.inl (Exists.intro _ (Exists.intro _ (Exists.intro _ (And.intro (dk15) (And.intro (known_at rfl (fun _ _ => rfl) (in_no h2) rfl) ?_)))))
      repeat (refine Exists.intro _ (Exists.intro _ (And.intro rfl ?_)))
      rw [show sized w h = 3 from if_pos (by omega)]; kernel_rfl
  · refine Or.inl (Exists.intro _ (Exists.intro _ (Exists.intro _ (And.intro (dk15) (And.intro (known_at rfl (fun _ _ => rfl) (in_no h1) rfl) ?_)))))
    repeat (refine Exists.intro _ (Exists.intro _ (And.intro rfl ?_)))
    rw [show sized w h = 3 from if_pos (by omega)]; kernel_rfl
theorem named_deep (hn : nm.size ≤ 9223372036854775807) : DeepOk env1.P 11 [opV k nm wi pa ot w h d fk fb dt] (.int .i64 (named nm)) [] := by
  refine deep_of_wpP made1.ok made1.coded (d := 5) noGlob1 fn11 rfl rfl (fl := []) ?_
  repeat (refine Exists.intro _ (Exists.intro _ (And.intro rfl ?_)))
  cases hb : nameB nm with
  | true =>
    refine Or.inl (Exists.intro _ (Exists.intro _ (Exists.intro _ (And.intro (dk8) (And.intro (known_at rfl (fun _ _ => rfl) ((nameK_at hn).trans (by rw [hb])) rfl) ?_)))))
    repeat (refine Exists.intro _ (Exists.intro _ (And.intro rfl ?_)))
    rw [show named nm = 0 from if_pos hb]; kernel_rfl
  | false =>
    refine Or.inl (Exists.intro _ (Exists.intro _ (Exists.intro _ (And.intro (dk8) (And.intro (known_at rfl (fun _ _ => rfl) ((nameK_at hn).trans (by rw [hb])) rfl) ?_)))))
    repeat (refine Exists.intro _ (Exists.intro _ (And.intro rfl ?_)))
    rw [show named nm = 2 from if_neg (by rw [hb]; simp)]; kernel_rfl
theorem dir_deep : DeepOk env1.P 13 [opV k nm wi pa ot w h d fk fb dt] (.int .i64 (dird d)) [] := by
  refine deep_of_wpP made1.ok made1.coded (d := 5) noGlob1 fn13 rfl rfl (fl := []) ?_
  repeat (refine Exists.intro _ (Exists.intro _ (And.intro rfl ?_)))
  by_cases h1 : d = 1
  · refine Exists.intro true (And.intro (decide_eq_true (h1)) ?_)
    repeat (refine Exists.intro _ (Exists.intro _ (And.intro rfl ?_)))
    rw [show dird d = 0 from if_pos (Or.inl h1)]; kernel_rfl
  · refine Exists.intro false (And.intro (decide_eq_false (h1)) ?_)
    repeat (refine Exists.intro _ (Exists.intro _ (And.intro rfl ?_)))
    by_cases h2 : d = 2
    · refine Exists.intro true (And.intro (decide_eq_true (h2)) ?_)
      repeat (refine Exists.intro _ (Exists.intro _ (And.intro rfl ?_)))
      rw [show dird d = 0 from if_pos (Or.inr h2)]; kernel_rfl
    · refine Exists.intro false (And.intro (decide_eq_false (h2)) ?_)
      repeat (refine Exists.intro _ (Exists.intro _ (And.intro rfl ?_)))
      rw [show dird d = 4 from if_neg (by omega)]; kernel_rfl
theorem sized_deep : DeepOk env1.P 14 [opV k nm wi pa ot w h d fk fb dt] (.bool (decide (sized w h = 0))) [] := by
  refine deep_of_wpP made1.ok made1.coded (d := 5) noGlob1 fn14 rfl rfl (fl := []) ?_
  have no : (w < 2 ∨ 100 < w ∨ h < 2 ∨ 50 < h) → decide (sized w h = 0) = false := fun hh => by rw [show sized w h = 3 from if_pos hh]; rfl
  repeat (refine Exists.intro _ (Exists.intro _ (And.intro rfl ?_)))
  by_cases h1 : w < 2
  · refine Exists.intro true (And.intro (decide_eq_true (h1)) ?_)
    repeat (refine Exists.intro _ (Exists.intro _ (And.intro rfl ?_)))
    rw [no (by omega)]; kernel_rfl
  · refine Exists.intro false (And.intro (decide_eq_false (h1)) ?_)
    repeat (refine Exists.intro _ (Exists.intro _ (And.intro rfl ?_)))
    by_cases h2 : 100 < w
    · refine Exists.intro true (And.intro (decide_eq_true (h2)) ?_)
      repeat (refine Exists.intro _ (Exists.intro _ (And.intro rfl ?_)))
      rw [no (by omega)]; kernel_rfl
    · refine Exists.intro false (And.intro (decide_eq_false (h2)) ?_)
      repeat (refine Exists.intro _ (Exists.intro _ (And.intro rfl ?_)))
      by_cases h3 : h < 2
      · refine Exists.intro true (And.intro (decide_eq_true (h3)) ?_)
        repeat (refine Exists.intro _ (Exists.intro _ (And.intro rfl ?_)))
        rw [no (by omega)]; kernel_rfl
      · refine Exists.intro false (And.intro (decide_eq_false (h3)) ?_)
        repeat (refine Exists.intro _ (Exists.intro _ (And.intro rfl ?_)))
        by_cases h4 : 50 < h
        · refine Exists.intro true (And.intro (decide_eq_true (h4)) ?_)
          repeat (refine Exists.intro _ (Exists.intro _ (And.intro rfl ?_)))
          rw [no (by omega)]; kernel_rfl
        · refine Exists.intro false (And.intro (decide_eq_false (h4)) ?_)
          repeat (refine Exists.intro _ (Exists.intro _ (And.intro rfl ?_)))
          rw [show sized w h = 0 from if_neg (by omega)]; kernel_rfl
end
end Go.Proofs.Ytoloiegahmehkaa.Oo
