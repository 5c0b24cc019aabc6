/-
  What is wrong with an op: 'Check', and the document's.
-/
import Derived.Test.YtoloiegahmehkaaUOoB
namespace Go.Proofs.Ytoloiegahmehkaa.Oo
open Go Go.Cm Go.RowKit

structure OpT where
  k : Int
  nm : ByteArray
  wi : Int
  pa : Int
  ot : Int
  w : Int
  h : Int
  d : Int
  fk : FloatKind
  fb : Nat
  dt : Value
@[reducible] def OpT.val (o : OpT) : Value := opV o.k o.nm o.wi o.pa o.ot o.w o.h o.d o.fk o.fb o.dt
noncomputable def cellsOp (cs : List Value) : Option OpT :=
  match cs with
  | [.int .i64 k, .string nm, .int .i64 wi, .int .i64 pa, .int .i64 ot, .int .i64 w, .int .i64 h, .int .i64 d, .float fk fb, dt] => bif Nat.ble nm.size 9223372036854775807 then some ⟨k, nm, wi, pa, ot, w, h, d, fk, fb, dt⟩ else none
  | _ => none
noncomputable def opOf (args : List Value) : Option OpT :=
  match args with
  | [.agg cs] => cellsOp cs.toList
  | _ => none
theorem opOf_some {args : List Value} {o : OpT} (h : opOf args = some o) : args = [o.val] ∧ o.nm.size ≤ 9223372036854775807 := by
  unfold opOf at h
  split at h
  · rename_i cs
    unfold cellsOp at h
    split at h
    · rename_i k nm wi pa ot w hh d fk fb dt hcs
      cases hb : Nat.ble nm.size 9223372036854775807 with
      | false => rw [hb] at h; cases h
      | true =>
        rw [hb, cond_true] at h
        injection h with h; subst h
        refine ⟨?_, Nat.le_of_ble_eq_true hb⟩
        show [Value.agg cs] = [Value.agg _]
        congr 2
        exact Array.ext' hcs
    · cases h
  · cases h
theorem opOf_at (o : OpT) (h : o.nm.size ≤ 9223372036854775807) : opOf [o.val] = some o := by
  show (bif Nat.ble o.nm.size 9223372036854775807 then some o else none) = some o
  rw [Nat.ble_eq_true_of_le h]
  rfl
/-- How long the data are. -/
def dataLen (v : Value) : Option Nat :=
  match v with
  | .slice none 0 0 => some 0
  | .func (.yield 0) _ c => (match c.toList with
    | [.int .i64 (.ofNat n)] => some n
    | _ => none)
  | _ => none

noncomputable def opK (g : OpT → Option Value) (args : List Value) : Option (Value × List (Nat × List Value)) := (opOf args).bind fun o => (g o).map fun v => (v, [])
theorem opK_ok {f : FuncId} {g : OpT → Option Value} (h : ∀ o : OpT, o.nm.size ≤ 9223372036854775807 → ∀ v, g o = some v → DeepOk Try.prog f [o.val] v []) : ∀ ds v rows, opK g ds = some (v, rows) → DeepOk Try.prog f ds v rows := by
  intro ds v rows hk
  unfold opK at hk
  rw [Option.bind_eq_some_iff] at hk
  obtain ⟨o, ho, hk⟩ := hk
  rw [Option.map_eq_some_iff] at hk
  obtain ⟨u, hu, hk⟩ := hk
  injection hk with h1 h2; subst h1; subst h2
  obtain ⟨rfl, hn⟩ := opOf_some ho
  exact h o hn u hu
theorem opK_at {g : OpT → Option Value} {o : OpT} (h : o.nm.size ≤ 9223372036854775807) {v : Value} (hv : g o = some v) : opK g [o.val] = some (v, []) := by
  unfold opK
  rw [opOf_at o h, Option.bind_some, hv]
  rfl

noncomputable def namedK (o : OpT) : Option Value := some (.int .i64 (named o.nm))
noncomputable def sizeK (o : OpT) : Option Value := some (.int .i64 (sized o.w o.h))
noncomputable def dirK (o : OpT) : Option Value := some (.int .i64 (dird o.d))
noncomputable def sizedK (o : OpT) : Option Value := some (.bool (decide (sized o.w o.h = 0)))
noncomputable def dk2 (f : FuncId) : Option (List Value → Option (Value × List (Nat × List Value))) :=
  bif Nat.beq f 11 then some (opK namedK) else bif Nat.beq f 12 then some (opK sizeK) else bif Nat.beq f 13 then some (opK dirK) else bif Nat.beq f 14 then some (opK sizedK) else dk1 f
theorem dk2_ok : ∀ f F ds v rows, dk2 f = some F → F ds = some (v, rows) → DeepOk Try.prog f ds v rows := by
  intro f F ds v rows hf hF
  unfold dk2 at hf
  cases h11 : Nat.beq f 11 with
  | true =>
    have := Nat.eq_of_beq_eq_true h11; subst this
    injection hf with hf; subst hf
    exact opK_ok (fun o hn v hv => by injection hv with hv; subst hv; exact named_deep _ _ _ _ _ _ _ _ _ _ _ hn) ds v rows hF
  | false =>
    cases h12 : Nat.beq f 12 with
    | true =>
      have := Nat.eq_of_beq_eq_true h12; subst this
      injection hf with hf; subst hf
      exact opK_ok (fun o hn v hv => by injection hv with hv; subst hv; exact size_deep _ _ _ _ _ _ _ _ _ _ _) ds v rows hF
    | false =>
      cases h13 : Nat.beq f 13 with
      | true =>
        have := Nat.eq_of_beq_eq_true h13; subst this
        injection hf with hf; subst hf
        exact opK_ok (fun o hn v hv => by injection hv with hv; subst hv; exact dir_deep _ _ _ _ _ _ _ _ _ _ _) ds v rows hF
      | false =>
        cases h14 : Nat.beq f 14 with
        | true =>
          have := Nat.eq_of_beq_eq_true h14; subst this
          injection hf with hf; subst hf
          exact opK_ok (fun o hn v hv => by injection hv with hv; subst hv; exact sized_deep _ _ _ _ _ _ _ _ _ _ _) ds v rows hF
        | false =>
          rw [h11, h12, h13, h14] at hf
          exact dk1_ok f F ds v rows hf hF
noncomputable def env2 : Env := { P := Try.prog, und := uds.get, info := tis.get, fn := fns.get, ext := trueAt 6, glob := fun _ => false, dk := dk2 }
theorem made2 : env2.Made 0xfff8 := ⟨rfl, rfl, rfl, made0.good, Try.checked.mixed, trueAt_ok (known_of Try.func6 (by decide) rfl awake), dk2_ok, noAsk, noLen, noKt, noC, noS⟩
theorem noGlob2 : ∀ g, env2.glob g = true → g < 0 := fun _ h => by cases h
theorem fn7' : env2.fn 7 = some Try.f7 := by kernel_rfl
theorem fn10' : env2.fn 10 = some Try.f10 := by kernel_rfl
theorem dk9' : env2.dk 9 = some nameK := by kernel_rfl
theorem dk11 : env2.dk 11 = some (opK namedK) := by kernel_rfl
theorem dk12 : env2.dk 12 = some (opK sizeK) := by kernel_rfl
theorem dk13 : env2.dk 13 = some (opK dirK) := by kernel_rfl
theorem dk14 : env2.dk 14 = some (opK sizedK) := by kernel_rfl

theorem cool_op {k wi pa ot w h d : Int} {nm : ByteArray} {fk : FloatKind} {fb : Nat} {dt : Value} {n : Nat} (hdt : dt = .slice none 0 0 ∧ n = 0 ∨ ∃ els, dt = fzs n els) (s : St) :
    M.mapL (coolN 8) [opV k nm wi pa ot w h d fk fb dt] s = some ([opV k nm wi pa ot w h d fk fb dt], s) := by
  rcases hdt with ⟨rfl, _⟩ | ⟨els, rfl⟩ <;> rfl
theorem known_op {F : List Value → Option (Value × List (Nat × List Value))} {k wi pa ot w h d : Int} {nm : ByteArray} {fk : FloatKind} {fb : Nat} {dt : Value} {n : Nat} (hdt : dt = .slice none 0 0 ∧ n = 0 ∨ ∃ els, dt = fzs n els) {v : Value} {s : St}
    (hF : F [opV k nm wi pa ot w h d fk fb dt] = some (v, [])) (hs : shiftN (fun r => some (Nat.add s.next r)) 3 v = some v) : knownF F [opV k nm wi pa ot w h d fk fb dt] s = some (v, s) :=
  known_at (cool_op hdt s) (fun _ _ => cool_op hdt _) hF hs
theorem opV_at {g : OpT → Option Value} {k wi pa ot w h d : Int} {nm : ByteArray} {fk : FloatKind} {fb : Nat} {dt : Value} (hn : nm.size ≤ 9223372036854775807) {v : Value} (hv : g ⟨k, nm, wi, pa, ot, w, h, d, fk, fb, dt⟩ = some v) : opK g [opV k nm wi pa ot w h d fk fb dt] = some (v, []) :=
  opK_at (o := ⟨k, nm, wi, pa, ot, w, h, d, fk, fb, dt⟩) hn hv

section
variable (k wi pa ot w h d : Int) (nm : ByteArray) (fk : FloatKind) (fb : Nat) (dt : Value)
theorem both_yes {nm : ByteArray} {w h : Int} (hb : named nm = 0) : both nm w h = sized w h := by
  unfold named at hb
  split at hb
  · rename_i hh; exact if_pos hh
  · cases hb
theorem both_no {nm : ByteArray} {w h : Int} (hb : ¬ named nm = 0) : both nm w h = named nm := by
  unfold named at hb ⊢
  split at hb
  · exact absurd rfl hb
  · rename_i hh; rw [if_neg hh]; exact if_neg hh
theorem sized_not {w h : Int} (hz : ¬ sized w h = 0) : sized w h = 3 := by
  unfold sized at hz ⊢
  split
  · rfl
  · rename_i hh; rw [if_neg hh] at hz; exact absurd rfl hz
set_option maxHeartbeats 4000000
theorem check_deep (hn : nm.size ≤ 9223372036854775807) (n : Nat) (hdt : dt = .slice none 0 0 ∧ n = 0 ∨ ∃ els, dt = fzs n els) : DeepOk env2.P 7 [opV k nm wi pa ot w h d fk fb dt] (.int .i64 (chk k nm w h d n)) [] := by
  refine deep_of_wpP made2.ok made2.coded (d := 5) noGlob2 fn7' rfl rfl (fl := []) ?_
  repeat (refine Exists.intro _ (Exists.intro _ (And.intro rfl ?_)))
  by_cases hk : k = 1
  · refine Exists.intro true (And.intro (decide_eq_true (hk)) ?_)
    repeat (refine Exists.intro _ (Exists.intro _ (And.intro rfl ?_)))
    refine Or.inl (Exists.intro _ (Exists.intro _ (Exists.intro _ (And.intro (dk11) (And.intro (known_op hdt (opV_at hn rfl) rfl) ?_)))))
    repeat (refine Exists.intro _ (Exists.intro _ (And.intro rfl ?_)))
    by_cases hb : named nm = 0
    · refine Exists.intro true (And.intro (decide_eq_true (hb)) ?_)
      repeat (refine Exists.intro _ (Exists.intro _ (And.intro rfl ?_)))
      refine Or.inl (Exists.intro _ (Exists.intro _ (Exists.intro _ (And.intro (dk12) (And.intro (known_op hdt (opV_at hn rfl) rfl) ?_)))))
      repeat (refine Exists.intro _ (Exists.intro _ (And.intro rfl ?_)))
      rw [show chk k nm w h d n = sized w h by rw [hk]; exact both_yes hb]; kernel_rfl
    · refine Exists.intro false (And.intro (decide_eq_false (hb)) ?_)
      repeat (refine Exists.intro _ (Exists.intro _ (And.intro rfl ?_)))
      rw [show chk k nm w h d n = named nm by rw [hk]; exact both_no hb]; kernel_rfl
  · refine Exists.intro false (And.intro (decide_eq_false (hk)) ?_)
    have n1 := hk; clear hk
    repeat (refine Exists.intro _ (Exists.intro _ (And.intro rfl ?_)))
    by_cases hk : k = 3
    · refine Exists.intro true (And.intro (decide_eq_true (hk)) ?_)
      repeat (refine Exists.intro _ (Exists.intro _ (And.intro rfl ?_)))
      refine Or.inl (Exists.intro _ (Exists.intro _ (Exists.intro _ (And.intro (dk11) (And.intro (known_op hdt (opV_at hn rfl) rfl) ?_)))))
      repeat (refine Exists.intro _ (Exists.intro _ (And.intro rfl ?_)))
      by_cases hb : named nm = 0
      · refine Exists.intro true (And.intro (decide_eq_true (hb)) ?_)
        repeat (refine Exists.intro _ (Exists.intro _ (And.intro rfl ?_)))
        refine Or.inl (Exists.intro _ (Exists.intro _ (Exists.intro _ (And.intro (dk12) (And.intro (known_op hdt (opV_at hn rfl) rfl) ?_)))))
        repeat (refine Exists.intro _ (Exists.intro _ (And.intro rfl ?_)))
        rw [show chk k nm w h d n = sized w h by rw [hk]; exact both_yes hb]; kernel_rfl
      · refine Exists.intro false (And.intro (decide_eq_false (hb)) ?_)
        repeat (refine Exists.intro _ (Exists.intro _ (And.intro rfl ?_)))
        rw [show chk k nm w h d n = named nm by rw [hk]; exact both_no hb]; kernel_rfl
    · refine Exists.intro false (And.intro (decide_eq_false (hk)) ?_)
      have n3 := hk; clear hk
      repeat (refine Exists.intro _ (Exists.intro _ (And.intro rfl ?_)))
      by_cases hk : k = 2
      · refine Exists.intro true (And.intro (decide_eq_true (hk)) ?_)
        repeat (refine Exists.intro _ (Exists.intro _ (And.intro rfl ?_)))
        refine Or.inl (Exists.intro _ (Exists.intro _ (Exists.intro _ (And.intro (dk11) (And.intro (known_op hdt (opV_at hn rfl) rfl) ?_)))))
        repeat (refine Exists.intro _ (Exists.intro _ (And.intro rfl ?_)))
        rw [show chk k nm w h d n = named nm by rw [hk]; rfl]; kernel_rfl
      · refine Exists.intro false (And.intro (decide_eq_false (hk)) ?_)
        have n2 := hk; clear hk
        repeat (refine Exists.intro _ (Exists.intro _ (And.intro rfl ?_)))
        by_cases hk : k = 4
        · refine Exists.intro true (And.intro (decide_eq_true (hk)) ?_)
          repeat (refine Exists.intro _ (Exists.intro _ (And.intro rfl ?_)))
          refine Or.inl (Exists.intro _ (Exists.intro _ (Exists.intro _ (And.intro (dk11) (And.intro (known_op hdt (opV_at hn rfl) rfl) ?_)))))
          repeat (refine Exists.intro _ (Exists.intro _ (And.intro rfl ?_)))
          rw [show chk k nm w h d n = named nm by rw [hk]; rfl]; kernel_rfl
        · refine Exists.intro false (And.intro (decide_eq_false (hk)) ?_)
          have n4 := hk; clear hk
          repeat (refine Exists.intro _ (Exists.intro _ (And.intro rfl ?_)))
          by_cases hk : k = 5
          · refine Exists.intro true (And.intro (decide_eq_true (hk)) ?_)
            repeat (refine Exists.intro _ (Exists.intro _ (And.intro rfl ?_)))
            refine Or.inl (Exists.intro _ (Exists.intro _ (Exists.intro _ (And.intro (dk11) (And.intro (known_op hdt (opV_at hn rfl) rfl) ?_)))))
            repeat (refine Exists.intro _ (Exists.intro _ (And.intro rfl ?_)))
            rw [show chk k nm w h d n = named nm by rw [hk]; rfl]; kernel_rfl
          · refine Exists.intro false (And.intro (decide_eq_false (hk)) ?_)
            have n5 := hk; clear hk
            repeat (refine Exists.intro _ (Exists.intro _ (And.intro rfl ?_)))
            by_cases hk : k = 6
            · refine Exists.intro true (And.intro (decide_eq_true (hk)) ?_)
              repeat (refine Exists.intro _ (Exists.intro _ (And.intro rfl ?_)))
              refine Or.inl (Exists.intro _ (Exists.intro _ (Exists.intro _ (And.intro (dk11) (And.intro (known_op hdt (opV_at hn rfl) rfl) ?_)))))
              repeat (refine Exists.intro _ (Exists.intro _ (And.intro rfl ?_)))
              rw [show chk k nm w h d n = named nm by rw [hk]; rfl]; kernel_rfl
            · refine Exists.intro false (And.intro (decide_eq_false (hk)) ?_)
              have n6 := hk; clear hk
              repeat (refine Exists.intro _ (Exists.intro _ (And.intro rfl ?_)))
              by_cases hk : k = 14
              · refine Exists.intro true (And.intro (decide_eq_true (hk)) ?_)
                repeat (refine Exists.intro _ (Exists.intro _ (And.intro rfl ?_)))
                refine Or.inl (Exists.intro _ (Exists.intro _ (Exists.intro _ (And.intro (dk11) (And.intro (known_op hdt (opV_at hn rfl) rfl) ?_)))))
                repeat (refine Exists.intro _ (Exists.intro _ (And.intro rfl ?_)))
                rw [show chk k nm w h d n = named nm by rw [hk]; rfl]; kernel_rfl
              · refine Exists.intro false (And.intro (decide_eq_false (hk)) ?_)
                have n14 := hk; clear hk
                repeat (refine Exists.intro _ (Exists.intro _ (And.intro rfl ?_)))
                by_cases hk : k = 7
                · refine Exists.intro true (And.intro (decide_eq_true (hk)) ?_)
                  repeat (refine Exists.intro _ (Exists.intro _ (And.intro rfl ?_)))
                  refine Or.inl (Exists.intro _ (Exists.intro _ (Exists.intro _ (And.intro (dk13) (And.intro (known_op hdt (opV_at hn rfl) rfl) ?_)))))
                  repeat (refine Exists.intro _ (Exists.intro _ (And.intro rfl ?_)))
                  rw [show chk k nm w h d n = dird d by rw [hk]; rfl]; kernel_rfl
                · refine Exists.intro false (And.intro (decide_eq_false (hk)) ?_)
                  have n7 := hk; clear hk
                  repeat (refine Exists.intro _ (Exists.intro _ (And.intro rfl ?_)))
                  by_cases hk : k = 11
                  · refine Exists.intro true (And.intro (decide_eq_true (hk)) ?_)
                    repeat (refine Exists.intro _ (Exists.intro _ (And.intro rfl ?_)))
                    refine Or.inl (Exists.intro _ (Exists.intro _ (Exists.intro _ (And.intro (dk13) (And.intro (known_op hdt (opV_at hn rfl) rfl) ?_)))))
                    repeat (refine Exists.intro _ (Exists.intro _ (And.intro rfl ?_)))
                    rw [show chk k nm w h d n = dird d by rw [hk]; rfl]; kernel_rfl
                  · refine Exists.intro false (And.intro (decide_eq_false (hk)) ?_)
                    have n11 := hk; clear hk
                    repeat (refine Exists.intro _ (Exists.intro _ (And.intro rfl ?_)))
                    by_cases hk : k = 8
                    · refine Exists.intro true (And.intro (decide_eq_true (hk)) ?_)
                      repeat (refine Exists.intro _ (Exists.intro _ (And.intro rfl ?_)))
                      rw [show chk k nm w h d n = 0 by rw [hk]; rfl]; kernel_rfl
                    · refine Exists.intro false (And.intro (decide_eq_false (hk)) ?_)
                      have n8 := hk; clear hk
                      repeat (refine Exists.intro _ (Exists.intro _ (And.intro rfl ?_)))
                      by_cases hk : k = 9
                      · refine Exists.intro true (And.intro (decide_eq_true (hk)) ?_)
                        repeat (refine Exists.intro _ (Exists.intro _ (And.intro rfl ?_)))
                        rw [show chk k nm w h d n = 0 by rw [hk]; rfl]; kernel_rfl
                      · refine Exists.intro false (And.intro (decide_eq_false (hk)) ?_)
                        have n9 := hk; clear hk
                        repeat (refine Exists.intro _ (Exists.intro _ (And.intro rfl ?_)))
                        by_cases hk : k = 10
                        · refine Exists.intro true (And.intro (decide_eq_true (hk)) ?_)
                          repeat (refine Exists.intro _ (Exists.intro _ (And.intro rfl ?_)))
                          rw [show chk k nm w h d n = 0 by rw [hk]; rfl]; kernel_rfl
                        · refine Exists.intro false (And.intro (decide_eq_false (hk)) ?_)
                          have n10 := hk; clear hk
                          repeat (refine Exists.intro _ (Exists.intro _ (And.intro rfl ?_)))
                          by_cases hk : k = 12
                          · refine Exists.intro true (And.intro (decide_eq_true (hk)) ?_)
                            repeat (refine Exists.intro _ (Exists.intro _ (And.intro rfl ?_)))
                            refine Or.inl (Exists.intro _ (Exists.intro _ (Exists.intro _ (And.intro (dk12) (And.intro (known_op hdt (opV_at hn rfl) rfl) ?_)))))
                            repeat (refine Exists.intro _ (Exists.intro _ (And.intro rfl ?_)))
                            rw [show chk k nm w h d n = sized w h by rw [hk]; rfl]; kernel_rfl
                          · refine Exists.intro false (And.intro (decide_eq_false (hk)) ?_)
                            have n12 := hk; clear hk
                            repeat (refine Exists.intro _ (Exists.intro _ (And.intro rfl ?_)))
                            by_cases hk : k = 13
                            · refine Exists.intro true (And.intro (decide_eq_true (hk)) ?_)
                              repeat (refine Exists.intro _ (Exists.intro _ (And.intro rfl ?_)))
                              rcases hdt with ⟨rfl, rfl⟩ | ⟨els, rfl⟩
                              · repeat (first | refine Exists.intro _ (Exists.intro _ (And.intro rfl ?_)) | refine Exists.intro true (And.intro rfl ?_) | refine Exists.intro false (And.intro rfl ?_))
                                rw [show chk k nm w h d 0 = 0 by rw [hk]; rfl]; kernel_rfl
                              · repeat (refine Exists.intro _ (Exists.intro _ (And.intro rfl ?_)))
                                by_cases hl : (1000 : Int) < n
                                · refine Exists.intro true (And.intro (decide_eq_true (hl)) ?_)
                                  repeat (refine Exists.intro _ (Exists.intro _ (And.intro rfl ?_)))
                                  rw [show chk k nm w h d n = 5 by rw [hk]; exact if_pos (c := 1000 < n) (by omega)]; kernel_rfl
                                · refine Exists.intro false (And.intro (decide_eq_false (hl)) ?_)
                                  repeat (refine Exists.intro _ (Exists.intro _ (And.intro rfl ?_)))
                                  rw [show chk k nm w h d n = 0 by rw [hk]; exact if_neg (c := 1000 < n) (by omega)]; kernel_rfl
                            · refine Exists.intro false (And.intro (decide_eq_false (hk)) ?_)
                              have n13 := hk; clear hk
                              repeat (refine Exists.intro _ (Exists.intro _ (And.intro rfl ?_)))
                              rw [show chk k nm w h d n = 1 by simp only [chk, n1, n3, n2, n4, n5, n6, n14, n7, n11, n8, n9, n10, n12, n13, if_false]]; kernel_rfl
theorem ref_check_deep (hn : nm.size ≤ 9223372036854775807) (n : Nat) (hdt : dt = .slice none 0 0 ∧ n = 0 ∨ ∃ els, dt = fzs n els) : DeepOk env2.P 10 [opV k nm wi pa ot w h d fk fb dt] (.int .i64 (chk k nm w h d n)) [] := by
  refine deep_of_wpP made2.ok made2.coded (d := 5) noGlob2 fn10' rfl rfl (fl := []) ?_
  repeat (refine Exists.intro _ (Exists.intro _ (And.intro rfl ?_)))
  by_cases hk : k = 1
  · refine Exists.intro true (And.intro (decide_eq_true (hk)) ?_)
    repeat (refine Exists.intro _ (Exists.intro _ (And.intro rfl ?_)))
    cases hb : nameB nm with
    | false =>
      refine Or.inl (Exists.intro _ (Exists.intro _ (Exists.intro _ (And.intro (dk9') (And.intro (known_at rfl (fun _ _ => rfl) ((nameK_at hn).trans (by rw [hb])) rfl) ?_)))))
      repeat (refine Exists.intro _ (Exists.intro _ (And.intro rfl ?_)))
      rw [show chk k nm w h d n = 2 by rw [hk]; exact if_neg (c := nameB nm = true) (by rw [hb]; simp)]; kernel_rfl
    | true =>
      refine Or.inl (Exists.intro _ (Exists.intro _ (Exists.intro _ (And.intro (dk9') (And.intro (known_at rfl (fun _ _ => rfl) ((nameK_at hn).trans (by rw [hb])) rfl) ?_)))))
      repeat (refine Exists.intro _ (Exists.intro _ (And.intro rfl ?_)))
      refine Exists.intro true (And.intro (decide_eq_true (hk)) ?_)
      repeat (refine Exists.intro _ (Exists.intro _ (And.intro rfl ?_)))
      by_cases hz : sized w h = 0
      · refine Or.inl (Exists.intro _ (Exists.intro _ (Exists.intro _ (And.intro (dk14) (And.intro (known_op hdt (opV_at hn (show sizedK _ = some (.bool true) by show some (Value.bool (decide _)) = _; rw [decide_eq_true hz])) rfl) ?_)))))
        repeat (refine Exists.intro _ (Exists.intro _ (And.intro rfl ?_)))
        rw [show chk k nm w h d n = 0 by rw [hk]; exact (if_pos hb).trans hz]; kernel_rfl
      · refine Or.inl (Exists.intro _ (Exists.intro _ (Exists.intro _ (And.intro (dk14) (And.intro (known_op hdt (opV_at hn (show sizedK _ = some (.bool false) by show some (Value.bool (decide _)) = _; rw [decide_eq_false hz])) rfl) ?_)))))
        repeat (refine Exists.intro _ (Exists.intro _ (And.intro rfl ?_)))
        rw [show chk k nm w h d n = 3 by rw [hk]; exact (if_pos hb).trans (sized_not hz)]; kernel_rfl
  · refine Exists.intro false (And.intro (decide_eq_false (hk)) ?_)
    have n1 := hk; clear hk
    repeat (refine Exists.intro _ (Exists.intro _ (And.intro rfl ?_)))
    by_cases hk : k = 3
    · refine Exists.intro true (And.intro (decide_eq_true (hk)) ?_)
      repeat (refine Exists.intro _ (Exists.intro _ (And.intro rfl ?_)))
      cases hb : nameB nm with
      | false =>
        refine Or.inl (Exists.intro _ (Exists.intro _ (Exists.intro _ (And.intro (dk9') (And.intro (known_at rfl (fun _ _ => rfl) ((nameK_at hn).trans (by rw [hb])) rfl) ?_)))))
        repeat (refine Exists.intro _ (Exists.intro _ (And.intro rfl ?_)))
        rw [show chk k nm w h d n = 2 by rw [hk]; exact if_neg (c := nameB nm = true) (by rw [hb]; simp)]; kernel_rfl
      | true =>
        refine Or.inl (Exists.intro _ (Exists.intro _ (Exists.intro _ (And.intro (dk9') (And.intro (known_at rfl (fun _ _ => rfl) ((nameK_at hn).trans (by rw [hb])) rfl) ?_)))))
        repeat (refine Exists.intro _ (Exists.intro _ (And.intro rfl ?_)))
        refine Exists.intro false (And.intro (decide_eq_false (by omega)) ?_)
        repeat (refine Exists.intro _ (Exists.intro _ (And.intro rfl ?_)))
        refine Exists.intro true (And.intro (decide_eq_true (hk)) ?_)
        repeat (refine Exists.intro _ (Exists.intro _ (And.intro rfl ?_)))
        by_cases hz : sized w h = 0
        · refine Or.inl (Exists.intro _ (Exists.intro _ (Exists.intro _ (And.intro (dk14) (And.intro (known_op hdt (opV_at hn (show sizedK _ = some (.bool true) by show some (Value.bool (decide _)) = _; rw [decide_eq_true hz])) rfl) ?_)))))
          repeat (refine Exists.intro _ (Exists.intro _ (And.intro rfl ?_)))
          rw [show chk k nm w h d n = 0 by rw [hk]; exact (if_pos hb).trans hz]; kernel_rfl
        · refine Or.inl (Exists.intro _ (Exists.intro _ (Exists.intro _ (And.intro (dk14) (And.intro (known_op hdt (opV_at hn (show sizedK _ = some (.bool false) by show some (Value.bool (decide _)) = _; rw [decide_eq_false hz])) rfl) ?_)))))
          repeat (refine Exists.intro _ (Exists.intro _ (And.intro rfl ?_)))
          rw [show chk k nm w h d n = 3 by rw [hk]; exact (if_pos hb).trans (sized_not hz)]; kernel_rfl
    · refine Exists.intro false (And.intro (decide_eq_false (hk)) ?_)
      have n3 := hk; clear hk
      repeat (refine Exists.intro _ (Exists.intro _ (And.intro rfl ?_)))
      by_cases hk : k = 2
      · refine Exists.intro true (And.intro (decide_eq_true (hk)) ?_)
        repeat (refine Exists.intro _ (Exists.intro _ (And.intro rfl ?_)))
        cases hb : nameB nm with
        | false =>
          refine Or.inl (Exists.intro _ (Exists.intro _ (Exists.intro _ (And.intro (dk9') (And.intro (known_at rfl (fun _ _ => rfl) ((nameK_at hn).trans (by rw [hb])) rfl) ?_)))))
          repeat (refine Exists.intro _ (Exists.intro _ (And.intro rfl ?_)))
          rw [show chk k nm w h d n = 2 by rw [hk]; exact if_neg (c := nameB nm = true) (by rw [hb]; simp)]; kernel_rfl
        | true =>
          refine Or.inl (Exists.intro _ (Exists.intro _ (Exists.intro _ (And.intro (dk9') (And.intro (known_at rfl (fun _ _ => rfl) ((nameK_at hn).trans (by rw [hb])) rfl) ?_)))))
          repeat (refine Exists.intro _ (Exists.intro _ (And.intro rfl ?_)))
          refine Exists.intro false (And.intro (decide_eq_false (by omega)) ?_)
          repeat (refine Exists.intro _ (Exists.intro _ (And.intro rfl ?_)))
          refine Exists.intro false (And.intro (decide_eq_false (by omega)) ?_)
          repeat (refine Exists.intro _ (Exists.intro _ (And.intro rfl ?_)))
          rw [show chk k nm w h d n = 0 by rw [hk]; exact if_pos hb]; kernel_rfl
      · refine Exists.intro false (And.intro (decide_eq_false (hk)) ?_)
        have n2 := hk; clear hk
        repeat (refine Exists.intro _ (Exists.intro _ (And.intro rfl ?_)))
        by_cases hk : k = 14
        · refine Exists.intro true (And.intro (decide_eq_true (hk)) ?_)
          repeat (refine Exists.intro _ (Exists.intro _ (And.intro rfl ?_)))
          cases hb : nameB nm with
          | false =>
            refine Or.inl (Exists.intro _ (Exists.intro _ (Exists.intro _ (And.intro (dk9') (And.intro (known_at rfl (fun _ _ => rfl) ((nameK_at hn).trans (by rw [hb])) rfl) ?_)))))
            repeat (refine Exists.intro _ (Exists.intro _ (And.intro rfl ?_)))
            rw [show chk k nm w h d n = 2 by rw [hk]; exact if_neg (c := nameB nm = true) (by rw [hb]; simp)]; kernel_rfl
          | true =>
            refine Or.inl (Exists.intro _ (Exists.intro _ (Exists.intro _ (And.intro (dk9') (And.intro (known_at rfl (fun _ _ => rfl) ((nameK_at hn).trans (by rw [hb])) rfl) ?_)))))
            repeat (refine Exists.intro _ (Exists.intro _ (And.intro rfl ?_)))
            refine Exists.intro false (And.intro (decide_eq_false (by omega)) ?_)
            repeat (refine Exists.intro _ (Exists.intro _ (And.intro rfl ?_)))
            refine Exists.intro false (And.intro (decide_eq_false (by omega)) ?_)
            repeat (refine Exists.intro _ (Exists.intro _ (And.intro rfl ?_)))
            rw [show chk k nm w h d n = 0 by rw [hk]; exact if_pos hb]; kernel_rfl
        · refine Exists.intro false (And.intro (decide_eq_false (hk)) ?_)
          have n14 := hk; clear hk
          repeat (refine Exists.intro _ (Exists.intro _ (And.intro rfl ?_)))
          by_cases hk : k = 4
          · refine Exists.intro true (And.intro (decide_eq_true (hk)) ?_)
            repeat (refine Exists.intro _ (Exists.intro _ (And.intro rfl ?_)))
            cases hb : nameB nm with
            | false =>
              refine Or.inl (Exists.intro _ (Exists.intro _ (Exists.intro _ (And.intro (dk9') (And.intro (known_at rfl (fun _ _ => rfl) ((nameK_at hn).trans (by rw [hb])) rfl) ?_)))))
              repeat (refine Exists.intro _ (Exists.intro _ (And.intro rfl ?_)))
              rw [show chk k nm w h d n = 2 by rw [hk]; exact if_neg (c := nameB nm = true) (by rw [hb]; simp)]; kernel_rfl
            | true =>
              refine Or.inl (Exists.intro _ (Exists.intro _ (Exists.intro _ (And.intro (dk9') (And.intro (known_at rfl (fun _ _ => rfl) ((nameK_at hn).trans (by rw [hb])) rfl) ?_)))))
              repeat (refine Exists.intro _ (Exists.intro _ (And.intro rfl ?_)))
              refine Exists.intro false (And.intro (decide_eq_false (by omega)) ?_)
              repeat (refine Exists.intro _ (Exists.intro _ (And.intro rfl ?_)))
              refine Exists.intro false (And.intro (decide_eq_false (by omega)) ?_)
              repeat (refine Exists.intro _ (Exists.intro _ (And.intro rfl ?_)))
              rw [show chk k nm w h d n = 0 by rw [hk]; exact if_pos hb]; kernel_rfl
          · refine Exists.intro false (And.intro (decide_eq_false (hk)) ?_)
            have n4 := hk; clear hk
            repeat (refine Exists.intro _ (Exists.intro _ (And.intro rfl ?_)))
            by_cases hk : k = 5
            · refine Exists.intro true (And.intro (decide_eq_true (hk)) ?_)
              repeat (refine Exists.intro _ (Exists.intro _ (And.intro rfl ?_)))
              cases hb : nameB nm with
              | false =>
                refine Or.inl (Exists.intro _ (Exists.intro _ (Exists.intro _ (And.intro (dk9') (And.intro (known_at rfl (fun _ _ => rfl) ((nameK_at hn).trans (by rw [hb])) rfl) ?_)))))
                repeat (refine Exists.intro _ (Exists.intro _ (And.intro rfl ?_)))
                rw [show chk k nm w h d n = 2 by rw [hk]; exact if_neg (c := nameB nm = true) (by rw [hb]; simp)]; kernel_rfl
              | true =>
                refine Or.inl (Exists.intro _ (Exists.intro _ (Exists.intro _ (And.intro (dk9') (And.intro (known_at rfl (fun _ _ => rfl) ((nameK_at hn).trans (by rw [hb])) rfl) ?_)))))
                repeat (refine Exists.intro _ (Exists.intro _ (And.intro rfl ?_)))
                refine Exists.intro false (And.intro (decide_eq_false (by omega)) ?_)
                repeat (refine Exists.intro _ (Exists.intro _ (And.intro rfl ?_)))
                refine Exists.intro false (And.intro (decide_eq_false (by omega)) ?_)
                repeat (refine Exists.intro _ (Exists.intro _ (And.intro rfl ?_)))
                rw [show chk k nm w h d n = 0 by rw [hk]; exact if_pos hb]; kernel_rfl
            · refine Exists.intro false (And.intro (decide_eq_false (hk)) ?_)
              have n5 := hk; clear hk
              repeat (refine Exists.intro _ (Exists.intro _ (And.intro rfl ?_)))
              by_cases hk : k = 6
              · refine Exists.intro true (And.intro (decide_eq_true (hk)) ?_)
                repeat (refine Exists.intro _ (Exists.intro _ (And.intro rfl ?_)))
                cases hb : nameB nm with
                | false =>
                  refine Or.inl (Exists.intro _ (Exists.intro _ (Exists.intro _ (And.intro (dk9') (And.intro (known_at rfl (fun _ _ => rfl) ((nameK_at hn).trans (by rw [hb])) rfl) ?_)))))
                  repeat (refine Exists.intro _ (Exists.intro _ (And.intro rfl ?_)))
                  rw [show chk k nm w h d n = 2 by rw [hk]; exact if_neg (c := nameB nm = true) (by rw [hb]; simp)]; kernel_rfl
                | true =>
                  refine Or.inl (Exists.intro _ (Exists.intro _ (Exists.intro _ (And.intro (dk9') (And.intro (known_at rfl (fun _ _ => rfl) ((nameK_at hn).trans (by rw [hb])) rfl) ?_)))))
                  repeat (refine Exists.intro _ (Exists.intro _ (And.intro rfl ?_)))
                  refine Exists.intro false (And.intro (decide_eq_false (by omega)) ?_)
                  repeat (refine Exists.intro _ (Exists.intro _ (And.intro rfl ?_)))
                  refine Exists.intro false (And.intro (decide_eq_false (by omega)) ?_)
                  repeat (refine Exists.intro _ (Exists.intro _ (And.intro rfl ?_)))
                  rw [show chk k nm w h d n = 0 by rw [hk]; exact if_pos hb]; kernel_rfl
              · refine Exists.intro false (And.intro (decide_eq_false (hk)) ?_)
                have n6 := hk; clear hk
                repeat (refine Exists.intro _ (Exists.intro _ (And.intro rfl ?_)))
                by_cases hk : k = 7
                · refine Exists.intro true (And.intro (decide_eq_true (hk)) ?_)
                  repeat (refine Exists.intro _ (Exists.intro _ (And.intro rfl ?_)))
                  by_cases hd1 : d = 1
                  · refine Exists.intro true (And.intro (decide_eq_true (hd1)) ?_)
                    repeat (refine Exists.intro _ (Exists.intro _ (And.intro rfl ?_)))
                    rw [show chk k nm w h d n = 0 by rw [hk]; exact if_pos (Or.inl hd1)]; kernel_rfl
                  · refine Exists.intro false (And.intro (decide_eq_false (hd1)) ?_)
                    repeat (refine Exists.intro _ (Exists.intro _ (And.intro rfl ?_)))
                    by_cases hd2 : d = 2
                    · refine Exists.intro true (And.intro (decide_eq_true (hd2)) ?_)
                      repeat (refine Exists.intro _ (Exists.intro _ (And.intro rfl ?_)))
                      rw [show chk k nm w h d n = 0 by rw [hk]; exact if_pos (Or.inr hd2)]; kernel_rfl
                    · refine Exists.intro false (And.intro (decide_eq_false (hd2)) ?_)
                      repeat (refine Exists.intro _ (Exists.intro _ (And.intro rfl ?_)))
                      rw [show chk k nm w h d n = 4 by rw [hk]; exact if_neg (c := d = 1 ∨ d = 2) (by omega)]; kernel_rfl
                · refine Exists.intro false (And.intro (decide_eq_false (hk)) ?_)
                  have n7 := hk; clear hk
                  repeat (refine Exists.intro _ (Exists.intro _ (And.intro rfl ?_)))
                  by_cases hk : k = 11
                  · refine Exists.intro true (And.intro (decide_eq_true (hk)) ?_)
                    repeat (refine Exists.intro _ (Exists.intro _ (And.intro rfl ?_)))
                    by_cases hd1 : d = 1
                    · refine Exists.intro true (And.intro (decide_eq_true (hd1)) ?_)
                      repeat (refine Exists.intro _ (Exists.intro _ (And.intro rfl ?_)))
                      rw [show chk k nm w h d n = 0 by rw [hk]; exact if_pos (Or.inl hd1)]; kernel_rfl
                    · refine Exists.intro false (And.intro (decide_eq_false (hd1)) ?_)
                      repeat (refine Exists.intro _ (Exists.intro _ (And.intro rfl ?_)))
                      by_cases hd2 : d = 2
                      · refine Exists.intro true (And.intro (decide_eq_true (hd2)) ?_)
                        repeat (refine Exists.intro _ (Exists.intro _ (And.intro rfl ?_)))
                        rw [show chk k nm w h d n = 0 by rw [hk]; exact if_pos (Or.inr hd2)]; kernel_rfl
                      · refine Exists.intro false (And.intro (decide_eq_false (hd2)) ?_)
                        repeat (refine Exists.intro _ (Exists.intro _ (And.intro rfl ?_)))
                        rw [show chk k nm w h d n = 4 by rw [hk]; exact if_neg (c := d = 1 ∨ d = 2) (by omega)]; kernel_rfl
                  · refine Exists.intro false (And.intro (decide_eq_false (hk)) ?_)
                    have n11 := hk; clear hk
                    repeat (refine Exists.intro _ (Exists.intro _ (And.intro rfl ?_)))
                    by_cases hk : k = 12
                    · refine Exists.intro true (And.intro (decide_eq_true (hk)) ?_)
                      repeat (refine Exists.intro _ (Exists.intro _ (And.intro rfl ?_)))
                      by_cases hz : sized w h = 0
                      · refine Or.inl (Exists.intro _ (Exists.intro _ (Exists.intro _ (And.intro (dk14) (And.intro (known_op hdt (opV_at hn (show sizedK _ = some (.bool true) by show some (Value.bool (decide _)) = _; rw [decide_eq_true hz])) rfl) ?_)))))
                        repeat (refine Exists.intro _ (Exists.intro _ (And.intro rfl ?_)))
                        rw [show chk k nm w h d n = 0 by rw [hk]; exact hz]; kernel_rfl
                      · refine Or.inl (Exists.intro _ (Exists.intro _ (Exists.intro _ (And.intro (dk14) (And.intro (known_op hdt (opV_at hn (show sizedK _ = some (.bool false) by show some (Value.bool (decide _)) = _; rw [decide_eq_false hz])) rfl) ?_)))))
                        repeat (refine Exists.intro _ (Exists.intro _ (And.intro rfl ?_)))
                        rw [show chk k nm w h d n = 3 by rw [hk]; exact sized_not hz]; kernel_rfl
                    · refine Exists.intro false (And.intro (decide_eq_false (hk)) ?_)
                      have n12 := hk; clear hk
                      repeat (refine Exists.intro _ (Exists.intro _ (And.intro rfl ?_)))
                      by_cases hk : k = 13
                      · refine Exists.intro true (And.intro (decide_eq_true (hk)) ?_)
                        repeat (refine Exists.intro _ (Exists.intro _ (And.intro rfl ?_)))
                        rcases hdt with ⟨rfl, rfl⟩ | ⟨els, rfl⟩
                        · repeat (first | refine Exists.intro _ (Exists.intro _ (And.intro rfl ?_)) | refine Exists.intro true (And.intro rfl ?_) | refine Exists.intro false (And.intro rfl ?_))
                          rw [show chk k nm w h d 0 = 0 by rw [hk]; rfl]; kernel_rfl
                        · repeat (refine Exists.intro _ (Exists.intro _ (And.intro rfl ?_)))
                          by_cases hl : (1000 : Int) < n
                          · refine Exists.intro true (And.intro (decide_eq_true (hl)) ?_)
                            repeat (refine Exists.intro _ (Exists.intro _ (And.intro rfl ?_)))
                            rw [show chk k nm w h d n = 5 by rw [hk]; exact if_pos (c := 1000 < n) (by omega)]; kernel_rfl
                          · refine Exists.intro false (And.intro (decide_eq_false (hl)) ?_)
                            repeat (refine Exists.intro _ (Exists.intro _ (And.intro rfl ?_)))
                            rw [show chk k nm w h d n = 0 by rw [hk]; exact if_neg (c := 1000 < n) (by omega)]; kernel_rfl
                      · refine Exists.intro false (And.intro (decide_eq_false (hk)) ?_)
                        have n13 := hk; clear hk
                        repeat (refine Exists.intro _ (Exists.intro _ (And.intro rfl ?_)))
                        by_cases hk : k = 8
                        · refine Exists.intro true (And.intro (decide_eq_true (hk)) ?_)
                          repeat (refine Exists.intro _ (Exists.intro _ (And.intro rfl ?_)))
                          rw [show chk k nm w h d n = 0 by rw [hk]; rfl]; kernel_rfl
                        · refine Exists.intro false (And.intro (decide_eq_false (hk)) ?_)
                          have n8 := hk; clear hk
                          repeat (refine Exists.intro _ (Exists.intro _ (And.intro rfl ?_)))
                          by_cases hk : k = 9
                          · refine Exists.intro true (And.intro (decide_eq_true (hk)) ?_)
                            repeat (refine Exists.intro _ (Exists.intro _ (And.intro rfl ?_)))
                            rw [show chk k nm w h d n = 0 by rw [hk]; rfl]; kernel_rfl
                          · refine Exists.intro false (And.intro (decide_eq_false (hk)) ?_)
                            have n9 := hk; clear hk
                            repeat (refine Exists.intro _ (Exists.intro _ (And.intro rfl ?_)))
                            by_cases hk : k = 10
                            · refine Exists.intro true (And.intro (decide_eq_true (hk)) ?_)
                              repeat (refine Exists.intro _ (Exists.intro _ (And.intro rfl ?_)))
                              rw [show chk k nm w h d n = 0 by rw [hk]; rfl]; kernel_rfl
                            · refine Exists.intro false (And.intro (decide_eq_false (hk)) ?_)
                              have n10 := hk; clear hk
                              repeat (refine Exists.intro _ (Exists.intro _ (And.intro rfl ?_)))
                              rw [show chk k nm w h d n = 1 by simp only [chk, n1, n3, n2, n14, n4, n5, n6, n7, n11, n12, n13, n8, n9, n10, if_false]]; kernel_rfl
end
end Go.Proofs.Ytoloiegahmehkaa.Oo
