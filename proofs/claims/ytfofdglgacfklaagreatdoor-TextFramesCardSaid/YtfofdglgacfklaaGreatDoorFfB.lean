/-
  What strconv.Itoa, and the law's own, answer at 1 to 16; the Env of the cases.
-/
import Derived.Test.YtfofdglgacfklaaGreatDoorFfA
import Derived.Test.YtfofdglgacfklaaGreatDoorTfW
import Derived.Test.YtfofdglgacfklaaGreatDoorFmG
namespace Go.Proofs.YtfofdglgacfklaaGreatDoor.Cl
open Go Go.Cm Go.Cm.Tx
theorem i1 : deepRunC env0 1000 100 2 [] 12 [.int .i64 (.ofNat 1)] = some (.string ⟨⟨[49]⟩⟩, []) := by kernel_rfl
theorem n1 : deepRunC env0 1000 100 2 [] 4 [.int .i64 (.ofNat 1)] = some (.string ⟨⟨[49]⟩⟩, []) := by kernel_rfl
theorem i2 : deepRunC env0 1000 100 2 [] 12 [.int .i64 (.ofNat 2)] = some (.string ⟨⟨[50]⟩⟩, []) := by kernel_rfl
theorem n2 : deepRunC env0 1000 100 2 [] 4 [.int .i64 (.ofNat 2)] = some (.string ⟨⟨[50]⟩⟩, []) := by kernel_rfl
theorem i3 : deepRunC env0 1000 100 2 [] 12 [.int .i64 (.ofNat 3)] = some (.string ⟨⟨[51]⟩⟩, []) := by kernel_rfl
theorem n3 : deepRunC env0 1000 100 2 [] 4 [.int .i64 (.ofNat 3)] = some (.string ⟨⟨[51]⟩⟩, []) := by kernel_rfl
theorem i4 : deepRunC env0 1000 100 2 [] 12 [.int .i64 (.ofNat 4)] = some (.string ⟨⟨[52]⟩⟩, []) := by kernel_rfl
theorem n4 : deepRunC env0 1000 100 2 [] 4 [.int .i64 (.ofNat 4)] = some (.string ⟨⟨[52]⟩⟩, []) := by kernel_rfl
theorem i5 : deepRunC env0 1000 100 2 [] 12 [.int .i64 (.ofNat 5)] = some (.string ⟨⟨[53]⟩⟩, []) := by kernel_rfl
theorem n5 : deepRunC env0 1000 100 2 [] 4 [.int .i64 (.ofNat 5)] = some (.string ⟨⟨[53]⟩⟩, []) := by kernel_rfl
theorem i6 : deepRunC env0 1000 100 2 [] 12 [.int .i64 (.ofNat 6)] = some (.string ⟨⟨[54]⟩⟩, []) := by kernel_rfl
theorem n6 : deepRunC env0 1000 100 2 [] 4 [.int .i64 (.ofNat 6)] = some (.string ⟨⟨[54]⟩⟩, []) := by kernel_rfl
theorem i7 : deepRunC env0 1000 100 2 [] 12 [.int .i64 (.ofNat 7)] = some (.string ⟨⟨[55]⟩⟩, []) := by kernel_rfl
theorem n7 : deepRunC env0 1000 100 2 [] 4 [.int .i64 (.ofNat 7)] = some (.string ⟨⟨[55]⟩⟩, []) := by kernel_rfl
theorem i8 : deepRunC env0 1000 100 2 [] 12 [.int .i64 (.ofNat 8)] = some (.string ⟨⟨[56]⟩⟩, []) := by kernel_rfl
theorem n8 : deepRunC env0 1000 100 2 [] 4 [.int .i64 (.ofNat 8)] = some (.string ⟨⟨[56]⟩⟩, []) := by kernel_rfl
theorem i9 : deepRunC env0 1000 100 2 [] 12 [.int .i64 (.ofNat 9)] = some (.string ⟨⟨[57]⟩⟩, []) := by kernel_rfl
theorem n9 : deepRunC env0 1000 100 2 [] 4 [.int .i64 (.ofNat 9)] = some (.string ⟨⟨[57]⟩⟩, []) := by kernel_rfl
theorem i10 : deepRunC env0 1000 100 2 [] 12 [.int .i64 (.ofNat 10)] = some (.string ⟨⟨[49, 48]⟩⟩, []) := by kernel_rfl
theorem n10 : deepRunC env0 1000 100 2 [] 4 [.int .i64 (.ofNat 10)] = some (.string ⟨⟨[49, 48]⟩⟩, []) := by kernel_rfl
theorem i11 : deepRunC env0 1000 100 2 [] 12 [.int .i64 (.ofNat 11)] = some (.string ⟨⟨[49, 49]⟩⟩, []) := by kernel_rfl
theorem n11 : deepRunC env0 1000 100 2 [] 4 [.int .i64 (.ofNat 11)] = some (.string ⟨⟨[49, 49]⟩⟩, []) := by kernel_rfl
theorem i12 : deepRunC env0 1000 100 2 [] 12 [.int .i64 (.ofNat 12)] = some (.string ⟨⟨[49, 50]⟩⟩, []) := by kernel_rfl
theorem n12 : deepRunC env0 1000 100 2 [] 4 [.int .i64 (.ofNat 12)] = some (.string ⟨⟨[49, 50]⟩⟩, []) := by kernel_rfl
theorem i13 : deepRunC env0 1000 100 2 [] 12 [.int .i64 (.ofNat 13)] = some (.string ⟨⟨[49, 51]⟩⟩, []) := by kernel_rfl
theorem n13 : deepRunC env0 1000 100 2 [] 4 [.int .i64 (.ofNat 13)] = some (.string ⟨⟨[49, 51]⟩⟩, []) := by kernel_rfl
theorem i14 : deepRunC env0 1000 100 2 [] 12 [.int .i64 (.ofNat 14)] = some (.string ⟨⟨[49, 52]⟩⟩, []) := by kernel_rfl
theorem n14 : deepRunC env0 1000 100 2 [] 4 [.int .i64 (.ofNat 14)] = some (.string ⟨⟨[49, 52]⟩⟩, []) := by kernel_rfl
theorem i15 : deepRunC env0 1000 100 2 [] 12 [.int .i64 (.ofNat 15)] = some (.string ⟨⟨[49, 53]⟩⟩, []) := by kernel_rfl
theorem n15 : deepRunC env0 1000 100 2 [] 4 [.int .i64 (.ofNat 15)] = some (.string ⟨⟨[49, 53]⟩⟩, []) := by kernel_rfl
theorem i16 : deepRunC env0 1000 100 2 [] 12 [.int .i64 (.ofNat 16)] = some (.string ⟨⟨[49, 54]⟩⟩, []) := by kernel_rfl
theorem n16 : deepRunC env0 1000 100 2 [] 4 [.int .i64 (.ofNat 16)] = some (.string ⟨⟨[49, 54]⟩⟩, []) := by kernel_rfl
theorem text_of (a e : Int) : dec (dig a e) 513 = (toString (e3V e)).toUTF8.data.toList := by
  have := dec_step (dig a e) (dig_zero a e) 0 513 (by omega)
  rw [Nat.zero_mul, Nat.zero_add, dec_zero, List.nil_append] at this
  rw [this]
  rfl
theorem deep_of {f : FuncId} {ds : List Value} {v : Value} (h : deepRunC env0 1000 100 2 [] f ds = some (v, [])) : DeepOk Tryz.prog f ds v [] :=
  deep_of_fast made0.ok made0.coded (fun _ h => blt_lt0 h) h
theorem known_i (a e : Int) (w : World) : Known Tryz.prog 12 #[.int .i64 (e3V e)] (.string ⟨⟨dec (dig a e) 513⟩⟩) w := by
  have hr := e3_range e
  rw [text_of]
  generalize e3V e = n at hr
  have k : ∀ (m : Nat) (l : List UInt8), deepRunC env0 1000 100 2 [] 12 [.int .i64 (.ofNat m)] = some (.string ⟨⟨l⟩⟩, []) → Known Tryz.prog 12 #[.int .i64 (.ofNat m)] (.string ⟨⟨l⟩⟩) w := fun m l h =>
    known_deep Tryz.func12 (by decide) rfl rfl (deep_of h) (fz := fun _ => none) (fun _ _ h => by cases h) (.cons _ _ _ _ (.plain _ rfl) .nil)
  have : n = 1 ∨ n = 2 ∨ n = 3 ∨ n = 4 ∨ n = 5 ∨ n = 6 ∨ n = 7 ∨ n = 8 ∨ n = 9 ∨ n = 10 ∨ n = 11 ∨ n = 12 ∨ n = 13 ∨ n = 14 ∨ n = 15 ∨ n = 16 := by omega
  rcases this with rfl | rfl | rfl | rfl | rfl | rfl | rfl | rfl | rfl | rfl | rfl | rfl | rfl | rfl | rfl | rfl
  · exact k 1 [49] i1
  · exact k 2 [50] i2
  · exact k 3 [51] i3
  · exact k 4 [52] i4
  · exact k 5 [53] i5
  · exact k 6 [54] i6
  · exact k 7 [55] i7
  · exact k 8 [56] i8
  · exact k 9 [57] i9
  · exact k 10 [49, 48] i10
  · exact k 11 [49, 49] i11
  · exact k 12 [49, 50] i12
  · exact k 13 [49, 51] i13
  · exact k 14 [49, 52] i14
  · exact k 15 [49, 53] i15
  · exact k 16 [49, 54] i16
theorem known_n (a e : Int) (w : World) : Known Tryz.prog 4 #[.int .i64 (e3V e)] (.string ⟨⟨dec (dig a e) 513⟩⟩) w := by
  have hr := e3_range e
  rw [text_of]
  generalize e3V e = n at hr
  have k : ∀ (m : Nat) (l : List UInt8), deepRunC env0 1000 100 2 [] 4 [.int .i64 (.ofNat m)] = some (.string ⟨⟨l⟩⟩, []) → Known Tryz.prog 4 #[.int .i64 (.ofNat m)] (.string ⟨⟨l⟩⟩) w := fun m l h =>
    known_deep Tryz.func4 (by decide) rfl rfl (deep_of h) (fz := fun _ => none) (fun _ _ h => by cases h) (.cons _ _ _ _ (.plain _ rfl) .nil)
  have : n = 1 ∨ n = 2 ∨ n = 3 ∨ n = 4 ∨ n = 5 ∨ n = 6 ∨ n = 7 ∨ n = 8 ∨ n = 9 ∨ n = 10 ∨ n = 11 ∨ n = 12 ∨ n = 13 ∨ n = 14 ∨ n = 15 ∨ n = 16 := by omega
  rcases this with rfl | rfl | rfl | rfl | rfl | rfl | rfl | rfl | rfl | rfl | rfl | rfl | rfl | rfl | rfl | rfl
  · exact k 1 [49] n1
  · exact k 2 [50] n2
  · exact k 3 [51] n3
  · exact k 4 [52] n4
  · exact k 5 [53] n5
  · exact k 6 [54] n6
  · exact k 7 [55] n7
  · exact k 8 [56] n8
  · exact k 9 [57] n9
  · exact k 10 [49, 48] n10
  · exact k 11 [49, 49] n11
  · exact k 12 [49, 50] n12
  · exact k 13 [49, 51] n13
  · exact k 14 [49, 52] n14
  · exact k 15 [49, 53] n15
  · exact k 16 [49, 54] n16
noncomputable def numE (args : List Value) : Option Value :=
  match args with
  | [x] => (Tx.num x).bind fun n => bif Nat.beq n 24 then some (tk 7 513) else none
  | _ => none
noncomputable def ktX (f : FuncId) : Option (List Value → Option Value) := bif Nat.beq f 21 then some same1 else bif Nat.beq f 12 then some numE else bif Nat.beq f 4 then some numE else none
theorem numE_ok {a e : Int} {μ : Mu} {f : FuncId} (hk : ∀ w, Known Tryz.prog f #[.int .i64 (e3V e)] (.string ⟨⟨dec (dig a e) 513⟩⟩) w) {args : List Value} {v : Value} {args' : Array Value} {w : World} (h : numE args = some v) (hsy : μ.sy = syX a e) (hv : VRels μ args args'.toList) : ∃ v', VRel μ v v' ∧ Known Tryz.prog f args' v' w := by
  unfold numE at h
  split at h
  · rename_i x
    rw [Option.bind_eq_some_iff] at h
    obtain ⟨n, hn, h⟩ := h
    cases hb : Nat.beq n 24 with
    | false => rw [hb] at h; cases h
    | true =>
      rw [hb, cond_true] at h
      injection h with h; subst h
      have := Nat.eq_of_beq_eq_true hb
      subst this
      obtain ⟨x', rfl, hx⟩ := args_one hv
      have hm := mean_of hn (hsy ▸ TokV.of hx (by
        rw [num_some hn]
        show (bif isTok (tok 24) then true else plain (tok 24)) = true
        rw [show isTok (tok 24) = true from Nat.ble_eq_true_of_le (tokN_le 24)]; rfl) : TokV (syX a e) x x')
      have hm : some (Value.int .i64 (e3V e)) = some x' := hm
      injection hm with hm; subst hm
      exact ⟨_, (hsy ▸ tk_str a e 513 : TokV μ.sy _ _).rel, hk w⟩
  · cases h
noncomputable def envX (a e : Int) : Env := { env1 with sy := syX a e, ask := askX, askC := convX uds.get, askLen := askLX uds.get, askB := askBX, askY := askYX, kt := ktX }
theorem ktX_ok (a e : Int) : ∀ f e' args v (μ : Mu) args' (w : World), (envX a e).kt f = some e' → e' args = some v → μ.sy = (envX a e).sy → (∀ b o, μ.fz b = some o → w.heap[b]? = some o) → VRels μ args args'.toList → ∃ v', VRel μ v v' ∧ Known (envX a e).P f args' v' w := by
  intro f e' args v μ args' w hf he hsy hz hv
  have hf : ktX f = some e' := hf
  unfold ktX at hf
  cases h1 : Nat.beq f 21 with
  | true =>
    rw [h1, cond_true] at hf
    have hk : env0.kt f = some e' := by show ktT f = some e'; unfold ktT; rw [h1, cond_true]; exact hf
    injection hf with hf; subst hf
    have := Nat.eq_of_beq_eq_true h1
    subst this
    unfold same1 at he
    split at he
    · injection he with he; subst he
      obtain ⟨x', rfl, hx⟩ := args_one hv
      exact ⟨x', hx, Or.inl ⟨w, escape x' w, Go.RowKit.Below.refl _ _⟩⟩
    · cases he
  | false =>
    rw [h1, cond_false] at hf
    cases h2 : Nat.beq f 12 with
    | true =>
      rw [h2, cond_true] at hf
      injection hf with hf; subst hf
      have := Nat.eq_of_beq_eq_true h2
      subst this
      exact numE_ok (known_i a e) he hsy hv
    | false =>
      rw [h2, cond_false] at hf
      cases h3 : Nat.beq f 4 with
      | true =>
        rw [h3, cond_true] at hf
        injection hf with hf; subst hf
        have := Nat.eq_of_beq_eq_true h3
        subst this
        exact numE_ok (known_n a e) he hsy hv
      | false => rw [h3] at hf; cases hf
section
variable (E : Env) (y : Nat → Value → Prop) (z : BinOp → Value → Value → Option Value) (c : TypeId → TypeId → Value → Option Value) (l : TypeId → Value → Option Value) (b : List Value → Option Value) (d : Value → Option (List Value)) (k : FuncId → Option (List Value → Option Value))
theorem operOk_x : operOk { E with sy := y, ask := z, askC := c, askLen := l, askB := b, askY := d, kt := k } = operOk E := by funext o; cases o <;> rfl
theorem opOk_x : opOk { E with sy := y, ask := z, askC := c, askLen := l, askB := b, askY := d, kt := k } = opOk E := by funext o; unfold opOk; rw [operOk_x]
theorem codeOk_x : ∀ q, codeOk { E with sy := y, ask := z, askC := c, askLen := l, askB := b, askY := d, kt := k } q = codeOk E q := by
  intro q
  induction q with
  | region id ops draw => unfold codeOk; rw [opOk_x]
  | seq a b iha ihb => unfold codeOk; rw [iha, ihb]
  | cond v a b iha ihb => unfold codeOk; rw [iha, ihb, operOk_x]
  | block id c ih => unfold codeOk; exact ih
  | loop c ih => unfold codeOk; exact ih
  | scope c ih => unfold codeOk; exact ih
  | _ => rfl
theorem goodAt_x (i : Nat) : goodAt { E with sy := y, ask := z, askC := c, askLen := l, askB := b, askY := d, kt := k } i = goodAt E i := by
  unfold goodAt
  simp only [codeOk_x]
theorem goodAll_x (mask n : Nat) : goodAll { E with sy := y, ask := z, askC := c, askLen := l, askB := b, askY := d, kt := k } mask n = goodAll E mask n := by
  unfold goodAll
  simp only [goodAt_x]
end
theorem goodX (a e : Int) : goodAll (envX a e) 0x3ffffffffffffffffffffffffffffffffffffffffffffffffffffffffffffffffff9ffff7ffffa3ff7ffffffdffffc Tryz.prog.funcs.size = true := (goodAll_x env1 (syX a e) askX (convX uds.get) (askLX uds.get) askBX askYX ktX 0x3ffffffffffffffffffffffffffffffffffffffffffffffffffffffffffffffffff9ffff7ffffa3ff7ffffffdffffc Tryz.prog.funcs.size).trans good1
set_option maxRecDepth 100000 in
theorem madeX (a e : Int) : (envX a e).Made 0x3ffffffffffffffffffffffffffffffffffffffffffffffffffffffffffffffffff9ffff7ffffa3ff7ffffffdffffc where
  und := rfl
  info := rfl
  fn := rfl
  good := goodX a e
  mixed := Tryz.checked.mixed
  sk := skT_ok
  ext := made1.ext
  dk := noDk _ rfl
  ask := fun op t xo yo x y v x' y' w h hx hy => askX_ok (E0 := env1) made1.ok h hx hy
  askLen := fun t ty x v x' w ts args h hx h0 h1 => askLX_ok (E0 := env1) made1.ok h hx h0 h1
  kt := ktX_ok a e
  askC := fun s d x v x' w h hx _ => convX_ok (E0 := env1) made1.ok h hx
  askS := noS
  askB := fun μ l l' v h hsy hv => askBX_ok h hsy hv
  askY := fun x x' l h hx => askYX_ok h hx
end Go.Proofs.YtfofdglgacfklaaGreatDoor.Cl
