/-
  OperTells: the tables of the law's body are right; the law, of whatever arguments.
-/
import Derived.Test.YtoloiegahmehkaaUOoT
namespace Go.Proofs.Ytoloiegahmehkaa.Oo
open Go Go.Cm Go.RowKit

theorem tokV_of {say : List (Value → Prop)} {i : Nat} {p : Value → Prop} {v' : Value} (h1 : say[i]? = some p) (h : TokV (sayAt say) (tok i) v') : p v' := by
  rcases h with ⟨hp, _⟩ | ⟨c, _, _, e, hs⟩
  · rw [tok_plain] at hp; cases hp
  · injection e with e; injection e with e
    subst e
    obtain ⟨q, g1, g2⟩ := sayAt_at hs
    rw [h1] at g1; injection g1 with g1; subst g1
    exact g2
theorem u8is : u8T env0 5 = some () := by kernel_rfl
theorem nil_text (w : World) : (convert 23 9 (.slice none 0 0)).run env0.P w = .ok (.string ⟨⟨[]⟩⟩) w := by
  unfold convert
  simp only [Sem.run_bind, made0.ok.run_und w und23, made0.ok.run_und w und9, Result.andThen_ok, u8_some made0.ok u8is]
  rfl
theorem part8 {l : List UInt8} (h : 8 < l.length) : sliceA env0 23 (fzs l.length (bytesC l)) none (some (.int .i64 8)) none = some (fzs 8 (bytesC (l.take 8))) := by
  obtain ⟨i5, hi5, hs5⟩ := info5
  have hb : boundsA l.length l.length none (some (.int .i64 8)) none = some (0, 8, l.length) := by
    unfold boundsA
    have h1 : boundA none l.length l.length = some l.length := rfl
    have h2 : boundA (some (.int .i64 8)) l.length l.length = some 8 := by
      unfold boundA
      have h0 : idx (.int .i64 8) = some 8 := rfl
      simp only [h0, Option.bind_some, Nat.ble_eq_true_of_le (show 8 ≤ l.length by omega), guardO, cond_true, Option.map_some]
    simp only [h1, h2, Option.bind_some, Option.isSome_none, cond_false, guardO, cond_true, Nat.ble_eq_true_of_le (show 8 ≤ l.length by omega)]
    rfl
  have hp : piece (bytesC l) (0 * i5.size) ((8 - 0) * i5.size) = some (bytesC (l.take 8)) := by
    rw [hs5]
    show (bif Nat.beq ((bytesC l).take 8).length 8 then some ((bytesC l).take 8) else none) = _
    have h1 : ((bytesC l).take 8).length = 8 := by rw [List.length_take, bytesC_len]; omega
    rw [h1]
    show some ((bytesC l).take 8) = _
    unfold bytesC
    rw [List.map_take]
  unfold sliceA
  have htk : isTok (fzs l.length (bytesC l)) = false := rfl
  have hfz : asFz (fzs l.length (bytesC l)) = some (0, l.length, bytesC l) := rfl
  simp only [htk, cond_false, und23, Option.bind_some, hi5, hfz]
  unfold sliceF
  simp only [hb, Option.bind_some, hp, Option.map_some, Nat.beq_refl, guardO, cond_true, Option.isSome_none, Bool.false_and, cond_false]

structure TT.Right (x : TT) : Prop where
  nm : x.o.nm.size ≤ 9223372036854775807
  len : x.l.length ≤ 9223372036854775807
  k1 : IntKind.i64.wrap ((BitVec.ofInt IntKind.i64.bits x.o.k &&& BitVec.ofInt IntKind.i64.bits 15).toNat : Int) = (x.k1 : Int)
  k1' : x.k1 < 16
  k3 : IntKind.i64.wrap ((BitVec.ofInt IntKind.i64.bits ((x.k1 : Int) + 1) &&& BitVec.ofInt IntKind.i64.bits 15).toNat : Int) = (x.k3 : Int)
  k3' : x.k3 < 16
  i : IntKind.i64.wrap ((BitVec.ofInt IntKind.i64.bits x.o.wi &&& BitVec.ofInt IntKind.i64.bits 3).toNat : Int) = (x.i : Int)
  sv : x.sv = .slice none 0 0 ∧ x.l = [] ∨ x.sv = fzs x.l.length (bytesC x.l)

theorem name4_size (i : Nat) : (name4 i).size ≤ 9223372036854775807 := by
  unfold name4
  split <;> decide
theorem strIs_eq {a : ByteArray} {v : Value} (h : strIs a v = true) : v = .string a := by
  unfold strIs at h
  split at h
  · rename_i b
    rw [bytesEqA_eq] at h
    simp only [beq_iff_eq] at h
    congr 1
    cases a; cases b
    congr 1
    exact (Array.ext' h).symm
  · cases h
theorem aggNm_eq {k : Value} {nm : ByteArray} {args : List Value} (h : aggNm k nm args = true) : args = [.agg ⟨opTokV k (.string nm) 2 3 4 5 6 7 8 9⟩] := by
  unfold aggNm at h
  split at h
  · rename_i a
    split at h
    · rename_i y z l hl
      simp only [Bool.and_eq_true] at h
      obtain ⟨h1, h2, h3⟩ := h
      have e1 := eqCell_eq h1
      have e2 := strIs_eq h2
      have e3 := eqCells_eq h3
      subst e1 e2 e3
      rw [show a = ⟨_⟩ from Array.ext' hl]
      rfl
    · cases h
  · cases h

theorem made5 (x : TT) (r : x.Right) {b b8 g1 g2 g3 g4 : Bool} (h1 : decide ((100 : Int) < (x.l.length : Nat)) = g1) (h2 : decide ((3000 : Int) < (x.n : Nat)) = g2) (h3 : decide ((100 : Int) < (x.o.nm.size : Nat)) = g3) (h4 : decide ((8 : Int) < (x.l.length : Nat)) = g4)
    (hb : nameB ⟨⟨x.l⟩⟩ = b) (hb8 : nameB ⟨⟨x.l.take 8⟩⟩ = b8) : (env5 x b b8 g1 g2 g3 g4).Made 0xfff8 where
  und := rfl
  info := rfl
  fn := rfl
  good := made0.good
  mixed := Try.checked.mixed
  ext := trueAt_ok (known_of Try.func6 (by decide) rfl awake)
  dk := fun _ _ _ _ _ h => by cases h
  ask := askU_ok made0.ok rfl (l := facts5 x.i g1 g2 g3 g4) (l2 := facts5') (say := x.say) (fun f hf p' x' hp' hx' => by
      have r1 := r.k1'
      have r3 := r.k3'
      simp only [facts5, List.mem_cons, List.not_mem_nil, or_false] at hf
      rcases hf with rfl | rfl | rfl | rfl | rfl | rfl | rfl | rfl | rfl | rfl | rfl | rfl <;> injection hp' with hp' <;> subst hp'
      · exact ⟨x.o.k, _, hx', .tok (i := 18) rfl rfl rfl, rfl, fun _ _ _ _ => binOp_and r.k1⟩
      · exact ⟨_, _, hx', .tok (i := 18) rfl rfl rfl, rfl, fun _ _ _ _ => binOp_and (and15 _ r1)⟩
      · exact ⟨_, _, hx', .tok (i := 18) rfl rfl rfl, rfl, fun _ _ _ _ => binOp_add (by rw [Int.add_zero]; exact wrap_i64 (by omega) (by omega))⟩
      · exact ⟨_, _, hx', .tok (i := 19) rfl rfl rfl, rfl, fun _ _ _ _ => binOp_add (b := 1) (wrap_i64 (by omega) (by omega))⟩
      · exact ⟨_, _, hx', .tok (i := 20) rfl rfl rfl, rfl, fun _ _ _ _ => binOp_and r.k3⟩
      · exact ⟨_, _, hx', .tok (i := 21) rfl rfl rfl, rfl, fun _ _ _ _ => binOp_add (b := 2) (wrap_i64 (by omega) (by omega))⟩
      · exact ⟨_, _, hx', .plain rfl, rfl, fun _ _ _ _ => binOp_and r.i⟩
      · exact ⟨_, _, hx', .plain rfl, rfl, fun _ _ _ _ => binOp_gtr h1⟩
      · exact ⟨_, _, hx', .plain rfl, rfl, fun _ _ _ _ => binOp_gtr h2⟩
      · exact ⟨_, _, hx', .plain rfl, rfl, fun _ _ _ _ => binOp_gtr h3⟩
      · exact ⟨_, _, hx', .plain rfl, rfl, fun _ _ _ _ => binOp_gtr h4⟩
      · exact ⟨_, _, hx', .plain rfl, rfl, fun _ _ _ _ => binOp_gtr rfl⟩)
    (fun f hf p q x' y' hp hx hq hy => by
      simp only [facts5', List.mem_cons, List.not_mem_nil, or_false] at hf
      rcases hf with rfl | rfl | rfl <;> injection hp with hp <;> subst hp <;> injection hq with hq <;> subst hq <;> exact ⟨_, _, hx, hy, rfl, fun _ _ _ _ => binOp_neq⟩)
  askLen := askL_ok made0.ok rfl (l := lens5) (say := x.say) (fun f hf => by
      simp only [lens5, List.mem_cons, List.not_mem_nil, or_false] at hf
      rcases hf with rfl | rfl | rfl | rfl
      · refine ⟨x.l.length, _, _, rfl, rfl, rfl, Or.inl ⟨⟨5, und23⟩, fun x' h => ?_⟩⟩
        rcases r.sv with ⟨e, e2⟩ | e
        · rw [e] at h
          have := h.rel (μ := ⟨fun _ => none, x.fz, fun _ _ => False⟩)
          exact Or.inl ⟨this.eq rfl, by rw [e2]; rfl⟩
        · rw [e] at h; exact (sl_cold h).1
      · exact ⟨8, _, _, rfl, rfl, rfl, Or.inl ⟨⟨5, und23⟩, fun x' h => (sl_cold h).1⟩⟩
      · exact ⟨x.n, _, _, rfl, rfl, rfl, Or.inl ⟨⟨5, und23⟩, fun _ h => h⟩⟩
      · exact ⟨x.o.nm.size, _, _, rfl, rfl, rfl, Or.inr ⟨und9, fun x' h => ⟨_, h, rfl⟩⟩⟩)
  askC := fun s d y v y' w hv hy hfz => by
    replace hv : conv5 g4 s d y = some v := hv
    unfold conv5 at hv
    cases hc : Nat.beq s 23 && Nat.beq d 9 with
    | false => rw [hc] at hv; cases hv
    | true =>
      rw [hc, cond_true] at hv
      rw [Bool.and_eq_true] at hc
      have es := Nat.eq_of_beq_eq_true hc.1
      have ed := Nat.eq_of_beq_eq_true hc.2
      subst es ed
      cases h10 : eqCell y (tok 10) with
      | true =>
        rw [h10, cond_true] at hv
        injection hv with hv; subst hv
        have := eqCell_eq h10; subst this
        have hp := tokV_of (say := x.say) (i := 10) rfl hy
        refine ⟨.string ⟨⟨x.l⟩⟩, ?_, .tok (i := 12) (say := x.say) rfl rfl rfl⟩
        rcases r.sv with ⟨e, e2⟩ | e
        · rw [e] at hp
          have := hp.rel (μ := ⟨fun _ => none, x.fz, fun _ _ => False⟩)
          have := this.eq rfl
          subst this
          rw [e2]
          exact nil_text w
        · rw [e] at hp
          exact text_cold made0.ok und23 und9 u8is hfz hp.rel
      | false =>
        rw [h10, cond_false] at hv
        cases h13 : g4 && eqCell y (tok 13) with
        | false => rw [h13] at hv; cases hv
        | true =>
          rw [h13, cond_true] at hv
          injection hv with hv; subst hv
          rw [Bool.and_eq_true] at h13
          have := eqCell_eq h13.2; subst this
          have hp := tokV_of (say := x.say) (i := 13) rfl hy
          refine ⟨.string ⟨⟨x.l.take 8⟩⟩, ?_, .tok (i := 14) (say := x.say) rfl rfl rfl⟩
          have hl : (x.l.take 8).length = 8 := by
            have := h4.trans h13.1
            simp only [decide_eq_true_eq] at this
            rw [List.length_take]; omega
          have hp' : Cold x.fz (fzs (x.l.take 8).length (bytesC (x.l.take 8))) y' := by rw [hl]; exact hp
          exact text_cold made0.ok und23 und9 u8is hfz hp'.rel
  askS := fun t y v y' lo hi mx w hv hy => by
    replace hv : part5 g4 t y lo hi mx = some v := hv
    unfold part5 at hv
    split at hv
    · split at hv
      · split at hv
        · rename_i hh
          cases hc : g4 && (Nat.beq t 23 && (eqCell y (tok 10) && eqCell hh (.int .i64 8))) with
          | false => rw [hc] at hv; cases hv
          | true =>
            rw [hc, cond_true] at hv
            injection hv with hv; subst hv
            simp only [Bool.and_eq_true] at hc
            obtain ⟨hg, ht, h10, h8⟩ := hc
            have := Nat.eq_of_beq_eq_true ht; subst this
            have := eqCell_eq h10; subst this
            have := eqCell_eq h8; subst this
            have hp := tokV_of (say := x.say) (i := 10) rfl hy
            have hl : 8 < x.l.length := by
              have := h4.trans hg
              simp only [decide_eq_true_eq] at this
              omega
            rcases r.sv with ⟨_, e2⟩ | e
            · rw [e2] at hl; simp at hl
            · rw [e] at hp
              obtain ⟨v', g1, g2⟩ := slice_cold made0.ok (w := w) (part8 hl) rfl rfl hp.rel rfl
              refine ⟨v', g1, .tok (i := 13) (say := x.say) rfl g2 (sl_cold g2).2⟩
        · cases hv
      · cases hv
    · cases hv
  kt := fun f e args v μ args' W he hv hsy hfz hrel => by
    have he' : kt5 x.i b b8 f = some e := he
    unfold kt5 at he'
    replace hsy : μ.sy = sayAt x.say := hsy
    have one : ∀ (i : Nat) (st : ByteArray) (bb : Bool), x.say[i]? = some (· = .string st) → st.size ≤ 9223372036854775807 → nameB st = bb → VRels μ [tok i] args'.toList → (Nat.beq f 8 || Nat.beq f 9) = true → Known Try.prog f args' (.bool bb) W := by
      intro i st bb hi hst hbb hr hf
      cases ha : args'.toList with
      | nil => rw [ha] at hr; cases hr
      | cons a l =>
        rw [ha] at hr
        cases hr with
        | cons _ _ _ _ h0 hl =>
          cases hl
          have := tok_of hsy hi h0
          change a = .string st at this
          subst this
          subst hbb
          rw [Bool.or_eq_true] at hf
          rcases hf with hf | hf
          · have := Nat.eq_of_beq_eq_true hf; subst this
            exact known_deep Try.func8 (by decide) rfl rfl (our_name st hst) hfz (by rw [ha]; exact .cons _ _ _ _ (.plain _ rfl) .nil)
          · have := Nat.eq_of_beq_eq_true hf; subst this
            exact known_deep Try.func9 (by decide) rfl rfl (ref_name st hst) hfz (by rw [ha]; exact .cons _ _ _ _ (.plain _ rfl) .nil)
    have chkd : ∀ (kv nv : Value) (k : Int) (nm : ByteArray), nm.size ≤ 9223372036854775807 → (∀ y, VRel μ kv y → y = .int .i64 k) → (∀ y, VRel μ nv y → y = .string nm) → VRels μ [.agg ⟨opTokV kv nv 2 3 4 5 6 7 8 9⟩] args'.toList → (Nat.beq f 7 || Nat.beq f 10) = true →
        Known Try.prog f args' (.int .i64 (chk k nm x.o.w x.o.h x.o.d x.n)) W := by
      intro kv nv k nm hn hk hnv hr hf
      rw [Bool.or_eq_true] at hf
      rcases hf with hf | hf
      · have := Nat.eq_of_beq_eq_true hf; subst this
        exact check_known2 (say := x.say) Try.func7 (by decide) rfl (fun k wi pa ot w h d nm fk fb dt hn n hdt => check_deep k wi pa ot w h d nm fk fb dt hn n hdt) hsy (i2 := 2) (i3 := 3) (i4 := 4) (i5 := 5) (i6 := 6) (i7 := 7) (i8 := 8) (i9 := 9) hn hk hnv rfl rfl rfl rfl rfl rfl rfl rfl hfz hr
      · have := Nat.eq_of_beq_eq_true hf; subst this
        exact check_known2 (say := x.say) Try.func10 (by decide) rfl (fun k wi pa ot w h d nm fk fb dt hn n hdt => ref_check_deep k wi pa ot w h d nm fk fb dt hn n hdt) hsy (i2 := 2) (i3 := 3) (i4 := 4) (i5 := 5) (i6 := 6) (i7 := 7) (i8 := 8) (i9 := 9) hn hk hnv rfl rfl rfl rfl rfl rfl rfl rfl hfz hr
    cases hf : Nat.beq f 8 || Nat.beq f 9 with
    | true =>
      rw [hf, cond_true] at he'
      injection he' with he'; subst he'
      simp only at hv
      split at hv
      · rename_i y
        cases h12 : eqCell y (tok 12) with
        | true =>
          rw [h12, cond_true] at hv
          injection hv with hv; subst hv
          have := eqCell_eq h12; subst this
          exact ⟨_, .plain rfl, one 12 _ b rfl r.len hb hrel hf⟩
        | false =>
          rw [h12, cond_false] at hv
          cases h14 : eqCell y (tok 14) with
          | false => rw [h14] at hv; cases hv
          | true =>
            rw [h14, cond_true] at hv
            injection hv with hv; subst hv
            have := eqCell_eq h14; subst this
            exact ⟨_, .plain rfl, one 14 _ b8 rfl (by show (x.l.take 8).length ≤ _; rw [List.length_take]; omega) hb8 hrel hf⟩
      · cases hv
    | false =>
      rw [hf, cond_false] at he'
      cases hf2 : Nat.beq f 7 || Nat.beq f 10 with
      | false => rw [hf2] at he'; cases he'
      | true =>
        rw [hf2, cond_true] at he'
        injection he' with he'; subst he'
        simp only at hv
        cases hA : aggIs (opTok (tok 0) 1 2 3 4 5 6 7 8 9) args with
        | true =>
          rw [hA, cond_true] at hv
          injection hv with hv; subst hv
          rw [aggIs_eq hA] at hrel
          exact ⟨_, .tok (i := 22) (say := x.say) rfl rfl rfl, chkd (tok 0) (tok 1) x.o.k x.o.nm r.nm (fun y h => tok_of (p := (· = .int .i64 x.o.k)) (say := x.say) hsy (i := 0) rfl h) (fun y h => tok_of (p := (· = .string x.o.nm)) (say := x.say) hsy (i := 1) rfl h) hrel hf2⟩
        | false =>
          rw [hA, cond_false] at hv
          cases hB : aggNm (tok 18) (name4 x.i) args with
          | true =>
            rw [hB, cond_true] at hv
            injection hv with hv; subst hv
            rw [aggNm_eq hB] at hrel
            exact ⟨_, .tok (i := 23) (say := x.say) rfl rfl rfl, chkd (tok 18) (.string (name4 x.i)) x.k1 (name4 x.i) (name4_size _) (fun y h => tok_of (p := (· = .int .i64 (x.k1 : Nat))) (say := x.say) hsy (i := 18) rfl h) (fun y h => h.eq rfl) hrel hf2⟩
          | false =>
            rw [hB, cond_false] at hv
            cases hC : aggNm (tok 19) (name4 x.i) args with
            | false => rw [hC] at hv; cases hv
            | true =>
              rw [hC, cond_true] at hv
              injection hv with hv; subst hv
              rw [aggNm_eq hC] at hrel
              exact ⟨_, .tok (i := 24) (say := x.say) rfl rfl rfl, chkd (tok 19) (.string (name4 x.i)) ((x.k1 : Int) + 1) (name4 x.i) (name4_size _) (fun y h => tok_of (p := (· = .int .i64 ((x.k1 : Int) + 1))) (say := x.say) hsy (i := 19) rfl h) (fun y h => h.eq rfl) hrel hf2⟩
end Go.Proofs.Ytoloiegahmehkaa.Oo
