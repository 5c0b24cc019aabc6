/-
  OperOthers: fields that are not named do not count.
-/
import Derived.Test.YtoloiegahmehkaaUOoC
namespace Go.Proofs.Ytoloiegahmehkaa.Oo
open Go Go.Cm Go.RowKit

theorem dataLen_some {v : Value} {n : Nat} (h : dataLen v = some n) : v = .slice none 0 0 ∧ n = 0 ∨ ∃ els, v = fzs n els := by
  unfold dataLen at h
  split at h
  · injection h with h; exact Or.inl ⟨rfl, h.symm⟩
  · rename_i cs c
    split at h
    · rename_i m hc
      injection h with h; subst h
      refine Or.inr ⟨cs.toList, ?_⟩
      unfold fzs
      congr 1
      exact Array.ext' hc
    · cases h
  · cases h
noncomputable def chkK (o : OpT) : Option Value := (dataLen o.dt).map fun n => .int .i64 (chk o.k o.nm o.w o.h o.d n)
noncomputable def dk3 (f : FuncId) : Option (List Value → Option (Value × List (Nat × List Value))) := bif Nat.beq f 7 || Nat.beq f 10 then some (opK chkK) else dk2 f
theorem dk3_ok : ∀ f F ds v rows, dk3 f = some F → F ds = some (v, rows) → DeepOk Try.prog f ds v rows := by
  intro f F ds v rows hf hF
  unfold dk3 at hf
  cases h7 : Nat.beq f 7 with
  | true =>
    have := Nat.eq_of_beq_eq_true h7; subst this
    injection hf with hf; subst hf
    refine opK_ok (fun o hn v hv => ?_) ds v rows hF
    unfold chkK at hv
    rw [Option.map_eq_some_iff] at hv
    obtain ⟨n, hd, rfl⟩ := hv
    exact check_deep _ _ _ _ _ _ _ _ _ _ _ hn n (dataLen_some hd)
  | false =>
    cases h10 : Nat.beq f 10 with
    | true =>
      have := Nat.eq_of_beq_eq_true h10; subst this
      injection hf with hf; subst hf
      refine opK_ok (fun o hn v hv => ?_) ds v rows hF
      unfold chkK at hv
      rw [Option.map_eq_some_iff] at hv
      obtain ⟨n, hd, rfl⟩ := hv
      exact ref_check_deep _ _ _ _ _ _ _ _ _ _ _ hn n (dataLen_some hd)
    | false =>
      rw [h7, h10] at hf
      exact dk2_ok f F ds v rows hf hF
noncomputable def env3 : Env := { P := Try.prog, und := uds.get, info := tis.get, fn := fns.get, ext := trueAt 6, glob := fun _ => false, dk := dk3 }
theorem made3 : env3.Made 0xfff8 := ⟨rfl, rfl, rfl, made0.good, Try.checked.mixed, trueAt_ok (known_of Try.func6 (by decide) rfl awake), dk3_ok, noAsk, noLen, noKt, noC, noS⟩
theorem noGlob3 : ∀ g, env3.glob g = true → g < 0 := fun _ h => by cases h
theorem fn3 : env3.fn 3 = some Try.f3 := by kernel_rfl
theorem fn4 : env3.fn 4 = some Try.f4 := by kernel_rfl
theorem dk7 : env3.dk 7 = some (opK chkK) := by kernel_rfl
theorem dk10 : env3.dk 10 = some (opK chkK) := by kernel_rfl
theorem dk8'' : env3.dk 8 = some nameK := by kernel_rfl
theorem dk9'' : env3.dk 9 = some nameK := by kernel_rfl

theorem low15 (k : Int) : ∃ j : Nat, j < 16 ∧ IntKind.i64.wrap ((BitVec.ofInt IntKind.i64.bits k &&& BitVec.ofInt IntKind.i64.bits 15).toNat : Int) = (j : Int) := by
  refine ⟨(BitVec.ofInt 64 k &&& BitVec.ofInt 64 15).toNat, ?_, ?_⟩
  · have : (BitVec.ofInt 64 k &&& BitVec.ofInt 64 15).toNat ≤ (BitVec.ofInt 64 15).toNat := by rw [BitVec.toNat_and]; exact Nat.and_le_right
    have h2 : (BitVec.ofInt 64 15).toNat = 15 := by decide
    omega
  · have : (BitVec.ofInt 64 k &&& BitVec.ofInt 64 15).toNat ≤ (BitVec.ofInt 64 15).toNat := by rw [BitVec.toNat_and]; exact Nat.and_le_right
    have h2 : (BitVec.ofInt 64 15).toNat = 15 := by decide
    exact wrap_i64 (by show (-9223372036854775808 : Int) ≤ ((BitVec.ofInt 64 k &&& BitVec.ofInt 64 15).toNat : Int); omega) (by show ((BitVec.ofInt 64 k &&& BitVec.ofInt 64 15).toNat : Int) ≤ _; omega)
theorem chk_range (k : Int) (nm : ByteArray) (w h d : Int) (n : Nat) : ∃ c : Nat, c < 6 ∧ chk k nm w h d n = (c : Int) := by
  have hs : sized w h = 0 ∨ sized w h = 3 := by unfold sized; split <;> simp
  have hn : named nm = 0 ∨ named nm = 2 := by unfold named; split <;> simp
  have hd : dird d = 0 ∨ dird d = 4 := by unfold dird; split <;> simp
  have hb : both nm w h = 0 ∨ both nm w h = 3 ∨ both nm w h = 2 := by
    unfold both
    split
    · rcases hs with h | h
      · exact Or.inl h
      · exact Or.inr (Or.inl h)
    · exact Or.inr (Or.inr rfl)
  have : chk k nm w h d n = 0 ∨ chk k nm w h d n = 1 ∨ chk k nm w h d n = 2 ∨ chk k nm w h d n = 3 ∨ chk k nm w h d n = 4 ∨ chk k nm w h d n = 5 := by
    unfold chk
    repeat' split
    all_goals omega
  rcases this with e | e | e | e | e | e <;> rw [e]
  · exact ⟨0, by decide, rfl⟩
  · exact ⟨1, by decide, rfl⟩
  · exact ⟨2, by decide, rfl⟩
  · exact ⟨3, by decide, rfl⟩
  · exact ⟨4, by decide, rfl⟩
  · exact ⟨5, by decide, rfl⟩

/-! An op of tokens. -/
noncomputable def opTok (k : Value) (nm wi pa ot w h d fl dt : Nat) : List Value := [k, tok nm, tok wi, tok pa, tok ot, tok w, tok h, tok d, tok fl, tok dt]
def sayOp (o : OpT) (n : Nat) : List (Value → Prop) := [(· = .int .i64 o.k), (· = .string o.nm), (· = .int .i64 o.wi), (· = .int .i64 o.pa), (· = .int .i64 o.ot), (· = .int .i64 o.w), (· = .int .i64 o.h), (· = .int .i64 o.d), (· = .float o.fk o.fb), isSl n]
theorem vrels10 {μ : Mu} {x0 x1 x2 x3 x4 x5 x6 x7 x8 x9 : Value} {l : List Value} (h : VRels μ [x0, x1, x2, x3, x4, x5, x6, x7, x8, x9] l) :
    ∃ y0 y1 y2 y3 y4 y5 y6 y7 y8 y9, l = [y0, y1, y2, y3, y4, y5, y6, y7, y8, y9] ∧ VRel μ x0 y0 ∧ VRel μ x1 y1 ∧ VRel μ x2 y2 ∧ VRel μ x3 y3 ∧ VRel μ x4 y4 ∧ VRel μ x5 y5 ∧ VRel μ x6 y6 ∧ VRel μ x7 y7 ∧ VRel μ x8 y8 ∧ VRel μ x9 y9 := by
  cases h with | cons _ y0 _ _ h0 h => cases h with | cons _ y1 _ _ h1 h => cases h with | cons _ y2 _ _ h2 h => cases h with | cons _ y3 _ _ h3 h => cases h with | cons _ y4 _ _ h4 h =>
  cases h with | cons _ y5 _ _ h5 h => cases h with | cons _ y6 _ _ h6 h => cases h with | cons _ y7 _ _ h7 h => cases h with | cons _ y8 _ _ h8 h => cases h with | cons _ y9 _ _ h9 h =>
  cases h
  exact ⟨y0, y1, y2, y3, y4, y5, y6, y7, y8, y9, rfl, h0, h1, h2, h3, h4, h5, h6, h7, h8, h9⟩
/-- 'Check' of an op of tokens. -/
theorem check_known {f : FuncId} {fn : Func} (hf : Try.prog.funcs[f]? = some fn) (hname : fn.name ≠ "runtime.NumGoroutine") (hbody : fn.body.isSome = true)
    (deep : ∀ (k wi pa ot w h d : Int) (nm : ByteArray) (fk : FloatKind) (fb : Nat) (dt : Value), nm.size ≤ 9223372036854775807 → ∀ n : Nat, (dt = .slice none 0 0 ∧ n = 0 ∨ ∃ els, dt = fzs n els) → DeepOk Try.prog f [opV k nm wi pa ot w h d fk fb dt] (.int .i64 (chk k nm w h d n)) [])
    {μ : Mu} {say : List (Value → Prop)} (hs : μ.sy = sayAt say) {k : Int} {i1 i2 i3 i4 i5 i6 i7 i8 i9 : Nat} {nm : ByteArray} {wi pa ot w h d : Int} {fk : FloatKind} {fb n : Nat} (hn : nm.size ≤ 9223372036854775807)
    (h1 : say[i1]? = some (· = .string nm)) (h2 : say[i2]? = some (· = .int .i64 wi)) (h3 : say[i3]? = some (· = .int .i64 pa)) (h4 : say[i4]? = some (· = .int .i64 ot)) (h5 : say[i5]? = some (· = .int .i64 w)) (h6 : say[i6]? = some (· = .int .i64 h)) (h7 : say[i7]? = some (· = .int .i64 d)) (h8 : say[i8]? = some (· = .float fk fb)) (h9 : say[i9]? = some (isSl n))
    {args' : Array Value} {W : World} (hfz : ∀ b o, μ.fz b = some o → W.heap[b]? = some o) (hv : VRels μ [.agg ⟨opTok (.int .i64 k) i1 i2 i3 i4 i5 i6 i7 i8 i9⟩] args'.toList) : Known Try.prog f args' (.int .i64 (chk k nm w h d n)) W := by
  cases ha : args'.toList with
  | nil => rw [ha] at hv; cases hv
  | cons a r =>
    rw [ha] at hv
    cases hv with
    | cons _ _ _ _ ha0 hr =>
      cases hr
      obtain ⟨c', rfl, hc⟩ := ha0.ofAgg
      obtain ⟨y0, y1, y2, y3, y4, y5, y6, y7, y8, y9, hl, g0, g1, g2, g3, g4, g5, g6, g7, g8, g9⟩ := vrels10 hc
      have e0 := g0.ofInt
      have e1 := tok_of hs h1 g1
      change y1 = .string nm at e1
      have e2 := tok_of hs h2 g2
      change y2 = .int .i64 wi at e2
      have e3 := tok_of hs h3 g3
      change y3 = .int .i64 pa at e3
      have e4 := tok_of hs h4 g4
      change y4 = .int .i64 ot at e4
      have e5 := tok_of hs h5 g5
      change y5 = .int .i64 w at e5
      have e6 := tok_of hs h6 g6
      change y6 = .int .i64 h at e6
      have e7 := tok_of hs h7 g7
      change y7 = .int .i64 d at e7
      have e8 := tok_of hs h8 g8
      change y8 = .float fk fb at e8
      have e9 := tok_of hs h9 g9
      subst e0 e1 e2 e3 e4 e5 e6 e7 e8
      obtain ⟨dt, hdt, hcold⟩ : ∃ dt, (dt = .slice none 0 0 ∧ n = 0 ∨ ∃ els, dt = fzs n els) ∧ Cold μ.fz dt y9 := by
        rcases cold_sl (fz := μ.fz) e9 with ⟨h, rfl⟩ | h
        · exact ⟨_, Or.inl ⟨rfl, rfl⟩, h⟩
        · exact ⟨_, Or.inr ⟨[], rfl⟩, h⟩
      refine known_deep hf hname hbody rfl (deep k wi pa ot w h d nm fk fb dt hn n hdt) hfz ?_
      rw [ha]
      refine .cons _ _ _ _ (.agg _ _ ?_) .nil
      rw [hl]
      exact .cons _ _ _ _ (.plain _ rfl) (.cons _ _ _ _ (.plain _ rfl) (.cons _ _ _ _ (.plain _ rfl) (.cons _ _ _ _ (.plain _ rfl) (.cons _ _ _ _ (.plain _ rfl) (.cons _ _ _ _ (.plain _ rfl) (.cons _ _ _ _ (.plain _ rfl) (.cons _ _ _ _ (.plain _ rfl) (.cons _ _ _ _ (.plain _ rfl) (.cons _ _ _ _ hcold .nil)))))))))

/-- The same cells. -/
noncomputable def eqCell (a b : Value) : Bool :=
  match a with
  | .chan (some c) => (match b with | .chan (some e) => Nat.beq c e | _ => false)
  | .int .i64 n => (match b with | .int .i64 m => eqA n m | _ => false)
  | _ => false
theorem eqCell_eq {a b : Value} (h : eqCell a b = true) : a = b := by
  unfold eqCell at h
  split at h
  · split at h
    · rw [Nat.eq_of_beq_eq_true h]
    · cases h
  · split at h
    · rw [eqA_eq] at h; simp at h; rw [h]
    · cases h
  · cases h
noncomputable def eqCells : List Value → List Value → Bool
  | [], [] => true
  | a :: l, b :: m => bif eqCell a b then eqCells l m else false
  | _, _ => false
theorem eqCells_eq : ∀ {l m : List Value}, eqCells l m = true → l = m
  | [], [], _ => rfl
  | [], _ :: _, h => by cases h
  | _ :: _, [], h => by cases h
  | a :: l, b :: m, h => by
    unfold eqCells at h
    cases hb : eqCell a b with
    | false => rw [hb] at h; cases h
    | true => rw [hb, cond_true] at h; rw [eqCell_eq hb, eqCells_eq h]
noncomputable def aggIs (cs : List Value) (args : List Value) : Bool :=
  match args with
  | [.agg a] => eqCells a.toList cs
  | _ => false
theorem aggIs_eq {cs args : List Value} (h : aggIs cs args = true) : args = [.agg ⟨cs⟩] := by
  unfold aggIs at h
  split at h
  · rename_i a
    rw [show a = ⟨cs⟩ from Array.ext' (eqCells_eq h)]
  · cases h

/-! OperOthers. -/
/-- The other op's cells, of those that kind j names. -/
noncomputable def cellsQ (j : Nat) : List Value :=
  let nm := bif [1, 3, 2, 14, 4, 5, 6].any (Nat.beq j) then 1 else 11
  let wh := [1, 3, 12].any (Nat.beq j)
  opTok (.int .i64 (.ofNat j)) nm 12 13 14 (bif wh then 5 else 15) (bif wh then 6 else 16) (bif [7, 11].any (Nat.beq j) then 7 else 17) 18 (bif Nat.beq j 13 then 9 else 19)
noncomputable def cellsO (j : Nat) : List Value := opTok (.int .i64 (.ofNat j)) 1 2 3 4 5 6 7 8 9
noncomputable def kt3 (j c : Nat) (f : FuncId) : Option (List Value → Option Value) :=
  bif Nat.beq f 7 then some (fun args => bif aggIs (cellsO j) args then some (.int .i64 (.ofNat c)) else bif aggIs (cellsQ j) args then some (.int .i64 (.ofNat c)) else none) else none
def say3 (o p : OpT) (n m : Nat) : List (Value → Prop) := sayOp o n ++ (sayOp p m ++ [(· = .int .i64 (n : Nat)), (· = .int .i64 (m : Nat))])
noncomputable def facts3 (j : Nat) (b1 b2 : Bool) : List Fact := [⟨.and, 0, 15, .int .i64 (.ofNat j)⟩, ⟨.gtr, 20, 2000, .bool b1⟩, ⟨.gtr, 21, 2000, .bool b2⟩]
noncomputable def lens3 : List (Nat × Nat × Nat) := [(23, 9, 20), (23, 19, 21)]
noncomputable def env4 (o p : OpT) (n m j c : Nat) (b1 b2 : Bool) : Env :=
  { P := Try.prog, und := uds.get, info := tis.get, fn := fns.get, ext := trueAt 6, glob := fun _ => false, sy := sayAt (say3 o p n m), ask := askT (facts3 j b1 b2), askLen := askL lens3, kt := kt3 j c }
theorem binOp_and {E : Env} {t : TypeId} {xo yo : Operand} {a b z : Int} (h : IntKind.i64.wrap ((BitVec.ofInt IntKind.i64.bits a &&& BitVec.ofInt IntKind.i64.bits b).toNat : Int) = z) : binOpA E .and t xo yo (.int .i64 a) (.int .i64 b) = some (.int .i64 z) := by
  subst h
  exact binOpA_slow rfl binPlain_and rfl
theorem binOp_gtr {E : Env} {t : TypeId} {xo yo : Operand} {a b : Int} {r : Bool} (h : decide (b < a) = r) : binOpA E .gtr t xo yo (.int .i64 a) (.int .i64 b) = some (.bool r) := by
  subst h
  unfold binOpA
  have e1 : isTok (.int .i64 a) = false := rfl
  have e2 : isTok (.int .i64 b) = false := rfl
  have e3 : intBinA .gtr .i64 a b = some (.bool (decide (b < a))) := by
    show some (Value.bool (ltA b a)) = _
    rw [ltA_eq]
  simp only [e1, e2, cond_false, Nat.beq_refl, cond_true, e3, orA]
theorem made4 (o p : OpT) (n m j c : Nat) (b1 b2 : Bool) (ho : o.nm.size ≤ 9223372036854775807) (hp : p.nm.size ≤ 9223372036854775807) (hj : IntKind.i64.wrap ((BitVec.ofInt IntKind.i64.bits o.k &&& BitVec.ofInt IntKind.i64.bits 15).toNat : Int) = (j : Int)) (hj2 : j < 16)
    (h1 : decide ((2000 : Int) < (n : Nat)) = b1) (h2 : decide ((2000 : Int) < (m : Nat)) = b2) (hc : chk j o.nm o.w o.h o.d n = (c : Int)) : (env4 o p n m j c b1 b2).Made 0xfff8 where
  und := rfl
  info := rfl
  fn := rfl
  good := made0.good
  mixed := Try.checked.mixed
  ext := trueAt_ok (known_of Try.func6 (by decide) rfl awake)
  dk := fun _ _ _ _ _ h => by cases h
  ask := askT_ok made0.ok rfl (l := facts3 j b1 b2) (say := say3 o p n m) (fun f hf p' x' hp' hx' => by
    simp only [facts3, List.mem_cons, List.not_mem_nil, or_false] at hf
    rcases hf with rfl | rfl | rfl
    · injection hp' with hp'; subst hp'
      exact ⟨o.k, _, hx', .plain rfl, rfl, fun _ _ _ _ => binOp_and hj⟩
    · injection hp' with hp'; subst hp'
      exact ⟨_, _, hx', .plain rfl, rfl, fun _ _ _ _ => binOp_gtr h1⟩
    · injection hp' with hp'; subst hp'
      exact ⟨_, _, hx', .plain rfl, rfl, fun _ _ _ _ => binOp_gtr h2⟩)
  askLen := askL_ok made0.ok rfl (l := lens3) (say := say3 o p n m) (fun f hf => by
    simp only [lens3, List.mem_cons, List.not_mem_nil, or_false] at hf
    rcases hf with rfl | rfl
    · exact ⟨n, _, _, rfl, rfl, rfl, Or.inl ⟨⟨5, und23⟩, fun _ h => h⟩⟩
    · exact ⟨m, _, _, rfl, rfl, rfl, Or.inl ⟨⟨5, und23⟩, fun _ h => h⟩⟩)
  askC := noC
  askS := noS
  kt := fun f e args v μ args' W he hv hsy hfz hrel => by
    have he' : kt3 j c f = some e := he
    unfold kt3 at he'
    cases hf : Nat.beq f 7 with
    | false => rw [hf] at he'; cases he'
    | true =>
      rw [hf, cond_true] at he'
      have := Nat.eq_of_beq_eq_true hf; subst this
      injection he' with he'; subst he'
      simp only at hv
      cases hA : aggIs (cellsO j) args with
      | true =>
        rw [hA, cond_true] at hv
        injection hv with hv; subst hv
        refine ⟨_, Or.inl ⟨rfl, rfl⟩, ?_⟩
        rw [aggIs_eq hA] at hrel
        have := check_known (say := say3 o p n m) Try.func7 (by decide) rfl (fun k wi pa ot w h d nm fk fb dt hn n hdt => check_deep k wi pa ot w h d nm fk fb dt hn n hdt) hsy (k := (j : Int)) (i1 := 1) (i2 := 2) (i3 := 3) (i4 := 4) (i5 := 5) (i6 := 6) (i7 := 7) (i8 := 8) (i9 := 9) ho rfl rfl rfl rfl rfl rfl rfl rfl rfl hfz hrel
        rw [hc] at this
        exact this
      | false =>
        rw [hA, cond_false] at hv
        cases hB : aggIs (cellsQ j) args with
        | false => rw [hB] at hv; cases hv
        | true =>
          rw [hB, cond_true] at hv
          injection hv with hv; subst hv
          refine ⟨_, Or.inl ⟨rfl, rfl⟩, ?_⟩
          rw [aggIs_eq hB] at hrel
          rw [show (Value.int .i64 (Int.ofNat c)) = .int .i64 (chk j o.nm o.w o.h o.d n) by rw [hc]; rfl]
          match j, hj2 with
          | 0, _ => exact (check_known (say := say3 o p n m) Try.func7 (by decide) rfl (fun k wi pa ot w h d nm fk fb dt hn n hdt => check_deep k wi pa ot w h d nm fk fb dt hn n hdt) hsy (k := ((0 : Nat) : Int)) (i1 := 11) (i2 := 12) (i3 := 13) (i4 := 14) (i5 := 15) (i6 := 16) (i7 := 17) (i8 := 18) (i9 := 19) hp rfl rfl rfl rfl rfl rfl rfl rfl rfl hfz hrel : Known Try.prog 7 args' (.int .i64 (chk ((0 : Nat) : Int) _ _ _ _ _)) W)
          | 1, _ => exact (check_known (say := say3 o p n m) Try.func7 (by decide) rfl (fun k wi pa ot w h d nm fk fb dt hn n hdt => check_deep k wi pa ot w h d nm fk fb dt hn n hdt) hsy (k := ((1 : Nat) : Int)) (i1 := 1) (i2 := 12) (i3 := 13) (i4 := 14) (i5 := 5) (i6 := 6) (i7 := 17) (i8 := 18) (i9 := 19) ho rfl rfl rfl rfl rfl rfl rfl rfl rfl hfz hrel : Known Try.prog 7 args' (.int .i64 (chk ((1 : Nat) : Int) _ _ _ _ _)) W)
          | 2, _ => exact (check_known (say := say3 o p n m) Try.func7 (by decide) rfl (fun k wi pa ot w h d nm fk fb dt hn n hdt => check_deep k wi pa ot w h d nm fk fb dt hn n hdt) hsy (k := ((2 : Nat) : Int)) (i1 := 1) (i2 := 12) (i3 := 13) (i4 := 14) (i5 := 15) (i6 := 16) (i7 := 17) (i8 := 18) (i9 := 19) ho rfl rfl rfl rfl rfl rfl rfl rfl rfl hfz hrel : Known Try.prog 7 args' (.int .i64 (chk ((2 : Nat) : Int) _ _ _ _ _)) W)
          | 3, _ => exact (check_known (say := say3 o p n m) Try.func7 (by decide) rfl (fun k wi pa ot w h d nm fk fb dt hn n hdt => check_deep k wi pa ot w h d nm fk fb dt hn n hdt) hsy (k := ((3 : Nat) : Int)) (i1 := 1) (i2 := 12) (i3 := 13) (i4 := 14) (i5 := 5) (i6 := 6) (i7 := 17) (i8 := 18) (i9 := 19) ho rfl rfl rfl rfl rfl rfl rfl rfl rfl hfz hrel : Known Try.prog 7 args' (.int .i64 (chk ((3 : Nat) : Int) _ _ _ _ _)) W)
          | 4, _ => exact (check_known (say := say3 o p n m) Try.func7 (by decide) rfl (fun k wi pa ot w h d nm fk fb dt hn n hdt => check_deep k wi pa ot w h d nm fk fb dt hn n hdt) hsy (k := ((4 : Nat) : Int)) (i1 := 1) (i2 := 12) (i3 := 13) (i4 := 14) (i5 := 15) (i6 := 16) (i7 := 17) (i8 := 18) (i9 := 19) ho rfl rfl rfl rfl rfl rfl rfl rfl rfl hfz hrel : Known Try.prog 7 args' (.int .i64 (chk ((4 : Nat) : Int) _ _ _ _ _)) W)
          | 5, _ => exact (check_known (say := say3 o p n m) Try.func7 (by decide) rfl (fun k wi pa ot w h d nm fk fb dt hn n hdt => check_deep k wi pa ot w h d nm fk fb dt hn n hdt) hsy (k := ((5 : Nat) : Int)) (i1 := 1) (i2 := 12) (i3 := 13) (i4 := 14) (i5 := 15) (i6 := 16) (i7 := 17) (i8 := 18) (i9 := 19) ho rfl rfl rfl rfl rfl rfl rfl rfl rfl hfz hrel : Known Try.prog 7 args' (.int .i64 (chk ((5 : Nat) : Int) _ _ _ _ _)) W)
          | 6, _ => exact (check_known (say := say3 o p n m) Try.func7 (by decide) rfl (fun k wi pa ot w h d nm fk fb dt hn n hdt => check_deep k wi pa ot w h d nm fk fb dt hn n hdt) hsy (k := ((6 : Nat) : Int)) (i1 := 1) (i2 := 12) (i3 := 13) (i4 := 14) (i5 := 15) (i6 := 16) (i7 := 17) (i8 := 18) (i9 := 19) ho rfl rfl rfl rfl rfl rfl rfl rfl rfl hfz hrel : Known Try.prog 7 args' (.int .i64 (chk ((6 : Nat) : Int) _ _ _ _ _)) W)
          | 7, _ => exact (check_known (say := say3 o p n m) Try.func7 (by decide) rfl (fun k wi pa ot w h d nm fk fb dt hn n hdt => check_deep k wi pa ot w h d nm fk fb dt hn n hdt) hsy (k := ((7 : Nat) : Int)) (i1 := 11) (i2 := 12) (i3 := 13) (i4 := 14) (i5 := 15) (i6 := 16) (i7 := 7) (i8 := 18) (i9 := 19) hp rfl rfl rfl rfl rfl rfl rfl rfl rfl hfz hrel : Known Try.prog 7 args' (.int .i64 (chk ((7 : Nat) : Int) _ _ _ _ _)) W)
          | 8, _ => exact (check_known (say := say3 o p n m) Try.func7 (by decide) rfl (fun k wi pa ot w h d nm fk fb dt hn n hdt => check_deep k wi pa ot w h d nm fk fb dt hn n hdt) hsy (k := ((8 : Nat) : Int)) (i1 := 11) (i2 := 12) (i3 := 13) (i4 := 14) (i5 := 15) (i6 := 16) (i7 := 17) (i8 := 18) (i9 := 19) hp rfl rfl rfl rfl rfl rfl rfl rfl rfl hfz hrel : Known Try.prog 7 args' (.int .i64 (chk ((8 : Nat) : Int) _ _ _ _ _)) W)
          | 9, _ => exact (check_known (say := say3 o p n m) Try.func7 (by decide) rfl (fun k wi pa ot w h d nm fk fb dt hn n hdt => check_deep k wi pa ot w h d nm fk fb dt hn n hdt) hsy (k := ((9 : Nat) : Int)) (i1 := 11) (i2 := 12) (i3 := 13) (i4 := 14) (i5 := 15) (i6 := 16) (i7 := 17) (i8 := 18) (i9 := 19) hp rfl rfl rfl rfl rfl rfl rfl rfl rfl hfz hrel : Known Try.prog 7 args' (.int .i64 (chk ((9 : Nat) : Int) _ _ _ _ _)) W)
          | 10, _ => exact (check_known (say := say3 o p n m) Try.func7 (by decide) rfl (fun k wi pa ot w h d nm fk fb dt hn n hdt => check_deep k wi pa ot w h d nm fk fb dt hn n hdt) hsy (k := ((10 : Nat) : Int)) (i1 := 11) (i2 := 12) (i3 := 13) (i4 := 14) (i5 := 15) (i6 := 16) (i7 := 17) (i8 := 18) (i9 := 19) hp rfl rfl rfl rfl rfl rfl rfl rfl rfl hfz hrel : Known Try.prog 7 args' (.int .i64 (chk ((10 : Nat) : Int) _ _ _ _ _)) W)
          | 11, _ => exact (check_known (say := say3 o p n m) Try.func7 (by decide) rfl (fun k wi pa ot w h d nm fk fb dt hn n hdt => check_deep k wi pa ot w h d nm fk fb dt hn n hdt) hsy (k := ((11 : Nat) : Int)) (i1 := 11) (i2 := 12) (i3 := 13) (i4 := 14) (i5 := 15) (i6 := 16) (i7 := 7) (i8 := 18) (i9 := 19) hp rfl rfl rfl rfl rfl rfl rfl rfl rfl hfz hrel : Known Try.prog 7 args' (.int .i64 (chk ((11 : Nat) : Int) _ _ _ _ _)) W)
          | 12, _ => exact (check_known (say := say3 o p n m) Try.func7 (by decide) rfl (fun k wi pa ot w h d nm fk fb dt hn n hdt => check_deep k wi pa ot w h d nm fk fb dt hn n hdt) hsy (k := ((12 : Nat) : Int)) (i1 := 11) (i2 := 12) (i3 := 13) (i4 := 14) (i5 := 5) (i6 := 6) (i7 := 17) (i8 := 18) (i9 := 19) hp rfl rfl rfl rfl rfl rfl rfl rfl rfl hfz hrel : Known Try.prog 7 args' (.int .i64 (chk ((12 : Nat) : Int) _ _ _ _ _)) W)
          | 13, _ => exact (check_known (say := say3 o p n m) Try.func7 (by decide) rfl (fun k wi pa ot w h d nm fk fb dt hn n hdt => check_deep k wi pa ot w h d nm fk fb dt hn n hdt) hsy (k := ((13 : Nat) : Int)) (i1 := 11) (i2 := 12) (i3 := 13) (i4 := 14) (i5 := 15) (i6 := 16) (i7 := 17) (i8 := 18) (i9 := 9) hp rfl rfl rfl rfl rfl rfl rfl rfl rfl hfz hrel : Known Try.prog 7 args' (.int .i64 (chk ((13 : Nat) : Int) _ _ _ _ _)) W)
          | 14, _ => exact (check_known (say := say3 o p n m) Try.func7 (by decide) rfl (fun k wi pa ot w h d nm fk fb dt hn n hdt => check_deep k wi pa ot w h d nm fk fb dt hn n hdt) hsy (k := ((14 : Nat) : Int)) (i1 := 1) (i2 := 12) (i3 := 13) (i4 := 14) (i5 := 15) (i6 := 16) (i7 := 17) (i8 := 18) (i9 := 19) ho rfl rfl rfl rfl rfl rfl rfl rfl rfl hfz hrel : Known Try.prog 7 args' (.int .i64 (chk ((14 : Nat) : Int) _ _ _ _ _)) W)
          | 15, _ => exact (check_known (say := say3 o p n m) Try.func7 (by decide) rfl (fun k wi pa ot w h d nm fk fb dt hn n hdt => check_deep k wi pa ot w h d nm fk fb dt hn n hdt) hsy (k := ((15 : Nat) : Int)) (i1 := 11) (i2 := 12) (i3 := 13) (i4 := 14) (i5 := 15) (i6 := 16) (i7 := 17) (i8 := 18) (i9 := 19) hp rfl rfl rfl rfl rfl rfl rfl rfl rfl hfz hrel : Known Try.prog 7 args' (.int .i64 (chk ((15 : Nat) : Int) _ _ _ _ _)) W)
          | _ + 16, h => exact absurd h (by omega)
theorem others_run (o p : OpT) (n m : Nat) : ((List.range 16).all fun j => (List.range 6).all fun c => yes (env4 o p n m j c false false) 1000 3 [.agg ⟨opTok (tok 0) 1 2 3 4 5 6 7 8 9⟩, .agg ⟨opTok (tok 10) 11 12 13 14 15 16 17 18 19⟩] 0) = true := by kernel_rfl
theorem others_run1 (o p : OpT) (n m j c : Nat) (b2 : Bool) : yes (env4 o p n m j c true b2) 1000 3 [.agg ⟨opTok (tok 0) 1 2 3 4 5 6 7 8 9⟩, .agg ⟨opTok (tok 10) 11 12 13 14 15 16 17 18 19⟩] 0 = true := by kernel_rfl
theorem others_run2 (o p : OpT) (n m j c : Nat) : yes (env4 o p n m j c false true) 1000 3 [.agg ⟨opTok (tok 0) 1 2 3 4 5 6 7 8 9⟩, .agg ⟨opTok (tok 10) 11 12 13 14 15 16 17 18 19⟩] 0 = true := by kernel_rfl
end Go.Proofs.Ytoloiegahmehkaa.Oo
