/-
  OperTells: the law's body, of tokens.
-/
import Derived.Test.YtoloiegahmehkaaUOoE
namespace Go.Proofs.Ytoloiegahmehkaa.Oo
open Go Go.Cm Go.RowKit

noncomputable def opTokV (k nm : Value) (wi pa ot w h d fl dt : Nat) : List Value := [k, nm, tok wi, tok pa, tok ot, tok w, tok h, tok d, tok fl, tok dt]
/-- 'Check' of an op of which the kind and the name are whatever. -/
theorem check_known2 {f : FuncId} {fn : Func} (hf : Try.prog.funcs[f]? = some fn) (hname : fn.name ≠ "runtime.NumGoroutine") (hbody : fn.body.isSome = true)
    (deep : ∀ (k wi pa ot w h d : Int) (nm : ByteArray) (fk : FloatKind) (fb : Nat) (dt : Value), nm.size ≤ 9223372036854775807 → ∀ n : Nat, (dt = .slice none 0 0 ∧ n = 0 ∨ ∃ els, dt = fzs n els) → DeepOk Try.prog f [opV k nm wi pa ot w h d fk fb dt] (.int .i64 (chk k nm w h d n)) [])
    {μ : Mu} {say : List (Value → Prop)} (hs : μ.sy = sayAt say) {k : Int} {kv nv : Value} {i2 i3 i4 i5 i6 i7 i8 i9 : Nat} {nm : ByteArray} {wi pa ot w h d : Int} {fk : FloatKind} {fb n : Nat} (hn : nm.size ≤ 9223372036854775807)
    (hk : ∀ y, VRel μ kv y → y = .int .i64 k) (h1 : ∀ y, VRel μ nv y → y = .string nm) (h2 : say[i2]? = some (· = .int .i64 wi)) (h3 : say[i3]? = some (· = .int .i64 pa)) (h4 : say[i4]? = some (· = .int .i64 ot)) (h5 : say[i5]? = some (· = .int .i64 w)) (h6 : say[i6]? = some (· = .int .i64 h)) (h7 : say[i7]? = some (· = .int .i64 d)) (h8 : say[i8]? = some (· = .float fk fb)) (h9 : say[i9]? = some (isSl n))
    {args' : Array Value} {W : World} (hfz : ∀ b o, μ.fz b = some o → W.heap[b]? = some o) (hv : VRels μ [.agg ⟨opTokV kv nv i2 i3 i4 i5 i6 i7 i8 i9⟩] args'.toList) : Known Try.prog f args' (.int .i64 (chk k nm w h d n)) W := by
  cases ha : args'.toList with
  | nil => rw [ha] at hv; cases hv
  | cons a r =>
    rw [ha] at hv
    cases hv with
    | cons _ _ _ _ ha0 hr =>
      cases hr
      obtain ⟨c', rfl, hc⟩ := ha0.ofAgg
      obtain ⟨y0, y1, y2, y3, y4, y5, y6, y7, y8, y9, hl, g0, g1, g2, g3, g4, g5, g6, g7, g8, g9⟩ := vrels10 hc
      have e0 := hk _ g0
      have e1 := h1 _ g1
      have e2 := tok_of hs h2 g2
      change y2 = .int .i64 wi at e2
      have e3 := tok_of hs h3 g3
      change y3 = .int .i64 pa at e3
      have e4 := tok_of hs h4 g4
      change y4 = .int .i64 ot at e4
      have e5 := tok_of hs h5 g5
      change y5 = .int .i64 w at e5
      have e6 := tok_of hs h6 g6
      change y6 = .int .i64 h at e6
      have e7 := tok_of hs h7 g7
      change y7 = .int .i64 d at e7
      have e8 := tok_of hs h8 g8
      change y8 = .float fk fb at e8
      have e9 := tok_of hs h9 g9
      subst e0 e1 e2 e3 e4 e5 e6 e7 e8
      obtain ⟨dt, hdt, hcold⟩ : ∃ dt, (dt = .slice none 0 0 ∧ n = 0 ∨ ∃ els, dt = fzs n els) ∧ Cold μ.fz dt y9 := by
        rcases cold_sl (fz := μ.fz) e9 with ⟨h, rfl⟩ | h
        · exact ⟨_, Or.inl ⟨rfl, rfl⟩, h⟩
        · exact ⟨_, Or.inr ⟨[], rfl⟩, h⟩
      refine known_deep hf hname hbody rfl (deep k wi pa ot w h d nm fk fb dt hn n hdt) hfz ?_
      rw [ha]
      refine .cons _ _ _ _ (.agg _ _ ?_) .nil
      rw [hl]
      exact .cons _ _ _ _ (.plain _ rfl) (.cons _ _ _ _ (.plain _ rfl) (.cons _ _ _ _ (.plain _ rfl) (.cons _ _ _ _ (.plain _ rfl) (.cons _ _ _ _ (.plain _ rfl) (.cons _ _ _ _ (.plain _ rfl) (.cons _ _ _ _ (.plain _ rfl) (.cons _ _ _ _ (.plain _ rfl) (.cons _ _ _ _ (.plain _ rfl) (.cons _ _ _ _ hcold .nil)))))))))


theorem binOp_add {E : Env} {t : TypeId} {xo yo : Operand} {a b z : Int} (h : IntKind.i64.wrap (a + b) = z) : binOpA E .add t xo yo (.int .i64 a) (.int .i64 b) = some (.int .i64 z) := by
  subst h
  unfold binOpA
  have e1 : isTok (.int .i64 a) = false := rfl
  have e2 : isTok (.int .i64 b) = false := rfl
  have e3 : intBinA .add .i64 a b = some (.int .i64 (IntKind.i64.wrap (a + b))) := by
    show some (Value.int .i64 (wrapA .i64 (a + b))) = _
    rw [wrapA_eq]
  simp only [e1, e2, cond_false, Nat.beq_refl, cond_true, e3, orA]
theorem binOp_neq {E : Env} {t : TypeId} {xo yo : Operand} {a : Int} : binOpA E .neq t xo yo (.int .i64 a) (.int .i64 a) = some (.bool false) := by
  unfold binOpA
  have e1 : isTok (.int .i64 a) = false := rfl
  have e3 : intBinA .neq .i64 a a = some (.bool false) := by
    show some (Value.bool (!eqA a a)) = _
    rw [show eqA a a = true by rw [eqA_eq]; simp]
    rfl
  simp only [e1, cond_false, Nat.beq_refl, cond_true, e3, orA]
theorem low3 (k : Int) : ∃ j : Nat, j < 4 ∧ IntKind.i64.wrap ((BitVec.ofInt IntKind.i64.bits k &&& BitVec.ofInt IntKind.i64.bits 3).toNat : Int) = (j : Int) := by
  refine ⟨(BitVec.ofInt 64 k &&& BitVec.ofInt 64 3).toNat, ?_, ?_⟩
  · have : (BitVec.ofInt 64 k &&& BitVec.ofInt 64 3).toNat ≤ (BitVec.ofInt 64 3).toNat := by rw [BitVec.toNat_and]; exact Nat.and_le_right
    have h2 : (BitVec.ofInt 64 3).toNat = 3 := by decide
    omega
  · have : (BitVec.ofInt 64 k &&& BitVec.ofInt 64 3).toNat ≤ (BitVec.ofInt 64 3).toNat := by rw [BitVec.toNat_and]; exact Nat.and_le_right
    have h2 : (BitVec.ofInt 64 3).toNat = 3 := by decide
    exact wrap_i64 (by show (-9223372036854775808 : Int) ≤ ((BitVec.ofInt 64 k &&& BitVec.ofInt 64 3).toNat : Int); omega) (by show ((BitVec.ofInt 64 k &&& BitVec.ofInt 64 3).toNat : Int) ≤ _; omega)
theorem and15 : ∀ j : Nat, j < 16 → IntKind.i64.wrap ((BitVec.ofInt IntKind.i64.bits (j : Int) &&& BitVec.ofInt IntKind.i64.bits 15).toNat : Int) = (j : Int) := by decide +kernel

def name4 (i : Nat) : ByteArray := match i with | 0 => ⟨#[97]⟩ | 1 => ⟨#[98, 99]⟩ | 2 => ⟨#[]⟩ | _ => ⟨#[90]⟩
structure TT where
  o : OpT
  n : Nat
  l : List UInt8
  sv : Value
  fz : Nat → Option Obj
  k1 : Nat
  k3 : Nat
  i : Nat
def TT.c0 (x : TT) : Int := chk x.o.k x.o.nm x.o.w x.o.h x.o.d x.n
def TT.c1 (x : TT) : Int := chk x.k1 (name4 x.i) x.o.w x.o.h x.o.d x.n
def TT.c2 (x : TT) : Int := chk ((x.k1 : Int) + 1) (name4 x.i) x.o.w x.o.h x.o.d x.n
def TT.say (x : TT) : List (Value → Prop) := sayOp x.o x.n ++ [Cold x.fz x.sv, (· = .int .i64 (x.l.length : Nat)), (· = .string ⟨⟨x.l⟩⟩), Cold x.fz (fzs 8 (bytesC (x.l.take 8))), (· = .string ⟨⟨x.l.take 8⟩⟩), (· = .int .i64 (8 : Nat)),
  (· = .int .i64 (x.n : Nat)), (· = .int .i64 (x.o.nm.size : Nat)), (· = .int .i64 (x.k1 : Nat)), (· = .int .i64 ((x.k1 : Int) + 1)), (· = .int .i64 (x.k3 : Nat)), (· = .int .i64 ((x.k3 : Int) + 2)), (· = .int .i64 x.c0), (· = .int .i64 x.c1), (· = .int .i64 x.c2)]
noncomputable def facts5 (i : Nat) (g1 g2 g3 g4 : Bool) : List Fact :=
  [⟨.and, 0, 15, tok 18⟩, ⟨.and, 18, 15, tok 18⟩, ⟨.add, 18, 0, tok 18⟩, ⟨.add, 18, 1, tok 19⟩, ⟨.and, 19, 15, tok 20⟩, ⟨.add, 20, 2, tok 21⟩, ⟨.and, 2, 3, .int .i64 (.ofNat i)⟩, ⟨.gtr, 11, 100, .bool g1⟩, ⟨.gtr, 16, 3000, .bool g2⟩, ⟨.gtr, 17, 100, .bool g3⟩, ⟨.gtr, 11, 8, .bool g4⟩, ⟨.gtr, 15, 8, .bool false⟩]
noncomputable def facts5' : List Fact2 := [⟨.neq, 22, 22, .bool false⟩, ⟨.neq, 23, 23, .bool false⟩, ⟨.neq, 24, 24, .bool false⟩]
noncomputable def lens5 : List (Nat × Nat × Nat) := [(23, 10, 11), (23, 13, 15), (23, 9, 16), (9, 1, 17)]
noncomputable def conv5 (g4 : Bool) (s d : TypeId) (x : Value) : Option Value :=
  bif Nat.beq s 23 && Nat.beq d 9 then (bif eqCell x (tok 10) then some (tok 12) else bif g4 && eqCell x (tok 13) then some (tok 14) else none) else none
noncomputable def part5 (g4 : Bool) (t : TypeId) (x : Value) (lo hi mx : Option Value) : Option Value :=
  match lo with
  | none => (match mx with
    | none => (match hi with
      | some h => bif g4 && (Nat.beq t 23 && (eqCell x (tok 10) && eqCell h (.int .i64 8))) then some (tok 13) else none
      | none => none)
    | some _ => none)
  | some _ => none
noncomputable def strIs (a : ByteArray) (v : Value) : Bool := match v with | .string b => bytesEqA a.data.toList b.data.toList | _ => false
noncomputable def aggNm (k : Value) (nm : ByteArray) (args : List Value) : Bool :=
  match args with
  | [.agg a] => (match a.toList with
    | x :: y :: l => eqCell x k && (strIs nm y && eqCells l [tok 2, tok 3, tok 4, tok 5, tok 6, tok 7, tok 8, tok 9])
    | _ => false)
  | _ => false
noncomputable def kt5 (i : Nat) (b b8 : Bool) (f : FuncId) : Option (List Value → Option Value) :=
  bif Nat.beq f 8 || Nat.beq f 9 then some (fun args => match args with | [x] => bif eqCell x (tok 12) then some (.bool b) else bif eqCell x (tok 14) then some (.bool b8) else none | _ => none)
  else bif Nat.beq f 7 || Nat.beq f 10 then some (fun args => bif aggIs (opTok (tok 0) 1 2 3 4 5 6 7 8 9) args then some (tok 22) else bif aggNm (tok 18) (name4 i) args then some (tok 23) else bif aggNm (tok 19) (name4 i) args then some (tok 24) else none)
  else none
noncomputable def env5 (x : TT) (b b8 g1 g2 g3 g4 : Bool) : Env :=
  { P := Try.prog, und := uds.get, info := tis.get, fn := fns.get, ext := trueAt 6, glob := fun _ => false, sy := sayAt x.say, fz := x.fz, ask := askU (facts5 x.i g1 g2 g3 g4) facts5', askLen := askL lens5, askC := conv5 g4, askS := part5 g4, kt := kt5 x.i b b8 }
noncomputable def args5 : List Value := [tok 10, .agg ⟨opTok (tok 0) 1 2 3 4 5 6 7 8 9⟩]
theorem tells_run (o : OpT) (n : Nat) (l : List UInt8) (sv : Value) (fz : Nat → Option Obj) (k1 k3 : Nat) : ([0, 1, 2, 3].all fun i => [true, false].all fun b => [true, false].all fun b8 => [true, false].all fun g4 => yes (env5 ⟨o, n, l, sv, fz, k1, k3, i⟩ b b8 false false false g4) 1000 4 args5 0) = true := by kernel_rfl
theorem tells_run1 (x : TT) (b b8 g2 g3 g4 : Bool) : yes (env5 x b b8 true g2 g3 g4) 1000 4 args5 0 = true := by kernel_rfl
theorem tells_run2 (x : TT) (b b8 g3 g4 : Bool) : yes (env5 x b b8 false true g3 g4) 1000 4 args5 0 = true := by kernel_rfl
theorem tells_run3 (x : TT) (b b8 g4 : Bool) : yes (env5 x b b8 false false true g4) 1000 4 args5 0 = true := by kernel_rfl
end Go.Proofs.Ytoloiegahmehkaa.Oo
