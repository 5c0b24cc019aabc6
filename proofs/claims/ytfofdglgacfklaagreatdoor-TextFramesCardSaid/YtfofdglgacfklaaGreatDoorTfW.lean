/-
  Texts of which only some is known: tokens for characters that come of a number, and for texts that such characters stand in; what operations of them answer. What operations of these tokens answer, and that they do. What operations of these tokens answer: they do. Conversions, lengths and bytes of these tokens.
-/
import Derived.Test.YtfofdglgacfklaaGreatDoorFmF
import Derived.Test.YtfofdglgacfklaaGreatDoorCmTk
namespace Go.Cm.Tx
open Go Go.Cm

/-! ### Texts as numbers: each character a digit of 1024 -/
noncomputable def lenD (p : Nat) : Nat := Nat.rec 0 (fun _ _ => Nat.succ (Nat.div (Nat.log2 p) 10)) p
noncomputable def cat (a b : Nat) : Nat := Nat.add (Nat.mul a (Nat.pow 1024 (lenD b))) b
noncomputable def enc : Nat → List UInt8 → Nat
  | acc, [] => acc
  | acc, b :: l => enc (Nat.add (Nat.mul acc 1024) (Nat.succ b.toNat)) l

section
variable (dig : Nat → List UInt8)
def dec (p : Nat) : List UInt8 := if _h : p = 0 then [] else dec (p / 1024) ++ dig (p % 1024)
termination_by p
decreasing_by exact Nat.div_lt_self (Nat.pos_of_ne_zero _h) (by decide)
theorem dec_zero : dec dig 0 = [] := by rw [dec]; simp
variable (h0 : dig 0 = [])
include h0
theorem dec_step (p r : Nat) (hr : r < 1024) : dec dig (p * 1024 + r) = dec dig p ++ dig r := by
  by_cases h : p * 1024 + r = 0
  · have hp : p = 0 := by omega
    have hr : r = 0 := by omega
    subst hp hr
    rw [h, dec_zero, h0]; rfl
  · rw [dec, dif_neg h, show (p * 1024 + r) / 1024 = p by omega, show (p * 1024 + r) % 1024 = r by omega]
theorem dec_cat : ∀ (L a b : Nat), b < 1024 ^ L → dec dig (a * 1024 ^ L + b) = dec dig a ++ dec dig b
  | 0, a, b, h => by
    have : b = 0 := by simpa using h
    subst this
    rw [dec_zero, List.append_nil]; simp
  | L + 1, a, b, h => by
    have hq : b / 1024 < 1024 ^ L := by
      rw [Nat.div_lt_iff_lt_mul (by decide)]
      rwa [Nat.pow_succ] at h
    have hb : b = (b / 1024) * 1024 + b % 1024 := by omega
    have e : a * 1024 ^ (L + 1) + b = (a * 1024 ^ L + b / 1024) * 1024 + b % 1024 := by
      rw [Nat.pow_succ, Nat.add_mul, Nat.mul_assoc]; omega
    rw [e, dec_step dig h0 _ _ (Nat.mod_lt _ (by decide)), dec_cat L a (b / 1024) hq]
    conv => rhs; rw [hb, dec_step dig h0 _ _ (Nat.mod_lt _ (by decide))]
    rw [List.append_assoc]
omit h0 in
theorem lenD_lt (b : Nat) : b < 1024 ^ lenD b := by
  cases b with
  | zero => exact Nat.pos_of_ne_zero (by decide)
  | succ b =>
    show b + 1 < 1024 ^ ((b + 1).log2 / 10 + 1)
    have h1 : b + 1 < 2 ^ ((b + 1).log2 + 1) := Nat.lt_log2_self
    have h2 : (1024 : Nat) ^ ((b + 1).log2 / 10 + 1) = 2 ^ (10 * ((b + 1).log2 / 10 + 1)) := by
      rw [Nat.pow_mul]
    rw [h2]
    exact Nat.lt_of_lt_of_le h1 (Nat.pow_le_pow_right (by decide) (by omega))
theorem dec_of_cat (a b : Nat) : dec dig (cat a b) = dec dig a ++ dec dig b := dec_cat dig h0 _ a b (lenD_lt b)
variable (hb : ∀ b : UInt8, dig (Nat.succ b.toNat) = [b])
include hb
theorem dec_enc : ∀ (l : List UInt8) (acc : Nat), dec dig (enc acc l) = dec dig acc ++ l
  | [], acc => by rw [enc, List.append_nil]
  | b :: l, acc => by
    rw [enc, dec_enc l]
    have : dec dig (acc * 1024 + Nat.succ b.toNat) = dec dig acc ++ dig (Nat.succ b.toNat) := dec_step dig h0 acc _ (by have := b.toNat_lt; omega)
    show dec dig (acc * 1024 + Nat.succ b.toNat) ++ l = _
    rw [this, hb, List.append_assoc]; rfl
end

/-! ### What the tokens stand for -/
section
variable (a e : Int)
def shV (k : Nat) : Int := a.fdiv (2 ^ k)
noncomputable def adV (p : Nat) : Int := wrapA .i64 (Int.add (shV a (p / 16)) ((p % 16 : Nat) : Int))
noncomputable def anV (p : Nat) : Int := lowOf (adV a p) 15
noncomputable def chV (p : Nat) : Int := wrapA .i64 (Int.add 97 (anV a p))
noncomputable def e2V : Int := lowOf e 15
noncomputable def e3V : Int := wrapA .i64 (Int.add (e2V e) 1)
/-- A digit: none, a byte, a character that comes of the number, the text of the other number. -/
noncomputable def dig (d : Nat) : List UInt8 :=
  if d = 0 then [] else if d ≤ 256 then [UInt8.ofNat (d - 1)] else if d ≤ 512 then [UInt8.ofNat (chV a (d - 257)).toNat] else if d = 513 then (toString (e3V e)).toUTF8.data.toList else []
theorem dig_zero : dig a e 0 = [] := rfl
theorem dig_byte (b : UInt8) : dig a e (Nat.succ b.toNat) = [b] := by
  have := b.toNat_lt
  unfold dig
  rw [if_neg (by omega), if_pos (by omega)]
  simp
theorem dig_sym (p : Nat) (hp : p < 256) : dig a e (257 + p) = [UInt8.ofNat (chV a p).toNat] := by
  unfold dig
  rw [if_neg (by omega), if_neg (by omega), if_pos (by omega), show 257 + p - 257 = p by omega]
noncomputable def mean (n : Nat) : Option Value :=
  match n % 8 with
  | 0 => (match n / 8 with
    | 0 => some (.int .i64 a)
    | 1 => some (.int .i64 e)
    | 2 => some (.int .i64 (e2V e))
    | 3 => some (.int .i64 (e3V e))
    | _ => none)
  | 1 => some (.int .i64 (shV a (n / 8)))
  | 2 => some (.int .i64 (adV a (n / 8)))
  | 3 => some (.int .i64 (anV a (n / 8)))
  | 4 => some (.int .i64 (chV a (n / 8)))
  | 5 => some (.int .i32 (chV a (n / 8)))
  | 6 => some (.int .u8 (chV a (n / 8)))
  | _ => some (.string ⟨⟨dec (dig a e) (n / 8)⟩⟩)
def syX (c : Nat) (v : Value) : Prop := ∃ n, c = tokN n ∧ mean a e n = some v
end
/-- A token by its kind and what it is of. -/
noncomputable def tk (k p : Nat) : Value := tok (Nat.add (Nat.mul 8 p) k)
theorem mean_tok {a e : Int} {v : Value} {n : Nat} (h : mean a e n = some v) : tokB v = true := by
  unfold mean at h
  split at h
  · split at h <;> first | (injection h with h; subst h; rfl) | cases h
  all_goals (injection h with h; subst h; rfl)
theorem tok_sem {a e : Int} {n : Nat} {v' : Value} (h : TokV (syX a e) (tok n) v') : mean a e n = some v' := by
  rcases h with ⟨hp, _⟩ | ⟨c, _, _, hc, m, rfl, hm⟩
  · rw [tok_plain] at hp; cases hp
  · unfold tok at hc
    injection hc with hc; injection hc with hc
    rw [tokN_inj hc]; exact hm
theorem sem_tok {a e : Int} {n : Nat} {v' : Value} (h : mean a e n = some v') : TokV (syX a e) (tok n) v' := Or.inr ⟨tokN n, tokN_le n, mean_tok h, rfl, n, rfl, h⟩
theorem low15 (n : Int) : 0 ≤ lowOf n 15 ∧ lowOf n 15 ≤ 15 := by
  have h : (BitVec.ofInt 64 n &&& BitVec.ofInt 64 (15 : Nat)).toNat ≤ 15 := by
    rw [BitVec.toNat_and]
    exact Nat.le_trans Nat.and_le_right (by decide)
  unfold lowOf
  rw [IntWalk.i64_in ((BitVec.ofInt 64 n &&& BitVec.ofInt 64 (15 : Nat)).toNat : Int) (by omega)]
  omega
theorem chV_range (a : Int) (p : Nat) : 97 ≤ chV a p ∧ chV a p ≤ 112 := by
  have h := low15 (adV a p)
  have e : IntKind.i64.wrap (97 + lowOf (adV a p) 15) = 97 + lowOf (adV a p) 15 := IntWalk.i64_in _ (by omega)
  have e2 : chV a p = 97 + lowOf (adV a p) 15 := by
    unfold chV anV
    rw [wrapA_eq]
    exact e
  omega
end Go.Cm.Tx
namespace Go.Cm.Tx
open Go Go.Cm

/-- A token's number, without what all tokens have. -/
noncomputable def num (v : Value) : Option Nat :=
  match v with
  | .chan (some c) => bif Nat.beq (tokN (Nat.sub c (tokN 0))) c then some (Nat.sub c (tokN 0)) else none
  | _ => none
theorem num_some {v : Value} {n : Nat} (h : num v = some n) : v = tok n := by
  unfold num at h
  split at h
  · rename_i c
    generalize Nat.sub c (tokN 0) = m at h
    cases hb : Nat.beq (tokN m) c with
    | false => rw [hb] at h; cases h
    | true =>
      rw [hb, cond_true] at h
      injection h with h; subst h
      rw [← Nat.eq_of_beq_eq_true hb]
      rfl
  · cases h
/-- A text as a number. -/
noncomputable def code (v : Value) : Option Nat :=
  match v with
  | .string s => some (enc 0 s.data.toList)
  | v => (num v).bind fun n => bif Nat.beq (Nat.mod n 8) 7 then some (Nat.div n 8) else none
noncomputable def strX (op : BinOp) (p q : Nat) : Option Value :=
  match op with
  | .add => bif Nat.blt (Nat.add (lenD p) (lenD q)) 1000000 then some (tk 7 (cat p q)) else none
  | .eql => bif Nat.beq p q then some (.bool true) else none
  | _ => none
/-- A character held against a number beyond them. -/
noncomputable def cmpX (op : BinOp) (below : Bool) : Option Value :=
  match op with
  | .lss => some (.bool below)
  | .leq => some (.bool below)
  | .gtr => some (.bool (!below))
  | .geq => some (.bool (!below))
  | .eql => some (.bool false)
  | .neq => some (.bool true)
  | _ => none
noncomputable def isNe (op : BinOp) : Bool := match op with | .neq => true | _ => false
noncomputable def isEq (op : BinOp) : Bool := match op with | .eql => true | _ => false
noncomputable def isAdd (op : BinOp) : Bool := match op with | .add => true | _ => false
noncomputable def isAnd (op : BinOp) : Bool := match op with | .and => true | _ => false
noncomputable def isShr (op : BinOp) : Bool := match op with | .shr => true | _ => false
noncomputable def intX (op : BinOp) (n b : Nat) : Option Value :=
  bif Nat.beq (Nat.mod n 8) 1 then (bif isAdd op && Nat.blt b 16 then some (tk 2 (Nat.add (Nat.mul (Nat.div n 8) 16) b)) else none) else
  bif Nat.beq (Nat.mod n 8) 2 then (bif isAnd op && Nat.beq b 15 then some (tk 3 (Nat.div n 8)) else none) else
  bif Nat.beq (Nat.mod n 8) 4 then (bif Nat.blt 112 b then cmpX op true else bif Nat.blt b 97 then cmpX op false else none) else
  bif Nat.beq n 8 then (bif isAnd op && Nat.beq b 15 then some (tok 16) else none) else
  bif Nat.beq n 16 then (bif isAdd op && Nat.beq b 1 then some (tok 24) else none) else
  bif Nat.beq n 24 && Nat.beq b 0 then (bif isNe op then some (.bool true) else bif isEq op then some (.bool false) else none) else none
noncomputable def shrX (op : BinOp) (n k : Nat) : Option Value := bif isShr op && Nat.beq n 0 && Nat.blt k 64 then some (tk 1 k) else none
noncomputable def askX (op : BinOp) (x y : Value) : Option Value :=
  match x with
  | .int .i64 (.ofNat b) => (num y).bind fun n => bif isAdd op && Nat.beq b 97 && Nat.beq (Nat.mod n 8) 3 then some (tk 4 (Nat.div n 8)) else none
  | .string s => (code y).bind fun q => strX op (enc 0 s.data.toList) q
  | x => (num x).bind fun n => match y with
    | .int .i64 (.ofNat b) => intX op n b
    | .int .u64 (.ofNat k) => shrX op n k
    | y => bif Nat.beq (Nat.mod n 8) 7 then (code y).bind fun q => strX op (Nat.div n 8) q else none

theorem mean_of {a e : Int} {v : Value} {n : Nat} {x' : Value} (h : num v = some n) (hx : TokV (syX a e) v x') : mean a e n = some x' := by
  rw [num_some h] at hx; exact tok_sem hx
theorem code_of {a e : Int} {v : Value} {p : Nat} {x' : Value} (h : code v = some p) (hx : TokV (syX a e) v x') : x' = .string ⟨⟨dec (dig a e) p⟩⟩ := by
  unfold code at h
  split at h
  · rename_i s
    injection h with h; subst h
    rcases hx with ⟨_, rfl⟩ | ⟨c, _, _, hc, _⟩
    · rw [dec_enc (dig a e) (dig_zero a e) (dig_byte a e), dec_zero]; rfl
    · cases hc
  · rw [Option.bind_eq_some_iff] at h
    obtain ⟨n, hn, h⟩ := h
    cases hb : Nat.beq (Nat.mod n 8) 7 with
    | false => rw [hb] at h; cases h
    | true =>
      rw [hb, cond_true] at h
      injection h with h; subst h
      have h1 := mean_of hn hx
      have h2 : n % 8 = 7 := Nat.eq_of_beq_eq_true hb
      unfold mean at h1
      rw [h2] at h1
      injection h1 with h1
      exact h1.symm
theorem mod_mul (k p : Nat) (hk : k < 8) : (Nat.add (Nat.mul 8 p) k) % 8 = k ∧ (Nat.add (Nat.mul 8 p) k) / 8 = p := by
  simp only [Nat.add_eq, Nat.mul_eq]; omega
theorem tk_str (a e : Int) (p : Nat) : TokV (syX a e) (tk 7 p) (.string ⟨⟨dec (dig a e) p⟩⟩) := sem_tok (by
  unfold mean
  rw [(mod_mul 7 p (by decide)).1, (mod_mul 7 p (by decide)).2]; rfl)
theorem str_add {E : Env} {t : TypeId} {xo yo : Operand} {s u : ByteArray} (hl : s.size + u.size ≤ 9223372036854775807) : binOpA E .add t xo yo (.string s) (.string u) = some (.string (s ++ u)) := by
  have h : binPlainA E .add t xo yo (.string s) (.string u) = some (.string (s ++ u)) := by
    unfold binPlainA binOp Op.stringOp
    have : ¬ (9223372036854775807 < (s.size : Int) + (u.size : Int)) := by omega
    simp [this]
    rfl
  have : binOpA E .add t xo yo (.string s) (.string u) = binSlowA E .add t xo yo (.string s) (.string u) := rfl
  rw [this]
  unfold binSlowA
  rw [show (plain (.string s) && plain (.string u)) = true from rfl, cond_true, h]
  rfl
theorem bytes_app (l m : List UInt8) : (⟨⟨l⟩⟩ : ByteArray) ++ ⟨⟨m⟩⟩ = ⟨⟨l ++ m⟩⟩ := by
  apply ByteArray.ext
  simp
theorem bytesEq_self : ∀ l : List UInt8, bytesEqA l l = true
  | [] => rfl
  | b :: l => by
    unfold bytesEqA
    rw [Nat.beq_refl, cond_true]
    exact bytesEq_self l
theorem str_eq {E : Env} {t : TypeId} {xo yo : Operand} {s : ByteArray} : binOpA E .eql t xo yo (.string s) (.string s) = some (.bool true) := by
  have h : binOpA E .eql t xo yo (.string s) (.string s) = orA (strBinA .eql s s) (binSlowA E .eql t xo yo (.string s) (.string s)) := rfl
  have h2 : strBinA .eql s s = some (.bool true) := by unfold strBinA; rw [bytesEq_self]
  rw [h, h2]; rfl
theorem int_slow {E : Env} {op : BinOp} {t : TypeId} {xo yo : Operand} {a b : Int} {k : IntKind} {v : Value} (hk : Nat.beq (codeK .i64) (codeK k) = false) (h : binPlainA E op t xo yo (.int .i64 a) (.int k b) = some v) (hp : plain v = true) :
    binOpA E op t xo yo (.int .i64 a) (.int k b) = some v := by
  have : binOpA E op t xo yo (.int .i64 a) (.int k b) = bif Nat.beq (codeK .i64) (codeK k) then orA (intBinA op .i64 a b) (binSlowA E op t xo yo (.int .i64 a) (.int k b)) else binSlowA E op t xo yo (.int .i64 a) (.int k b) := rfl
  rw [this, hk, cond_false]
  unfold binSlowA
  rw [show (plain (.int .i64 a) && plain (.int k b)) = true from rfl, cond_true, h]
  simp [hp, guardO]
theorem shr_at {E : Env} {t : TypeId} {xo yo : Operand} {a : Int} {k : Nat} (h : k < 64) : binOpA E .shr t xo yo (.int .i64 a) (.int .u64 (.ofNat k)) = some (.int .i64 (shV a k)) := by
  refine int_slow rfl ?_ rfl
  unfold binPlainA binOp Op.shift
  have h1 : ¬ (Int.ofNat k < 0) := by simp
  have h2 : min (Int.ofNat k).toNat IntKind.i64.bits = k := by
    show min k 64 = k
    omega
  simp only [h1, if_false, h2]
  simp
  rfl
/-- By an operation of the machine's. -/
theorem by_op {E0 : Env} (ok : E0.Ok) {op : BinOp} {t : TypeId} {xo yo : Operand} {x' y' z : Value} {w : World} (hn : ∀ c, x' ≠ .chan (some c)) (hx : plain x' = true) (hy : plain y' = true) (h : binOpA E0 op t xo yo x' y' = some z) :
    (do eqGuard op t xo yo x' y'; binOp op t x' y').run E0.P w = .ok z w :=
  (does_binOp_plain (μ := ⟨fun _ => none, fun _ => none, fun _ _ => False⟩) ok (w := w) hn h (.plain _ hx) (.plain _ hy) (by
    have : ∀ v, plain v = true → isTok v = false := fun v hv => by
      cases v with
      | chan c => cases c <;> simp [plain, plainN] at hv
      | _ => rfl
    rw [this _ hx, this _ hy]; rfl)).1

theorem e3_range (e : Int) : 1 ≤ e3V e ∧ e3V e ≤ 16 := by
  have h := low15 e
  have e1 : IntKind.i64.wrap (lowOf e 15 + 1) = lowOf e 15 + 1 := IntWalk.i64_in _ (by omega)
  have e2 : e3V e = lowOf e 15 + 1 := by
    unfold e3V e2V
    rw [wrapA_eq]
    exact e1
  omega
theorem dig_len (a e : Int) (d : Nat) : (dig a e d).length ≤ 2 := by
  unfold dig
  split
  · simp
  · split
    · simp
    · split
      · simp
      · split
        · have h := e3_range e
          generalize e3V e = n at h
          have : n = 1 ∨ n = 2 ∨ n = 3 ∨ n = 4 ∨ n = 5 ∨ n = 6 ∨ n = 7 ∨ n = 8 ∨ n = 9 ∨ n = 10 ∨ n = 11 ∨ n = 12 ∨ n = 13 ∨ n = 14 ∨ n = 15 ∨ n = 16 := by omega
          rcases this with rfl | rfl | rfl | rfl | rfl | rfl | rfl | rfl | rfl | rfl | rfl | rfl | rfl | rfl | rfl | rfl <;> decide +kernel
        · simp
theorem dec_len (a e : Int) : ∀ (L p : Nat), p < 1024 ^ L → (dec (dig a e) p).length ≤ 2 * L
  | 0, p, h => by
    have : p = 0 := by simpa using h
    subst this
    rw [dec_zero]; simp
  | L + 1, p, h => by
    by_cases hp : p = 0
    · subst hp; rw [dec_zero]; simp
    · have hq : p / 1024 < 1024 ^ L := by
        rw [Nat.div_lt_iff_lt_mul (by decide)]
        rwa [Nat.pow_succ] at h
      rw [dec, dif_neg hp, List.length_append]
      have h1 := dec_len a e L (p / 1024) hq
      have h2 := dig_len a e (p % 1024)
      omega
theorem strX_ok {E0 : Env} (ok : E0.Ok) {a e : Int} {op : BinOp} {t : TypeId} {xo yo : Operand} {p q : Nat} {v : Value} {w : World} (h : strX op p q = some v) :
    ∃ v', (do eqGuard op t xo yo (.string ⟨⟨dec (dig a e) p⟩⟩) (.string ⟨⟨dec (dig a e) q⟩⟩); binOp op t (.string ⟨⟨dec (dig a e) p⟩⟩) (.string ⟨⟨dec (dig a e) q⟩⟩)).run E0.P w = .ok v' w ∧ TokV (syX a e) v v' := by
  unfold strX at h
  split at h
  · cases hb : Nat.blt (Nat.add (lenD p) (lenD q)) 1000000 with
    | false => rw [hb] at h; cases h
    | true =>
      rw [hb, cond_true] at h
      injection h with h; subst h
      have hb : lenD p + lenD q < 1000000 := blt_lt hb
      have h1 := dec_len a e _ p (lenD_lt p)
      have h2 := dec_len a e _ q (lenD_lt q)
      refine ⟨.string ⟨⟨dec (dig a e) p ++ dec (dig a e) q⟩⟩, ?_, ?_⟩
      · refine by_op ok (fun c h => by cases h) rfl rfl ?_
        rw [str_add (by show (dec (dig a e) p).length + (dec (dig a e) q).length ≤ _; omega), bytes_app]
      · rw [← dec_of_cat (dig a e) (dig_zero a e)]
        exact tk_str a e _
  · cases hb : Nat.beq p q with
    | false => rw [hb] at h; cases h
    | true =>
      rw [hb, cond_true] at h
      injection h with h; subst h
      rw [Nat.eq_of_beq_eq_true hb]
      exact ⟨.bool true, by_op ok (fun c h => by cases h) rfl rfl str_eq, TokV.plain rfl⟩
  · cases h

theorem tk_at {a e : Int} {k p : Nat} {v : Value} (hk : k < 8) (h : (match k with | 1 => some (Value.int .i64 (shV a p)) | 2 => some (.int .i64 (adV a p)) | 3 => some (.int .i64 (anV a p)) | 4 => some (.int .i64 (chV a p)) | 5 => some (.int .i32 (chV a p)) | 6 => some (.int .u8 (chV a p)) | _ => none) = some v) :
    TokV (syX a e) (tk k p) v := sem_tok (by
  unfold mean
  rw [(mod_mul k p hk).1, (mod_mul k p hk).2]
  match k, hk with
  | 0, _ => cases h
  | 1, _ => exact h
  | 2, _ => exact h
  | 3, _ => exact h
  | 4, _ => exact h
  | 5, _ => exact h
  | 6, _ => exact h
  | 7, _ => cases h
  | k + 8, hk => omega)
theorem mean_at {a e : Int} {n k : Nat} {v : Value} (hm : Nat.beq (Nat.mod n 8) k = true) (h : mean a e n = some v) (hk : k = 1 ∨ k = 2 ∨ k = 3 ∨ k = 4 ∨ k = 5 ∨ k = 6) :
    some v = match k with | 1 => some (Value.int .i64 (shV a (n / 8))) | 2 => some (.int .i64 (adV a (n / 8))) | 3 => some (.int .i64 (anV a (n / 8))) | 4 => some (.int .i64 (chV a (n / 8))) | 5 => some (.int .i32 (chV a (n / 8))) | 6 => some (.int .u8 (chV a (n / 8))) | _ => none := by
  have h2 : n % 8 = k := Nat.eq_of_beq_eq_true hm
  unfold mean at h
  rw [h2] at h
  rcases hk with rfl | rfl | rfl | rfl | rfl | rfl <;> exact h.symm
theorem and_at {E : Env} {t : TypeId} {xo yo : Operand} {n : Int} : binOpA E .and t xo yo (.int .i64 n) (.int .i64 15) = some (.int .i64 (lowOf n 15)) := binOpA_slow rfl binPlain_and rfl
theorem isAdd_eq {op : BinOp} (h : isAdd op = true) : op = .add := by cases op <;> first | rfl | cases h
theorem isAnd_eq {op : BinOp} (h : isAnd op = true) : op = .and := by cases op <;> first | rfl | cases h
theorem isShr_eq {op : BinOp} (h : isShr op = true) : op = .shr := by cases op <;> first | rfl | cases h
theorem isNe_eq {op : BinOp} (h : isNe op = true) : op = .neq := by cases op <;> first | rfl | cases h
theorem isEq_eq {op : BinOp} (h : isEq op = true) : op = .eql := by cases op <;> first | rfl | cases h
theorem cmp_at {E : Env} {op : BinOp} {t : TypeId} {xo yo : Operand} {n : Int} {b : Nat} {below : Bool} {v : Value} (h : cmpX op below = some v) (hb : (below = true ∧ n < b) ∨ (below = false ∧ (b : Int) < n)) :
    plain v = true ∧ binOpA E op t xo yo (.int .i64 n) (.int .i64 (.ofNat b)) = some v := by
  have red : ∀ u, intBinA op .i64 n (.ofNat b) = some u → binOpA E op t xo yo (.int .i64 n) (.int .i64 (.ofNat b)) = some u := fun u hu => by
    have : binOpA E op t xo yo (.int .i64 n) (.int .i64 (.ofNat b)) = orA (intBinA op .i64 n (.ofNat b)) (binSlowA E op t xo yo (.int .i64 n) (.int .i64 (.ofNat b))) := rfl
    rw [this, hu]; rfl
  have l1 : ltA n (.ofNat b) = below := by
    rw [ltA_eq]
    rcases hb with ⟨rfl, hl⟩ | ⟨rfl, hl⟩
    · exact decide_eq_true hl
    · exact decide_eq_false (by simp only [Int.ofNat_eq_natCast]; omega)
  have l2 : ltA (.ofNat b) n = !below := by
    rw [ltA_eq]
    rcases hb with ⟨rfl, hl⟩ | ⟨rfl, hl⟩
    · exact decide_eq_false (by simp only [Int.ofNat_eq_natCast]; omega)
    · exact decide_eq_true hl
  have l3 : eqA n (.ofNat b) = false := by
    rw [eqA_eq]
    have : n ≠ Int.ofNat b := by simp only [Int.ofNat_eq_natCast]; omega
    simpa using this
  unfold cmpX at h
  split at h <;> (try cases h)
  · exact ⟨rfl, red _ (by show some (Value.bool (ltA n (.ofNat b))) = _; rw [l1])⟩
  · exact ⟨rfl, red _ (by show some (Value.bool (!ltA (.ofNat b) n)) = _; rw [l2, Bool.not_not])⟩
  · exact ⟨rfl, red _ (by show some (Value.bool (ltA (.ofNat b) n)) = _; rw [l2])⟩
  · exact ⟨rfl, red _ (by show some (Value.bool (!ltA n (.ofNat b))) = _; rw [l1])⟩
  · exact ⟨rfl, red _ (by show some (Value.bool (eqA n (.ofNat b))) = _; rw [l3])⟩
  · exact ⟨rfl, red _ (by show some (Value.bool (!eqA n (.ofNat b))) = _; rw [l3]; rfl)⟩
end Go.Cm.Tx
namespace Go.Cm.Tx
open Go Go.Cm

section
variable {E0 : Env} (ok : E0.Ok) {a e : Int} {op : BinOp} {t : TypeId} {xo yo : Operand} {w : World}
include ok

theorem intX_ok {n b : Nat} {x' v : Value} (h : intX op n b = some v) (hm : mean a e n = some x') :
    ∃ v', (do eqGuard op t xo yo x' (.int .i64 (.ofNat b)); binOp op t x' (.int .i64 (.ofNat b))).run E0.P w = .ok v' w ∧ TokV (syX a e) v v' := by
  unfold intX at h
  cases c1 : Nat.beq (Nat.mod n 8) 1 with
  | true =>
    rw [c1, cond_true] at h
    have := mean_at c1 hm (.inl rfl)
    injection this with this; subst this
    cases hb : isAdd op && Nat.blt b 16 with
    | false => rw [hb] at h; cases h
    | true =>
      rw [hb, cond_true] at h
      injection h with h; subst h
      rw [Bool.and_eq_true] at hb
      have := isAdd_eq hb.1
      subst this
      have hlt : b < 16 := blt_lt hb.2
      refine ⟨.int .i64 (adV a (n / 8 * 16 + b)), by_op ok (fun c h => by cases h) rfl rfl ?_, tk_at (by decide) rfl⟩
      show some (Value.int .i64 (wrapA .i64 (Int.add (shV a (n / 8)) (.ofNat b)))) = _
      unfold adV
      rw [show (n / 8 * 16 + b) / 16 = n / 8 by omega, show (n / 8 * 16 + b) % 16 = b by omega]
      rfl
  | false =>
  rw [c1, cond_false] at h
  cases c2 : Nat.beq (Nat.mod n 8) 2 with
  | true =>
    rw [c2, cond_true] at h
    have := mean_at c2 hm (.inr (.inl rfl))
    injection this with this; subst this
    cases hb : isAnd op && Nat.beq b 15 with
    | false => rw [hb] at h; cases h
    | true =>
      rw [hb, cond_true] at h
      injection h with h; subst h
      rw [Bool.and_eq_true] at hb
      have := isAnd_eq hb.1
      subst this
      have := Nat.eq_of_beq_eq_true hb.2
      subst this
      exact ⟨.int .i64 (anV a (n / 8)), by_op ok (fun c h => by cases h) rfl rfl and_at, tk_at (by decide) rfl⟩
  | false =>
  rw [c2, cond_false] at h
  cases c4 : Nat.beq (Nat.mod n 8) 4 with
  | true =>
    rw [c4, cond_true] at h
    have := mean_at c4 hm (.inr (.inr (.inr (.inl rfl))))
    injection this with this; subst this
    have hr := chV_range a (n / 8)
    cases hb : Nat.blt 112 b with
    | true =>
      rw [hb, cond_true] at h
      have hb := blt_lt hb
      obtain ⟨k1, k2⟩ := cmp_at (E := E0) (t := t) (xo := xo) (yo := yo) (n := chV a (n / 8)) (b := b) h (.inl ⟨rfl, by omega⟩)
      exact ⟨v, by_op ok (fun c h => by cases h) rfl rfl k2, TokV.plain k1⟩
    | false =>
      rw [hb, cond_false] at h
      cases hb2 : Nat.blt b 97 with
      | false => rw [hb2] at h; cases h
      | true =>
        rw [hb2, cond_true] at h
        have hb2 := blt_lt hb2
        obtain ⟨k1, k2⟩ := cmp_at (E := E0) (t := t) (xo := xo) (yo := yo) (n := chV a (n / 8)) (b := b) h (.inr ⟨rfl, by omega⟩)
        exact ⟨v, by_op ok (fun c h => by cases h) rfl rfl k2, TokV.plain k1⟩
  | false =>
  rw [c4, cond_false] at h
  cases c8 : Nat.beq n 8 with
  | true =>
    rw [c8, cond_true] at h
    have := Nat.eq_of_beq_eq_true c8
    subst this
    have hm : some (Value.int .i64 e) = some x' := hm
    injection hm with hm; subst hm
    cases hb : isAnd op && Nat.beq b 15 with
    | false => rw [hb] at h; cases h
    | true =>
      rw [hb, cond_true] at h
      injection h with h; subst h
      rw [Bool.and_eq_true] at hb
      have := isAnd_eq hb.1
      subst this
      have := Nat.eq_of_beq_eq_true hb.2
      subst this
      exact ⟨.int .i64 (lowOf e 15), by_op ok (fun c h => by cases h) rfl rfl and_at, sem_tok rfl⟩
  | false =>
  rw [c8, cond_false] at h
  cases c16 : Nat.beq n 16 with
  | true =>
    rw [c16, cond_true] at h
    have := Nat.eq_of_beq_eq_true c16
    subst this
    have hm : some (Value.int .i64 (e2V e)) = some x' := hm
    injection hm with hm; subst hm
    cases hb : isAdd op && Nat.beq b 1 with
    | false => rw [hb] at h; cases h
    | true =>
      rw [hb, cond_true] at h
      injection h with h; subst h
      rw [Bool.and_eq_true] at hb
      have := isAdd_eq hb.1
      subst this
      have := Nat.eq_of_beq_eq_true hb.2
      subst this
      exact ⟨.int .i64 (e3V e), by_op ok (fun c h => by cases h) rfl rfl rfl, sem_tok rfl⟩
  | false =>
  rw [c16, cond_false] at h
  cases c24 : Nat.beq n 24 && Nat.beq b 0 with
  | false => rw [c24] at h; cases h
  | true =>
    rw [c24, cond_true] at h
    rw [Bool.and_eq_true] at c24
    have := Nat.eq_of_beq_eq_true c24.1
    subst this
    have := Nat.eq_of_beq_eq_true c24.2
    subst this
    have hm : some (Value.int .i64 (e3V e)) = some x' := hm
    injection hm with hm; subst hm
    have hr := e3_range e
    have he : eqA (e3V e) (Int.ofNat 0) = false := by
      rw [eqA_eq]
      have : e3V e ≠ Int.ofNat 0 := by simp only [Int.ofNat_eq_natCast]; omega
      simpa using this
    cases hn : isNe op with
    | true =>
      rw [hn, cond_true] at h
      injection h with h; subst h
      have := isNe_eq hn
      subst this
      refine ⟨.bool true, by_op ok (fun c h => by cases h) rfl rfl ?_, TokV.plain rfl⟩
      show some (Value.bool (!eqA (e3V e) (Int.ofNat 0))) = _
      rw [he]; rfl
    | false =>
      rw [hn, cond_false] at h
      cases hq : isEq op with
      | false => rw [hq] at h; cases h
      | true =>
        rw [hq, cond_true] at h
        injection h with h; subst h
        have := isEq_eq hq
        subst this
        refine ⟨.bool false, by_op ok (fun c h => by cases h) rfl rfl ?_, TokV.plain rfl⟩
        show some (Value.bool (eqA (e3V e) (Int.ofNat 0))) = _
        rw [he]

theorem askX_ok {x y v x' y' : Value} (h : askX op x y = some v) (hx : TokV (syX a e) x x') (hy : TokV (syX a e) y y') :
    ∃ v', (do eqGuard op t xo yo x' y'; binOp op t x' y').run E0.P w = .ok v' w ∧ TokV (syX a e) v v' := by
  have pl : ∀ {u u' : Value}, plain u = true → TokV (syX a e) u u' → u' = u := fun hp hu => by
    rcases hu with ⟨_, rfl⟩ | ⟨c, _, _, rfl, _⟩
    · rfl
    · simp [plain, plainN] at hp
  unfold askX at h
  split at h
  · rename_i b
    rw [Option.bind_eq_some_iff] at h
    obtain ⟨n, hn, h⟩ := h
    have hx' := pl (u := .int .i64 (.ofNat b)) rfl hx
    subst hx'
    cases hb : isAdd op && Nat.beq b 97 && Nat.beq (Nat.mod n 8) 3 with
    | false => rw [hb] at h; cases h
    | true =>
      rw [hb, cond_true] at h
      injection h with h; subst h
      rw [Bool.and_eq_true, Bool.and_eq_true] at hb
      have := isAdd_eq hb.1.1
      subst this
      have := Nat.eq_of_beq_eq_true hb.1.2
      subst this
      have := mean_at hb.2 (mean_of hn hy) (.inr (.inr (.inl rfl)))
      injection this with this; subst this
      exact ⟨.int .i64 (chV a (n / 8)), by_op ok (fun c h => by cases h) rfl rfl rfl, tk_at (by decide) rfl⟩
  · rename_i s
    rw [Option.bind_eq_some_iff] at h
    obtain ⟨q, hq, h⟩ := h
    have e1 := code_of (v := .string s) (p := enc 0 s.data.toList) rfl hx
    have e2 := code_of hq hy
    subst e1 e2
    exact strX_ok ok h
  · rw [Option.bind_eq_some_iff] at h
    obtain ⟨n, hn, h⟩ := h
    have hm := mean_of hn hx
    split at h
    · rename_i b
      have hy' := pl (u := .int .i64 (.ofNat b)) rfl hy
      subst hy'
      exact intX_ok ok h hm
    · rename_i k
      have hy' := pl (u := .int .u64 (.ofNat k)) rfl hy
      subst hy'
      unfold shrX at h
      cases hb : isShr op && Nat.beq n 0 && Nat.blt k 64 with
      | false => rw [hb] at h; cases h
      | true =>
        rw [hb, cond_true] at h
        injection h with h; subst h
        rw [Bool.and_eq_true, Bool.and_eq_true] at hb
        have := isShr_eq hb.1.1
        subst this
        have := Nat.eq_of_beq_eq_true hb.1.2
        subst this
        have hm : some (Value.int .i64 a) = some x' := hm
        injection hm with hm; subst hm
        exact ⟨.int .i64 (shV a k), by_op ok (fun c h => by cases h) rfl rfl (shr_at (blt_lt hb.2)), tk_at (by decide) rfl⟩
    · cases hb : Nat.beq (Nat.mod n 8) 7 with
      | false => rw [hb] at h; cases h
      | true =>
        rw [hb, cond_true, Option.bind_eq_some_iff] at h
        obtain ⟨q, hq, h⟩ := h
        have e2 := code_of hq hy
        have e1 : x' = .string ⟨⟨dec (dig a e) (Nat.div n 8)⟩⟩ := by
          have h2 : n % 8 = 7 := Nat.eq_of_beq_eq_true hb
          unfold mean at hm
          rw [h2] at hm
          injection hm with hm
          exact hm.symm
        subst e1 e2
        exact strX_ok ok h
end
end Go.Cm.Tx
namespace Go.Cm.Tx
open Go Go.Cm

/-- A digit as a byte's cell. -/
noncomputable def cellD (d : Nat) : Option Value :=
  bif Nat.beq d 0 then none else bif Nat.ble d 256 then some (.int .u8 (.ofNat (Nat.pred d))) else bif Nat.ble d 512 then some (tk 6 (Nat.sub d 257)) else none
noncomputable def cellsF (f : Nat) : Nat → List Value → Option (List Value) :=
  Nat.rec (motive := fun _ => Nat → List Value → Option (List Value)) (fun p acc => Bool.rec none (some acc) (Nat.beq p 0))
    (fun _ ih p acc => Bool.rec (Option.rec none (fun c => ih (Nat.div p 1024) (c :: acc)) (cellD (Nat.mod p 1024))) (some acc) (Nat.beq p 0)) f
noncomputable def strOf (x : Value) : Option Nat := (num x).bind fun n => bif Nat.beq (Nat.mod n 8) 7 then some (Nat.div n 8) else none
noncomputable def askYX (x : Value) : Option (List Value) := (strOf x).bind fun p => cellsF 4096 p []
noncomputable def isStr (und : TypeId → Option TypeDesc) (t : TypeId) : Bool := match und t with | some .string => true | _ => false
noncomputable def askLX (und : TypeId → Option TypeDesc) (t : TypeId) (x : Value) : Option Value :=
  bif isStr und t then (askYX x).map fun l => .int .i64 (.ofNat l.length) else none
noncomputable def digC (v : Value) : Option Nat :=
  match v with
  | .int .u8 (.ofNat n) => bif Nat.blt n 256 then some (Nat.succ n) else none
  | v => (num v).bind fun n => bif Nat.beq (Nat.mod n 8) 6 && Nat.blt (Nat.div n 8) 256 then some (Nat.add 257 (Nat.div n 8)) else none
noncomputable def codeB : Nat → List Value → Option Nat
  | acc, [] => some acc
  | acc, v :: l => (digC v).bind fun d => codeB (Nat.add (Nat.mul acc 1024) d) l
noncomputable def askBX (l : List Value) : Option Value := (codeB 0 l).map fun p => tk 7 p
noncomputable def convX (und : TypeId → Option TypeDesc) (s d : TypeId) (x : Value) : Option Value :=
  (und s).bind fun _ => (und d).bind fun dd => (num x).bind fun n =>
  match dd with
  | .int .i64 => bif Nat.beq (Nat.mod n 8) 4 then some (tk 4 (Nat.div n 8)) else bif Nat.beq (Nat.mod n 8) 5 then some (tk 4 (Nat.div n 8)) else bif Nat.beq n 24 then some (tok 24) else none
  | .int .i32 => bif Nat.beq (Nat.mod n 8) 4 then some (tk 5 (Nat.div n 8)) else none
  | .int .u8 => bif Nat.beq (Nat.mod n 8) 4 then some (tk 6 (Nat.div n 8)) else none
  | .string => bif Nat.beq (Nat.mod n 8) 5 && Nat.blt (Nat.div n 8) 256 then some (tk 7 (Nat.add 257 (Nat.div n 8))) else none
  | _ => none

section
variable {a e : Int}
theorem chV_byte (a : Int) (p : Nat) : ((UInt8.ofNat (chV a p).toNat).toNat : Int) = chV a p := by
  have h := chV_range a p
  have : (chV a p).toNat < 256 := by omega
  simp only [UInt8.toNat_ofNat']
  omega
theorem cellD_ok {d : Nat} {c : Value} (h : cellD d = some c) : ∃ b : UInt8, dig a e d = [b] ∧ TokV (syX a e) c (.int .u8 b.toNat) := by
  unfold cellD at h
  cases h0 : Nat.beq d 0 with
  | true => rw [h0] at h; cases h
  | false =>
    rw [h0, cond_false] at h
    have hd : d ≠ 0 := fun e => by subst e; cases h0
    cases h1 : Nat.ble d 256 with
    | true =>
      rw [h1, cond_true] at h
      injection h with h; subst h
      have h1 := Nat.le_of_ble_eq_true h1
      have hb : (UInt8.ofNat (d - 1)).toNat = d - 1 := by simp only [UInt8.toNat_ofNat']; omega
      refine ⟨UInt8.ofNat (d - 1), ?_, Or.inl ⟨rfl, ?_⟩⟩
      · unfold dig; rw [if_neg hd, if_pos h1]
      · rw [hb]; rfl
    | false =>
      rw [h1, cond_false] at h
      have h1 : ¬ d ≤ 256 := fun hh => by rw [Nat.ble_eq_true_of_le hh] at h1; cases h1
      cases h2 : Nat.ble d 512 with
      | false => rw [h2] at h; cases h
      | true =>
        rw [h2, cond_true] at h
        injection h with h; subst h
        have h2 := Nat.le_of_ble_eq_true h2
        refine ⟨UInt8.ofNat (chV a (d - 257)).toNat, ?_, ?_⟩
        · unfold dig; rw [if_neg hd, if_neg h1, if_pos h2]
        · rw [chV_byte]; exact tk_at (by decide) rfl
theorem cellsF_ok : ∀ (f p : Nat) (acc l : List Value), cellsF f p acc = some l → ∃ cs : List Value, l = cs ++ acc ∧ cs.length = (dec (dig a e) p).length ∧
    ∀ (i : Nat) (v : Value), cs[i]? = some v → ∃ b, (dec (dig a e) p)[i]? = some b ∧ TokV (syX a e) v (.int .u8 b.toNat)
  | 0, p, acc, l, h => by
    have h : (Bool.rec none (some acc) (Nat.beq p 0) : Option (List Value)) = some l := h
    cases hb : Nat.beq p 0 with
    | false => rw [hb] at h; cases h
    | true =>
      rw [hb] at h
      injection h with h; subst h
      rw [Nat.eq_of_beq_eq_true hb, dec_zero]
      exact ⟨[], rfl, rfl, fun i v h => by simp at h⟩
  | f + 1, p, acc, l, h => by
    have h : (Bool.rec (Option.rec none (fun c => cellsF f (Nat.div p 1024) (c :: acc)) (cellD (Nat.mod p 1024))) (some acc) (Nat.beq p 0) : Option (List Value)) = some l := h
    cases hb : Nat.beq p 0 with
    | true =>
      rw [hb] at h
      injection h with h; subst h
      rw [Nat.eq_of_beq_eq_true hb, dec_zero]
      exact ⟨[], rfl, rfl, fun i v h => by simp at h⟩
    | false =>
      rw [hb] at h
      cases hc : cellD (Nat.mod p 1024) with
      | none => rw [hc] at h; cases h
      | some c =>
        rw [hc] at h
        have h : cellsF f (p / 1024) (c :: acc) = some l := h
        obtain ⟨cs, h1, h2, h3⟩ := cellsF_ok f (p / 1024) (c :: acc) l h
        obtain ⟨b, hd, hv⟩ := cellD_ok (a := a) (e := e) hc
        have hd : dig a e (p % 1024) = [b] := hd
        have hp : p ≠ 0 := fun e => by subst e; cases hb
        have hdec : dec (dig a e) p = dec (dig a e) (p / 1024) ++ [b] := by rw [dec, dif_neg hp, hd]
        refine ⟨cs ++ [c], by rw [h1]; simp, by rw [hdec]; simp [h2], fun i v hi => ?_⟩
        rw [hdec]
        rcases Nat.lt_or_ge i cs.length with hlt | hge
        · rw [List.getElem?_append_left hlt] at hi
          obtain ⟨b', g1, g2⟩ := h3 i v hi
          exact ⟨b', by rw [List.getElem?_append_left (by omega)]; exact g1, g2⟩
        · rw [List.getElem?_append_right hge] at hi
          have : i - cs.length = 0 := by
            rcases Nat.eq_zero_or_pos (i - cs.length) with h | h
            · exact h
            · rw [List.getElem?_eq_none (by simp; omega)] at hi; cases hi
          rw [this] at hi
          injection hi with hi; subst hi
          exact ⟨b, by rw [List.getElem?_append_right (by omega), show i - (dec (dig a e) (p / 1024)).length = 0 by omega]; rfl, hv⟩
theorem strOf_ok {x x' : Value} {p : Nat} (h : strOf x = some p) (hx : TokV (syX a e) x x') : x' = .string ⟨⟨dec (dig a e) p⟩⟩ := by
  unfold strOf at h
  rw [Option.bind_eq_some_iff] at h
  obtain ⟨n, hn, h⟩ := h
  cases hb : Nat.beq (Nat.mod n 8) 7 with
  | false => rw [hb] at h; cases h
  | true =>
    rw [hb, cond_true] at h
    injection h with h; subst h
    have h1 := mean_of hn hx
    have h2 : n % 8 = 7 := Nat.eq_of_beq_eq_true hb
    unfold mean at h1
    rw [h2] at h1
    injection h1 with h1
    exact h1.symm
theorem askYX_ok {x x' : Value} {l : List Value} (h : askYX x = some l) (hx : TokV (syX a e) x x') : ∃ t : ByteArray, x' = .string t ∧ l.length = t.size ∧ ∀ (i : Nat) (v : Value), l[i]? = some v → ∃ b, t.data.toList[i]? = some b ∧ TokV (syX a e) v (.int .u8 b.toNat) := by
  unfold askYX at h
  rw [Option.bind_eq_some_iff] at h
  obtain ⟨p, hp, h⟩ := h
  obtain ⟨cs, h1, h2, h3⟩ := cellsF_ok (a := a) (e := e) _ _ _ _ h
  rw [List.append_nil] at h1
  subst h1
  exact ⟨_, strOf_ok hp hx, h2, h3⟩
theorem askLX_ok {E0 : Env} (ok : E0.Ok) {t ty : TypeId} {x v x' : Value} {w : World} {ts : Array TypeId} {args : Array Value} (h : askLX E0.und t x = some v) (hx : TokV (syX a e) x x') (ht0 : ts[0]? = some t) (ha0 : args[0]? = some x') :
    ∃ v', (Builtin.len_ ts ty args).run E0.P w = .ok v' w ∧ TokV (syX a e) v v' := by
  unfold askLX at h
  cases hs : isStr E0.und t with
  | false => rw [hs] at h; cases h
  | true =>
    rw [hs, cond_true, Option.map_eq_some_iff] at h
    obtain ⟨l, hl, rfl⟩ := h
    obtain ⟨s, rfl, h1, _⟩ := askYX_ok hl hx
    have hd : E0.und t = some .string := by
      unfold isStr at hs
      split at hs
      · assumption
      · cases hs
    refine ⟨.int .i64 s.size, ?_, Or.inl ⟨rfl, by rw [h1]; rfl⟩⟩
    unfold Builtin.len_
    simp only [ht0, ha0, Sem.run_bind, ok.run_und w hd, Result.andThen_ok, Sem.run_pure]; rfl
theorem digC_ok {v v' : Value} {d : Nat} {μ : Mu} (hsy : μ.sy = syX a e) (h : digC v = some d) (hv : VRel μ v v') : d < 1024 ∧ ∃ n : Int, v' = .int .u8 n ∧ dig a e d = [UInt8.ofNat n.toNat] := by
  unfold digC at h
  split at h
  · rename_i n
    cases hb : Nat.blt n 256 with
    | false => rw [hb] at h; cases h
    | true =>
      rw [hb, cond_true] at h
      injection h with h; subst h
      have hb : n < 256 := blt_lt hb
      refine ⟨by omega, _, hv.eq rfl, ?_⟩
      unfold dig
      rw [if_neg (by omega), if_pos (by omega)]
      rfl
  · rw [Option.bind_eq_some_iff] at h
    obtain ⟨n, hn, h⟩ := h
    cases hb : Nat.beq (Nat.mod n 8) 6 && Nat.blt (Nat.div n 8) 256 with
    | false => rw [hb] at h; cases h
    | true =>
      rw [hb, cond_true] at h
      injection h with h; subst h
      rw [Bool.and_eq_true] at hb
      have hlt : n / 8 < 256 := blt_lt hb.2
      have hv2 : TokV (syX a e) v v' := hsy ▸ TokV.of hv (by
        rw [num_some hn]
        show (bif isTok (tok n) then true else plain (tok n)) = true
        rw [show isTok (tok n) = true from Nat.ble_eq_true_of_le (tokN_le n)]; rfl)
      have hm := mean_at hb.1 (mean_of hn hv2) (.inr (.inr (.inr (.inr (.inr rfl)))))
      injection hm with hm
      exact ⟨by show 257 + n / 8 < 1024; omega, _, hm, dig_sym a e _ hlt⟩
theorem codeB_ok {μ : Mu} (hsy : μ.sy = syX a e) : ∀ {l l' : List Value} {acc p : Nat}, codeB acc l = some p → VRels μ l l' → ∃ ns : List Int, l' = ns.map (Value.int .u8) ∧ dec (dig a e) p = dec (dig a e) acc ++ ns.map fun n => UInt8.ofNat n.toNat
  | [], l', acc, p, h, hv => by
    cases hv
    injection h with h; subst h
    exact ⟨[], rfl, by simp⟩
  | v :: l, l', acc, p, h, hv => by
    unfold codeB at h
    rw [Option.bind_eq_some_iff] at h
    obtain ⟨d, hd, h⟩ := h
    cases hv with
    | cons _ v' _ l2 hv hl =>
      obtain ⟨ns, rfl, h2⟩ := codeB_ok hsy h hl
      obtain ⟨hlt, n, rfl, hdg⟩ := digC_ok hsy hd hv
      refine ⟨n :: ns, rfl, ?_⟩
      rw [h2]
      have : dec (dig a e) (acc * 1024 + d) = dec (dig a e) acc ++ dig a e d := dec_step (dig a e) (dig_zero a e) acc d hlt
      show dec (dig a e) (acc * 1024 + d) ++ _ = _
      rw [this, hdg, List.append_assoc]; rfl
theorem askBX_ok {μ : Mu} {l l' : List Value} {v : Value} (h : askBX l = some v) (hsy : μ.sy = syX a e) (hv : VRels μ l l') : ∃ ns : List Int, l' = ns.map (Value.int .u8) ∧ TokV (syX a e) v (.string ⟨⟨ns.map fun n => UInt8.ofNat n.toNat⟩⟩) := by
  unfold askBX at h
  rw [Option.map_eq_some_iff] at h
  obtain ⟨p, hp, rfl⟩ := h
  obtain ⟨ns, h1, h2⟩ := codeB_ok hsy hp hv
  rw [dec_zero, List.nil_append] at h2
  exact ⟨ns, h1, by rw [← h2]; exact tk_str a e p⟩
theorem utf_ch {n : Int} (h : 97 ≤ n ∧ n ≤ 112) : Utf8.encode n = ⟨⟨[UInt8.ofNat n.toNat]⟩⟩ := by
  have : n = 97 ∨ n = 98 ∨ n = 99 ∨ n = 100 ∨ n = 101 ∨ n = 102 ∨ n = 103 ∨ n = 104 ∨ n = 105 ∨ n = 106 ∨ n = 107 ∨ n = 108 ∨ n = 109 ∨ n = 110 ∨ n = 111 ∨ n = 112 := by omega
  rcases this with rfl | rfl | rfl | rfl | rfl | rfl | rfl | rfl | rfl | rfl | rfl | rfl | rfl | rfl | rfl | rfl <;> decide +kernel
theorem convX_ok {E0 : Env} (ok : E0.Ok) {s d : TypeId} {x v x' : Value} {w : World} (h : convX E0.und s d x = some v) (hx : TokV (syX a e) x x') : ∃ v', (convert s d x').run E0.P w = .ok v' w ∧ TokV (syX a e) v v' := by
  unfold convX at h
  simp only [Option.bind_eq_some_iff] at h
  obtain ⟨sd, hs, dd, hd, n, hn, h⟩ := h
  have hm := mean_of hn hx
  have toI : ∀ (k k' : IntKind) (m : Int), dd = .int k' → (convert s d (.int k m)).run E0.P w = .ok (.int k' (k'.wrap m)) w := by
    intro k k' m hdd
    subst hdd
    unfold convert
    cases sd <;> (simp only [Sem.run_bind, ok.run_und w hs, ok.run_und w hd, Result.andThen_ok]; rfl)
  split at h
  · cases h4 : Nat.beq (Nat.mod n 8) 4 with
    | true =>
      rw [h4, cond_true] at h
      injection h with h; subst h
      have := mean_at h4 hm (.inr (.inr (.inr (.inl rfl))))
      injection this with this; subst this
      have hr := chV_range a (n / 8)
      exact ⟨_, toI _ _ _ rfl, by rw [IntWalk.i64_in _ (by omega)]; exact tk_at (by decide) rfl⟩
    | false =>
      rw [h4, cond_false] at h
      cases h5 : Nat.beq (Nat.mod n 8) 5 with
      | true =>
        rw [h5, cond_true] at h
        injection h with h; subst h
        have := mean_at h5 hm (.inr (.inr (.inr (.inr (.inl rfl)))))
        injection this with this; subst this
        have hr := chV_range a (n / 8)
        exact ⟨_, toI _ _ _ rfl, by rw [IntWalk.i64_in _ (by omega)]; exact tk_at (by decide) rfl⟩
      | false =>
        rw [h5, cond_false] at h
        cases h24 : Nat.beq n 24 with
        | false => rw [h24] at h; cases h
        | true =>
          rw [h24, cond_true] at h
          injection h with h; subst h
          have := Nat.eq_of_beq_eq_true h24
          subst this
          have hm : some (Value.int .i64 (e3V e)) = some x' := hm
          injection hm with hm; subst hm
          have hr := e3_range e
          exact ⟨_, toI _ _ _ rfl, by rw [IntWalk.i64_in _ (by omega)]; exact sem_tok rfl⟩
  · cases h4 : Nat.beq (Nat.mod n 8) 4 with
    | false => rw [h4] at h; cases h
    | true =>
      rw [h4, cond_true] at h
      injection h with h; subst h
      have := mean_at h4 hm (.inr (.inr (.inr (.inl rfl))))
      injection this with this; subst this
      have hr := chV_range a (n / 8)
      have e1 : IntKind.i32.wrap (chV a (n / 8)) = chV a (n / 8) := by
        generalize chV a (n / 8) = m at hr
        have : m = 97 ∨ m = 98 ∨ m = 99 ∨ m = 100 ∨ m = 101 ∨ m = 102 ∨ m = 103 ∨ m = 104 ∨ m = 105 ∨ m = 106 ∨ m = 107 ∨ m = 108 ∨ m = 109 ∨ m = 110 ∨ m = 111 ∨ m = 112 := by omega
        rcases this with rfl | rfl | rfl | rfl | rfl | rfl | rfl | rfl | rfl | rfl | rfl | rfl | rfl | rfl | rfl | rfl <;> rfl
      exact ⟨_, toI _ _ _ rfl, by rw [e1]; exact tk_at (by decide) rfl⟩
  · cases h4 : Nat.beq (Nat.mod n 8) 4 with
    | false => rw [h4] at h; cases h
    | true =>
      rw [h4, cond_true] at h
      injection h with h; subst h
      have := mean_at h4 hm (.inr (.inr (.inr (.inl rfl))))
      injection this with this; subst this
      have hr := chV_range a (n / 8)
      have e1 : IntKind.u8.wrap (chV a (n / 8)) = chV a (n / 8) := by
        generalize chV a (n / 8) = m at hr
        have : m = 97 ∨ m = 98 ∨ m = 99 ∨ m = 100 ∨ m = 101 ∨ m = 102 ∨ m = 103 ∨ m = 104 ∨ m = 105 ∨ m = 106 ∨ m = 107 ∨ m = 108 ∨ m = 109 ∨ m = 110 ∨ m = 111 ∨ m = 112 := by omega
        rcases this with rfl | rfl | rfl | rfl | rfl | rfl | rfl | rfl | rfl | rfl | rfl | rfl | rfl | rfl | rfl | rfl <;> rfl
      exact ⟨_, toI _ _ _ rfl, by rw [e1]; exact tk_at (by decide) rfl⟩
  · cases h5 : Nat.beq (Nat.mod n 8) 5 && Nat.blt (Nat.div n 8) 256 with
    | false => rw [h5] at h; cases h
    | true =>
      rw [h5, cond_true] at h
      injection h with h; subst h
      rw [Bool.and_eq_true] at h5
      have := mean_at h5.1 hm (.inr (.inr (.inr (.inr (.inl rfl)))))
      injection this with this; subst this
      have hlt : n / 8 < 256 := blt_lt h5.2
      refine ⟨.string ⟨⟨[UInt8.ofNat (chV a (n / 8)).toNat]⟩⟩, ?_, ?_⟩
      · have : (convert s d (.int .i32 (chV a (n / 8)))).run E0.P w = .ok (.string (Utf8.encode (chV a (n / 8)))) w := by
          unfold convert
          cases sd <;> (simp only [Sem.run_bind, ok.run_und w hs, ok.run_und w hd, Result.andThen_ok]; rfl)
        rw [this, utf_ch (chV_range a (n / 8))]
      · have h1 : dec (dig a e) (257 + n / 8) = [UInt8.ofNat (chV a (n / 8)).toNat] := by
          have := dec_step (dig a e) (dig_zero a e) 0 (257 + n / 8) (by omega)
          rw [Nat.zero_mul, Nat.zero_add, dec_zero, List.nil_append] at this
          rw [this, dig_sym a e _ hlt]
        rw [← h1]
        exact tk_str a e _
  · cases h
end
end Go.Cm.Tx
