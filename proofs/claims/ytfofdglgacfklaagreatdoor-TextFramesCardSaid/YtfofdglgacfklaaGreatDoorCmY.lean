/-
  An Env out of a program's tables; and a closed call that answers true.
-/
import Derived.Test.YtfofdglgacfklaaGreatDoorCmX
import Derived.Eval
import Derived.KernelRfl
namespace Go.Cm
open Go Go.RowKit

/-- A tree of what f gives below n: at x it holds what f gives at a * x + b. -/
noncomputable def T.of {α : Type} (f : Nat → Option α) (n : Nat) : Nat → Nat → Nat → T α
  | 0, _, _ => .leaf
  | d + 1, a, b => .node (T.of f n d (Nat.mul 2 a) (Nat.add a b)) (bif Nat.blt b n then f b else none) (T.of f n d (Nat.mul 2 a) (Nat.add (Nat.mul 2 a) b))

theorem T.of_get {α : Type} (f : Nat → Option α) (n : Nat) : ∀ (d a b x : Nat) (v : α), (T.of f n d a b).get x = some v → f (a * x + b) = some v ∧ a * x + b < n
  | 0, a, b, x, v, h => by rw [T.of, T.get_leaf] at h; cases h
  | d + 1, a, b, x, v, h => by
    rw [T.of, T.get_node] at h
    by_cases h0 : x = 0
    · subst h0
      rw [if_pos rfl] at h
      cases hb : Nat.blt b n with
      | false => rw [hb] at h; cases h
      | true => rw [hb] at h; simpa using ⟨h, blt_lt0 hb⟩
    · rw [if_neg h0] at h
      by_cases h1 : x % 2 = 1
      · rw [if_pos h1] at h
        have := T.of_get f n d _ _ _ v h
        have e : Nat.mul 2 a * (x / 2) + Nat.add a b = a * x + b := by
          have hx : x = 2 * (x / 2) + 1 := by omega
          show 2 * a * (x / 2) + (a + b) = a * x + b
          conv => rhs; rw [hx]
          rw [Nat.mul_add, Nat.mul_one, Nat.mul_comm 2 a, Nat.mul_assoc, Nat.add_assoc]
        rwa [e] at this
      · rw [if_neg h1] at h
        have := T.of_get f n d _ _ _ v h
        have e : Nat.mul 2 a * (x / 2 - 1) + Nat.add (Nat.mul 2 a) b = a * x + b := by
          have hx : x = 2 * (x / 2 - 1) + 2 := by omega
          show 2 * a * (x / 2 - 1) + (2 * a + b) = a * x + b
          conv => rhs; rw [hx]
          rw [Nat.mul_add, Nat.mul_comm 2 a, Nat.mul_assoc, Nat.add_assoc]
        rwa [e] at this

/-- Which functions are let in: the bits of a number. -/
noncomputable def funcOf (P : Program) (mask : Nat) (i : Nat) : Option Func := bif Nat.testBit mask i then P.funcs[i]? else none
noncomputable def unds (P : Program) : T TypeDesc := T.of P.underlying P.types.size 12 1 0
noncomputable def infos (P : Program) : T TypeInfo := T.of P.info? P.types.size 12 1 0
noncomputable def funcs (P : Program) (mask : Nat) : T Func := T.of (funcOf P mask) P.funcs.size 12 1 0

noncomputable def goodAt (E : Env) (i : Nat) : Bool :=
  match E.P.funcs[i]? with
  | some fn => (match fn.body with | some c => codeOk E c | none => false) && fn.name != "runtime.NumGoroutine"
  | none => true
noncomputable def goodAll (E : Env) (mask n : Nat) : Bool := (List.range n).all fun i => !Nat.testBit mask i || goodAt E i

structure Env.Made (E : Env) (mask : Nat) : Prop where
  und : E.und = (unds E.P).get
  info : E.info = (infos E.P).get
  fn : E.fn = (funcs E.P mask).get
  good : goodAll E mask E.P.funcs.size = true
  mixed : E.P.follows .mixedOrders = true
  sk : ∀ f g, E.sk f = some g → SkOk E.P f g := by intro f g h; cases h
  pk : ∀ f p, E.pk f = some p → PkOk E.P E.sy f p.1 p.2 := by intro f p h; cases h
  askB : ∀ (μ : Mu) (l l' : List Value) (v : Value), E.askB l = some v → μ.sy = E.sy → VRels μ l l' → ∃ ns : List Int, l' = ns.map (Value.int .u8) ∧ TokV E.sy v (.string ⟨⟨ns.map fun n => UInt8.ofNat n.toNat⟩⟩) := by intro μ l l' v h; cases h
  askY : ∀ (x x' : Value) (l : List Value), E.askY x = some l → TokV E.sy x x' → ∃ t : ByteArray, x' = .string t ∧ l.length = t.size ∧ ∀ (i : Nat) (v : Value), l[i]? = some v → ∃ b, t.data.toList[i]? = some b ∧ TokV E.sy v (.int .u8 b.toNat) := by intro x x' l h; cases h
  ext : ∀ f e args v, E.ext f = some e → plains args = true → e args = some v → plain v = true ∧ ∀ w, Known E.P f ⟨args⟩ v w
  dk : ∀ f F ds v rows, E.dk f = some F → F ds = some (v, rows) → DeepOk E.P f ds v rows
  ask : ∀ op t xo yo x y v x' y' w, E.ask op x y = some v → TokV E.sy x x' → TokV E.sy y y' → ∃ v', (do eqGuard op t xo yo x' y'; binOp op t x' y').run E.P w = .ok v' w ∧ TokV E.sy v v'
  askLen : ∀ (t ty : TypeId) (x v x' : Value) (w : World) (ts : Array TypeId) (args : Array Value), E.askLen t x = some v → TokV E.sy x x' → ts[0]? = some t → args[0]? = some x' → ∃ v', (Builtin.len_ ts ty args).run E.P w = .ok v' w ∧ TokV E.sy v v'
  kt : ∀ f e args v (μ : Mu) args' (w : World), E.kt f = some e → e args = some v → μ.sy = E.sy → (∀ b o, μ.fz b = some o → w.heap[b]? = some o) → VRels μ args args'.toList → ∃ v', VRel μ v v' ∧ Known E.P f args' v' w
  askC : ∀ (s d : TypeId) (x v x' : Value) (w : World), E.askC s d x = some v → TokV E.sy x x' → (∀ b o, E.fz b = some o → w.heap[b]? = some o) → ∃ v', (convert s d x').run E.P w = .ok v' w ∧ TokV E.sy v v'
  askS : ∀ (t : TypeId) (x v x' : Value) (lo hi mx : Option Value) (w : World), E.askS t x lo hi mx = some v → TokV E.sy x x' → ∃ v', (Instr.sliceAt t x' lo hi mx).run E.P w = .ok v' w ∧ TokV E.sy v v'

theorem noAsk {E : Env} (h : E.ask = fun _ _ _ => none := by rfl) : ∀ op t xo yo x y v x' y' w, E.ask op x y = some v → TokV E.sy x x' → TokV E.sy y y' → ∃ v', (do eqGuard op t xo yo x' y'; binOp op t x' y').run E.P w = .ok v' w ∧ TokV E.sy v v' :=
  fun _ _ _ _ _ _ _ _ _ _ h' => by rw [h] at h'; cases h'
theorem noLen {E : Env} (h : E.askLen = fun _ _ => none := by rfl) : ∀ (t ty : TypeId) (x v x' : Value) (w : World) (ts : Array TypeId) (args : Array Value), E.askLen t x = some v → TokV E.sy x x' → ts[0]? = some t → args[0]? = some x' → ∃ v', (Builtin.len_ ts ty args).run E.P w = .ok v' w ∧ TokV E.sy v v' :=
  fun _ _ _ _ _ _ _ _ h' => by rw [h] at h'; cases h'
theorem noKt {E : Env} (h : E.kt = fun _ => none := by rfl) : ∀ f e args v (μ : Mu) args' (w : World), E.kt f = some e → e args = some v → μ.sy = E.sy → (∀ b o, μ.fz b = some o → w.heap[b]? = some o) → VRels μ args args'.toList → ∃ v', VRel μ v v' ∧ Known E.P f args' v' w :=
  fun _ _ _ _ _ _ _ h' => by rw [h] at h'; cases h'
theorem noC {E : Env} (h : E.askC = fun _ _ _ => none := by rfl) : ∀ (s d : TypeId) (x v x' : Value) (w : World), E.askC s d x = some v → TokV E.sy x x' → (∀ b o, E.fz b = some o → w.heap[b]? = some o) → ∃ v', (convert s d x').run E.P w = .ok v' w ∧ TokV E.sy v v' :=
  fun _ _ _ _ _ _ h' => by rw [h] at h'; cases h'
theorem noS {E : Env} (h : E.askS = fun _ _ _ _ _ => none := by rfl) : ∀ (t : TypeId) (x v x' : Value) (lo hi mx : Option Value) (w : World), E.askS t x lo hi mx = some v → TokV E.sy x x' → ∃ v', (Instr.sliceAt t x' lo hi mx).run E.P w = .ok v' w ∧ TokV E.sy v v' :=
  fun _ _ _ _ _ _ _ _ h' => by rw [h] at h'; cases h'

theorem Env.Made.fn_some {E : Env} {mask : Nat} (m : E.Made mask) {f : FuncId} {fn : Func} (h : E.fn f = some fn) : E.P.funcs[f]? = some fn ∧ goodAt E f = true := by
  rw [m.fn] at h
  obtain ⟨h1, h2⟩ := T.of_get _ _ _ _ _ _ _ h
  rw [Nat.one_mul, Nat.add_zero] at h1 h2
  unfold funcOf at h1
  cases hb : Nat.testBit mask f with
  | false => rw [hb] at h1; cases h1
  | true =>
    rw [hb] at h1
    refine ⟨h1, ?_⟩
    have := m.good
    unfold goodAll at this
    rw [List.all_eq_true] at this
    have := this f (List.mem_range.2 h2)
    rw [hb] at this
    simpa using this

theorem Env.Made.ok {E : Env} {mask : Nat} (m : E.Made mask) : E.Ok where
  und := fun t d h => by
    rw [m.und] at h
    have := (T.of_get _ _ _ _ _ _ _ h).1
    rwa [Nat.one_mul, Nat.add_zero] at this
  info := fun t d h => by
    rw [m.info] at h
    have := (T.of_get _ _ _ _ _ _ _ h).1
    rwa [Nat.one_mul, Nat.add_zero] at this
  fn := fun f fn h => by
    obtain ⟨h1, h2⟩ := m.fn_some h
    refine ⟨h1, ?_⟩
    unfold goodAt at h2
    rw [h1] at h2
    simp only [Bool.and_eq_true, bne_iff_ne] at h2
    refine ⟨h2.2, ?_⟩
    cases hb : fn.body with
    | none => rw [hb] at h2; exact absurd h2.1 (by simp)
    | some c => rfl
  ext := m.ext
  mixed := m.mixed
  sk := m.sk
  pk := m.pk
  askB := m.askB
  askY := m.askY
  dk := m.dk
  ask := m.ask
  askLen := m.askLen
  kt := m.kt
  askC := m.askC
  askS := m.askS

theorem Env.Made.coded {E : Env} {mask : Nat} (m : E.Made mask) : E.Coded := fun f fn c h hb => by
  obtain ⟨h1, h2⟩ := m.fn_some h
  unfold goodAt at h2
  rw [h1] at h2
  simp only [hb, Bool.and_eq_true] at h2
  exact h2.1

theorem yes_run {E : Env} {n : Nat} {f : FuncId} {args : List Value} {next : Nat} (h : yes E n f args next = true) : ∃ s', run E n f args (St.empty next) = some (.bool true, s') := by
  unfold yes at h
  split at h
  · rename_i b s hr; subst h; exact ⟨s, hr⟩
  · cases h

/-- The names below n0 are the globals'. -/
noncomputable def globMu (n0 : Nat) (sy : Nat → Value → Prop := fun _ _ => False) : Mu := ⟨fun r => if r < n0 then some ⟨r, 0, 0, 0, 0⟩ else .none, fun _ => none, sy⟩
theorem globMu_at {n0 r : Nat} {sy : Nat → Value → Prop} (h : r < n0) : (globMu n0 sy) r = some ⟨r, 0, 0, 0, 0⟩ := if_pos h
theorem globMu_none {n0 r : Nat} {sy : Nat → Value → Prop} (h : ¬ r < n0) : (globMu n0 sy) r = none := if_neg h

/-- A CLOSED CALL: it answers true, and of what there was nothing turns. -/
theorem closedAt {E : Env} (ok : E.Ok) (cok : E.Coded) {n0 : Nat} (hg : ∀ g, E.glob g = true → g < n0) {n : Nat} {f : FuncId} {args : List Value} {args' : Array Value} (h : yes E n f args n0 = true) (hv : VRels (globMu n0 E.sy) args args'.toList) (w : World) (hz : ∀ b, E.fz b = none := by intro _; rfl) :
    Calls E.P f args' w fun e w' => e = .returned (.bool true) ∧ Below w.heap.size w w' := by
  obtain ⟨s', hr⟩ := yes_run h
  have hs : SRel w.heap.size (globMu n0 E.sy) (St.empty n0).rows.get w :=
    { ge := Nat.le_refl _
      dom := fun r x L h _ => by unfold St.empty at h; rw [D.get_leaf] at h; cases h
      row := fun r x h => by unfold St.empty at h; rw [D.get_leaf] at h; cases h
      apart := fun r q x y L K _ h => by unfold St.empty at h; rw [D.get_leaf] at h; cases h
      cold := fun b o h => by cases h
      hot := fun r x L h => by unfold St.empty at h; rw [D.get_leaf] at h; cases h
      old := fun r x L h => by unfold St.empty at h; rw [D.get_leaf] at h; cases h }
  refine Calls.mono (run_sound ok cok hr hv hs ⟨fun g h => ⟨0, 0, 0, globMu_at (hg g h)⟩, rfl, fun b o h => by rw [hz] at h; cases h⟩ fun r h _ => ?_) ?_
  · have h' : n0 ≤ r := h
    exact globMu_none (by omega)
  · rintro e w' ⟨v', μ', rfl, hv', _, hgr⟩
    have := hv'.ofBool
    subst this
    exact ⟨rfl, hgr.below⟩
theorem closed {E : Env} (ok : E.Ok) (cok : E.Coded) (hg : ∀ g, E.glob g = false) {n : Nat} {f : FuncId} {args : List Value} {args' : Array Value} (h : yes E n f args 0 = true) (hv : VRels (globMu 0 E.sy) args args'.toList) (w : World) (hz : ∀ b, E.fz b = none := by intro _; rfl) :
    Calls E.P f args' w fun e w' => e = .returned (.bool true) ∧ Below w.heap.size w w' :=
  closedAt ok cok (fun g h => by rw [hg g] at h; cases h) h hv w hz

/-- What is known of a closed call may be used of it where it is called. -/
theorem known_of {P : Program} {f : FuncId} {fn : Func} {args : List Value} {v : Value} (hf : P.funcs[f]? = some fn) (hn : fn.name ≠ "runtime.NumGoroutine") (hb : fn.body.isSome = true)
    (h : ∀ w, Calls P f ⟨args⟩ w fun e w' => e = .returned v ∧ Below w.heap.size w w') (w : World) : Known P f ⟨args⟩ v w := by
  right
  refine ⟨?_, h w⟩
  unfold callFunc
  have hname : (fn.name == "runtime.NumGoroutine") = false := by simpa using hn
  have hbody : fn.body.isNone = false := by cases hb : fn.body <;> simp_all
  simp only [Sem.run_bind, run_program, Result.andThen_ok, hf, hname, Bool.false_eq_true, if_false, hbody, Sem.run_pure]

/-- One call known beforehand, of no arguments, that answers true. -/
noncomputable def trueAt (f : FuncId) : FuncId → Option (List Value → Option Value) := fun g => bif Nat.beq g f then some (fun l => match l with | [] => some (.bool true) | _ => none) else none
theorem trueAt_ok {P : Program} {f : FuncId} (h : ∀ w, Known P f #[] (.bool true) w) : ∀ g e args v, trueAt f g = some e → plains args = true → e args = some v → plain v = true ∧ ∀ w, Known P g ⟨args⟩ v w := by
  intro g e args v hg _ he
  unfold trueAt at hg
  cases hb : Nat.beq g f with
  | false => rw [hb] at hg; cases hg
  | true =>
    have := Nat.eq_of_beq_eq_true hb
    subst this
    rw [hb] at hg
    injection hg with hg
    subst hg
    cases args with
    | nil => simp only [Option.some.injEq] at he; subst he; exact ⟨rfl, h⟩
    | cons => cases he

/-- A function without a body that looks at no memory and asks nothing: by the model's own words. -/
noncomputable def externA (P : Program) (f : FuncId) (args : List Value) : Option Value :=
  (pureRun P (callFunc f ⟨args⟩)).bind fun nx => match nx with
    | .value v => (guardO (plain v)).map fun _ => v
    | _ => none
noncomputable def externs (P : Program) (l : List FuncId) (g : FuncId) : Option (List Value → Option Value) := bif l.any (Nat.beq g) then some (externA P g) else none
noncomputable def orExt (a b : FuncId → Option (List Value → Option Value)) (g : FuncId) : Option (List Value → Option Value) :=
  match a g with
  | some e => some e
  | none => b g
noncomputable def ExtOk (P : Program) (x : FuncId → Option (List Value → Option Value)) : Prop :=
  ∀ f e args v, x f = some e → plains args = true → e args = some v → plain v = true ∧ ∀ w, Known P f ⟨args⟩ v w
theorem externs_ok (P : Program) (l : List FuncId) : ExtOk P (externs P l) := by
  intro f e args v hf _ he
  unfold externs at hf
  cases hb : l.any (Nat.beq f) with
  | false => rw [hb] at hf; cases hf
  | true =>
    rw [hb] at hf
    injection hf with hf
    subst hf
    unfold externA at he
    rw [Option.bind_eq_some_iff] at he
    obtain ⟨nx, h1, h2⟩ := he
    cases nx with
    | value u =>
      simp only [Option.map_eq_some_iff, guardO_some] at h2
      obtain ⟨_, hp, rfl⟩ := h2
      exact ⟨hp, fun w => Or.inl ⟨w, pureRun_ok _ _ h1 w, Below.refl _ _⟩⟩
    | _ => cases h2
theorem orExt_ok {P : Program} {a b : FuncId → Option (List Value → Option Value)} (ha : ExtOk P a) (hb : ExtOk P b) : ExtOk P (orExt a b) := by
  intro f e args v hf hp he
  unfold orExt at hf
  cases h : a f with
  | some x => rw [h] at hf; injection hf with hf; subst hf; exact ha f x args v h hp he
  | none => rw [h] at hf; exact hb f e args v hf hp he

/-- A number of which only what is left by 255, and then by m, is known. -/
theorem sym_rest (n : Int) (m : Nat) (hm : 0 < m) (hm2 : m < 1024) : ∃ k, k < m ∧ ∀ μ, VRel μ (symAt 0 m k) (.int .i64 n) := by
  have h := lowOf_range n
  refine ⟨(lowOf n 255 % (m : Int)).toNat, ?_, fun μ => .sym _ n ?_⟩
  · have h1 := Int.emod_lt_of_pos (lowOf n 255) (by omega : (0 : Int) < m)
    have h2 := Int.emod_nonneg (lowOf n 255) (by omega : (m : Int) ≠ 0)
    omega
  · have h1 := Int.emod_lt_of_pos (lowOf n 255) (by omega : (0 : Int) < m)
    have h2 := Int.emod_nonneg (lowOf n 255) (by omega : (m : Int) ≠ 0)
    generalize hr : lowOf n 255 % (m : Int) = r at h1 h2 ⊢
    have hk : r.toNat < 1024 := by omega
    unfold SymOk symM symK
    have e1 : (3 * (1024 * m + r.toNat) + 0) % 3 = 0 := by omega
    have e2 : (3 * (1024 * m + r.toNat) + 0) / 3 = 1024 * m + r.toNat := by omega
    refine ⟨by omega, ?_⟩
    show (match (3 * (1024 * m + r.toNat) + 0) % 3 with | 0 => _ | 1 => _ | _ => _)
    rw [e1]
    show lowOf n 255 % ((((3 * (1024 * m + r.toNat) + 0) / 3) / 1024 : Nat) : Int) = ((((3 * (1024 * m + r.toNat) + 0) / 3) % 1024 : Nat) : Int)
    rw [e2, show (1024 * m + r.toNat) / 1024 = m by omega, show (1024 * m + r.toNat) % 1024 = r.toNat by omega, hr]
    omega
/-- A number of which only what the bits of m leave is known. -/
theorem sym_bits (n : Int) (m : Nat) (hm : m < 1024) : ∃ k, k ≤ m ∧ ∀ μ, VRel μ (symAt 2 m k) (.int .i64 n) := by
  have h : (BitVec.ofInt 64 n &&& BitVec.ofInt 64 (m : Nat)).toNat ≤ m := by
    rw [BitVec.toNat_and]
    refine Nat.le_trans Nat.and_le_right ?_
    rw [BitVec.toNat_ofInt]; omega
  refine ⟨(BitVec.ofInt 64 n &&& BitVec.ofInt 64 (m : Nat)).toNat, h, fun μ => .sym _ n ?_⟩
  generalize hr : (BitVec.ofInt 64 n &&& BitVec.ofInt 64 (m : Nat)).toNat = r at h ⊢
  unfold SymOk symM symK
  have e1 : (3 * (1024 * m + r) + 2) % 3 = 2 := by omega
  have e2 : (3 * (1024 * m + r) + 2) / 3 = 1024 * m + r := by omega
  refine ⟨by omega, ?_⟩
  show (match (3 * (1024 * m + r) + 2) % 3 with | 0 => _ | 1 => _ | _ => _)
  rw [e1]
  show lowOf n (((3 * (1024 * m + r) + 2) / 3) / 1024) = ((((3 * (1024 * m + r) + 2) / 3) % 1024 : Nat) : Int)
  rw [e2, show (1024 * m + r) / 1024 = m by omega, show (1024 * m + r) % 1024 = r by omega]
  unfold lowOf
  rw [hr]
  exact IntWalk.i64_in (r : Int) (by omega)
end Go.Cm
