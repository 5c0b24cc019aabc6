/-
  Regions, gone through with values of which only some is known: what is to be shown is a proposition that unfolds by itself.
-/
import Derived.Test.YtfofdglgacfklaaGreatDoorCmWp
namespace Go.Cm
open Go Go.RowKit

/-- A frame as a list of what was put. -/
structure SF where
  n : Nat
  b : Value
  l : List (Nat × Value)
noncomputable def look (b : Value) : List (Nat × Value) → Nat → Value
  | [], _ => b
  | p :: l, i => bif Nat.beq p.1 i then p.2 else look b l i
noncomputable def SF.get (f : SF) (i : Nat) : Value := bif Nat.blt i f.n then look f.b f.l i else undef
noncomputable def SF.tree (b : Value) : List (Nat × Value) → FT 5
  | [] => FT.all b 5
  | p :: l => FT.put 5 (SF.tree b l) p.1 p.2
noncomputable def SF.fr (f : SF) : Fr := ⟨f.n, SF.tree f.b f.l⟩
def SF.ok (f : SF) : Prop := f.n ≤ 1024 ∧ ∀ p, p ∈ f.l → p.1 < f.n

theorem look_tree (n : Nat) (hn : n ≤ 1024) (b : Value) : ∀ (l : List (Nat × Value)), (∀ p, p ∈ l → p.1 < n) → ∀ i, i < n → FT.get 5 (SF.tree b l) i = look b l i
  | [], _, i, _ => by rw [SF.tree, FT.get_all]; rfl
  | p :: l, h, i, hi => by
    rw [SF.tree, FT.get_put 5 _ _ _ _ (by have := h p (by simp); show p.1 < 1024; omega) (by show i < 1024; omega), look, beq_ite]
    by_cases e : i = p.1
    · rw [if_pos e, if_pos e.symm]
    · rw [if_neg e, if_neg (Ne.symm e)]; exact look_tree n hn b l (fun q hq => h q (by simp [hq])) i hi
theorem SF.get_fr {f : SF} (h : f.ok) (i : Nat) : f.fr.get i = f.get i := by
  rw [Fr.get_eq]
  unfold SF.get SF.fr
  cases hb : Nat.blt i f.n with
  | true => simp only [cond_true]; exact look_tree f.n h.1 f.b f.l h.2 i (blt_lt0 hb)
  | false => rfl
noncomputable def SF.eval (f : SF) : Operand → Value
  | .tmp t => f.get t
  | .const v => v
  | .global g => .pointer (some ⟨g, 0, none⟩)
  | .func g => .func (.func g) #[] #[]
theorem SF.eval_fr {f : SF} (h : f.ok) : f.fr.eval = f.eval := by
  funext o
  cases o <;> first | rfl | exact SF.get_fr h _
noncomputable def SF.put (f : SF) (d : Nat) (v : Value) : SF := ⟨f.n, f.b, (d, v) :: f.l⟩
theorem SF.put_fr (f : SF) (d : Nat) (v : Value) : (f.put d v).fr = f.fr.put d v := by rw [Fr.put_eq]; rfl
theorem SF.put_ok {f : SF} (h : f.ok) {d : Nat} {v : Value} (hd : d < f.n) : (f.put d v).ok :=
  ⟨h.1, fun p hp => by rcases List.mem_cons.1 hp with e | e; rw [e]; exact hd; exact h.2 p e⟩

/-- What a literal test leaves. -/
noncomputable def when (b : Bool) (P : Prop) : Prop := Bool.rec False P b
theorem when_spec {b : Bool} {P : Prop} (h : when b P) : b = true ∧ P := by cases b; exact h.elim; exact ⟨rfl, h⟩
noncomputable def pickP (t : Bool) (P Q : Prop) : Prop := Bool.rec Q P t

/-- Whole numbers. -/
noncomputable def intP (op : BinOp) (k : IntKind) (a b : Int) (D : Prop) (K : Value → Prop) : Prop :=
  match op with
  | .add => ∃ z, k.wrap (a + b) = z ∧ K (.int k z)
  | .sub => ∃ z, k.wrap (a - b) = z ∧ K (.int k z)
  | .mul => ∃ z, k.wrap (a * b) = z ∧ K (.int k z)
  | .eql => ∃ t : Bool, decide (a = b) = t ∧ K (.bool t)
  | .neq => ∃ t : Bool, decide (a = b) = t ∧ K (.bool (!t))
  | .lss => ∃ t : Bool, decide (a < b) = t ∧ K (.bool t)
  | .leq => ∃ t : Bool, decide (b < a) = t ∧ K (.bool (!t))
  | .gtr => ∃ t : Bool, decide (b < a) = t ∧ K (.bool t)
  | .geq => ∃ t : Bool, decide (a < b) = t ∧ K (.bool (!t))
  | .and => ∃ z, k.wrap ((BitVec.ofInt k.bits a &&& BitVec.ofInt k.bits b).toNat : Int) = z ∧ K (.int k z)
  | .quo => b ≠ 0 ∧ ∃ z, k.wrap (a.tdiv b) = z ∧ K (.int k z)
  | .rem => b ≠ 0 ∧ ∃ z, a.tmod b = z ∧ K (.int k z)
  | _ => D
noncomputable def strP (op : BinOp) (a b : ByteArray) (D : Prop) (K : Value → Prop) : Prop :=
  match op with
  | .eql => ∃ t : Bool, decide (a.data.toList = b.data.toList) = t ∧ K (.bool t)
  | .neq => ∃ t : Bool, decide (a.data.toList = b.data.toList) = t ∧ K (.bool (!t))
  | _ => D

noncomputable def anyP (E : Env) (ρ : Operand → Value) (o : Oper) (s : St) (K : Nx → St → Prop) : Prop := ∃ nx s', execA E ρ o s = some (nx, s') ∧ K nx s'

/-- An operation. -/
noncomputable def execP (E : Env) (ρ : Operand → Value) (o : Oper) (s : St) (K : Nx → St → Prop) : Prop :=
  match o.op with
  | .move x => K (.value (ρ x)) s
  | .assign x => K (.value (ρ x)) s
  | .pick c a b => match ρ c with
    | .bool t => pickP t (K (.value (ρ a)) s) (K (.value (ρ b)) s)
    | _ => False
  | .unOp u _ x => match u, ρ x with
    | .not, .bool b => K (.value (.bool (!b))) s
    | .neg, .int k a => ∃ z, k.wrap (-a) = z ∧ K (.value (.int k z)) s
    | _, _ => anyP E ρ o s K
  | .binOp op _ x y _ => match ρ x with
    | .int k a => (match ρ y with
      | .int k' b => pickP (Nat.beq (codeK k) (codeK k')) (intP op k a b (anyP E ρ o s K) fun v => K (.value v) s) False
      | _ => anyP E ρ o s K)
    | .string a => (match ρ y with
      | .string b => strP op a b (anyP E ρ o s K) fun v => K (.value v) s
      | _ => anyP E ρ o s K)
    | _ => anyP E ρ o s K
  | .index t x i => match ρ x with
    | .string st => (match ρ i with
      | .int _ n => E.und t = some .string ∧ ∃ (m : Nat) (b : UInt8), n = (m : Int) ∧ st.data.toList[m]? = some b ∧ K (.value (.int .u8 b.toNat)) s
      | _ => False)
    | _ => anyP E ρ o s K
  | .indexAddr t x i => match ρ i with
    | .int _ n => ∃ (e : TypeId) (inf : TypeInfo), E.und t = some (.slice e) ∧ E.info e = some inf ∧ (match ρ x with
      | .slice (some a) len _ => ∃ m : Nat, n = (m : Int) ∧ m < len ∧ K (.value (.pointer (some ⟨a.block, a.off + m * inf.size, none⟩))) s
      | .func (.yield 0) cs c => (match c.toList with
        | [.int .i64 (.ofNat len)] => ∃ m : Nat, n = (m : Int) ∧ m < len ∧ K (.value (fzp (m * inf.size) cs.toList)) s
        | _ => False)
      | _ => False)
    | _ => False
  | .load t a => match ρ a with
    | .func (.yield 1) cs c => (match c.toList with
      | [.int .i64 (.ofNat o)] => ∃ v, partA E t cs.toList o = some v ∧ K (.value v) s
      | _ => False)
    | _ => anyP E ρ o s K
  | _ => anyP E ρ o s K

theorem binOpA_slow {E : Env} {op : BinOp} {t : TypeId} {xo yo : Operand} {k : IntKind} {a b : Int} {v : Value} (h0 : intBinA op k a b = none) (h : binPlainA E op t xo yo (.int k a) (.int k b) = some v) (hp : plain v = true) :
    binOpA E op t xo yo (.int k a) (.int k b) = some v := by
  unfold binOpA
  have e1 : isTok (.int k a) = false := rfl
  have e2 : isTok (.int k b) = false := rfl
  simp only [e1, e2, Nat.beq_refl, cond_true, cond_false, h0, orA]
  unfold binSlowA
  have h1 : plain (.int k a) = true := rfl
  have h2 : plain (.int k b) = true := rfl
  rw [h1, h2, Bool.and_self, cond_true, h]
  simp [hp, guardO]
theorem binPlain_and {E : Env} {t : TypeId} {xo yo : Operand} {k : IntKind} {a b : Int} : binPlainA E .and t xo yo (.int k a) (.int k b) = some (.int k (k.wrap ((BitVec.ofInt k.bits a &&& BitVec.ofInt k.bits b).toNat : Int))) := by
  unfold binPlainA binOp
  simp
  rfl
theorem binPlain_quo {E : Env} {t : TypeId} {xo yo : Operand} {k : IntKind} {a b : Int} (h : b ≠ 0) : binPlainA E .quo t xo yo (.int k a) (.int k b) = some (.int k (k.wrap (a.tdiv b))) := by
  unfold binPlainA binOp Op.intDiv
  simp [h]
  rfl
theorem binPlain_rem {E : Env} {t : TypeId} {xo yo : Operand} {k : IntKind} {a b : Int} (h : b ≠ 0) : binPlainA E .rem t xo yo (.int k a) (.int k b) = some (.int k (a.tmod b)) := by
  unfold binPlainA binOp Op.intDiv
  simp [h]
  rfl
theorem int_spec {E : Env} {t : TypeId} {xo yo : Operand} {op : BinOp} {k : IntKind} {a b : Int} {D : Prop} {K : Value → Prop} (h : intP op k a b D K) : D ∨ ∃ v, binOpA E op t xo yo (.int k a) (.int k b) = some v ∧ K v := by
  unfold intP at h
  have eb : ∀ x y : Int, (decide (x = y)) = eqA x y := fun x y => by rw [eqA_eq]; exact Bool.eq_iff_iff.2 (by simp)
  have fast : ∀ v, intBinA op k a b = some v → binOpA E op t xo yo (.int k a) (.int k b) = some v := fun v hv => by
    unfold binOpA
    have e1 : isTok (.int k a) = false := rfl
    have e2 : isTok (.int k b) = false := rfl
    simp only [e1, e2, Nat.beq_refl, cond_true, cond_false, hv, orA]
  split at h
  · obtain ⟨z, rfl, h⟩ := h; exact Or.inr ⟨_, fast _ rfl, by rw [wrapA_eq]; exact h⟩
  · obtain ⟨z, rfl, h⟩ := h; exact Or.inr ⟨_, fast _ rfl, by rw [wrapA_eq]; exact h⟩
  · obtain ⟨z, rfl, h⟩ := h; exact Or.inr ⟨_, fast _ rfl, by rw [wrapA_eq]; exact h⟩
  · obtain ⟨z, rfl, h⟩ := h; exact Or.inr ⟨_, fast _ rfl, by rw [← eb]; exact h⟩
  · obtain ⟨z, rfl, h⟩ := h; exact Or.inr ⟨_, fast _ rfl, by rw [← eb]; exact h⟩
  · obtain ⟨z, rfl, h⟩ := h; exact Or.inr ⟨_, fast _ rfl, by rw [ltA_eq]; exact h⟩
  · obtain ⟨z, rfl, h⟩ := h; exact Or.inr ⟨_, fast _ rfl, by rw [ltA_eq]; exact h⟩
  · obtain ⟨z, rfl, h⟩ := h; exact Or.inr ⟨_, fast _ rfl, by rw [ltA_eq]; exact h⟩
  · obtain ⟨z, rfl, h⟩ := h; exact Or.inr ⟨_, fast _ rfl, by rw [ltA_eq]; exact h⟩
  · obtain ⟨z, rfl, h⟩ := h; exact Or.inr ⟨_, binOpA_slow rfl binPlain_and rfl, h⟩
  · obtain ⟨hb, z, rfl, h⟩ := h; exact Or.inr ⟨_, binOpA_slow rfl (binPlain_quo hb) rfl, h⟩
  · obtain ⟨hb, z, rfl, h⟩ := h; exact Or.inr ⟨_, binOpA_slow rfl (binPlain_rem hb) rfl, h⟩
  · exact Or.inl h
theorem str_spec {op : BinOp} {a b : ByteArray} {D : Prop} {K : Value → Prop} (h : strP op a b D K) : D ∨ ∃ v, strBinA op a b = some v ∧ K v := by
  unfold strP at h
  have eb : ∀ x y : List UInt8, decide (x = y) = bytesEqA x y := fun x y => by rw [bytesEqA_eq]; exact Bool.eq_iff_iff.2 (by simp)
  split at h
  · obtain ⟨z, rfl, h⟩ := h; exact Or.inr ⟨_, rfl, by rw [← eb]; exact h⟩
  · obtain ⟨z, rfl, h⟩ := h; exact Or.inr ⟨_, rfl, by rw [← eb]; exact h⟩
  · exact Or.inl h

theorem value_exec {E : Env} {ρ : Operand → Value} {o : Oper} {s : St} {v : Value} (h : execA E ρ o = asV (M.lift (valueA E ρ o.op))) (hv : valueA E ρ o.op = some v) : execA E ρ o s = some (.value v, s) := by
  rw [h]; unfold asV; rw [M.bind_eq, M.lift_eq, hv]; rfl

theorem exec_spec {E : Env} {ρ : Operand → Value} {o : Oper} {s : St} {K : Nx → St → Prop} (h : execP E ρ o s K) : ∃ nx s', execA E ρ o s = some (nx, s') ∧ K nx s' := by
  obtain ⟨dst, op, ty, pos, after, guard⟩ := o
  unfold execP at h
  cases op <;> simp only at h <;> first
    | exact h
    | skip
  · exact ⟨_, _, value_exec rfl rfl, h⟩
  · exact ⟨_, _, value_exec rfl rfl, h⟩
  · rename_i c a b
    split at h
    · rename_i t ht
      cases t with
      | true => exact ⟨_, _, value_exec (v := ρ a) rfl (by show pickA (ρ c) (ρ a) (ρ b) = _; rw [ht]; rfl), h⟩
      | false => exact ⟨_, _, value_exec (v := ρ b) rfl (by show pickA (ρ c) (ρ a) (ρ b) = _; rw [ht]; rfl), h⟩
    · exact h.elim
  · rename_i t a
    split at h
    · rename_i cs c ha
      split at h
      · rename_i o hc
        obtain ⟨v, hv, hK⟩ := h
        refine ⟨_, _, ?_, hK⟩
        show asV (loadA E t (ρ a)) s = _
        have hfz : asFz (ρ a) = some (1, o, cs.toList) := by rw [ha]; unfold asFz; simp only [hc]
        unfold asV loadA
        rw [hfz]
        simp only [M.bind_eq, M.lift_eq, hv]
        rfl
      · exact h.elim
    · exact h
  · rename_i op t x y u
    split at h
    · rename_i k a hx
      split at h
      · rename_i k' b hy
        cases hk : Nat.beq (codeK k) (codeK k') with
        | false => rw [hk] at h; exact h.elim
        | true =>
          rw [hk] at h
          have h' : intP op k a b (anyP E ρ { dst := dst, op := Op.binOp op t x y u, type := ty, pos := pos, after := after, guard := guard } s K) (fun v => K (Nx.value v) s) := h
          rcases int_spec (E := E) (t := t) (xo := x) (yo := y) h' with h | ⟨v, hv, hK⟩
          · exact h
          · refine ⟨_, _, value_exec (v := v) rfl ?_, hK⟩
            show binOpA E op t x y (ρ x) (ρ y) = _
            rw [hx, hy]
            have : k = k' := codeK_inj hk
            subst this
            exact hv
      · exact h
    · rename_i a hx
      split at h
      · rename_i b hy
        rcases str_spec h with h | ⟨v, hv, hK⟩
        · exact h
        · refine ⟨_, _, value_exec (v := v) rfl ?_, hK⟩
          show binOpA E op t x y (ρ x) (ρ y) = _
          rw [hx, hy]
          unfold binOpA
          simp only [hv]
          rfl
      · exact h
    · exact h
  · rename_i u t x
    have go : ∀ v, unOpA E u (ρ x) = some v → K (.value v) s → ∃ nx s', execA E ρ { dst := dst, op := Op.unOp u t x, type := ty, pos := pos, after := after, guard := guard } s = some (nx, s') ∧ K nx s' := fun v hv hK => ⟨_, _, value_exec rfl hv, hK⟩
    split at h
    · rename_i b hx
      exact go _ (by rw [hx]; rfl) h
    · rename_i k a hx
      obtain ⟨z, rfl, h⟩ := h
      refine go _ ?_ h
      rw [hx]
      unfold unOpA
      have h1 : plain (.int k a) = true := rfl
      rw [h1]
      have h2 : pureRun E.P (Op.unary .neg (.int k a)) = some (.int k (k.wrap (-a))) := by
        unfold Op.unary
        simp only [Op.intArith]
        show some (Value.int k (k.wrap (0 - a))) = _
        rw [Int.zero_sub]
      simp only [guardO, cond_true, Option.bind_some, h2]
      rfl
    · exact h
  · rename_i t x i
    split at h
    · rename_i kk n hi
      obtain ⟨e, inf, hd, hinf, h⟩ := h
      split at h
      · rename_i a len cap hx
        obtain ⟨m, rfl, hm, hK⟩ := h
        refine ⟨_, _, value_exec rfl ?_, hK⟩
        show indexAddrA E t (ρ x) (ρ i) = _
        rw [hx, hi]
        unfold indexAddrA
        have h1 : idx (.int kk (m : Int)) = some m := rfl
        have h2 : asFz (.slice (some a) len cap) = none := rfl
        have h3 : asSlice (.slice (some a) len cap) = some (some a, len, cap) := rfl
        simp only [hd, h1, hinf, h2, h3, Option.bind_some, lt_blt0 hm, guardO, cond_true, Option.map_some]
      · rename_i cs c hx
        split at h
        · rename_i len hc
          obtain ⟨m, rfl, hm, hK⟩ := h
          refine ⟨_, _, value_exec rfl ?_, hK⟩
          show indexAddrA E t (ρ x) (ρ i) = _
          have hfz : asFz (ρ x) = some (0, len, cs.toList) := by rw [hx]; unfold asFz; simp only [hc]
          rw [hi]
          unfold indexAddrA
          have h1 : idx (.int kk (m : Int)) = some m := rfl
          have h4 : Nat.beq 0 0 = true := rfl
          simp only [hd, h1, hinf, hfz, Option.bind_some, lt_blt0 hm, h4, Bool.and_self, guardO, cond_true, Option.map_some]
        · exact h.elim
      · exact h.elim
    · exact h.elim
  · rename_i t x i
    split at h
    · rename_i st hx
      split at h
      · rename_i kk n hi
        obtain ⟨hd, m, b, rfl, hb, hK⟩ := h
        refine ⟨_, _, value_exec rfl ?_, hK⟩
        show indexA E t (ρ x) (ρ i) = _
        rw [hx, hi]
        unfold indexA
        have h1 : idx (.int kk (m : Int)) = some m := rfl
        have h2 : asStr (.string st) = some st := rfl
        simp only [hd, h1, h2, Option.bind_some, hb, Option.map_some]
      · exact h.elim
    · exact h

/-- Whether it is wanted: a guard is a bool that is known. -/
noncomputable def wantP (ops : Array Oper) (f : SF) (o : Oper) (A B : Prop) : Prop :=
  match o.guard with
  | none => A
  | some (j, want) => match ops[j]? with
    | some g => (match g.dst with
      | some d => (match f.get d with
        | .bool b => pickP b (pickP want A B) (pickP want B A)
        | _ => False)
      | none => False)
    | none => False
noncomputable def dstP (f : SF) (d : Option Tmp) (v : Value) (K : SF → Prop) : Prop :=
  match d with
  | none => K f
  | some d => when (Nat.blt d f.n) (K (f.put d v))

/-- What a call answers. -/
def CallP := FuncId → List Value → St → (Value → St → Prop) → Prop
def CallP.fits (cp : CallP) (call : FuncId → List Value → M Value) : Prop := ∀ f args s K, cp f args s K → ∃ v s', call f args s = some (v, s') ∧ K v s'

noncomputable def opP (E : Env) (cp : CallP) (ops : Array Oper) (o : Oper) (f : SF) (s : St) (K : SF → St → Prop) : Prop :=
  wantP ops f o
    (execP E f.eval o s fun nx s => match nx with
      | .value v => dstP f o.dst v fun f => K f s
      | .skip => dstP f o.dst undef fun f => K f s
      | .known _ _ v => dstP f o.dst v fun f => K f s
      | .enter g args => cp g args s fun v s => dstP f o.dst v fun f => K f s)
    (dstP f o.dst undef fun f => K f s)
noncomputable def opsP (E : Env) (cp : CallP) (ops : Array Oper) : List Oper → SF → St → (SF → St → Prop) → Prop
  | [], f, s, K => K f s
  | o :: l, f, s, K => opP E cp ops o f s fun f s => opsP E cp ops l f s K
noncomputable def watchP (s : St) (K : Did → St → Prop) (s' : St) : Prop :=
  K { lo := s.next, hi := s'.next, log := below s.next s'.log, wlog := below s.next s'.wlog } { s' with log := below s.next s'.log ++ s.log, wlog := below s.next s'.wlog ++ s.wlog }
noncomputable def drawP (E : Env) (cp : CallP) (ops : Array Oper) (before : Array Nat) : List Oper → Nat → List (Nat × Did) → SF → St → (SF → St → Prop) → Prop
  | [], _, _, f, s, K => K f s
  | o :: l, i, ds, f, s, K => opP E cp ops o f { s with log := [], wlog := [] } fun f s' =>
      watchP s (fun d s' => settled before i d ds = true ∧ drawP E cp ops before l (Nat.succ i) (keep i d ds) f s' K) s'

theorem dst_spec {f : SF} (hf : f.ok) {d : Option Tmp} {v : Value} {K : SF → Prop} {s : St} (h : dstP f d v K) : ∃ f', f'.ok ∧ f.fr.dst d v s = some (f'.fr, s) ∧ K f' := by
  unfold dstP at h
  cases d with
  | none => exact ⟨f, hf, rfl, h⟩
  | some d =>
    obtain ⟨h1, h2⟩ := when_spec h
    refine ⟨f.put d v, SF.put_ok hf (blt_lt0 h1), ?_, h2⟩
    unfold Fr.dst
    have : Nat.blt d f.fr.n = true := h1
    simp only [this, cond_true, SF.put_fr]
    rfl

theorem want_spec {ops : Array Oper} {f : SF} (hf : f.ok) {o : Oper} {A B : Prop} (h : wantP ops f o A B) : sureA ops f.fr o = true ∧ (wantedA ops f.fr o = true ∧ A ∨ wantedA ops f.fr o = false ∧ B) := by
  unfold wantP at h
  unfold sureA wantedA
  split at h
  · rename_i hg
    simp only [hg]
    exact ⟨trivial, Or.inl ⟨trivial, h⟩⟩
  · rename_i j want hg
    split at h
    · rename_i g hgo
      split at h
      · rename_i d hd
        split at h
        · rename_i b hb
          rw [← SF.get_fr hf] at hb
          simp only [hg, hgo, hd, hb]
          refine ⟨rfl, ?_⟩
          cases b <;> cases want
          · exact Or.inl ⟨rfl, h⟩
          · exact Or.inr ⟨rfl, h⟩
          · exact Or.inr ⟨rfl, h⟩
          · exact Or.inl ⟨rfl, h⟩
        · exact h.elim
      · exact h.elim
    · exact h.elim

theorem op_spec {E : Env} {cp : CallP} {call : FuncId → List Value → M Value} (hc : cp.fits call) {ops : Array Oper} {o : Oper} {f : SF} (hf : f.ok) {s : St} {K : SF → St → Prop} (h : opP E cp ops o f s K) :
    ∃ f' s', f'.ok ∧ evOp E call ops o f.fr s = some (f'.fr, s') ∧ K f' s' := by
  unfold opP at h
  obtain ⟨hs, h⟩ := want_spec hf h
  unfold evOp
  rw [hs, Bool.not_true, cond_false]
  rcases h with ⟨hw, h⟩ | ⟨hw, h⟩
  · rw [hw, cond_true]
    obtain ⟨nx, s1, h1, h2⟩ := exec_spec h
    rw [SF.eval_fr hf, M.bind_eq, h1]
    simp only
    cases nx with
    | value v => obtain ⟨f', a, b, c⟩ := dst_spec hf (s := s1) h2; exact ⟨f', s1, a, b, c⟩
    | skip => obtain ⟨f', a, b, c⟩ := dst_spec hf (s := s1) h2; exact ⟨f', s1, a, b, c⟩
    | known g args v => obtain ⟨f', a, b, c⟩ := dst_spec hf (s := s1) h2; exact ⟨f', s1, a, b, c⟩
    | enter g args =>
      obtain ⟨v, s2, h3, h4⟩ := hc g args s1 _ h2
      obtain ⟨f', a, b, c⟩ := dst_spec hf (s := s2) h4
      exact ⟨f', s2, a, by simp only [M.bind_eq, h3]; exact b, c⟩
  · rw [hw, cond_false]
    obtain ⟨f', a, b, c⟩ := dst_spec hf (s := s) h
    exact ⟨f', s, a, b, c⟩
theorem ops_spec {E : Env} {cp : CallP} {call : FuncId → List Value → M Value} (hc : cp.fits call) {ops : Array Oper} : ∀ (l : List Oper) (f : SF) (s : St) (K : SF → St → Prop), f.ok → opsP E cp ops l f s K →
    ∃ f' s', f'.ok ∧ evOps E call ops l f.fr s = some (f'.fr, s') ∧ K f' s'
  | [], f, s, K, hf, h => ⟨f, s, hf, rfl, h⟩
  | o :: l, f, s, K, hf, h => by
    unfold opsP at h
    obtain ⟨f1, s1, a1, b1, c1⟩ := op_spec hc hf h
    obtain ⟨f2, s2, a2, b2, c2⟩ := ops_spec hc l f1 s1 K a1 c1
    exact ⟨f2, s2, a2, by unfold evOps; rw [M.bind_eq, b1]; exact b2, c2⟩
theorem draw_spec {E : Env} {cp : CallP} {call : FuncId → List Value → M Value} (hc : cp.fits call) {ops : Array Oper} {before : Array Nat} : ∀ (l : List Oper) (i : Nat) (ds : List (Nat × Did)) (f : SF) (s : St) (K : SF → St → Prop), f.ok → drawP E cp ops before l i ds f s K →
    ∃ f' s', f'.ok ∧ evDraw E call ops before l i ds f.fr s = some (f'.fr, s') ∧ K f' s'
  | [], _, _, f, s, K, hf, h => ⟨f, s, hf, rfl, h⟩
  | o :: l, i, ds, f, s, K, hf, h => by
    unfold drawP at h
    obtain ⟨f1, s1, a1, b1, c1⟩ := op_spec hc hf h
    obtain ⟨h1, h2⟩ := c1
    obtain ⟨f2, s2, a2, b2, c2⟩ := draw_spec hc l _ _ f1 _ K a1 h2
    refine ⟨f2, s2, a2, ?_, c2⟩
    unfold evDraw
    rw [M.bind_eq, M.watch_eq, b1]
    simp only [h1, cond_true]
    exact b2
end Go.Cm
