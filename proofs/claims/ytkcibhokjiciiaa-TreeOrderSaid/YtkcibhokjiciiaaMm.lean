/-
  Regions whose order is plain from their text: the watched going is the plain one. The faster going is the same one: bodies, calls. What the faster going answers, the machine answers.
-/
import Derived.Test.YtkcibhokjiciiaaMl
import Derived.Test.YtkcibhokjiciiaaMi
namespace Go.Cm
open Go

section
variable {E : Env} {call : CallFn} (hcall : ∀ f args, Tr (call f args) false false) {ops : Array Oper}

theorem dst_silent (fr : Fr) (d : Option Tmp) (v : Value) : Silent (Fr.dst fr d v) := by
  unfold Fr.dst
  split
  · exact Silent.pure _
  · exact Silent.cond (Silent.pure _) Silent.fail
theorem asV_nx (m : M Value) (o : Oper) (fr : Fr) : M.bind (asV m) (nxK call o fr) = M.bind m fun v => fr.dst o.dst v := by
  unfold asV; rw [bind_assoc]; exact bind_congr fun _ _ _ _ => bind_pure_l _ _
theorem asU_nx (m : M Unit) (o : Oper) (fr : Fr) : M.bind (asU m) (nxK call o fr) = M.bind m fun _ => fr.dst o.dst undef := by
  unfold asU; rw [bind_assoc]; exact bind_congr fun _ _ _ _ => bind_pure_l _ _
theorem evOp_of {P : M Fr → Prop} {o : Oper} {fr : Fr} (hf : P M.fail) (hd : P (fr.dst o.dst undef)) (hx : P (M.bind (execA E fr.eval o) (nxK call o fr))) : P (evOp E call ops o fr) := by
  rw [evOp_eq]
  cases sureA ops fr o with
  | false => exact hf
  | true =>
    cases wantedA ops fr o with
    | false => exact hd
    | true => exact hx

theorem exec0 {o : Oper} {ρ : Operand → Value} (h : memClass E o.op = 0) : ∃ m, execA E ρ o = asV m ∧ Silent m := by
  obtain ⟨dst, op, ty, pos, after, guard⟩ := o
  cases op
  case convert s d x =>
    refine ⟨_, rfl, ?_⟩
    have h : (bif numT E d then 0 else 2) = 0 := h
    cases hn : numT E d with
    | false => rw [hn] at h; cases h
    | true => exact silent_convert hn
  case call c =>
    have h : callClass c = 0 := h
    obtain ⟨callee, args, ts⟩ := c
    have one_silent : ∀ (f : TypeId → Value → M Value) (ts : List TypeId) (args : List Value), (∀ t x, Silent (f t x)) → Silent (one f ts args) := by
      intro f ts args hf
      unfold one
      split
      · split
        · exact hf _ _
        · exact Silent.fail
      · exact Silent.fail
    unfold callClass at h
    split at h
    · cases h
    · cases h
    · cases h
    · cases h
    · next hc =>
      have hc : callee = .builtin .min := hc
      subst hc
      exact ⟨_, rfl, Silent.bind (Silent.guard _) fun _ => Silent.lift _⟩
    · next hc =>
      have hc : callee = .builtin .max := hc
      subst hc
      exact ⟨_, rfl, Silent.bind (Silent.guard _) fun _ => Silent.lift _⟩
    · next hc =>
      have hc : callee = .builtin .cap := hc
      subst hc
      exact ⟨_, rfl, one_silent _ _ _ fun _ _ => Silent.lift _⟩
    · cases h
    · cases h
  all_goals first
    | exact ⟨_, rfl, Silent.lift _⟩
    | (exfalso; revert h; show (_ : Nat) = 0 → False; intro h; cases h)
theorem silent0 {o : Oper} {fr : Fr} (h : memClass E o.op = 0) : Silent (evOp E call ops o fr) := by
  refine evOp_of Silent.fail (dst_silent _ _ _) ?_
  obtain ⟨m, h1, h2⟩ := exec0 (ρ := fr.eval) h
  rw [h1, asV_nx]
  exact Silent.bind h2 fun _ => dst_silent _ _ _

theorem exec1 {o : Oper} {ρ : Operand → Value} (h : memClass E o.op = 1) : ∃ m, execA E ρ o = asV m ∧ Tr m true true := by
  obtain ⟨dst, op, ty, pos, after, guard⟩ := o
  cases op
  case load t a => exact ⟨_, rfl, Tr.loadA _ _⟩
  case lookup t x i c => exact ⟨_, rfl, Tr.lookupA _ _ _ _⟩
  case convert s d x =>
    exfalso
    have h : (bif numT E d then 0 else 2) = 1 := h
    cases hn : numT E d <;> rw [hn] at h <;> cases h
  case call c =>
    have h : callClass c = 1 := h
    obtain ⟨callee, args, ts⟩ := c
    unfold callClass at h
    split at h
    · cases h
    · cases h
    · cases h
    · cases h
    · cases h
    · cases h
    · cases h
    · next hc =>
      have hc : callee = .builtin .len := hc
      subst hc
      refine ⟨one (lenA E) ts.toList (args.toList.map ρ), rfl, ?_⟩
      unfold one
      split
      · split
        · exact Tr.lenA _ _
        · exact Tr.fail
      · exact Tr.fail
    · cases h
  all_goals (exfalso; revert h; show (_ : Nat) = 1 → False; intro h; cases h)
theorem tr1 {o : Oper} {fr : Fr} (h : memClass E o.op = 1) : Tr (evOp E call ops o fr) true true := by
  refine evOp_of (P := fun m => Tr m true true) Tr.fail (dst_silent _ _ _).tr ?_
  obtain ⟨m, h1, h2⟩ := exec1 (ρ := fr.eval) h
  rw [h1, asV_nx]
  exact Tr.then_ h2 fun _ => dst_silent _ _ _

theorem callA_silent (f : FuncId) (args : List Value) : Silent (callA E f args) := by
  unfold callA
  split
  · exact Silent.bind (Silent.guard _) fun _ => Silent.bind (Silent.lift _) fun _ => Silent.pure _
  · split
    · exact Silent.pure _
    · exact Silent.bind (Silent.lift _) fun _ => Silent.pure _
include hcall in
theorem nx_tr (o : Oper) (fr : Fr) (nx : Nx) : Tr (nxK call o fr nx) false false := by
  cases nx with
  | value v => exact (dst_silent _ _ _).tr
  | skip => exact (dst_silent _ _ _).tr
  | known f a v => exact (dst_silent _ _ _).tr
  | enter f args => exact Tr.then_ (hcall f args) fun _ => dst_silent _ _ _
include hcall in
theorem tr2 {o : Oper} {fr : Fr} (h : memClass E o.op = 2) : Tr (evOp E call ops o fr) false false := by
  refine evOp_of (P := fun m => Tr m false false) Tr.fail (dst_silent _ _ _).tr ?_
  have va : ∀ m, execA E fr.eval o = asV m → Tr m false false → Tr (M.bind (execA E fr.eval o) (nxK call o fr)) false false := fun m h1 h2 => by
    rw [h1, asV_nx]; exact Tr.then_ h2 fun _ => dst_silent _ _ _
  obtain ⟨dst, op, ty, pos, after, guard⟩ := o
  cases op
  case alloc t => exact va _ rfl (Tr.allocA _)
  case box t x =>
    show Tr (M.bind (bif isJunk (fr.eval x) then M.fail else asV (newA 0 (fr.eval x).cells.toList)) _) false false
    cases isJunk (fr.eval x) with
    | true => exact Tr.bind Tr.fail fun _ => nx_tr hcall _ _ _
    | false => rw [cond_false, asV_nx]; exact Tr.then_ (Tr.newA _ _) fun _ => dst_silent _ _ _
  case buildSlice t len ps => exact va _ rfl (Tr.buildSliceA _ _ _)
  case makeSlice t l c => exact va _ rfl (Tr.makeSliceA _ _ _)
  case convert s d x => exact va _ rfl (Tr.convertA _ _ _)
  case range t x => exact va _ rfl (Tr.rangeA _ _)
  case next it b => exact va _ rfl (Tr.nextA _ _)
  case mapUpdate t m k v =>
    show Tr (M.bind (asU (updateA E t (fr.eval m) (fr.eval k) (fr.eval v))) _) false false
    rw [asU_nx]; exact Tr.then_ (Tr.updateA _ _ _ _) fun _ => dst_silent _ _ _
  case store t a x =>
    show Tr (M.bind (asU (storeA E t (fr.eval a) (fr.eval x))) _) false false
    rw [asU_nx]; exact Tr.then_ (Tr.storeA _ _ _) fun _ => dst_silent _ _ _
  case call c =>
    have h : callClass c = 2 := h
    obtain ⟨callee, args, ts⟩ := c
    unfold callClass at h
    split at h
    · next f hc =>
      have hc : callee = .value f := hc
      subst hc
      show Tr (M.bind (M.bind (M.lift (asFunc (fr.eval f))) fun p => callA E p.1 (p.2.1 ++ (args.toList.map fr.eval ++ p.2.2))) _) false false
      exact Tr.bind (Silent.bind (Silent.lift _) fun _ => callA_silent _ _).tr fun _ => nx_tr hcall _ _ _
    · next hc =>
      have hc : callee = .builtin .append := hc
      subst hc
      refine va (two (appendA E) ts.toList (args.toList.map fr.eval)) rfl ?_
      unfold two
      split
      · split
        · exact Tr.appendA _ _ _ _
        · exact Tr.fail
      · exact Tr.fail
    · next hc =>
      have hc : callee = .builtin .copy := hc
      subst hc
      refine va (two (fun t _ => copyA E t) ts.toList (args.toList.map fr.eval)) rfl ?_
      unfold two
      split
      · split
        · exact Tr.copyA _ _ _
        · exact Tr.fail
      · exact Tr.fail
    · next hc =>
      have hc : callee = .builtin .delete := hc
      subst hc
      refine va (two (fun t _ => deleteA E t) ts.toList (args.toList.map fr.eval)) rfl ?_
      unfold two
      split
      · split
        · exact Tr.deleteA _ _ _
        · exact Tr.fail
      · exact Tr.fail
    · cases h
    · cases h
    · cases h
    · cases h
    · cases h
  all_goals (exfalso; revert h; show (_ : Nat) = 2 → False; intro h; cases h)

/-- Nothing is logged. -/
def NoLog {α : Type} (m : M α) : Prop := ∀ s a s', m s = some (a, s') → s'.log = s.log ∧ s'.wlog = s.wlog
theorem NoLog.silent {α : Type} {m : M α} (h : Silent m) : NoLog m := fun s a s' e => by
  rcases h with h | ⟨b, h⟩
  · rw [h] at e; cases e
  · rw [h] at e; injection e with e; injection e with _ e; subst e; exact ⟨rfl, rfl⟩
theorem NoLog.bind {α β : Type} {m : M α} {f : α → M β} (hm : NoLog m) (hf : ∀ a, NoLog (f a)) : NoLog (M.bind m f) := fun s a s' e => by
  rw [bind_some] at e
  obtain ⟨b, s1, h1, h2⟩ := e
  obtain ⟨a1, a2⟩ := hm _ _ _ h1
  obtain ⟨b1, b2⟩ := hf b _ _ _ h2
  exact ⟨b1.trans a1, b2.trans a2⟩
theorem NoLog.fresh (x : Row) : NoLog (M.fresh x) := fun s a s' e => by
  rw [M.fresh_eq] at e
  cases hb : Nat.ble s.next 1000000000 with
  | false => rw [hb] at e; cases e
  | true => rw [hb] at e; injection e with e; injection e with _ e; subst e; exact ⟨rfl, rfl⟩
theorem maker_nolog {o : Oper} {fr : Fr} (h : makerOp o.op = true) : NoLog (evOp E call ops o fr) := by
  have li : ∀ {α : Type} (o : Option α), NoLog (M.lift o) := fun o => NoLog.silent (Silent.lift o)
  have gu : ∀ b, NoLog (M.guard b) := fun b => NoLog.silent (Silent.guard b)
  have pu : ∀ {α : Type} (a : α), NoLog (M.pure a) := fun a => NoLog.silent (Silent.pure a)
  have nw : ∀ es cs, NoLog (newA es cs) := fun es cs => NoLog.bind (NoLog.fresh _) fun _ => pu _
  refine evOp_of (P := fun m => NoLog m) (NoLog.silent Silent.fail) (NoLog.silent (dst_silent _ _ _)) ?_
  have va : ∀ m, execA E fr.eval o = asV m → NoLog m → NoLog (M.bind (execA E fr.eval o) (nxK call o fr)) := fun m h1 h2 => by
    rw [h1, asV_nx]; exact NoLog.bind h2 fun _ => NoLog.silent (dst_silent _ _ _)
  obtain ⟨dst, op, ty, pos, after, guard⟩ := o
  cases op
  case alloc t => exact va _ rfl (NoLog.bind (li _) fun _ => nw _ _)
  case box t x =>
    show NoLog (M.bind (bif isJunk (fr.eval x) then M.fail else asV (newA 0 (fr.eval x).cells.toList)) _)
    cases isJunk (fr.eval x) with
    | true => rw [cond_true, bind_fail]; exact NoLog.silent Silent.fail
    | false => rw [cond_false, asV_nx]; exact NoLog.bind (nw _ _) fun _ => NoLog.silent (dst_silent _ _ _)
  case buildSlice t len ps => exact va _ rfl (NoLog.bind (li _) fun _ => NoLog.bind (li _) fun _ => NoLog.bind (gu _) fun _ => NoLog.bind (li _) fun _ => NoLog.bind (NoLog.fresh _) fun _ => pu _)
  case makeSlice t l c => exact va _ rfl (NoLog.bind (li _) fun _ => NoLog.bind (li _) fun _ => NoLog.bind (li _) fun _ => NoLog.bind (li _) fun _ => NoLog.bind (gu _) fun _ => NoLog.bind (NoLog.fresh _) fun _ => pu _)
  case range t x => exact va _ rfl (NoLog.bind (li _) fun _ => NoLog.bind (gu _) fun _ => NoLog.bind (li _) fun _ => NoLog.bind (NoLog.fresh _) fun _ => pu _)
  all_goals cases h

def DidOk (c : Nat) (d : Did) : Prop := (c = 0 → d.log = [] ∧ d.wlog = [] ∧ d.lo = d.hi) ∧ (c = 1 → d.wlog = [] ∧ d.lo = d.hi)
theorem watch_same {α : Type} {m : M α} {nn ro : Bool} (h : Tr m nn ro) (s : St) : (m s = none ∧ M.watch m s = none) ∨
    ∃ a s' d, m s = some (a, s') ∧ M.watch m s = some ((a, d), s') ∧ (nn = true → d.lo = d.hi) ∧ (ro = true → d.wlog = []) := by
  obtain ⟨rows, next, log, wlog⟩ := s
  rw [M.watch_eq]
  rcases h rows next log wlog with ⟨h1, h2⟩ | ⟨a, r', n', L, W, h1, h2, h3, h4, h5, h6, h7⟩
  · exact .inl ⟨h2, by simp only [h1]⟩
  · refine .inr ⟨a, _, { lo := next, hi := n', log := L, wlog := W }, h2, ?_, fun h => (h6 h).symm, h7⟩
    simp only [h1, below_all next L h3, below_all next W h4]
theorem watch_silent {α : Type} {m : M α} (h : Silent m) (s : St) : (m s = none ∧ M.watch m s = none) ∨
    ∃ a s' d, m s = some (a, s') ∧ M.watch m s = some ((a, d), s') ∧ d.log = [] ∧ d.wlog = [] ∧ d.lo = d.hi := by
  rw [M.watch_eq]
  rcases h with h | ⟨b, h⟩
  · exact .inl ⟨h s, by simp only [h]⟩
  · exact .inr ⟨b, s, { lo := s.next, hi := s.next, log := [], wlog := [] }, h s, by simp only [h]; rfl, rfl, rfl, rfl⟩

include hcall in
theorem evOp_watch {o : Oper} {fr : Fr} (h : Nat.ble (memClass E o.op) 2 = true) (s : St) : (evOp E call ops o fr s = none ∧ M.watch (evOp E call ops o fr) s = none) ∨
    ∃ fr' s' d, evOp E call ops o fr s = some (fr', s') ∧ M.watch (evOp E call ops o fr) s = some ((fr', d), s') ∧ DidOk (memClass E o.op) d ∧ (makerOp o.op = true → d.log = [] ∧ d.wlog = []) := by
  have mk : ∀ (fr' : Fr) (d : Did) (s' : St), M.watch (evOp E call ops o fr) s = some ((fr', d), s') → makerOp o.op = true → d.log = [] ∧ d.wlog = [] := by
    intro fr' d s' hw hm
    rw [M.watch_eq] at hw
    cases he : evOp E call ops o fr { s with log := [], wlog := [] } with
    | none => rw [he] at hw; cases hw
    | some p =>
      obtain ⟨l1, l2⟩ := maker_nolog hm _ _ _ he
      rw [he] at hw
      injection hw with hw; injection hw with hw _; injection hw with _ hw
      subst hw
      exact ⟨by show below s.next p.2.log = []; rw [l1]; rfl, by show below s.next p.2.wlog = []; rw [l2]; rfl⟩
  have hle : memClass E o.op ≤ 2 := Nat.le_of_ble_eq_true h
  have h3 : memClass E o.op = 0 ∨ memClass E o.op = 1 ∨ memClass E o.op = 2 := by omega
  rcases h3 with h0 | h0 | h0
  · rcases watch_silent (silent0 (call := call) (ops := ops) (fr := fr) h0) s with h | ⟨a, s', d, h1, h2, h3⟩
    · exact .inl h
    · exact .inr ⟨a, s', d, h1, h2, ⟨fun _ => h3, fun e => by rw [h0] at e; cases e⟩, mk _ _ _ h2⟩
  · rcases watch_same (tr1 (call := call) (ops := ops) (fr := fr) h0) s with h | ⟨a, s', d, h1, h2, h3, h4⟩
    · exact .inl h
    · exact .inr ⟨a, s', d, h1, h2, ⟨fun e => by (rw [h0] at e; cases e), fun _ => ⟨h4 rfl, h3 rfl⟩⟩, mk _ _ _ h2⟩
  · rcases watch_same (tr2 hcall (ops := ops) (fr := fr) h0) s with h | ⟨a, s', d, h1, h2, h3, h4⟩
    · exact .inl h
    · exact .inr ⟨a, s', d, h1, h2, ⟨fun e => by (rw [h0] at e; cases e), fun e => by (rw [h0] at e; cases e)⟩, mk _ _ _ h2⟩

theorem meets_nil : ∀ l : List Nat, meets l [] = false
  | [] => rfl
  | x :: l => by unfold meets; simp only [List.any_nil, cond_false]; exact meets_nil l
theorem beq_self (n : Nat) : Nat.beq n n = true := by simp
theorem clash_ok {before : Array Nat} {i a j b : Nat} {da db : Did} (h : pairOk before i a j b = true) (ha : DidOk a da) (hb : DidOk b db) (hc : clash da db = true) : ordered before i j = true := by
  unfold pairOk at h
  cases ea : Nat.beq a 0 with
  | true =>
    exfalso
    obtain ⟨h1, h2, h3⟩ := ha.1 (Nat.eq_of_beq_eq_true ea)
    unfold clash at hc
    rw [h1, h2, h3, meets_nil, beq_self] at hc
    cases hc
  | false =>
    rw [ea, cond_false] at h
    cases eb : Nat.beq b 0 with
    | true =>
      exfalso
      obtain ⟨h1, h2, h3⟩ := hb.1 (Nat.eq_of_beq_eq_true eb)
      unfold clash at hc
      rw [h1, h2, meets_nil] at hc
      have : (bif Nat.beq da.lo da.hi then false else hasIn da.lo da.hi []) = true := hc
      cases hx : Nat.beq da.lo da.hi <;> rw [hx] at this <;> cases this
    | false =>
      rw [eb, cond_false] at h
      cases ec : (Nat.beq a 1 && Nat.beq b 1) with
      | true =>
        exfalso
        rw [Bool.and_eq_true] at ec
        obtain ⟨h1, h2⟩ := ha.2 (Nat.eq_of_beq_eq_true ec.1)
        obtain ⟨h3, h4⟩ := hb.2 (Nat.eq_of_beq_eq_true ec.2)
        unfold clash at hc
        rw [h1, h2, h3, beq_self] at hc
        cases hc
      | false => rw [ec, cond_false] at h; exact h
theorem clash_maker {da db : Did} (h1 : db.log = []) (h2 : db.wlog = []) : clash da db = false := by
  unfold clash
  rw [h1, h2, meets_nil]
  show (bif Nat.beq da.lo da.hi then false else hasIn da.lo da.hi []) = false
  cases Nat.beq da.lo da.hi <;> rfl
theorem allOk_spec {before : Array Nat} {j b : Nat} : ∀ {l : List (Nat × Nat)}, allOk before j b l = true → ∀ p, p ∈ l → pairOk before p.1 p.2 j b = true
  | [], _, _, h => by cases h
  | q :: l, h, p, hp => by
    unfold allOk at h
    cases hq : pairOk before q.1 q.2 j b with
    | false => rw [hq] at h; cases h
    | true =>
      rw [hq, cond_true] at h
      rw [List.mem_cons] at hp
      rcases hp with rfl | hp
      · exact hq
      · exact allOk_spec h p hp
theorem settled_of {before : Array Nat} {j : Nat} {b : Did} : ∀ {ds : List (Nat × Did)}, (∀ p, p ∈ ds → clash p.2 b = true → ordered before p.1 j = true) → settled before j b ds = true
  | [], _ => rfl
  | d :: l, h => by
    unfold settled
    have ih := settled_of (ds := l) fun p hp => h p (by simp [hp])
    cases hc : clash d.2 b with
    | false => rw [cond_false]; exact ih
    | true => rw [cond_true, h d (by simp) hc, cond_true]; exact ih

include hcall in
theorem static_draw (before : Array Nat) : ∀ (l : List Oper) (j : Nat) (seen : List (Nat × Nat)) (ds : List (Nat × Did)) (fr : Fr), staticL E before l j seen = true →
    (∀ p, p ∈ ds → ∃ c, (p.1, c) ∈ seen ∧ DidOk c p.2) → evDraw E call ops before l j ds fr = evOps E call ops l fr
  | [], _, _, _, _, _, _ => rfl
  | o :: l, j, seen, ds, fr, h, hd => by
    unfold staticL at h
    cases hb : (Nat.ble (memClass E o.op) 2 && (makerOp o.op || allOk before j (memClass E o.op) seen)) with
    | false => rw [hb] at h; cases h
    | true =>
      rw [hb, cond_true] at h
      rw [Bool.and_eq_true] at hb
      unfold evDraw evOps
      funext s
      rw [M.bind_eq, M.bind_eq]
      rcases evOp_watch hcall (ops := ops) (fr := fr) hb.1 s with ⟨h1, h2⟩ | ⟨fr', s', d, h1, h2, h3, h4⟩
      · rw [h1, h2]
      · rw [h1, h2]
        have hs : settled before j d ds = true := settled_of fun p hp hc => by
          obtain ⟨c, hm, ho⟩ := hd p hp
          cases hmk : makerOp o.op with
          | true => obtain ⟨e1, e2⟩ := h4 hmk; rw [clash_maker e1 e2] at hc; cases hc
          | false =>
            have hb2 := hb.2
            rw [hmk, Bool.false_or] at hb2
            exact clash_ok (allOk_spec hb2 _ hm) ho h3 hc
        simp only [hs, cond_true]
        rw [static_draw before l (Nat.succ j) _ (keep j d ds) fr' h fun p hp => ?_]
        have : p = (j, d) ∨ p ∈ ds := by
          unfold keep at hp
          split at hp
          · cases hx : Nat.beq d.lo d.hi with
            | true => rw [hx] at hp; exact Or.inr hp
            | false => rw [hx] at hp; simpa using hp
          · simpa using hp
        rcases this with rfl | hp
        · exact ⟨_, by simp, h3⟩
        · obtain ⟨c, hm, ho⟩ := hd p hp
          exact ⟨c, by simp [hm], ho⟩

theorem drawC_run (n : Nat) (before : Array Nat) : ∀ (l : List Oper) (j : Nat) (t : FT 5) (ds : List (Nat × Did)) (k : FT 5 → M Value),
    (drawC E n ops before l j).run call t ds k = M.bind (evDraw E call ops before l j ds ⟨n, t⟩) fun fr => k fr.t
  | [], j, t, ds, k => rfl
  | o :: l, j, t, ds, k => by
    have ih := drawC_run n before l (Nat.succ j)
    have go : ∀ {fr : Fr} (ds : List (Nat × Did)), fr.n = n → (drawC E n ops before l (Nat.succ j)).run call fr.t ds k = M.bind (evDraw E call ops before l (Nat.succ j) ds fr) fun fr => k fr.t := by
      intro fr ds hn
      rw [ih]; cases fr; simp only at hn; subst hn; rfl
    have hE : evDraw E call ops before (o :: l) j ds ⟨n, t⟩ = M.bind (M.watch (evOp E call ops o ⟨n, t⟩)) fun r => bif settled before j r.2 ds then evDraw E call ops before l (Nat.succ j) (keep j r.2 ds) r.1 else M.fail := rfl
    rw [hE]
    unfold drawC
    cases hc : Nat.beq (memClass E o.op) 0 with
    | true =>
      show (opC E n ops o).run call t (fun t' => (drawC E n ops before l (Nat.succ j)).run call t' ds k) = _
      rw [opC_run, bind_assoc]
      funext s
      rw [M.bind_eq, M.bind_eq]
      rcases watch_silent (silent0 (call := call) (ops := ops) (fr := ⟨n, t⟩) (Nat.eq_of_beq_eq_true hc)) s with ⟨h1, h2⟩ | ⟨fr', s', d, h1, h2, h3, h4, h5⟩
      · rw [h1, h2]
      · rw [h1, h2]
        have hs : settled before j d ds = true := settled_of fun p _ hcl => by rw [clash_maker h3 h4] at hcl; cases hcl
        have hk : keep j d ds = ds := by unfold keep; rw [h3, h5]; simp only; rw [beq_self]; rfl
        simp only [hs, hk, cond_true]
        rw [go ds (evOp_n h1)]
    | false =>
      funext s
      obtain ⟨rows, next, log, wlog⟩ := s
      show (opC E n ops o).run call t (fun t' s' => St.rec (motive := fun _ => Option (Value × St)) (fun rows' next' log' wlog' =>
        Bool.rec (motive := fun _ => Option (Value × St)) none ((drawC E n ops before l (Nat.succ j)).run call t' (keep j { lo := next, hi := next', log := below next log', wlog := below next wlog' } ds) k ⟨rows', next', below next log' ++ log, below next wlog' ++ wlog⟩)
          (settled before j { lo := next, hi := next', log := below next log', wlog := below next wlog' } ds)) s') ⟨rows, next, [], []⟩ = _
      rw [opC_run, bind_assoc, M.bind_eq, M.bind_eq, M.watch_eq]
      simp only
      cases he : evOp E call ops o ⟨n, t⟩ ⟨rows, next, [], []⟩ with
      | none => rfl
      | some p =>
        obtain ⟨fr', r', n', l', w'⟩ := p
        simp only
        cases hs : settled before j { lo := next, hi := n', log := below next l', wlog := below next w' } ds with
        | false => rfl
        | true =>
          simp only [cond_true]
          rw [go _ (evOp_n he)]
end

end Go.Cm
namespace Go.Cm
open Go

noncomputable def loopF (body : Fr → M (X × Fr)) : Nat → Fr → M (X × Fr)
  | 0, _ => M.fail
  | n + 1, fr => M.bind (body fr) fun r => match r.1 with
    | .normal => loopF body n r.2
    | x => M.pure (x, r.2)
/-- Code, the turns of a loop alone counted. -/
noncomputable def evF (E : Env) (call : CallFn) (lf : Nat) : Code → Fr → M (X × Fr)
  | .skip, fr => M.pure (.normal, fr)
  | .region _ ops draw, fr => bif draw
        then M.bind (evDraw E call ops (Region.before ops) ops.toList 0 [] fr) fun fr => M.pure (.normal, fr)
        else M.bind (evOps E call ops ops.toList fr) fun fr => M.pure (.normal, fr)
  | .seq a b, fr => M.bind (evF E call lf a fr) fun r => match r.1 with
      | .normal => evF E call lf b r.2
      | x => M.pure (x, r.2)
  | .cond c a b, fr => match fr.eval c with
      | .bool t => bif t then evF E call lf a fr else evF E call lf b fr
      | _ => M.fail
  | .block id c, fr => M.bind (evF E call lf c fr) fun r => match r.1 with
      | .exit k => bif Nat.beq k id then M.pure (.normal, r.2) else M.pure (.exit k, r.2)
      | x => M.pure (x, r.2)
  | .loop c, fr => loopF (evF E call lf c) lf fr
  | .exit id, fr => M.pure (.exit id, fr)
  | .scope c, fr => evF E call lf c fr
  | .label _, fr => M.pure (.normal, fr)
  | .ret, fr => M.pure (.ret, fr)
  | .rangeFunc _ _ _ _, _ => M.fail
  | .goto _, _ => M.fail
  | .refuse _, _ => M.fail

section
variable (E : Env) (call : CallFn) (lf : Nat) (a b c : Code) (fr : Fr)
theorem evF_seq : evF E call lf (.seq a b) fr = M.bind (evF E call lf a fr) fun r => match r.1 with
      | .normal => evF E call lf b r.2
      | x => M.pure (x, r.2) := rfl
theorem evF_cond (v : Operand) : evF E call lf (.cond v a b) fr = match fr.eval v with
      | .bool t => bif t then evF E call lf a fr else evF E call lf b fr
      | _ => M.fail := rfl
theorem evF_block (id : Nat) : evF E call lf (.block id c) fr = M.bind (evF E call lf c fr) fun r => match r.1 with
      | .exit k => bif Nat.beq k id then M.pure (.normal, r.2) else M.pure (.exit k, r.2)
      | x => M.pure (x, r.2) := rfl
theorem evF_loop : evF E call lf (.loop c) fr = loopF (evF E call lf c) lf fr := rfl
theorem evF_scope : evF E call lf (.scope c) fr = evF E call lf c fr := rfl
theorem loopF_succ (body : Fr → M (X × Fr)) (n : Nat) : loopF body (n + 1) fr = M.bind (body fr) fun r => match r.1 with
    | .normal => loopF body n r.2
    | x => M.pure (x, r.2) := rfl
end

def KeepsN (m : Fr → M (X × Fr)) : Prop := ∀ fr s r s', m fr s = some (r, s') → r.2.n = fr.n
theorem loopF_n {body : Fr → M (X × Fr)} (h : KeepsN body) : ∀ lf, KeepsN (loopF body lf)
  | 0, fr, s, r, s', e => by cases e
  | n + 1, fr, s, r, s', e => by
    rw [loopF_succ] at e
    rw [bind_some] at e
    obtain ⟨⟨x, f1⟩, s1, h1, h2⟩ := e
    have hn := h fr s _ _ h1
    cases x with
    | normal => exact (loopF_n h n f1 s1 r s' h2).trans hn
    | exit id => rw [pure_some] at h2; rw [h2.1]; exact hn
    | ret => rw [pure_some] at h2; rw [h2.1]; exact hn
theorem evF_n (E : Env) (call : CallFn) (lf : Nat) : ∀ c, KeepsN (evF E call lf c) := by
  intro c
  induction c with
  | skip => intro fr s r s' e; unfold evF at e; rw [pure_some] at e; rw [e.1]
  | region id ops draw =>
    intro fr s r s' e
    unfold evF at e
    cases draw with
    | true =>
      rw [cond_true, bind_some] at e
      obtain ⟨f1, s1, h1, h2⟩ := e
      rw [pure_some] at h2; rw [h2.1]; exact evDraw_n h1
    | false =>
      rw [cond_false, bind_some] at e
      obtain ⟨f1, s1, h1, h2⟩ := e
      rw [pure_some] at h2; rw [h2.1]; exact evOps_n h1
  | seq a b iha ihb =>
    intro fr s r s' e
    rw [evF_seq] at e
    rw [bind_some] at e
    obtain ⟨⟨x, f1⟩, s1, h1, h2⟩ := e
    have hn := iha fr s _ _ h1
    cases x with
    | normal => exact (ihb f1 s1 r s' h2).trans hn
    | exit id => rw [pure_some] at h2; rw [h2.1]; exact hn
    | ret => rw [pure_some] at h2; rw [h2.1]; exact hn
  | cond c a b iha ihb =>
    intro fr s r s' e
    rw [evF_cond] at e
    cases hv : fr.eval c with
    | bool t =>
      rw [hv] at e
      cases t with
      | true => exact iha fr s r s' e
      | false => exact ihb fr s r s' e
    | _ => rw [hv] at e; cases e
  | block id c ih =>
    intro fr s r s' e
    rw [evF_block] at e
    rw [bind_some] at e
    obtain ⟨⟨x, f1⟩, s1, h1, h2⟩ := e
    have hn := ih fr s _ _ h1
    cases x with
    | normal => rw [pure_some] at h2; rw [h2.1]; exact hn
    | exit k =>
      simp only at h2
      cases hb : Nat.beq k id <;> rw [hb] at h2 <;> simp only [cond_true, cond_false, pure_some] at h2 <;> rw [h2.1] <;> exact hn
    | ret => rw [pure_some] at h2; rw [h2.1]; exact hn
  | loop c ih => intro fr s r s' e; rw [evF_loop] at e; exact loopF_n ih lf fr s r s' e
  | exit id => intro fr s r s' e; unfold evF at e; rw [pure_some] at e; rw [e.1]
  | scope c ih => intro fr s r s' e; rw [evF_scope] at e; exact ih fr s r s' e
  | label l => intro fr s r s' e; unfold evF at e; rw [pure_some] at e; rw [e.1]
  | ret => intro fr s r s' e; unfold evF at e; rw [pure_some] at e; rw [e.1]
  | rangeFunc f p a b _ _ => intro fr s r s' e; unfold evF at e; cases e
  | goto l => intro fr s r s' e; unfold evF at e; cases e
  | refuse w => intro fr s r s' e; unfold evF at e; cases e

section
variable {E : Env} {call : CallFn} (hcall : ∀ f args, Tr (call f args) false false) {n lf : Nat}

theorem fr_eta {fr : Fr} (h : fr.n = n) : (⟨n, fr.t⟩ : Fr) = fr := by cases fr; subst h; rfl
theorem condV_eq (v : Value) (a b : M Value) : condV v a b = match v with | .bool t => bif t then a else b | _ => M.fail := rfl

include hcall in
theorem evC_run : ∀ (c : Code) (t : FT 5) (k : X → FT 5 → M Value), (evC E n c).run call lf t k = M.bind (evF E call lf c ⟨n, t⟩) fun r => k r.1 r.2.t := by
  intro c
  induction c with
  | skip => intro t k; rfl
  | region id ops draw =>
    intro t k
    show (regC E n ops draw).run call lf t k = _
    unfold regC
    have hst : (opsC E n ops ops.toList).run call t (k .normal) = M.bind (M.bind (evOps E call ops ops.toList ⟨n, t⟩) fun fr => M.pure (X.normal, fr)) fun r => k r.1 r.2.t := by
      rw [opsC_run, bind_assoc]; exact bind_congr fun _ _ _ _ => (bind_pure_l _ _).symm
    cases draw with
    | false => exact hst
    | true =>
      cases hs : staticOk E ops with
      | true =>
        show (opsC E n ops ops.toList).run call t (k .normal) = _
        rw [hst]
        unfold evF
        rw [cond_true, static_draw hcall (Region.before ops) ops.toList 0 [] [] ⟨n, t⟩ hs (fun p hp => by cases hp)]
      | false =>
        show (drawC E n ops (Region.before ops) ops.toList 0).run call t [] (k .normal) = _
        rw [drawC_run]
        unfold evF
        rw [cond_true, bind_assoc]; exact bind_congr fun _ _ _ _ => (bind_pure_l _ _).symm
  | seq a b iha ihb =>
    intro t k
    show (evC E n a).run call lf t (fun x t' => X.rec ((evC E n b).run call lf t' k) (fun id => k (.exit id) t') (k .ret t') x) = _
    rw [iha, evF_seq, bind_assoc]
    refine bind_congr fun s r s' h => ?_
    have hn := evF_n E call lf a _ _ _ _ h
    obtain ⟨x, fr⟩ := r
    cases x with
    | normal =>
      show (evC E n b).run call lf fr.t k = M.bind (evF E call lf b fr) _
      rw [ihb, fr_eta hn]
    | exit id => rfl
    | ret => rfl
  | cond c a b iha ihb =>
    intro t k
    show condV ((operC n c).run t) ((evC E n a).run call lf t k) ((evC E n b).run call lf t k) = _
    rw [oper_run, iha, ihb, condV_eq, evF_cond]
    cases Fr.eval ⟨n, t⟩ c with
    | bool tt => cases tt <;> rfl
    | _ => rfl
  | block id c ih =>
    intro t k
    show (evC E n c).run call lf t (fun x t' => X.rec (k .normal t') (fun j => bif Nat.beq j id then k .normal t' else k (.exit j) t') (k .ret t') x) = _
    rw [ih, evF_block, bind_assoc]
    refine bind_congr fun s r s' h => ?_
    obtain ⟨x, fr⟩ := r
    cases x with
    | normal => rfl
    | exit j =>
      show (bif Nat.beq j id then k .normal fr.t else k (.exit j) fr.t) = M.bind (bif Nat.beq j id then M.pure (X.normal, fr) else M.pure (X.exit j, fr)) _
      cases Nat.beq j id <;> rfl
    | ret => rfl
  | loop c ih =>
    intro t k
    have key : ∀ (m : Nat) (t : FT 5), (Nat.rec (fun _ => M.fail) (fun _ self t => (evC E n c).run call lf t fun x t' => X.rec (self t') (fun id => k (.exit id) t') (k .ret t') x) m t : M Value) =
        M.bind (loopF (evF E call lf c) m ⟨n, t⟩) fun r => k r.1 r.2.t := by
      intro m
      induction m with
      | zero => intro t; rfl
      | succ m im =>
        intro t
        show (evC E n c).run call lf t (fun x t' => X.rec (motive := fun _ => M Value) (Nat.rec (motive := fun _ => FT 5 → M Value) (fun _ => M.fail) (fun _ self t => (evC E n c).run call lf t fun x t' => X.rec (motive := fun _ => M Value) (self t') (fun id => k (.exit id) t') (k .ret t') x) m t') (fun id => k (.exit id) t') (k .ret t') x) = _
        rw [ih, loopF_succ, bind_assoc]
        refine bind_congr fun s r s' h => ?_
        have hn := evF_n E call lf c _ _ _ _ h
        obtain ⟨x, fr⟩ := r
        cases x with
        | normal => exact (im fr.t).trans (by rw [fr_eta hn])
        | exit id => rfl
        | ret => rfl
    exact key lf t
  | exit id => intro t k; rfl
  | scope c ih => intro t k; exact ih t k
  | label l => intro t k; rfl
  | ret => intro t k; rfl
  | rangeFunc f p a b _ _ => intro t k; rfl
  | goto l => intro t k; rfl
  | refuse w => intro t k; rfl
end
end Go.Cm
namespace Go.Cm
open Go

/-- From some number of turns on. -/
def Ev {α : Type} (m : Nat → M α) (s : St) (r : α × St) : Prop := ∃ m0, ∀ k, m0 ≤ k → m k s = some r
theorem Ev.const {α : Type} {m : M α} {s : St} {r : α × St} (h : m s = some r) : Ev (fun _ => m) s r := ⟨0, fun _ _ => h⟩
theorem Ev.bind {α β : Type} {m : Nat → M α} {f : Nat → α → M β} {s s1 : St} {a : α} {r : β × St} (h1 : Ev m s (a, s1)) (h2 : Ev (fun k => f k a) s1 r) : Ev (fun k => M.bind (m k) (f k)) s r := by
  obtain ⟨m1, h1⟩ := h1
  obtain ⟨m2, h2⟩ := h2
  exact ⟨max m1 m2, fun k hk => bind_some.2 ⟨a, s1, h1 k (by omega), h2 k (by omega)⟩⟩
theorem Ev.succ {α : Type} {m h : Nat → M α} {s : St} {r : α × St} (e : ∀ k, h (k + 1) = m k) (hm : Ev m s r) : Ev h s r := by
  obtain ⟨m0, hm⟩ := hm
  refine ⟨m0 + 1, fun k hk => ?_⟩
  obtain ⟨j, rfl⟩ : ∃ j, k = j + 1 := ⟨k - 1, by omega⟩
  rw [e]; exact hm j (by omega)
theorem Ev.cong {α : Type} {m h : Nat → M α} {s : St} {r : α × St} (e : ∀ k, h k = m k) (hm : Ev m s r) : Ev h s r := by
  obtain ⟨m0, hm⟩ := hm
  exact ⟨m0, fun k hk => by rw [e]; exact hm k hk⟩
theorem Ev.watch {α : Type} {m : Nat → M α} {m1 : M α} {s : St} {r : (α × Did) × St} (hm : ∀ s r, m1 s = some r → Ev m s r) (h : M.watch m1 s = some r) : Ev (fun k => M.watch (m k)) s r := by
  rw [M.watch_eq] at h
  cases h1 : m1 { s with log := [], wlog := [] } with
  | none => rw [h1] at h; cases h
  | some p =>
    obtain ⟨m0, hm⟩ := hm _ _ h1
    exact ⟨m0, fun k hk => by show M.watch (m k) s = some r; rw [M.watch_eq, hm k hk, ← h, h1]⟩
theorem Ev.within {α : Type} {m : Nat → M α} {m1 : M α} {s : St} {r : α × St} (hm : ∀ s r, m1 s = some r → Ev m s r) (h : M.within m1 s = some r) : Ev (fun k => M.within (m k)) s r := by
  rw [M.within_eq] at h
  cases h1 : m1 { s with log := [], wlog := [] } with
  | none => rw [h1] at h; cases h
  | some p =>
    obtain ⟨m0, hm⟩ := hm _ _ h1
    exact ⟨m0, fun k hk => by show M.within (m k) s = some r; rw [M.within_eq, hm k hk, ← h, h1]⟩

section
variable {E : Env} {call : CallFn} (H : ∀ f args s r, call f args s = some r → Ev (fun m => callF E (ev E m) f args) s r) {ops : Array Oper}
include H
theorem evOp_ev {o : Oper} {fr : Fr} {s : St} {r : Fr × St} (h : evOp E call ops o fr s = some r) : Ev (fun m => evOp E (callF E (ev E m)) ops o fr) s r := by
  refine Ev.cong (fun k => evOp_eq E _ ops o fr) ?_
  rw [evOp_eq] at h
  cases hs : sureA ops fr o with
  | false => rw [hs] at h; cases h
  | true =>
    rw [hs] at h
    simp only [Bool.not_true, cond_false] at h ⊢
    cases hw : wantedA ops fr o with
    | false => rw [hw] at h; exact Ev.const h
    | true =>
      rw [hw, cond_true, bind_some] at h
      obtain ⟨nx, s1, h1, h2⟩ := h
      simp only [cond_true]
      refine Ev.bind (Ev.const h1) ?_
      cases nx with
      | value v => exact Ev.const h2
      | skip => exact Ev.const h2
      | known f a v => exact Ev.const h2
      | enter f args =>
        have h2 : M.bind (call f args) (fun v => fr.dst o.dst v) s1 = some r := h2
        rw [bind_some] at h2
        obtain ⟨v, s2, h3, h4⟩ := h2
        exact Ev.bind (m := fun m => callF E (ev E m) f args) (f := fun _ v => fr.dst o.dst v) (H f args s1 _ h3) (Ev.const h4)
theorem evOps_ev : ∀ {l : List Oper} {fr : Fr} {s : St} {r : Fr × St}, evOps E call ops l fr s = some r → Ev (fun m => evOps E (callF E (ev E m)) ops l fr) s r
  | [], fr, s, r, h => Ev.const h
  | o :: l, fr, s, r, h => by
    have h : M.bind (evOp E call ops o fr) (fun fr => evOps E call ops l fr) s = some r := h
    rw [bind_some] at h
    obtain ⟨f1, s1, h1, h2⟩ := h
    exact Ev.bind (m := fun m => evOp E (callF E (ev E m)) ops o fr) (f := fun m fr => evOps E (callF E (ev E m)) ops l fr) (evOp_ev H h1) (evOps_ev h2)
theorem evDraw_ev {before : Array Nat} : ∀ {l : List Oper} {i : Nat} {ds : List (Nat × Did)} {fr : Fr} {s : St} {r : Fr × St}, evDraw E call ops before l i ds fr s = some r → Ev (fun m => evDraw E (callF E (ev E m)) ops before l i ds fr) s r
  | [], _, _, fr, s, r, h => Ev.const h
  | o :: l, i, ds, fr, s, r, h => by
    have h : M.bind (M.watch (evOp E call ops o fr)) (fun r => bif settled before i r.2 ds then evDraw E call ops before l (Nat.succ i) (keep i r.2 ds) r.1 else M.fail) s = some r := h
    rw [bind_some] at h
    obtain ⟨p, s1, h1, h2⟩ := h
    refine Ev.bind (m := fun m => M.watch (evOp E (callF E (ev E m)) ops o fr)) (f := fun m r => bif settled before i r.2 ds then evDraw E (callF E (ev E m)) ops before l (Nat.succ i) (keep i r.2 ds) r.1 else M.fail) (Ev.watch (fun s r h => evOp_ev H h) h1) ?_
    cases hs : settled before i p.2 ds with
    | false => rw [hs] at h2; cases h2
    | true => rw [hs] at h2; exact evDraw_ev h2

theorem evF_ev {lf : Nat} : ∀ (c : Code) (fr : Fr) (s : St) (r : (X × Fr) × St), evF E call lf c fr s = some r → Ev (fun m => ev E m c fr) s r := by
  intro c
  induction c with
  | skip => intro fr s r h; exact Ev.succ (m := fun _ => M.pure (X.normal, fr)) (fun _ => rfl) (Ev.const (m := M.pure (X.normal, fr)) h)
  | region id ops draw =>
    intro fr s r h
    cases draw with
    | true =>
      have h : M.bind (evDraw E call ops (Region.before ops) ops.toList 0 [] fr) (fun fr => M.pure (X.normal, fr)) s = some r := h
      rw [bind_some] at h
      obtain ⟨f1, s1, h1, h2⟩ := h
      exact Ev.succ (m := fun m => M.bind (evDraw E (callF E (ev E m)) ops (Region.before ops) ops.toList 0 [] fr) fun fr => M.pure (X.normal, fr)) (fun _ => rfl)
        (Ev.bind (m := fun m => evDraw E (callF E (ev E m)) ops (Region.before ops) ops.toList 0 [] fr) (f := fun _ fr => M.pure (X.normal, fr)) (evDraw_ev H h1) (Ev.const h2))
    | false =>
      have h : M.bind (evOps E call ops ops.toList fr) (fun fr => M.pure (X.normal, fr)) s = some r := h
      rw [bind_some] at h
      obtain ⟨f1, s1, h1, h2⟩ := h
      exact Ev.succ (m := fun m => M.bind (evOps E (callF E (ev E m)) ops ops.toList fr) fun fr => M.pure (X.normal, fr)) (fun _ => rfl)
        (Ev.bind (m := fun m => evOps E (callF E (ev E m)) ops ops.toList fr) (f := fun _ fr => M.pure (X.normal, fr)) (evOps_ev H h1) (Ev.const h2))
  | seq a b iha ihb =>
    intro fr s r h
    rw [evF_seq, bind_some] at h
    obtain ⟨⟨x, f1⟩, s1, h1, h2⟩ := h
    refine Ev.succ (m := fun m => M.bind (ev E m a fr) fun r => match r.1 with
      | .normal => ev E m b r.2
      | x => M.pure (x, r.2)) (fun _ => rfl) (Ev.bind (f := fun m r => match r.1 with
      | .normal => ev E m b r.2
      | x => M.pure (x, r.2)) (iha fr s _ h1) ?_)
    cases x with
    | normal => exact ihb f1 s1 r h2
    | exit id => exact Ev.const h2
    | ret => exact Ev.const h2
  | cond c a b iha ihb =>
    intro fr s r h
    rw [evF_cond] at h
    cases hv : fr.eval c with
    | bool t =>
      rw [hv] at h
      cases t with
      | true => exact Ev.succ (m := fun m => ev E m a fr) (fun k => by show (match fr.eval c with | .bool t => bif t then ev E k a fr else ev E k b fr | _ => M.fail) = _; rw [hv]; rfl) (iha fr s r h)
      | false => exact Ev.succ (m := fun m => ev E m b fr) (fun k => by show (match fr.eval c with | .bool t => bif t then ev E k a fr else ev E k b fr | _ => M.fail) = _; rw [hv]; rfl) (ihb fr s r h)
    | _ => rw [hv] at h; cases h
  | block id c ih =>
    intro fr s r h
    rw [evF_block, bind_some] at h
    obtain ⟨p, s1, h1, h2⟩ := h
    exact Ev.succ (m := fun m => M.bind (ev E m c fr) fun r => match r.1 with
      | .exit k => bif Nat.beq k id then M.pure (.normal, r.2) else M.pure (.exit k, r.2)
      | x => M.pure (x, r.2)) (fun _ => rfl) (Ev.bind (f := fun _ r => match r.1 with
      | .exit k => bif Nat.beq k id then M.pure (.normal, r.2) else M.pure (.exit k, r.2)
      | x => M.pure (x, r.2)) (ih fr s _ h1) (Ev.const h2))
  | loop c ih =>
    intro fr s r h
    rw [evF_loop] at h
    have key : ∀ n fr s r, loopF (evF E call lf c) n fr s = some r → Ev (fun m => ev E m (.loop c) fr) s r := by
      intro n
      induction n with
      | zero => intro fr s r h; cases h
      | succ n im =>
        intro fr s r h
        rw [loopF_succ, bind_some] at h
        obtain ⟨⟨x, f1⟩, s1, h1, h2⟩ := h
        refine Ev.succ (m := fun m => M.bind (ev E m c fr) fun r => match r.1 with
          | .normal => ev E m (.loop c) r.2
          | x => M.pure (x, r.2)) (fun _ => rfl) (Ev.bind (f := fun m r => match r.1 with
          | .normal => ev E m (.loop c) r.2
          | x => M.pure (x, r.2)) (ih fr s _ h1) ?_)
        cases x with
        | normal => exact im f1 s1 r h2
        | exit id => exact Ev.const h2
        | ret => exact Ev.const h2
    exact key lf fr s r h
  | exit id => intro fr s r h; exact Ev.succ (m := fun _ => M.pure (X.exit id, fr)) (fun _ => rfl) (Ev.const (m := M.pure (X.exit id, fr)) h)
  | scope c ih => intro fr s r h; exact Ev.succ (m := fun m => ev E m c fr) (fun _ => rfl) (ih fr s r h)
  | label l => intro fr s r h; exact Ev.succ (m := fun _ => M.pure (X.normal, fr)) (fun _ => rfl) (Ev.const (m := M.pure (X.normal, fr)) h)
  | ret => intro fr s r h; exact Ev.succ (m := fun _ => M.pure (X.ret, fr)) (fun _ => rfl) (Ev.const (m := M.pure (X.ret, fr)) h)
  | rangeFunc f p a b _ _ => intro fr s r h; cases h
  | goto l => intro fr s r h; cases h
  | refuse w => intro fr s r h; cases h
end

theorem resL_run (n : Nat) : ∀ (l : List ResultVar) (h : LstC) (t : FT 5) (E : Env) (s : St), resLC n l = some h → resultsA E ⟨n, t⟩ l s = some (h.run t, s)
  | [], h, t, E, s, e => by injection e with e; subst e; rfl
  | .tmp x :: l, h, t, E, s, e => by
    unfold resLC at e
    cases hl : resLC n l with
    | none => rw [hl] at e; cases e
    | some h' =>
      rw [hl] at e
      injection e with e
      subst e
      have ih := resL_run n l h' t E s hl
      show M.bind (M.pure (Fr.get ⟨n, t⟩ x)) (fun v => M.bind (resultsA E ⟨n, t⟩ l) fun vs => M.pure (v :: vs)) s = some (((operC n (.tmp x)).run t :: h'.run t), s)
      rw [bind_pure_l, M.bind_eq, ih, oper_run]; rfl
  | .cell a t :: l, h, _, _, _, e => by cases e
theorem resC_run (E : Env) (n : Nat) (l : List ResultVar) (t : FT 5) : (resC E n l).run t = M.bind (resultsA E ⟨n, t⟩ l) fun vs => M.pure (oneOf vs) := by
  unfold resC
  split
  · next h e =>
    funext s
    show some (oneOf (h.run t), s) = _
    rw [M.bind_eq, resL_run n l h t E s e]; rfl
  · rfl

theorem fill_run (n : Nat) : ∀ (k i : Nat) (l : List Value) (t : FT 5) (c : FT 5 → M Value) (s : St) (r : Value × St), (fillC n k i).run l t c s = some r → (l = [] ∨ i + l.length ≤ n) ∧ c (Fr.fill l i t) s = some r
  | 0, i, l, t, c, s, r, h => by cases h
  | k + 1, i, l, t, c, s, r, h => by
    unfold fillC at h
    cases hb : Nat.blt i n with
    | false =>
      rw [hb, cond_false] at h
      cases l with
      | nil => exact ⟨.inl rfl, h⟩
      | cons v l => cases h
    | true =>
      rw [hb, cond_true] at h
      cases l with
      | nil => exact ⟨.inl rfl, h⟩
      | cons v l =>
        have h : (fillC n k (i + 1)).run l ((slotC i).put t v) c s = some r := h
        rw [slot_put] at h
        obtain ⟨h1, h2⟩ := fill_run n k (i + 1) l _ c s r h
        have hi : i < n := blt_lt0 hb
        refine ⟨.inr ?_, h2⟩
        rcases h1 with rfl | h1
        · simp; omega
        · simp only [List.length_cons]; omega

theorem call_tr (E : Env) (lf : Nat) : ∀ d f args, Tr (callC E lf d f args) false false
  | 0, f, args => Tr.fail
  | d + 1, f, args => by
    show Tr ((funC E f).run (callC E lf d) lf args) false false
    unfold funC
    split
    · exact Tr.within _
    · split
      · exact Tr.within _
      split
      · exact Tr.within _
      cases E.fn f with
      | none => exact Tr.fail
      | some fn =>
        simp only
        cases fn.body with
        | none => exact Tr.fail
        | some c =>
          simp only
          cases Nat.ble fn.ntmps 1024 with
          | false => exact Tr.fail
          | true => exact Tr.within _

theorem callC_ev (E : Env) (lf : Nat) : ∀ d f args s r, callC E lf d f args s = some r → Ev (fun m => callF E (ev E m) f args) s r
  | 0, f, args, s, r, h => by cases h
  | d + 1, f, args, s, r, h => by
    have h : (funC E f).run (callC E lf d) lf args s = some r := h
    have H := callC_ev E lf d
    unfold funC at h
    unfold callF
    split at h
    · next F hF => simp only [hF]; exact Ev.const h
    · next hF =>
      simp only [hF]
      split at h
      · next g hg => simp only [hg]; exact Ev.const h
      next hg =>
      simp only [hg]
      split at h
      · next p hp => simp only [hp]; exact Ev.const h
      next hp =>
      simp only [hp]
      split at h
      · next fn hfn =>
        simp only [hfn]
        split at h
        · next c hc =>
          simp only [hc]
          cases hn : Nat.ble fn.ntmps 1024 with
          | false => rw [hn] at h; cases h
          | true =>
            rw [hn] at h
            have h : M.within ((fillC fn.ntmps 40 0).run args (FT.all undef 5) fun t => (evC E fn.ntmps c).run (callC E lf d) lf t fun x t => X.rec ((resC E fn.ntmps fn.results.toList).run t) (fun _ => M.fail) ((resC E fn.ntmps fn.results.toList).run t) x) s = some r := h
            refine Ev.within (fun s r h => ?_) h
            obtain ⟨h1, h2⟩ := fill_run _ _ _ _ _ _ _ _ h
            have hmax : max fn.ntmps args.length = fn.ntmps := by
              rcases h1 with rfl | h1
              · simp
              · simp only [Nat.zero_add] at h1; omega
            rw [hmax, hn]
            simp only [cond_true]
            rw [evC_run (call_tr E lf d), bind_some] at h2
            obtain ⟨⟨x, f1⟩, s1, h3, h4⟩ := h2
            have hn1 := evF_n E _ lf c _ _ _ _ h3
            have hi : Fr.init fn.ntmps args = ⟨fn.ntmps, Fr.fill args 0 (FT.all undef 5)⟩ := by unfold Fr.init; rw [hmax]
            rw [hi]
            refine Ev.bind (m := fun m => ev E m c ⟨fn.ntmps, Fr.fill args 0 (FT.all undef 5)⟩) (f := fun _ r => match r.1 with
              | .exit _ => M.fail
              | _ => M.bind (resultsA E r.2 fn.results.toList) fun vs => M.pure (oneOf vs)) (evF_ev H c _ _ _ h3) ?_
            have hf1 : (⟨fn.ntmps, f1.t⟩ : Fr) = f1 := fr_eta hn1
            cases x with
            | normal =>
              have h4 : (resC E fn.ntmps fn.results.toList).run f1.t s1 = some r := h4
              rw [resC_run, hf1] at h4; exact Ev.const h4
            | exit id => cases h4
            | ret =>
              have h4 : (resC E fn.ntmps fn.results.toList).run f1.t s1 = some r := h4
              rw [resC_run, hf1] at h4; exact Ev.const h4
        · cases h
      · cases h

/-- By pieces. -/
theorem goodAll_of {E : Env} {mask n : Nat} (c : Nat) (hc : 0 < c) (h : ∀ k, k * c < n → ((List.range c).all fun i => !Nat.testBit mask (k * c + i) || goodAt E (k * c + i)) = true) : goodAll E mask n = true := by
  unfold goodAll
  rw [List.all_eq_true]
  intro i hi
  rw [List.mem_range] at hi
  have h1 := h (i / c) (Nat.lt_of_le_of_lt (Nat.div_mul_le_self i c) hi)
  rw [List.all_eq_true] at h1
  have h2 := h1 (i % c) (List.mem_range.2 (Nat.mod_lt i hc))
  have e : i / c * c + i % c = i := Nat.div_add_mod' i c
  rw [e] at h2
  exact h2

section
variable (E : Env) (x : FuncId → Option (List Value → Option Value))
theorem operOk_same : operOk { E with ext := x } = operOk E := by funext o; cases o <;> rfl
theorem opOk_same : opOk { E with ext := x } = opOk E := by funext o; unfold opOk; rw [operOk_same]
theorem codeOk_same : ∀ c, codeOk { E with ext := x } c = codeOk E c := by
  intro c
  induction c with
  | region id ops draw => unfold codeOk; rw [opOk_same]
  | seq a b iha ihb => unfold codeOk; rw [iha, ihb]
  | cond v a b iha ihb => unfold codeOk; rw [iha, ihb, operOk_same]
  | block id c ih => unfold codeOk; exact ih
  | loop c ih => unfold codeOk; exact ih
  | scope c ih => unfold codeOk; exact ih
  | _ => rfl
theorem goodAt_same (i : Nat) : goodAt { E with ext := x } i = goodAt E i := by
  unfold goodAt
  simp only [codeOk_same]
theorem goodAll_same (mask n : Nat) : goodAll { E with ext := x } mask n = goodAll E mask n := by
  unfold goodAll
  simp only [goodAt_same]
end
theorem run_of_fast {E : Env} {lf d : Nat} {f : FuncId} {args : List Value} {s : St} {r : Value × St} (h : callC E lf d f args s = some r) : ∃ n, run E n f args s = some r := by
  obtain ⟨m0, h⟩ := callC_ev E lf d f args s r h
  exact ⟨m0, h m0 (Nat.le_refl _)⟩
theorem yes_of_fast {E : Env} {lf d : Nat} {f : FuncId} {args : List Value} {next : Nat} (h : yesC E lf d f args next = true) : ∃ n, yes E n f args next = true := by
  unfold yesC at h
  cases hr : callC E lf d f args (St.empty next) with
  | none => rw [hr] at h; cases h
  | some r =>
    obtain ⟨n, hn⟩ := run_of_fast hr
    refine ⟨n, ?_⟩
    unfold yes
    rw [hn, ← hr]; exact h
end Go.Cm
