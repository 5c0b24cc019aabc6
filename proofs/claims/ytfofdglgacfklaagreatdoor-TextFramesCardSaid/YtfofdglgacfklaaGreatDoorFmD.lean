/-
  Regions whose order is plain from their text: the watched going is the plain one.
-/
import Derived.Test.YtfofdglgacfklaaGreatDoorFmC
namespace Go.Cm
open Go

section
variable {E : Env} {call : CallFn} (hcall : ∀ f args, Tr (call f args) false false) {ops : Array Oper}

theorem dst_silent (fr : Fr) (d : Option Tmp) (v : Value) : Silent (Fr.dst fr d v) := by
  unfold Fr.dst
  split
  · exact Silent.pure _
  · exact Silent.cond (Silent.pure _) Silent.fail
theorem asV_nx (m : M Value) (o : Oper) (fr : Fr) : M.bind (asV m) (nxK call o fr) = M.bind m fun v => fr.dst o.dst v := by
  unfold asV; rw [bind_assoc]; exact bind_congr fun _ _ _ _ => bind_pure_l _ _
theorem asU_nx (m : M Unit) (o : Oper) (fr : Fr) : M.bind (asU m) (nxK call o fr) = M.bind m fun _ => fr.dst o.dst undef := by
  unfold asU; rw [bind_assoc]; exact bind_congr fun _ _ _ _ => bind_pure_l _ _
theorem evOp_of {P : M Fr → Prop} {o : Oper} {fr : Fr} (hf : P M.fail) (hd : P (fr.dst o.dst undef)) (hx : P (M.bind (execA E fr.eval o) (nxK call o fr))) : P (evOp E call ops o fr) := by
  rw [evOp_eq]
  cases sureA ops fr o with
  | false => exact hf
  | true =>
    cases wantedA ops fr o with
    | false => exact hd
    | true => exact hx

theorem exec0 {o : Oper} {ρ : Operand → Value} (h : memClass E o.op = 0) : ∃ m, execA E ρ o = asV m ∧ Silent m := by
  obtain ⟨dst, op, ty, pos, after, guard⟩ := o
  cases op
  case convert s d x =>
    refine ⟨_, rfl, ?_⟩
    have h : (bif numT E d then 0 else 2) = 0 := h
    cases hn : numT E d with
    | false => rw [hn] at h; cases h
    | true => exact silent_convert hn
  case call c =>
    have h : callClass c = 0 := h
    obtain ⟨callee, args, ts⟩ := c
    have one_silent : ∀ (f : TypeId → Value → M Value) (ts : List TypeId) (args : List Value), (∀ t x, Silent (f t x)) → Silent (one f ts args) := by
      intro f ts args hf
      unfold one
      split
      · split
        · exact hf _ _
        · exact Silent.fail
      · exact Silent.fail
    unfold callClass at h
    split at h
    · cases h
    · cases h
    · cases h
    · cases h
    · next hc =>
      have hc : callee = .builtin .min := hc
      subst hc
      exact ⟨_, rfl, Silent.bind (Silent.guard _) fun _ => Silent.lift _⟩
    · next hc =>
      have hc : callee = .builtin .max := hc
      subst hc
      exact ⟨_, rfl, Silent.bind (Silent.guard _) fun _ => Silent.lift _⟩
    · next hc =>
      have hc : callee = .builtin .cap := hc
      subst hc
      exact ⟨_, rfl, one_silent _ _ _ fun _ _ => Silent.lift _⟩
    · cases h
    · cases h
  all_goals first
    | exact ⟨_, rfl, Silent.lift _⟩
    | (exfalso; revert h; show (_ : Nat) = 0 → False; intro h; cases h)
theorem silent0 {o : Oper} {fr : Fr} (h : memClass E o.op = 0) : Silent (evOp E call ops o fr) := by
  refine evOp_of Silent.fail (dst_silent _ _ _) ?_
  obtain ⟨m, h1, h2⟩ := exec0 (ρ := fr.eval) h
  rw [h1, asV_nx]
  exact Silent.bind h2 fun _ => dst_silent _ _ _

theorem exec1 {o : Oper} {ρ : Operand → Value} (h : memClass E o.op = 1) : ∃ m, execA E ρ o = asV m ∧ Tr m true true := by
  obtain ⟨dst, op, ty, pos, after, guard⟩ := o
  cases op
  case load t a => exact ⟨_, rfl, Tr.loadA _ _⟩
  case lookup t x i c => exact ⟨_, rfl, Tr.lookupA _ _ _ _⟩
  case convert s d x =>
    exfalso
    have h : (bif numT E d then 0 else 2) = 1 := h
    cases hn : numT E d <;> rw [hn] at h <;> cases h
  case call c =>
    have h : callClass c = 1 := h
    obtain ⟨callee, args, ts⟩ := c
    unfold callClass at h
    split at h
    · cases h
    · cases h
    · cases h
    · cases h
    · cases h
    · cases h
    · cases h
    · next hc =>
      have hc : callee = .builtin .len := hc
      subst hc
      refine ⟨one (lenA E) ts.toList (args.toList.map ρ), rfl, ?_⟩
      unfold one
      split
      · split
        · exact Tr.lenA _ _
        · exact Tr.fail
      · exact Tr.fail
    · cases h
  all_goals (exfalso; revert h; show (_ : Nat) = 1 → False; intro h; cases h)
theorem tr1 {o : Oper} {fr : Fr} (h : memClass E o.op = 1) : Tr (evOp E call ops o fr) true true := by
  refine evOp_of (P := fun m => Tr m true true) Tr.fail (dst_silent _ _ _).tr ?_
  obtain ⟨m, h1, h2⟩ := exec1 (ρ := fr.eval) h
  rw [h1, asV_nx]
  exact Tr.then_ h2 fun _ => dst_silent _ _ _

theorem callA_silent (f : FuncId) (args : List Value) : Silent (callA E f args) := by
  unfold callA
  split
  · exact Silent.bind (Silent.guard _) fun _ => Silent.bind (Silent.lift _) fun _ => Silent.pure _
  · split
    · exact Silent.pure _
    · exact Silent.bind (Silent.lift _) fun _ => Silent.pure _
include hcall in
theorem nx_tr (o : Oper) (fr : Fr) (nx : Nx) : Tr (nxK call o fr nx) false false := by
  cases nx with
  | value v => exact (dst_silent _ _ _).tr
  | skip => exact (dst_silent _ _ _).tr
  | known f a v => exact (dst_silent _ _ _).tr
  | enter f args => exact Tr.then_ (hcall f args) fun _ => dst_silent _ _ _
include hcall in
theorem tr2 {o : Oper} {fr : Fr} (h : memClass E o.op = 2) : Tr (evOp E call ops o fr) false false := by
  refine evOp_of (P := fun m => Tr m false false) Tr.fail (dst_silent _ _ _).tr ?_
  have va : ∀ m, execA E fr.eval o = asV m → Tr m false false → Tr (M.bind (execA E fr.eval o) (nxK call o fr)) false false := fun m h1 h2 => by
    rw [h1, asV_nx]; exact Tr.then_ h2 fun _ => dst_silent _ _ _
  obtain ⟨dst, op, ty, pos, after, guard⟩ := o
  cases op
  case alloc t => exact va _ rfl (Tr.allocA _)
  case box t x =>
    show Tr (M.bind (bif isJunk (fr.eval x) then M.fail else asV (newA 0 (fr.eval x).cells.toList)) _) false false
    cases isJunk (fr.eval x) with
    | true => exact Tr.bind Tr.fail fun _ => nx_tr hcall _ _ _
    | false => rw [cond_false, asV_nx]; exact Tr.then_ (Tr.newA _ _) fun _ => dst_silent _ _ _
  case buildSlice t len ps => exact va _ rfl (Tr.buildSliceA _ _ _)
  case makeSlice t l c => exact va _ rfl (Tr.makeSliceA _ _ _)
  case convert s d x => exact va _ rfl (Tr.convertA _ _ _)
  case range t x => exact va _ rfl (Tr.rangeA _ _)
  case next it b => exact va _ rfl (Tr.nextA _ _)
  case mapUpdate t m k v =>
    show Tr (M.bind (asU (updateA E t (fr.eval m) (fr.eval k) (fr.eval v))) _) false false
    rw [asU_nx]; exact Tr.then_ (Tr.updateA _ _ _ _) fun _ => dst_silent _ _ _
  case store t a x =>
    show Tr (M.bind (asU (storeA E t (fr.eval a) (fr.eval x))) _) false false
    rw [asU_nx]; exact Tr.then_ (Tr.storeA _ _ _) fun _ => dst_silent _ _ _
  case call c =>
    have h : callClass c = 2 := h
    obtain ⟨callee, args, ts⟩ := c
    unfold callClass at h
    split at h
    · next f hc =>
      have hc : callee = .value f := hc
      subst hc
      show Tr (M.bind (M.bind (M.lift (asFunc (fr.eval f))) fun p => callA E p.1 (p.2.1 ++ (args.toList.map fr.eval ++ p.2.2))) _) false false
      exact Tr.bind (Silent.bind (Silent.lift _) fun _ => callA_silent _ _).tr fun _ => nx_tr hcall _ _ _
    · next hc =>
      have hc : callee = .builtin .append := hc
      subst hc
      refine va (two (appendA E) ts.toList (args.toList.map fr.eval)) rfl ?_
      unfold two
      split
      · split
        · exact Tr.appendA _ _ _ _
        · exact Tr.fail
      · exact Tr.fail
    · next hc =>
      have hc : callee = .builtin .copy := hc
      subst hc
      refine va (two (fun t _ => copyA E t) ts.toList (args.toList.map fr.eval)) rfl ?_
      unfold two
      split
      · split
        · exact Tr.copyA _ _ _
        · exact Tr.fail
      · exact Tr.fail
    · next hc =>
      have hc : callee = .builtin .delete := hc
      subst hc
      refine va (two (fun t _ => deleteA E t) ts.toList (args.toList.map fr.eval)) rfl ?_
      unfold two
      split
      · split
        · exact Tr.deleteA _ _ _
        · exact Tr.fail
      · exact Tr.fail
    · cases h
    · cases h
    · cases h
    · cases h
    · cases h
  all_goals (exfalso; revert h; show (_ : Nat) = 2 → False; intro h; cases h)

/-- Nothing is logged. -/
def NoLog {α : Type} (m : M α) : Prop := ∀ s a s', m s = some (a, s') → s'.log = s.log ∧ s'.wlog = s.wlog
theorem NoLog.silent {α : Type} {m : M α} (h : Silent m) : NoLog m := fun s a s' e => by
  rcases h with h | ⟨b, h⟩
  · rw [h] at e; cases e
  · rw [h] at e; injection e with e; injection e with _ e; subst e; exact ⟨rfl, rfl⟩
theorem NoLog.bind {α β : Type} {m : M α} {f : α → M β} (hm : NoLog m) (hf : ∀ a, NoLog (f a)) : NoLog (M.bind m f) := fun s a s' e => by
  rw [bind_some] at e
  obtain ⟨b, s1, h1, h2⟩ := e
  obtain ⟨a1, a2⟩ := hm _ _ _ h1
  obtain ⟨b1, b2⟩ := hf b _ _ _ h2
  exact ⟨b1.trans a1, b2.trans a2⟩
theorem NoLog.fresh (x : Row) : NoLog (M.fresh x) := fun s a s' e => by
  rw [M.fresh_eq] at e
  cases hb : Nat.ble s.next 1000000000 with
  | false => rw [hb] at e; cases e
  | true => rw [hb] at e; injection e with e; injection e with _ e; subst e; exact ⟨rfl, rfl⟩
theorem maker_nolog {o : Oper} {fr : Fr} (h : makerOp o.op = true) : NoLog (evOp E call ops o fr) := by
  have li : ∀ {α : Type} (o : Option α), NoLog (M.lift o) := fun o => NoLog.silent (Silent.lift o)
  have gu : ∀ b, NoLog (M.guard b) := fun b => NoLog.silent (Silent.guard b)
  have pu : ∀ {α : Type} (a : α), NoLog (M.pure a) := fun a => NoLog.silent (Silent.pure a)
  have nw : ∀ es cs, NoLog (newA es cs) := fun es cs => NoLog.bind (NoLog.fresh _) fun _ => pu _
  refine evOp_of (P := fun m => NoLog m) (NoLog.silent Silent.fail) (NoLog.silent (dst_silent _ _ _)) ?_
  have va : ∀ m, execA E fr.eval o = asV m → NoLog m → NoLog (M.bind (execA E fr.eval o) (nxK call o fr)) := fun m h1 h2 => by
    rw [h1, asV_nx]; exact NoLog.bind h2 fun _ => NoLog.silent (dst_silent _ _ _)
  obtain ⟨dst, op, ty, pos, after, guard⟩ := o
  cases op
  case alloc t => exact va _ rfl (NoLog.bind (li _) fun _ => nw _ _)
  case box t x =>
    show NoLog (M.bind (bif isJunk (fr.eval x) then M.fail else asV (newA 0 (fr.eval x).cells.toList)) _)
    cases isJunk (fr.eval x) with
    | true => rw [cond_true, bind_fail]; exact NoLog.silent Silent.fail
    | false => rw [cond_false, asV_nx]; exact NoLog.bind (nw _ _) fun _ => NoLog.silent (dst_silent _ _ _)
  case buildSlice t len ps => exact va _ rfl (NoLog.bind (li _) fun _ => NoLog.bind (li _) fun _ => NoLog.bind (gu _) fun _ => NoLog.bind (li _) fun _ => NoLog.bind (NoLog.fresh _) fun _ => pu _)
  case makeSlice t l c => exact va _ rfl (NoLog.bind (li _) fun _ => NoLog.bind (li _) fun _ => NoLog.bind (li _) fun _ => NoLog.bind (li _) fun _ => NoLog.bind (gu _) fun _ => NoLog.bind (NoLog.fresh _) fun _ => pu _)
  case range t x => exact va _ rfl (NoLog.bind (li _) fun _ => NoLog.bind (gu _) fun _ => NoLog.bind (li _) fun _ => NoLog.bind (NoLog.fresh _) fun _ => pu _)
  all_goals cases h

def DidOk (c : Nat) (d : Did) : Prop := (c = 0 → d.log = [] ∧ d.wlog = [] ∧ d.lo = d.hi) ∧ (c = 1 → d.wlog = [] ∧ d.lo = d.hi)
theorem watch_same {α : Type} {m : M α} {nn ro : Bool} (h : Tr m nn ro) (s : St) : (m s = none ∧ M.watch m s = none) ∨
    ∃ a s' d, m s = some (a, s') ∧ M.watch m s = some ((a, d), s') ∧ (nn = true → d.lo = d.hi) ∧ (ro = true → d.wlog = []) := by
  obtain ⟨rows, next, log, wlog⟩ := s
  rw [M.watch_eq]
  rcases h rows next log wlog with ⟨h1, h2⟩ | ⟨a, r', n', L, W, h1, h2, h3, h4, h5, h6, h7⟩
  · exact .inl ⟨h2, by simp only [h1]⟩
  · refine .inr ⟨a, _, { lo := next, hi := n', log := L, wlog := W }, h2, ?_, fun h => (h6 h).symm, h7⟩
    simp only [h1, below_all next L h3, below_all next W h4]
theorem watch_silent {α : Type} {m : M α} (h : Silent m) (s : St) : (m s = none ∧ M.watch m s = none) ∨
    ∃ a s' d, m s = some (a, s') ∧ M.watch m s = some ((a, d), s') ∧ d.log = [] ∧ d.wlog = [] ∧ d.lo = d.hi := by
  rw [M.watch_eq]
  rcases h with h | ⟨b, h⟩
  · exact .inl ⟨h s, by simp only [h]⟩
  · exact .inr ⟨b, s, { lo := s.next, hi := s.next, log := [], wlog := [] }, h s, by simp only [h]; rfl, rfl, rfl, rfl⟩

include hcall in
theorem evOp_watch {o : Oper} {fr : Fr} (h : Nat.ble (memClass E o.op) 2 = true) (s : St) : (evOp E call ops o fr s = none ∧ M.watch (evOp E call ops o fr) s = none) ∨
    ∃ fr' s' d, evOp E call ops o fr s = some (fr', s') ∧ M.watch (evOp E call ops o fr) s = some ((fr', d), s') ∧ DidOk (memClass E o.op) d ∧ (makerOp o.op = true → d.log = [] ∧ d.wlog = []) := by
  have mk : ∀ (fr' : Fr) (d : Did) (s' : St), M.watch (evOp E call ops o fr) s = some ((fr', d), s') → makerOp o.op = true → d.log = [] ∧ d.wlog = [] := by
    intro fr' d s' hw hm
    rw [M.watch_eq] at hw
    cases he : evOp E call ops o fr { s with log := [], wlog := [] } with
    | none => rw [he] at hw; cases hw
    | some p =>
      obtain ⟨l1, l2⟩ := maker_nolog hm _ _ _ he
      rw [he] at hw
      injection hw with hw; injection hw with hw _; injection hw with _ hw
      subst hw
      exact ⟨by show below s.next p.2.log = []; rw [l1]; rfl, by show below s.next p.2.wlog = []; rw [l2]; rfl⟩
  have hle : memClass E o.op ≤ 2 := Nat.le_of_ble_eq_true h
  have h3 : memClass E o.op = 0 ∨ memClass E o.op = 1 ∨ memClass E o.op = 2 := by omega
  rcases h3 with h0 | h0 | h0
  · rcases watch_silent (silent0 (call := call) (ops := ops) (fr := fr) h0) s with h | ⟨a, s', d, h1, h2, h3⟩
    · exact .inl h
    · exact .inr ⟨a, s', d, h1, h2, ⟨fun _ => h3, fun e => by rw [h0] at e; cases e⟩, mk _ _ _ h2⟩
  · rcases watch_same (tr1 (call := call) (ops := ops) (fr := fr) h0) s with h | ⟨a, s', d, h1, h2, h3, h4⟩
    · exact .inl h
    · exact .inr ⟨a, s', d, h1, h2, ⟨fun e => by (rw [h0] at e; cases e), fun _ => ⟨h4 rfl, h3 rfl⟩⟩, mk _ _ _ h2⟩
  · rcases watch_same (tr2 hcall (ops := ops) (fr := fr) h0) s with h | ⟨a, s', d, h1, h2, h3, h4⟩
    · exact .inl h
    · exact .inr ⟨a, s', d, h1, h2, ⟨fun e => by (rw [h0] at e; cases e), fun e => by (rw [h0] at e; cases e)⟩, mk _ _ _ h2⟩

theorem meets_nil : ∀ l : List Nat, meets l [] = false
  | [] => rfl
  | x :: l => by unfold meets; simp only [List.any_nil, cond_false]; exact meets_nil l
theorem beq_self (n : Nat) : Nat.beq n n = true := by simp
theorem clash_ok {before : Array Nat} {i a j b : Nat} {da db : Did} (h : pairOk before i a j b = true) (ha : DidOk a da) (hb : DidOk b db) (hc : clash da db = true) : ordered before i j = true := by
  unfold pairOk at h
  cases ea : Nat.beq a 0 with
  | true =>
    exfalso
    obtain ⟨h1, h2, h3⟩ := ha.1 (Nat.eq_of_beq_eq_true ea)
    unfold clash at hc
    rw [h1, h2, h3, meets_nil, beq_self] at hc
    cases hc
  | false =>
    rw [ea, cond_false] at h
    cases eb : Nat.beq b 0 with
    | true =>
      exfalso
      obtain ⟨h1, h2, h3⟩ := hb.1 (Nat.eq_of_beq_eq_true eb)
      unfold clash at hc
      rw [h1, h2, meets_nil] at hc
      have : (bif Nat.beq da.lo da.hi then false else hasIn da.lo da.hi []) = true := hc
      cases hx : Nat.beq da.lo da.hi <;> rw [hx] at this <;> cases this
    | false =>
      rw [eb, cond_false] at h
      cases ec : (Nat.beq a 1 && Nat.beq b 1) with
      | true =>
        exfalso
        rw [Bool.and_eq_true] at ec
        obtain ⟨h1, h2⟩ := ha.2 (Nat.eq_of_beq_eq_true ec.1)
        obtain ⟨h3, h4⟩ := hb.2 (Nat.eq_of_beq_eq_true ec.2)
        unfold clash at hc
        rw [h1, h2, h3, beq_self] at hc
        cases hc
      | false => rw [ec, cond_false] at h; exact h
theorem clash_maker {da db : Did} (h1 : db.log = []) (h2 : db.wlog = []) : clash da db = false := by
  unfold clash
  rw [h1, h2, meets_nil]
  show (bif Nat.beq da.lo da.hi then false else hasIn da.lo da.hi []) = false
  cases Nat.beq da.lo da.hi <;> rfl
theorem allOk_spec {before : Array Nat} {j b : Nat} : ∀ {l : List (Nat × Nat)}, allOk before j b l = true → ∀ p, p ∈ l → pairOk before p.1 p.2 j b = true
  | [], _, _, h => by cases h
  | q :: l, h, p, hp => by
    unfold allOk at h
    cases hq : pairOk before q.1 q.2 j b with
    | false => rw [hq] at h; cases h
    | true =>
      rw [hq, cond_true] at h
      rw [List.mem_cons] at hp
      rcases hp with rfl | hp
      · exact hq
      · exact allOk_spec h p hp
theorem settled_of {before : Array Nat} {j : Nat} {b : Did} : ∀ {ds : List (Nat × Did)}, (∀ p, p ∈ ds → clash p.2 b = true → ordered before p.1 j = true) → settled before j b ds = true
  | [], _ => rfl
  | d :: l, h => by
    unfold settled
    have ih := settled_of (ds := l) fun p hp => h p (by simp [hp])
    cases hc : clash d.2 b with
    | false => rw [cond_false]; exact ih
    | true => rw [cond_true, h d (by simp) hc, cond_true]; exact ih

include hcall in
theorem static_draw (before : Array Nat) : ∀ (l : List Oper) (j : Nat) (seen : List (Nat × Nat)) (ds : List (Nat × Did)) (fr : Fr), staticL E before l j seen = true →
    (∀ p, p ∈ ds → ∃ c, (p.1, c) ∈ seen ∧ DidOk c p.2) → evDraw E call ops before l j ds fr = evOps E call ops l fr
  | [], _, _, _, _, _, _ => rfl
  | o :: l, j, seen, ds, fr, h, hd => by
    unfold staticL at h
    cases hb : (Nat.ble (memClass E o.op) 2 && (makerOp o.op || allOk before j (memClass E o.op) seen)) with
    | false => rw [hb] at h; cases h
    | true =>
      rw [hb, cond_true] at h
      rw [Bool.and_eq_true] at hb
      unfold evDraw evOps
      funext s
      rw [M.bind_eq, M.bind_eq]
      rcases evOp_watch hcall (ops := ops) (fr := fr) hb.1 s with ⟨h1, h2⟩ | ⟨fr', s', d, h1, h2, h3, h4⟩
      · rw [h1, h2]
      · rw [h1, h2]
        have hs : settled before j d ds = true := settled_of fun p hp hc => by
          obtain ⟨c, hm, ho⟩ := hd p hp
          cases hmk : makerOp o.op with
          | true => obtain ⟨e1, e2⟩ := h4 hmk; rw [clash_maker e1 e2] at hc; cases hc
          | false =>
            have hb2 := hb.2
            rw [hmk, Bool.false_or] at hb2
            exact clash_ok (allOk_spec hb2 _ hm) ho h3 hc
        simp only [hs, cond_true]
        rw [static_draw before l (Nat.succ j) _ (keep j d ds) fr' h fun p hp => ?_]
        have : p = (j, d) ∨ p ∈ ds := by
          unfold keep at hp
          split at hp
          · cases hx : Nat.beq d.lo d.hi with
            | true => rw [hx] at hp; exact Or.inr hp
            | false => rw [hx] at hp; simpa using hp
          · simpa using hp
        rcases this with rfl | hp
        · exact ⟨_, by simp, h3⟩
        · obtain ⟨c, hm, ho⟩ := hd p hp
          exact ⟨c, by simp [hm], ho⟩

theorem drawC_run (n : Nat) (before : Array Nat) : ∀ (l : List Oper) (j : Nat) (t : FT 5) (ds : List (Nat × Did)) (k : FT 5 → M Value),
    (drawC E n ops before l j).run call t ds k = M.bind (evDraw E call ops before l j ds ⟨n, t⟩) fun fr => k fr.t
  | [], j, t, ds, k => rfl
  | o :: l, j, t, ds, k => by
    have ih := drawC_run n before l (Nat.succ j)
    have go : ∀ {fr : Fr} (ds : List (Nat × Did)), fr.n = n → (drawC E n ops before l (Nat.succ j)).run call fr.t ds k = M.bind (evDraw E call ops before l (Nat.succ j) ds fr) fun fr => k fr.t := by
      intro fr ds hn
      rw [ih]; cases fr; simp only at hn; subst hn; rfl
    have hE : evDraw E call ops before (o :: l) j ds ⟨n, t⟩ = M.bind (M.watch (evOp E call ops o ⟨n, t⟩)) fun r => bif settled before j r.2 ds then evDraw E call ops before l (Nat.succ j) (keep j r.2 ds) r.1 else M.fail := rfl
    rw [hE]
    unfold drawC
    cases hc : Nat.beq (memClass E o.op) 0 with
    | true =>
      show (opC E n ops o).run call t (fun t' => (drawC E n ops before l (Nat.succ j)).run call t' ds k) = _
      rw [opC_run, bind_assoc]
      funext s
      rw [M.bind_eq, M.bind_eq]
      rcases watch_silent (silent0 (call := call) (ops := ops) (fr := ⟨n, t⟩) (Nat.eq_of_beq_eq_true hc)) s with ⟨h1, h2⟩ | ⟨fr', s', d, h1, h2, h3, h4, h5⟩
      · rw [h1, h2]
      · rw [h1, h2]
        have hs : settled before j d ds = true := settled_of fun p _ hcl => by rw [clash_maker h3 h4] at hcl; cases hcl
        have hk : keep j d ds = ds := by unfold keep; rw [h3, h5]; simp only; rw [beq_self]; rfl
        simp only [hs, hk, cond_true]
        rw [go ds (evOp_n h1)]
    | false =>
      funext s
      obtain ⟨rows, next, log, wlog⟩ := s
      show (opC E n ops o).run call t (fun t' s' => St.rec (motive := fun _ => Option (Value × St)) (fun rows' next' log' wlog' =>
        Bool.rec (motive := fun _ => Option (Value × St)) none ((drawC E n ops before l (Nat.succ j)).run call t' (keep j { lo := next, hi := next', log := below next log', wlog := below next wlog' } ds) k ⟨rows', next', below next log' ++ log, below next wlog' ++ wlog⟩)
          (settled before j { lo := next, hi := next', log := below next log', wlog := below next wlog' } ds)) s') ⟨rows, next, [], []⟩ = _
      rw [opC_run, bind_assoc, M.bind_eq, M.bind_eq, M.watch_eq]
      simp only
      cases he : evOp E call ops o ⟨n, t⟩ ⟨rows, next, [], []⟩ with
      | none => rfl
      | some p =>
        obtain ⟨fr', r', n', l', w'⟩ := p
        simp only
        cases hs : settled before j { lo := next, hi := n', log := below next l', wlog := below next w' } ds with
        | false => rfl
        | true =>
          simp only [cond_true]
          rw [go _ (evOp_n he)]
end

end Go.Cm
