/-
  The trees of names and of slots: what is put is got. What a piece of the machine touches is all that it hangs on ('Loc').
-/
import Derived.Test.YtfofdglgacfklaaGreatDoorCmA
namespace Go.Cm
open Go

theorem M.bind_eq {α β : Type} (m : M α) (f : α → M β) (s : St) : M.bind m f s = match m s with | some (a, s') => f a s' | none => none := by
  unfold M.bind; cases m s <;> rfl
theorem M.row_eq (r : Nat) (s : St) : M.row r s = bif Nat.blt r s.next then (match s.rows.get r with | some x => some (x, { s with log := r :: s.log }) | none => none) else none := by
  cases s with | mk rows next log wlog => show Bool.rec (motive := fun _ => Option (Row × St)) none (Option.rec (motive := fun _ => Option (Row × St)) none (fun x => some (x, ⟨rows, next, r :: log, wlog⟩)) (rows.get r)) (Nat.blt r next) = _; simp only; cases Nat.blt r next <;> cases D.get rows r <;> rfl
theorem M.turn_eq (r : Nat) (x : Option Row) (s : St) : M.turn r x s = bif Nat.blt r s.next then
    match s.rows.get r with
    | some _ => bif Nat.ble r 1000000000 then some ((), { s with rows := D.put x deep s.rows r, log := r :: s.log, wlog := r :: s.wlog }) else none
    | none => none
  else none := by
  cases s with | mk rows next log wlog => show Bool.rec (motive := fun _ => Option (Unit × St)) none (Option.rec (motive := fun _ => Option (Unit × St)) none (fun _ => Bool.rec (motive := fun _ => Option (Unit × St)) none (some ((), ⟨D.put x deep rows r, next, r :: log, r :: wlog⟩)) (Nat.ble r 1000000000)) (rows.get r)) (Nat.blt r next) = _; simp only; cases Nat.blt r next <;> cases D.get rows r <;> cases Nat.ble r 1000000000 <;> rfl
theorem M.fresh_eq (x : Row) (s : St) : M.fresh x s = bif Nat.ble s.next 1000000000 then some (s.next, { s with rows := D.put (some x) deep s.rows s.next, next := Nat.succ s.next }) else none := by
  unfold M.fresh; cases s with | mk rows next log wlog => simp only [force_eq]; cases Nat.ble next 1000000000 <;> rfl
theorem M.within_eq {α : Type} (m : M α) (s : St) : M.within m s = match m { s with log := [], wlog := [] } with
  | some (a, s') => some (a, { s' with log := below s.next s'.log ++ s.log, wlog := below s.next s'.wlog ++ s.wlog })
  | none => none := by
  unfold M.within; cases s with | mk rows next log wlog => simp only; cases m ⟨rows, next, [], []⟩ <;> rfl
theorem M.watch_eq {α : Type} (m : M α) (s : St) : M.watch m s = match m { s with log := [], wlog := [] } with
  | some (a, s') => some ((a, { lo := s.next, hi := s'.next, log := below s.next s'.log, wlog := below s.next s'.wlog }),
      { s' with log := below s.next s'.log ++ s.log, wlog := below s.next s'.wlog ++ s.wlog })
  | none => none := by
  unfold M.watch; cases s with | mk rows next log wlog => simp only; cases m ⟨rows, next, [], []⟩ <;> rfl
theorem M.lift_eq {α : Type} (o : Option α) (s : St) : M.lift o s = match o with | some a => some (a, s) | none => none := by
  unfold M.lift; cases o <;> rfl
theorem FT.get5_eq (t : FT 5) (i : Nat) : FT.get5 t i = FT.get 5 t i := by
  have e1 : Nat.div i 16 = i / 4 / 4 := by show i / 16 = _; rw [Nat.div_div_eq_div_mul]
  have e2 : Nat.div i 64 = i / 4 / 4 / 4 := by show i / 64 = _; rw [Nat.div_div_eq_div_mul, Nat.div_div_eq_div_mul]
  have e3 : Nat.div i 256 = i / 4 / 4 / 4 / 4 := by show i / 256 = _; rw [Nat.div_div_eq_div_mul, Nat.div_div_eq_div_mul, Nat.div_div_eq_div_mul]
  unfold FT.get5; rw [e1, e2, e3]; rfl
theorem FT.put5_eq (t : FT 5) (i : Nat) (v : Value) : FT.put5 t i v = FT.put 5 t i v := by
  have e1 : Nat.div i 16 = i / 4 / 4 := by show i / 16 = _; rw [Nat.div_div_eq_div_mul]
  have e2 : Nat.div i 64 = i / 4 / 4 / 4 := by show i / 64 = _; rw [Nat.div_div_eq_div_mul, Nat.div_div_eq_div_mul]
  have e3 : Nat.div i 256 = i / 4 / 4 / 4 / 4 := by show i / 256 = _; rw [Nat.div_div_eq_div_mul, Nat.div_div_eq_div_mul, Nat.div_div_eq_div_mul]
  unfold FT.put5 FT.up; rw [e1, e2, e3]; rfl
theorem Fr.get_eq (fr : Fr) (i : Nat) : fr.get i = bif Nat.blt i fr.n then FT.get 5 fr.t i else undef := by
  unfold Fr.get; cases fr; simp only [FT.get5_eq]
theorem Fr.put_eq (fr : Fr) (i : Nat) (v : Value) : fr.put i v = { fr with t := FT.put 5 fr.t i v } := by
  unfold Fr.put; cases fr; simp only [FT.put5_eq]
theorem Fr.fill_cons (v : Value) (l : List Value) (i : Nat) (t : FT 5) : Fr.fill (v :: l) i t = Fr.fill l (i + 1) (FT.put 5 t i v) := by
  rw [Fr.fill, FT.put5_eq]

theorem beq_ite {α : Sort _} (n m : Nat) (x y : α) : (bif Nat.beq n m then x else y) = if n = m then x else y := by
  by_cases h : n = m
  · subst h; simp
  · have : Nat.beq n m = false := by
      cases hb : Nat.beq n m
      · rfl
      · exact absurd (Nat.eq_of_beq_eq_true hb) h
    rw [this, if_neg h]; rfl

theorem T.get_leaf {α : Type} (n : Nat) : (T.leaf : T α).get n = none := rfl
theorem rec_cond {α : Type} (b : Bool) (x y : α) : (Bool.rec y x b : α) = bif b then x else y := by cases b <;> rfl
theorem T.get_node {α : Type} (l r : T α) (v : Option α) (n : Nat) :
    (T.node l v r).get n = if n = 0 then v else if n % 2 = 1 then l.get (n / 2) else r.get (n / 2 - 1) := by
  rw [← beq_ite, ← beq_ite, ← rec_cond, ← rec_cond]; rfl
theorem T.put_leaf {α : Type} (x : Option α) (k n : Nat) :
    T.put x (k + 1) .leaf n = if n = 0 then .node .leaf x .leaf else if n % 2 = 1 then .node (T.put x k .leaf (n / 2)) none .leaf else .node .leaf none (T.put x k .leaf (n / 2 - 1)) := by
  rw [← beq_ite, ← beq_ite, ← rec_cond, ← rec_cond]; rfl
theorem T.put_node {α : Type} (x : Option α) (k n : Nat) (l r : T α) (v : Option α) :
    T.put x (k + 1) (.node l v r) n = if n = 0 then .node l x r else if n % 2 = 1 then .node (T.put x k l (n / 2)) v r else .node l v (T.put x k r (n / 2 - 1)) := by
  rw [← beq_ite, ← beq_ite, ← rec_cond, ← rec_cond]; rfl

theorem pick4_eq {β : Type} (j : Nat) (a b c d : β) : pick4 j a b c d = if j = 0 then a else if j = 1 then b else if j = 2 then c else d := by rcases j with _ | _ | _ | j <;> rfl
theorem D.get_leaf {α : Type} (n : Nat) : (D.leaf : D α).get n = none := rfl
theorem D.get_zero {α : Type} (v : Option α) (a b c d : D α) : (D.node v a b c d).get 0 = v := rfl
theorem D.get_succ {α : Type} (v : Option α) (a b c d : D α) (m : Nat) : (D.node v a b c d).get (m + 1) = if m % 4 = 0 then a.get (m / 4) else if m % 4 = 1 then b.get (m / 4) else if m % 4 = 2 then c.get (m / 4) else d.get (m / 4) := by
  show pick4 (m % 4) a.get b.get c.get d.get (m / 4) = _
  rw [pick4_eq]; split <;> (try rfl); split <;> (try rfl); split <;> rfl
theorem D.put_leaf {α : Type} (x : Option α) (k n : Nat) : D.put x (k + 1) .leaf n = D.put x (k + 1) (.node none .leaf .leaf .leaf .leaf) n := by cases n <;> rfl
theorem D.put_zero {α : Type} (x : Option α) (k : Nat) (v : Option α) (a b c d : D α) : D.put x (k + 1) (.node v a b c d) 0 = .node x a b c d := rfl
theorem D.put_succ {α : Type} (x : Option α) (k : Nat) (v : Option α) (a b c d : D α) (m : Nat) : D.put x (k + 1) (.node v a b c d) (m + 1) =
    if m % 4 = 0 then .node v (D.put x k a (m / 4)) b c d else if m % 4 = 1 then .node v a (D.put x k b (m / 4)) c d else if m % 4 = 2 then .node v a b (D.put x k c (m / 4)) d else .node v a b c (D.put x k d (m / 4)) := by
  show pick4 (m % 4) _ _ _ _ = _
  rw [pick4_eq]; rfl
theorem D.get_put {α : Type} (x : Option α) : ∀ (k : Nat) (t : D α) (n m : Nat), n + 1 < 2 ^ k → (D.put x k t n).get m = if m = n then x else t.get m
  | 0, _, n, m, h => by simp at h
  | k + 1, t, n, m, h => by
    have hp : 2 ^ (k + 1) = 2 * 2 ^ k := by rw [Nat.pow_succ]; omega
    have key : ∀ (v : Option α) (a b c d : D α), (D.put x (k + 1) (.node v a b c d) n).get m = if m = n then x else (D.node v a b c d).get m := by
      intro v a b c d
      cases n with
      | zero =>
        rw [D.put_zero]
        cases m with
        | zero => rfl
        | succ m => rw [if_neg (show ¬ (m + 1 = 0) by omega), D.get_succ, D.get_succ]
      | succ n =>
        have hk : n / 4 + 1 < 2 ^ k := by omega
        have ih := fun (t : D α) (m : Nat) => D.get_put x k t (n / 4) m hk
        rw [D.put_succ]
        cases m with
        | zero =>
          rw [if_neg (show ¬ (0 = n + 1) by omega), D.get_zero]
          split
          · rfl
          · split
            · rfl
            · split <;> rfl
        | succ m =>
          have h4 : n % 4 = 0 ∨ n % 4 = 1 ∨ n % 4 = 2 ∨ n % 4 = 3 := by omega
          have m4 : m % 4 = 0 ∨ m % 4 = 1 ∨ m % 4 = 2 ∨ m % 4 = 3 := by omega
          by_cases e : m = n
          · subst e
            rw [if_pos rfl]
            rcases h4 with h4 | h4 | h4 | h4 <;> simp [h4, D.get_succ, ih]
          · rcases h4 with h4 | h4 | h4 | h4 <;> rcases m4 with m4 | m4 | m4 | m4 <;> first
              | (have e3 : ¬ m / 4 = n / 4 := by omega
                 simp [h4, m4, D.get_succ, ih, e, e3])
              | simp [h4, m4, D.get_succ, e]
    cases t with
    | leaf =>
      rw [D.put_leaf, key none .leaf .leaf .leaf .leaf]
      have : ∀ m, (D.node none .leaf .leaf .leaf .leaf : D α).get m = none := by
        intro m
        cases m with
        | zero => rfl
        | succ m => rw [D.get_succ]; simp [D.get_leaf]
      rw [this, D.get_leaf]
    | node v a b c d => exact key v a b c d

/-- The form in which it is used: a name up to 10^9. -/
theorem D.got {α : Type} (x : Option α) (t : D α) (n m : Nat) (h : Nat.ble n 1000000000 = true) : (D.put x deep t n).get m = if m = n then x else t.get m :=
  D.get_put x deep t n m (by have := Nat.le_of_ble_eq_true h; show n + 1 < 2 ^ 40; omega)

theorem Q.at_set {α : Type} (q : Q α) (i m : Nat) (x : α) (hi : i < 4) (hm : m < 4) : (Q.set q i x).at m = if m = i then x else q.at m := by
  rcases (by omega : i = 0 ∨ i = 1 ∨ i = 2 ∨ i = 3) with rfl | rfl | rfl | rfl <;>
    rcases (by omega : m = 0 ∨ m = 1 ∨ m = 2 ∨ m = 3) with rfl | rfl | rfl | rfl <;> rfl
theorem FT.get_put_step (k : Nat) (q : Q (FT k)) (i j : Nat) (v : Value) (_hi : i < 4 * 4 ^ k) (_hj : j < 4 * 4 ^ k)
    (ih : ∀ q' : FT k, FT.get k (FT.put k q' (i / 4) v) (j / 4) = if j / 4 = i / 4 then v else FT.get k q' (j / 4)) :
    FT.get k (Q.at (Q.set q (i % 4) (FT.put k (Q.at q (i % 4)) (i / 4) v)) (j % 4)) (j / 4) = if j = i then v else FT.get k (Q.at q (j % 4)) (j / 4) := by
  rw [Q.at_set _ _ _ _ (by omega) (by omega)]
  by_cases e : j % 4 = i % 4
  · rw [if_pos e, ih, e]
    by_cases e' : j = i
    · rw [if_pos e', if_pos (by omega)]
    · rw [if_neg e', if_neg (by omega)]
  · rw [if_neg e, if_neg (by omega)]
theorem FT.get_put : ∀ (k : Nat) (q : FT k) (i j : Nat) (v : Value), i < 4 ^ k → j < 4 ^ k → FT.get k (FT.put k q i v) j = if j = i then v else FT.get k q j
  | 0, _, i, j, v, hi, hj => by
    have : j = i := by simp at hi hj; omega
    rw [if_pos this]; rfl
  | k + 1, q, i, j, v, hi, hj => by
    have hp : 4 ^ (k + 1) = 4 * 4 ^ k := by rw [Nat.pow_succ]; omega
    exact FT.get_put_step k q i j v (by omega) (by omega) (fun q' => FT.get_put k q' (i / 4) (j / 4) v (by omega) (by omega))

theorem Q.at_same {α : Type} (x : α) (i : Nat) : Q.at ⟨x, x, x, x⟩ i = x := by
  match i with | 0 => rfl | 1 => rfl | 2 => rfl | _ + 3 => rfl
theorem FT.get_all (v : Value) : ∀ (k i : Nat), FT.get k (FT.all v k) i = v
  | 0, _ => rfl
  | k + 1, i => by
    have h : FT.get k (Q.at ⟨FT.all v k, FT.all v k, FT.all v k, FT.all v k⟩ (i % 4)) (i / 4) = v := by rw [Q.at_same]; exact FT.get_all v k _
    exact h

end Go.Cm
