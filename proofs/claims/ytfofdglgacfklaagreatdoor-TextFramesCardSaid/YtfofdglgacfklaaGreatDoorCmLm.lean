/-
  Maps.
-/
import Derived.Test.YtfofdglgacfklaaGreatDoorCmL
namespace Go.Cm
open Go Go.RowKit

theorem pureRun_bind {α β : Type} {P : Program} (m : Sem α) (f : α → Sem β) : pureRun P (m >>= f) = (pureRun P m).bind fun a => pureRun P (f a) := by
  show pureRun P (Sem.bind m f) = _
  induction m with
  | pure a => rfl
  | program k ih => exact ih _
  | mark n k ih => exact ih
  | choose q k ih =>
    show (if q.forced then pureRun P (Sem.bind (k 0) f) else none) = (if q.forced then pureRun P (k 0) else none).bind _
    split
    · exact ih 0
    · rfl
  | _ => rfl

/-- The same keys. -/
def SameKeys (l l' : List MapEntry) : Prop := l'.map (·.key) = l.map (·.key)
theorem find_now {kind : TypeDesc} {k : Value} : ∀ (l l' : List MapEntry) (i : Nat) (r : Option (Nat × Value)), SameKeys l l' → Instr.findNow kind k l i = some r →
    (r = none ∧ Instr.findNow kind k l' i = some none) ∨ ∃ j v e', r = some (i + j, v) ∧ l'[j]? = some e' ∧ Instr.findNow kind k l' i = some (some (i + j, e'.val))
  | [], [], i, r, _, h => by
    unfold Instr.findNow at h
    injection h with h
    exact Or.inl ⟨h.symm, rfl⟩
  | [], _ :: _, _, _, hk, _ => by cases hk
  | _ :: _, [], _, _, hk, _ => by cases hk
  | e :: l, e' :: l', i, r, hk, h => by
    have hk0 : e'.key = e.key := by injection hk
    have hk1 : SameKeys l l' := by injection hk
    unfold Instr.findNow at h ⊢
    rw [hk0]
    split at h
    · rename_i hs
      injection h with h; subst h
      exact Or.inr ⟨0, e.val, e', rfl, rfl, rfl⟩
    · rename_i hs
      rcases find_now l l' (i + 1) r hk1 h with ⟨h1, h2⟩ | ⟨j, v, x, h1, h2, h3⟩
      · exact Or.inl ⟨h1, h2⟩
      · exact Or.inr ⟨j + 1, v, x, by rw [h1, Nat.add_assoc, Nat.add_comm 1 j], by simpa using h2, by rw [h3, Nat.add_assoc, Nat.add_comm 1 j]⟩
    · cases h
theorem find_now_none {kind : TypeDesc} {k : Value} : ∀ (l l' : List MapEntry) (i : Nat), SameKeys l l' → Instr.findNow kind k l i = none → Instr.findNow kind k l' i = none
  | [], [], i, _, h => by unfold Instr.findNow at h; cases h
  | [], _ :: _, _, hk, _ => by cases hk
  | _ :: _, [], _, hk, _ => by cases hk
  | e :: l, e' :: l', i, hk, h => by
    have hk0 : e'.key = e.key := by injection hk
    have hk1 : SameKeys l l' := by injection hk
    unfold Instr.findNow at h ⊢
    rw [hk0]
    split at h
    · cases h
    · exact find_now_none l l' (i + 1) hk1 h
    · rfl
theorem find_asking {P : Program} {kt : TypeId} {k : Value} : ∀ (l l' : List MapEntry) (i : Nat) (r : Option (Nat × Value)), SameKeys l l' → pureRun P (Instr.findAsking kt k l i) = some r →
    (r = none ∧ pureRun P (Instr.findAsking kt k l' i) = some none) ∨ ∃ j v e', r = some (i + j, v) ∧ l'[j]? = some e' ∧ pureRun P (Instr.findAsking kt k l' i) = some (some (i + j, e'.val))
  | [], [], i, r, _, h => by
    have h' : some none = some r := h
    injection h' with h'
    exact Or.inl ⟨h'.symm, rfl⟩
  | [], _ :: _, _, _, hk, _ => by cases hk
  | _ :: _, [], _, _, hk, _ => by cases hk
  | e :: l, e' :: l', i, r, hk, h => by
    have hk0 : e'.key = e.key := by injection hk
    have hk1 : SameKeys l l' := by injection hk
    unfold Instr.findAsking at h ⊢
    rw [hk0]
    rw [pureRun_bind] at h ⊢
    cases hb : pureRun P (Op.equal kt k e.key) with
    | none => rw [hb] at h; cases h
    | some b =>
      rw [hb] at h
      simp only [Option.bind_some] at h ⊢
      cases b with
      | true =>
        have h' : some (some (i, e.val)) = some r := h
        injection h' with h'; subst h'
        exact Or.inr ⟨0, e.val, e', rfl, rfl, rfl⟩
      | false =>
        rcases find_asking l l' (i + 1) r hk1 h with ⟨h1, h2⟩ | ⟨j, v, x, h1, h2, h3⟩
        · exact Or.inl ⟨h1, h2⟩
        · exact Or.inr ⟨j + 1, v, x, by rw [h1, Nat.add_assoc, Nat.add_comm 1 j], by simpa using h2, by
            have h3' : pureRun P (Instr.findAsking kt k l' (i + 1)) = some (some (i + 1 + j, x.val)) := h3
            show pureRun P (Instr.findAsking kt k l' (i + 1)) = _
            rw [h3', Nat.add_assoc, Nat.add_comm 1 j]⟩
theorem find_key {E : Env} {kt : TypeId} {k : Value} {l l' : List MapEntry} {r : Option (Nat × Value)} (hk : SameKeys l l') (h : pureRun E.P (Instr.findKey kt k l) = some r) :
    (r = none ∧ pureRun E.P (Instr.findKey kt k l') = some none) ∨ ∃ j v e', r = some (j, v) ∧ l'[j]? = some e' ∧ pureRun E.P (Instr.findKey kt k l') = some (some (j, e'.val)) := by
  unfold Instr.findKey at h ⊢
  rw [pureRun_bind] at h ⊢
  cases hd : pureRun E.P (underlying kt) with
  | none => rw [hd] at h; cases h
  | some d =>
    rw [hd] at h
    simp only [Option.bind_some] at h ⊢
    cases hn : Instr.findNow d k l 0 with
    | some x =>
      rw [hn] at h
      have h' : some x = some r := h
      injection h' with h'; subst h'
      rcases find_now l l' 0 x hk hn with ⟨h1, h2⟩ | ⟨j, v, e', h1, h2, h3⟩
      · rw [h2]; exact Or.inl ⟨h1, rfl⟩
      · rw [h3]; rw [Nat.zero_add] at h1 ⊢; exact Or.inr ⟨j, v, e', h1, h2, rfl⟩
    | none =>
      rw [hn] at h
      rw [find_now_none l l' 0 hk hn]
      rcases find_asking l l' 0 r hk h with ⟨h1, h2⟩ | ⟨j, v, e', h1, h2, h3⟩
      · exact Or.inl ⟨h1, h2⟩
      · rw [Nat.zero_add] at h1 h3; exact Or.inr ⟨j, v, e', h1, h2, h3⟩

theorem ERels.keys {μ : Mu} : ∀ {l l' : List MapEntry}, ERels μ l l' → SameKeys (keysOf l) l' ∧ l'.length = l.length
  | _, _, .nil => ⟨rfl, rfl⟩
  | _, _, .cons e e' l l' _ hk' _ _ hl => by
    obtain ⟨h1, h2⟩ := hl.keys
    refine ⟨?_, by simp [h2]⟩
    show e'.key :: l'.map (·.key) = e.key :: (keysOf l).map (·.key)
    rw [hk', h1]
theorem ERels.at {μ : Mu} : ∀ {l l' : List MapEntry}, ERels μ l l' → ∀ (i : Nat) (e : MapEntry), l[i]? = some e → ∃ e', l'[i]? = some e' ∧ plain e.key = true ∧ e'.key = e.key ∧ VRel μ e.val e'.val ∧ e'.born = e.born
  | _, _, .nil, i, e, h => by simp at h
  | _, _, .cons x x' l l' hk hk' hv hb hl, i, e, h => by
    cases i with
    | zero => simp at h; subst h; exact ⟨x', rfl, hk, hk', hv, hb⟩
    | succ i => simp at h; simpa using hl.at i e h
theorem ERels.empty {μ : Mu} {l l' : List MapEntry} (h : ERels μ l l') : l'.isEmpty = l.isEmpty := by cases h <;> rfl

section
variable {E : Env} (ok : E.Ok) {base : Nat} {μ : Mu} {w : World} {s s' : St}
include ok
omit ok in
/-- What looking for a key comes to. -/
theorem find_run {empty : Bool} {kt : TypeId} {k k' : Value} {l l' : List MapEntry} {r : Option (Nat × Value)} (h : findA E empty kt k l = some r) (hk : VRel μ k k') (hl : ERels μ l l') :
    k' = k ∧ plain k = true ∧ (Instr.checkKey empty 10000 kt k).run E.P w = .ok () w ∧ ((r = none ∧ (Instr.findKey kt k l').run E.P w = .ok none w) ∨ ∃ j v e', r = some (j, v) ∧ l'[j]? = some e' ∧ (Instr.findKey kt k l').run E.P w = .ok (some (j, e'.val)) w) := by
  unfold findA at h
  simp only [Option.bind_eq_some_iff, guardO_some] at h
  obtain ⟨_, hp, _, hc, hf⟩ := h
  have := hk.eq hp
  subst this
  refine ⟨rfl, hp, pureRun_ok _ _ hc w, ?_⟩
  rcases find_key hl.keys.1 hf with ⟨h1, h2⟩ | ⟨j, v, e', h1, h2, h3⟩
  · exact Or.inl ⟨h1, pureRun_ok _ _ h2 w⟩
  · exact Or.inr ⟨j, v, e', h1, h2, pureRun_ok _ _ h3 w⟩

theorem does_lookup {t : TypeId} {x i x' i' v : Value} {c : Bool} (h : lookupA E t x i c s = some (v, s')) (hx : VRel μ x x') (hi : VRel μ i i') (hs : SRel base μ s.rows.get w) :
    Does E base μ w s s' (Instr.lookup t x' i' c) fun μ' b => VRel μ' v b := by
  unfold lookupA at h
  simp only [lift_bind, Option.bind_eq_some_iff] at h
  obtain ⟨⟨kt, et⟩, ⟨d, hd, hke⟩, h⟩ := h
  have hdm : d = .map kt et := by
    unfold mapKE at hke
    split at hke
    · injection hke with hke; injection hke with h1 h2; subst h1; subst h2; rfl
    · cases hke
  subst hdm
  rw [bind_some] at h
  obtain ⟨es, s1, he, h⟩ := h
  let tail : Array MapEntry → Sem Value := fun es => do
    Instr.checkKey es.isEmpty 10000 kt i'
    let (v, ok) ← match ← Instr.findKey kt i' es.toList with
      | some (_, v) => pure (v, true)
      | none => pure (← zeroValue et, false)
    pure (if c then .tuple #[v, .bool ok] else v)
  have hent : s1.rows = s.rows ∧ s1.next = s.next ∧ ∃ es' : List MapEntry, ERels μ es es' ∧ (Instr.lookup t x' i' c).run E.P w = (tail ⟨es'⟩).run E.P w := by
    unfold entriesA at he
    split at he
    · rw [pure_some] at he
      obtain ⟨rfl, rfl⟩ := he
      have := hx.eq rfl; subst this
      refine ⟨rfl, rfl, [], .nil, ?_⟩
      unfold Instr.lookup
      simp only [tail, Sem.run_bind, ok.run_und w hd, Result.andThen_ok, Sem.run_pure]
      refine congrArg _ ?_
      funext a1 w1
      refine congrArg _ ?_
      funext a2 w2
      rcases a2 with _ | ⟨_, _⟩ <;> rfl
    · rename_i r
      simp only [row_bind, lift_bind, pure_some] at he
      obtain ⟨_, y, hy, p, hp, rfl, rfl⟩ := he
      have hyr : ∃ c, y = .map p.1 c := by
        unfold entriesOf at hp
        split at hp
        · injection hp with hp; subst hp; exact ⟨_, rfl⟩
        · cases hp
      obtain ⟨c', rfl⟩ := hyr
      obtain ⟨L, hL, rfl⟩ := hx.ofMap
      obtain ⟨K, hK, _, es', hobj, hel⟩ := hs.row r _ hy
      rw [hL] at hK; injection hK with hK; subst hK
      refine ⟨rfl, rfl, es', hel, ?_⟩
      have hget : (getObj L.b).run E.P w = .ok (.map ⟨es'⟩ c') w := by simp only [getObj, Sem.run, hobj]
      unfold Instr.lookup
      simp only [tail, Sem.run_bind, ok.run_und w hd, Result.andThen_ok, hget, Sem.run_pure]
      refine congrArg _ ?_
      funext a1 w1
      refine congrArg _ ?_
      funext a2 w2
      rcases a2 with _ | ⟨_, _⟩ <;> rfl
    · rw [fail_some] at he; exact he.elim
  obtain ⟨e1, e2, es', hel, hrun⟩ := hent
  simp only [lift_bind] at h
  obtain ⟨f, hf, h⟩ := h
  obtain ⟨rfl, _, hck, hfk⟩ := find_run (w := w) hf hi hel
  rw [← hel.empty] at hck
  have hck' : (Instr.checkKey (Array.mk es').isEmpty 10000 kt i').run E.P w = .ok () w := by
    rw [show (Array.mk es').isEmpty = es'.isEmpty by cases es' <;> rfl]; exact hck
  have fin : ∀ (u u' : Value) (b : Bool), v = tupA c u b → VRel μ u u' → (Instr.lookup t x' i' c).run E.P w = .ok (if c then .tuple #[u', .bool b] else u') w → s'.rows = s.rows → s'.next = s.next → Does E base μ w s s' (Instr.lookup t x' i' c) fun μ' b => VRel μ' v b := by
    intro u u' b hv hu hr h1 h2
    subst hv
    refine ⟨_, w, μ, hr, ?_, by rw [h1]; exact hs, by rw [h2]; exact Grew.refl _ _ _ _ _⟩
    cases c with
    | true => exact .tuple _ _ (.cons _ _ _ _ hu (.cons _ _ _ _ (.plain _ rfl) .nil))
    | false => exact hu
  rcases hfk with ⟨rfl, hfr⟩ | ⟨j, v0, e', rfl, hj, hfr⟩
  · simp only [lift_bind, pure_some] at h
    obtain ⟨z, hz, rfl, rfl⟩ := h
    obtain ⟨hz1, hz2⟩ := ok.run_zero (w := w) hz
    refine fin z z false rfl (.plain _ hz2) ?_ e1 e2
    rw [hrun]
    show (tail ⟨es'⟩).run E.P w = _
    simp only [tail, Sem.run_bind, hck', Result.andThen_ok, hfr, hz1, Sem.run_pure]
  · simp only [lift_bind, pure_some] at h
    obtain ⟨e, he2, rfl, rfl⟩ := h
    obtain ⟨x1, hx1, _, _, hv1, _⟩ := hel.at j e he2
    rw [hj] at hx1; injection hx1 with hx1; subst hx1
    refine fin e.val e'.val true rfl hv1 ?_ e1 e2
    rw [hrun]
    show (tail ⟨es'⟩).run E.P w = _
    simp only [tail, Sem.run_bind, hck', Result.andThen_ok, hfr, Sem.run_pure]

omit ok in
theorem does_makeMap {t : TypeId} {v : Value} (h : (M.bind (M.fresh (.map [] 0)) fun r => M.pure (.map (some r))) s = some (v, s')) (hs : SRel base μ s.rows.get w) (hf : ∀ r, s.next ≤ r → r < s'.next → μ r = none) :
    Does E base μ w s s' (Instr.makeMap t none) fun μ' b => VRel μ' v b := by
  simp only [fresh_bind, pure_some] at h
  obtain ⟨hb, rfl, e2⟩ := h
  have hn : μ s.next = none := hf s.next (Nat.le_refl _) (by rw [e2]; exact Nat.lt_succ_self _)
  have hbel : Below w.heap.size w (w.alloc (.map #[] 0)) := (Below.refl _ _).alloc (Nat.le_refl _) _
  let K : Place := ⟨w.heap.size, 0, 0, 0, 0⟩
  refine ⟨.map (some w.heap.size), w.alloc (.map #[] 0), μ.with s.next K, ?_, ?_, ?_, Mu.le_with hn _, fun r p q => ?_, fun _ a b => absurd a b, hbel.mono hs.ge⟩
  · unfold Instr.makeMap
    simp only [Sem.run_bind, Result.andThen_ok, Sem.run_pure, run_newObj, World.alloc_eq]
  · exact VRel.map (μ := μ.with s.next K) s.next K (Mu.with_at _ _ _)
  · refine hs.extend s.next hn (.map [] 0) K hbel (Nat.le_refl _) (by show w.heap.size < _; simp) ⟨hs.ge, [], ?_, .nil⟩ (fun r => ?_)
    · show (w.heap.push _)[w.heap.size]? = _; simp
    · rw [e2]; exact D.got _ _ _ _ hb
  · have : r = s.next := by
      rw [Mu.with_eq] at q
      by_cases h : r = s.next
      · exact h
      · rw [if_neg h] at q; exact absurd p q
    rw [e2]; show s.next ≤ r ∧ r < s.next + 1; omega

omit ok in
theorem ERels.put {l l' : List MapEntry} (h : ERels μ l l') {k v v' : Value} (hk : plain k = true) (hv : VRel μ v v') : ∀ (j : Nat), ERels μ (l.modify j fun e => { e with key := k, val := v }) (l'.modify j fun e => { e with key := k, val := v' }) := by
  induction h with
  | nil => intro j; cases j <;> exact .nil
  | cons e e' l l' hk1 hk2 hv1 hb hl ih =>
    intro j
    cases j with
    | zero => exact .cons _ _ _ _ hk rfl hv hb hl
    | succ j => exact .cons _ _ _ _ hk1 hk2 hv1 hb (ih j)
omit ok in
theorem ERels.push {l l' : List MapEntry} (h : ERels μ l l') {k v v' : Value} {b : Nat} (hk : plain k = true) (hv : VRel μ v v') : ERels μ (l ++ [⟨k, v, b⟩]) (l' ++ [⟨k, v', b⟩]) := by
  induction h with
  | nil => exact .cons _ _ _ _ hk rfl hv rfl .nil
  | cons e e' l l' hk1 hk2 hv1 hb hl ih => exact .cons _ _ _ _ hk1 hk2 hv1 hb ih
theorem does_update {t : TypeId} {m k v m' k' v' : Value} (h : updateA E t m k v s = some ((), s')) (hm : VRel μ m m') (hk : VRel μ k k') (hv : VRel μ v v') (hs : SRel base μ s.rows.get w) :
    Does E base μ w s s' (Instr.mapUpdate t m' k' v') fun _ _ => True := by
  unfold updateA at h
  split at h
  · rename_i r
    simp only [lift_bind, row_bind, Option.bind_eq_some_iff] at h
    obtain ⟨⟨kt, et⟩, ⟨d, hd, hke⟩, _, y, hy, p, hp, f, hf, h⟩ := h
    have hdm : d = .map kt et := by
      unfold mapKE at hke
      split at hke
      · injection hke with hke; injection hke with h1 h2; subst h1; subst h2; rfl
      · cases hke
    subst hdm
    have hyr : y = .map p.1 p.2 := by
      unfold entriesOf at hp
      split at hp
      · injection hp with hp; subst hp; rfl
      · cases hp
    subst hyr
    obtain ⟨L, hL, rfl⟩ := hm.ofMap
    obtain ⟨K, hK, hge, es', hobj, hel⟩ := hs.row r _ hy
    rw [hL] at hK; injection hK with hK; subst hK
    have hget : (getObj L.b).run E.P w = .ok (.map ⟨es'⟩ p.2) w := by simp only [getObj, Sem.run, hobj]
    obtain ⟨rfl, hpk, hck, hfk⟩ := find_run (w := w) hf hk hel
    have hLb : L.b < w.heap.size := hs.dom r _ L hy hL
    have done : ∀ (es2 es3 : List MapEntry) (c : Nat), ERels μ es2 es3 → (M.turn r (some (.map es2 c)) { s with log := r :: s.log }) = some ((), s') →
        (Instr.mapUpdate t (.map (some L.b)) k' v').run E.P w = (setObj L.b (.map ⟨es3⟩ c)).run E.P w → Does E base μ w s s' (Instr.mapUpdate t (.map (some L.b)) k' v') fun _ _ => True := by
      intro es2 es3 c hr ht hrun
      rw [turn_some] at ht
      obtain ⟨_, _, hbr, e1⟩ := ht
      let w' : World := { w with heap := w.heap.setIfInBounds L.b (.map ⟨es3⟩ c) }
      have hset : (setObj L.b (.map ⟨es3⟩ c)).run E.P w = .ok () w' := by
        simp only [setObj, Sem.run, hobj]; rfl
      have hb2 : ∀ b, b ≠ L.b → w'.heap[b]? = w.heap[b]? := by
        intro b hb
        show (w.heap.setIfInBounds L.b _)[b]? = _
        rw [Array.getElem?_setIfInBounds, if_neg (Ne.symm hb)]
      refine ⟨(), w', μ, by rw [hrun, hset], trivial, ?_, Mu.le_refl _, fun _ a b => absurd a b, fun _ a b => absurd a b, ?_⟩
      · refine hs.turn r _ L hy rfl hL (by show (w.heap.setIfInBounds _ _).size = _; simp) hb2 (some (.map es2 c)) (fun z hz => ?_) (fun q => ?_)
        · injection hz with hz; subst hz
          refine ⟨hge, es3, ?_, hr⟩
          show (w.heap.setIfInBounds L.b _)[L.b]? = _
          rw [Array.getElem?_setIfInBounds, if_pos rfl, if_pos hLb]
        · rw [e1]; exact D.got _ _ _ _ hbr
      · exact ⟨rfl, rfl, rfl, by show w.heap.size ≤ (w.heap.setIfInBounds _ _).size; simp, fun k hk => hb2 k (by omega)⟩
    rcases hfk with ⟨rfl, hfr⟩ | ⟨j, v0, e', rfl, hj, hfr⟩
    · simp only at h
      refine done _ (es' ++ [⟨k', v', p.2⟩]) _ (hel.push hpk hv) h ?_
      unfold Instr.mapUpdate
      simp only [Sem.run_bind, ok.run_und w hd, Result.andThen_ok, hget, hck, hfr]
      congr 2
      simp
    · simp only [lift_bind, guard_bind] at h
      obtain ⟨e, he, hsb, h⟩ := h
      obtain ⟨x1, hx1, _, hkk, _, _⟩ := hel.at j e he
      rw [hj] at hx1; injection hx1 with hx1; subst hx1
      refine done _ (es'.modify j fun e => { e with key := k', val := v' }) _ (hel.put hpk hv j) h ?_
      unfold Instr.mapUpdate
      have hkey : (((Array.mk es')[j]?).map (·.key)).getD k' = e.key := by simp [hj, hkk]
      have hstay : (Instr.keyThatStays e.key k').run E.P w = .ok k' w := by
        unfold Instr.keyThatStays
        rw [if_pos hsb]; rfl
      simp only [Sem.run_bind, ok.run_und w hd, Result.andThen_ok, hget, hck, hfr, hkey, hstay]
      congr 2
      simp
  · rw [fail_some] at h; exact h.elim

omit ok in
theorem ERels.erase {l l' : List MapEntry} (h : ERels μ l l') : ∀ (j : Nat), ERels μ (l.eraseIdx j) (l'.eraseIdx j) := by
  induction h with
  | nil => intro j; exact .nil
  | cons e e' l l' hk1 hk2 hv1 hb hl ih =>
    intro j
    cases j with
    | zero => exact hl
    | succ j => exact .cons _ _ _ _ hk1 hk2 hv1 hb (ih j)
theorem does_delete {t : TypeId} {m k m' k' v : Value} {argTypes : Array TypeId} {args : Array Value} {ty : TypeId} (h : deleteA E t m k s = some (v, s')) (ht0 : argTypes[0]? = some t) (ha0 : args[0]? = some m') (ha1 : args[1]? = some k')
    (hm : VRel μ m m') (hk : VRel μ k k') (hs : SRel base μ s.rows.get w) :
    Does E base μ w s s' (Builtin.delete_ argTypes ty args) fun μ' b => VRel μ' v b := by
  unfold deleteA at h
  split at h
  · rename_i r
    simp only [lift_bind, row_bind, Option.bind_eq_some_iff] at h
    obtain ⟨⟨kt, et⟩, ⟨d, hd, hke⟩, _, y, hy, p, hp, f, hf, h⟩ := h
    have hdm : d = .map kt et := by
      unfold mapKE at hke
      split at hke
      · injection hke with hke; injection hke with h1 h2; subst h1; subst h2; rfl
      · cases hke
    subst hdm
    have hyr : y = .map p.1 p.2 := by
      unfold entriesOf at hp
      split at hp
      · injection hp with hp; subst hp; rfl
      · cases hp
    subst hyr
    obtain ⟨L, hL, rfl⟩ := hm.ofMap
    obtain ⟨K, hK, hge, es', hobj, hel⟩ := hs.row r _ hy
    rw [hL] at hK; injection hK with hK; subst hK
    have hget : (getObj L.b).run E.P w = .ok (.map ⟨es'⟩ p.2) w := by simp only [getObj, Sem.run, hobj]
    obtain ⟨rfl, hpk, hck, hfk⟩ := find_run (w := w) hf hk hel
    have hLb : L.b < w.heap.size := hs.dom r _ L hy hL
    have hem : (⟨es'⟩ : Array MapEntry).isEmpty = p.1.isEmpty := by
      rw [← hel.empty]; cases es' <;> rfl
    have done : ∀ (es2 es3 : List MapEntry) (c : Nat), ERels μ es2 es3 → M.bind (M.turn r (some (.map es2 c))) (fun _ => M.pure (.tuple #[])) { s with log := r :: s.log } = some (v, s') →
        (Builtin.delete_ argTypes ty args).run E.P w = (do setObj L.b (.map ⟨es3⟩ c); pure (.tuple #[]) : Sem Value).run E.P w → Does E base μ w s s' (Builtin.delete_ argTypes ty args) fun μ' b => VRel μ' v b := by
      intro es2 es3 c hr ht hrun
      rw [bind_some] at ht
      obtain ⟨_, s1, ht, hv⟩ := ht
      rw [pure_some] at hv
      obtain ⟨rfl, rfl⟩ := hv
      rw [turn_some] at ht
      obtain ⟨_, _, hbr, e1⟩ := ht
      let w' : World := { w with heap := w.heap.setIfInBounds L.b (.map ⟨es3⟩ c) }
      have hset : (setObj L.b (.map ⟨es3⟩ c)).run E.P w = .ok () w' := by
        simp only [setObj, Sem.run, hobj]; rfl
      have hb2 : ∀ b, b ≠ L.b → w'.heap[b]? = w.heap[b]? := by
        intro b hb
        show (w.heap.setIfInBounds L.b _)[b]? = _
        rw [Array.getElem?_setIfInBounds, if_neg (Ne.symm hb)]
      refine ⟨.tuple #[], w', μ, by rw [hrun]; simp only [Sem.run_bind, hset, Result.andThen_ok, Sem.run_pure], .plain _ rfl, ?_, Mu.le_refl _, fun _ a b => absurd a b, fun _ a b => absurd a b, ?_⟩
      · refine hs.turn r _ L hy rfl hL (by show (w.heap.setIfInBounds _ _).size = _; simp) hb2 (some (.map es2 c)) (fun z hz => ?_) (fun q => ?_)
        · injection hz with hz; subst hz
          refine ⟨hge, es3, ?_, hr⟩
          show (w.heap.setIfInBounds L.b _)[L.b]? = _
          rw [Array.getElem?_setIfInBounds, if_pos rfl, if_pos hLb]
        · rw [e1]; exact D.got _ _ _ _ hbr
      · exact ⟨rfl, rfl, rfl, by show w.heap.size ≤ (w.heap.setIfInBounds _ _).size; simp, fun k hk => hb2 k (by omega)⟩
    rcases hfk with ⟨rfl, hfr⟩ | ⟨j, v0, e', rfl, hj, hfr⟩
    · refine done _ es' _ hel h ?_
      unfold Builtin.delete_
      simp only [ht0, ha0, ha1, Sem.run_bind, ok.run_und w hd, Result.andThen_ok, hget, hem, hck, hfr]
    · refine done _ (es'.eraseIdx j) _ (hel.erase j) h ?_
      unfold Builtin.delete_
      have hjl : j < es'.length := by
        rcases Nat.lt_or_ge j es'.length with hlt | hge'
        · exact hlt
        · rw [List.getElem?_eq_none hge'] at hj; cases hj
      have her : (⟨es'⟩ : Array MapEntry).eraseIdxIfInBounds j = ⟨es'.eraseIdx j⟩ := by
        simp [Array.eraseIdxIfInBounds, hjl]
      simp only [ht0, ha0, ha1, Sem.run_bind, ok.run_und w hd, Result.andThen_ok, hget, hem, hck, hfr, her]
  · rw [fail_some] at h; exact h.elim
end
end Go.Cm
