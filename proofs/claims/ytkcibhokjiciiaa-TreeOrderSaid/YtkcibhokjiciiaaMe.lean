/-
  Maps. The operations that look at no memory.
-/
import Derived.Test.YtkcibhokjiciiaaMd
import Derived.Laws.Strings
namespace Go.Cm
open Go Go.RowKit

theorem pureRun_bind {α β : Type} {P : Program} (m : Sem α) (f : α → Sem β) : pureRun P (m >>= f) = (pureRun P m).bind fun a => pureRun P (f a) := by
  show pureRun P (Sem.bind m f) = _
  induction m with
  | pure a => rfl
  | program k ih => exact ih _
  | mark n k ih => exact ih
  | choose q k ih =>
    show (if q.forced then pureRun P (Sem.bind (k 0) f) else none) = (if q.forced then pureRun P (k 0) else none).bind _
    split
    · exact ih 0
    · rfl
  | _ => rfl

/-- The same keys. -/
def SameKeys (l l' : List MapEntry) : Prop := l'.map (·.key) = l.map (·.key)
theorem find_now {kind : TypeDesc} {k : Value} : ∀ (l l' : List MapEntry) (i : Nat) (r : Option (Nat × Value)), SameKeys l l' → Instr.findNow kind k l i = some r →
    (r = none ∧ Instr.findNow kind k l' i = some none) ∨ ∃ j v e', r = some (i + j, v) ∧ l'[j]? = some e' ∧ Instr.findNow kind k l' i = some (some (i + j, e'.val))
  | [], [], i, r, _, h => by
    unfold Instr.findNow at h
    injection h with h
    exact Or.inl ⟨h.symm, rfl⟩
  | [], _ :: _, _, _, hk, _ => by cases hk
  | _ :: _, [], _, _, hk, _ => by cases hk
  | e :: l, e' :: l', i, r, hk, h => by
    have hk0 : e'.key = e.key := by injection hk
    have hk1 : SameKeys l l' := by injection hk
    unfold Instr.findNow at h ⊢
    rw [hk0]
    split at h
    · rename_i hs
      injection h with h; subst h
      exact Or.inr ⟨0, e.val, e', rfl, rfl, rfl⟩
    · rename_i hs
      rcases find_now l l' (i + 1) r hk1 h with ⟨h1, h2⟩ | ⟨j, v, x, h1, h2, h3⟩
      · exact Or.inl ⟨h1, h2⟩
      · exact Or.inr ⟨j + 1, v, x, by rw [h1, Nat.add_assoc, Nat.add_comm 1 j], by simpa using h2, by rw [h3, Nat.add_assoc, Nat.add_comm 1 j]⟩
    · cases h
theorem find_now_none {kind : TypeDesc} {k : Value} : ∀ (l l' : List MapEntry) (i : Nat), SameKeys l l' → Instr.findNow kind k l i = none → Instr.findNow kind k l' i = none
  | [], [], i, _, h => by unfold Instr.findNow at h; cases h
  | [], _ :: _, _, hk, _ => by cases hk
  | _ :: _, [], _, hk, _ => by cases hk
  | e :: l, e' :: l', i, hk, h => by
    have hk0 : e'.key = e.key := by injection hk
    have hk1 : SameKeys l l' := by injection hk
    unfold Instr.findNow at h ⊢
    rw [hk0]
    split at h
    · cases h
    · exact find_now_none l l' (i + 1) hk1 h
    · rfl
theorem find_asking {P : Program} {kt : TypeId} {k : Value} : ∀ (l l' : List MapEntry) (i : Nat) (r : Option (Nat × Value)), SameKeys l l' → pureRun P (Instr.findAsking kt k l i) = some r →
    (r = none ∧ pureRun P (Instr.findAsking kt k l' i) = some none) ∨ ∃ j v e', r = some (i + j, v) ∧ l'[j]? = some e' ∧ pureRun P (Instr.findAsking kt k l' i) = some (some (i + j, e'.val))
  | [], [], i, r, _, h => by
    have h' : some none = some r := h
    injection h' with h'
    exact Or.inl ⟨h'.symm, rfl⟩
  | [], _ :: _, _, _, hk, _ => by cases hk
  | _ :: _, [], _, _, hk, _ => by cases hk
  | e :: l, e' :: l', i, r, hk, h => by
    have hk0 : e'.key = e.key := by injection hk
    have hk1 : SameKeys l l' := by injection hk
    unfold Instr.findAsking at h ⊢
    rw [hk0]
    rw [pureRun_bind] at h ⊢
    cases hb : pureRun P (Op.equal kt k e.key) with
    | none => rw [hb] at h; cases h
    | some b =>
      rw [hb] at h
      simp only [Option.bind_some] at h ⊢
      cases b with
      | true =>
        have h' : some (some (i, e.val)) = some r := h
        injection h' with h'; subst h'
        exact Or.inr ⟨0, e.val, e', rfl, rfl, rfl⟩
      | false =>
        rcases find_asking l l' (i + 1) r hk1 h with ⟨h1, h2⟩ | ⟨j, v, x, h1, h2, h3⟩
        · exact Or.inl ⟨h1, h2⟩
        · exact Or.inr ⟨j + 1, v, x, by rw [h1, Nat.add_assoc, Nat.add_comm 1 j], by simpa using h2, by
            have h3' : pureRun P (Instr.findAsking kt k l' (i + 1)) = some (some (i + 1 + j, x.val)) := h3
            show pureRun P (Instr.findAsking kt k l' (i + 1)) = _
            rw [h3', Nat.add_assoc, Nat.add_comm 1 j]⟩
theorem find_key {E : Env} {kt : TypeId} {k : Value} {l l' : List MapEntry} {r : Option (Nat × Value)} (hk : SameKeys l l') (h : pureRun E.P (Instr.findKey kt k l) = some r) :
    (r = none ∧ pureRun E.P (Instr.findKey kt k l') = some none) ∨ ∃ j v e', r = some (j, v) ∧ l'[j]? = some e' ∧ pureRun E.P (Instr.findKey kt k l') = some (some (j, e'.val)) := by
  unfold Instr.findKey at h ⊢
  rw [pureRun_bind] at h ⊢
  cases hd : pureRun E.P (underlying kt) with
  | none => rw [hd] at h; cases h
  | some d =>
    rw [hd] at h
    simp only [Option.bind_some] at h ⊢
    cases hn : Instr.findNow d k l 0 with
    | some x =>
      rw [hn] at h
      have h' : some x = some r := h
      injection h' with h'; subst h'
      rcases find_now l l' 0 x hk hn with ⟨h1, h2⟩ | ⟨j, v, e', h1, h2, h3⟩
      · rw [h2]; exact Or.inl ⟨h1, rfl⟩
      · rw [h3]; rw [Nat.zero_add] at h1 ⊢; exact Or.inr ⟨j, v, e', h1, h2, rfl⟩
    | none =>
      rw [hn] at h
      rw [find_now_none l l' 0 hk hn]
      rcases find_asking l l' 0 r hk h with ⟨h1, h2⟩ | ⟨j, v, e', h1, h2, h3⟩
      · exact Or.inl ⟨h1, h2⟩
      · rw [Nat.zero_add] at h1 h3; exact Or.inr ⟨j, v, e', h1, h2, h3⟩

theorem ERels.keys {μ : Mu} : ∀ {l l' : List MapEntry}, ERels μ l l' → SameKeys (keysOf l) l' ∧ l'.length = l.length
  | _, _, .nil => ⟨rfl, rfl⟩
  | _, _, .cons e e' l l' _ hk' _ _ hl => by
    obtain ⟨h1, h2⟩ := hl.keys
    refine ⟨?_, by simp [h2]⟩
    show e'.key :: l'.map (·.key) = e.key :: (keysOf l).map (·.key)
    rw [hk', h1]
theorem ERels.at {μ : Mu} : ∀ {l l' : List MapEntry}, ERels μ l l' → ∀ (i : Nat) (e : MapEntry), l[i]? = some e → ∃ e', l'[i]? = some e' ∧ plain e.key = true ∧ e'.key = e.key ∧ VRel μ e.val e'.val ∧ e'.born = e.born
  | _, _, .nil, i, e, h => by simp at h
  | _, _, .cons x x' l l' hk hk' hv hb hl, i, e, h => by
    cases i with
    | zero => simp at h; subst h; exact ⟨x', rfl, hk, hk', hv, hb⟩
    | succ i => simp at h; simpa using hl.at i e h
theorem ERels.empty {μ : Mu} {l l' : List MapEntry} (h : ERels μ l l') : l'.isEmpty = l.isEmpty := by cases h <;> rfl

section
variable {E : Env} (ok : E.Ok) {base : Nat} {μ : Mu} {w : World} {s s' : St}
include ok
omit ok in
/-- What looking for a key comes to. -/
theorem find_run {empty : Bool} {kt : TypeId} {k k' : Value} {l l' : List MapEntry} {r : Option (Nat × Value)} (h : findA E empty kt k l = some r) (hk : VRel μ k k') (hl : ERels μ l l') :
    k' = k ∧ plain k = true ∧ (Instr.checkKey empty 10000 kt k).run E.P w = .ok () w ∧ ((r = none ∧ (Instr.findKey kt k l').run E.P w = .ok none w) ∨ ∃ j v e', r = some (j, v) ∧ l'[j]? = some e' ∧ (Instr.findKey kt k l').run E.P w = .ok (some (j, e'.val)) w) := by
  unfold findA at h
  simp only [Option.bind_eq_some_iff, guardO_some] at h
  obtain ⟨_, hp, _, hc, hf⟩ := h
  have := hk.eq hp
  subst this
  refine ⟨rfl, hp, pureRun_ok _ _ hc w, ?_⟩
  rcases find_key hl.keys.1 hf with ⟨h1, h2⟩ | ⟨j, v, e', h1, h2, h3⟩
  · exact Or.inl ⟨h1, pureRun_ok _ _ h2 w⟩
  · exact Or.inr ⟨j, v, e', h1, h2, pureRun_ok _ _ h3 w⟩

theorem does_lookup {t : TypeId} {x i x' i' v : Value} {c : Bool} (h : lookupA E t x i c s = some (v, s')) (hx : VRel μ x x') (hi : VRel μ i i') (hs : SRel base μ s.rows.get w) :
    Does E base μ w s s' (Instr.lookup t x' i' c) fun μ' b => VRel μ' v b := by
  unfold lookupA at h
  simp only [lift_bind, Option.bind_eq_some_iff] at h
  obtain ⟨⟨kt, et⟩, ⟨d, hd, hke⟩, h⟩ := h
  have hdm : d = .map kt et := by
    unfold mapKE at hke
    split at hke
    · injection hke with hke; injection hke with h1 h2; subst h1; subst h2; rfl
    · cases hke
  subst hdm
  rw [bind_some] at h
  obtain ⟨es, s1, he, h⟩ := h
  let tail : Array MapEntry → Sem Value := fun es => do
    Instr.checkKey es.isEmpty 10000 kt i'
    let (v, ok) ← match ← Instr.findKey kt i' es.toList with
      | some (_, v) => pure (v, true)
      | none => pure (← zeroValue et, false)
    pure (if c then .tuple #[v, .bool ok] else v)
  have hent : s1.rows = s.rows ∧ s1.next = s.next ∧ ∃ es' : List MapEntry, ERels μ es es' ∧ (Instr.lookup t x' i' c).run E.P w = (tail ⟨es'⟩).run E.P w := by
    unfold entriesA at he
    split at he
    · rw [pure_some] at he
      obtain ⟨rfl, rfl⟩ := he
      have := hx.eq rfl; subst this
      refine ⟨rfl, rfl, [], .nil, ?_⟩
      unfold Instr.lookup
      simp only [tail, Sem.run_bind, ok.run_und w hd, Result.andThen_ok, Sem.run_pure]
      refine congrArg _ ?_
      funext a1 w1
      refine congrArg _ ?_
      funext a2 w2
      rcases a2 with _ | ⟨_, _⟩ <;> rfl
    · rename_i r
      simp only [row_bind, lift_bind, pure_some] at he
      obtain ⟨_, y, hy, p, hp, rfl, rfl⟩ := he
      have hyr : ∃ c, y = .map p.1 c := by
        unfold entriesOf at hp
        split at hp
        · injection hp with hp; subst hp; exact ⟨_, rfl⟩
        · cases hp
      obtain ⟨c', rfl⟩ := hyr
      obtain ⟨L, hL, rfl⟩ := hx.ofMap
      obtain ⟨K, hK, _, es', hobj, hel⟩ := hs.row r _ hy
      rw [hL] at hK; injection hK with hK; subst hK
      refine ⟨rfl, rfl, es', hel, ?_⟩
      have hget : (getObj L.b).run E.P w = .ok (.map ⟨es'⟩ c') w := by simp only [getObj, Sem.run, hobj]
      unfold Instr.lookup
      simp only [tail, Sem.run_bind, ok.run_und w hd, Result.andThen_ok, hget, Sem.run_pure]
      refine congrArg _ ?_
      funext a1 w1
      refine congrArg _ ?_
      funext a2 w2
      rcases a2 with _ | ⟨_, _⟩ <;> rfl
    · rw [fail_some] at he; exact he.elim
  obtain ⟨e1, e2, es', hel, hrun⟩ := hent
  simp only [lift_bind] at h
  obtain ⟨f, hf, h⟩ := h
  obtain ⟨rfl, _, hck, hfk⟩ := find_run (w := w) hf hi hel
  rw [← hel.empty] at hck
  have hck' : (Instr.checkKey (Array.mk es').isEmpty 10000 kt i').run E.P w = .ok () w := by
    rw [show (Array.mk es').isEmpty = es'.isEmpty by cases es' <;> rfl]; exact hck
  have fin : ∀ (u u' : Value) (b : Bool), v = tupA c u b → VRel μ u u' → (Instr.lookup t x' i' c).run E.P w = .ok (if c then .tuple #[u', .bool b] else u') w → s'.rows = s.rows → s'.next = s.next → Does E base μ w s s' (Instr.lookup t x' i' c) fun μ' b => VRel μ' v b := by
    intro u u' b hv hu hr h1 h2
    subst hv
    refine ⟨_, w, μ, hr, ?_, by rw [h1]; exact hs, by rw [h2]; exact Grew.refl _ _ _ _ _⟩
    cases c with
    | true => exact .tuple _ _ (.cons _ _ _ _ hu (.cons _ _ _ _ (.plain _ rfl) .nil))
    | false => exact hu
  rcases hfk with ⟨rfl, hfr⟩ | ⟨j, v0, e', rfl, hj, hfr⟩
  · simp only [lift_bind, pure_some] at h
    obtain ⟨z, hz, rfl, rfl⟩ := h
    obtain ⟨hz1, hz2⟩ := ok.run_zero (w := w) hz
    refine fin z z false rfl (.plain _ hz2) ?_ e1 e2
    rw [hrun]
    show (tail ⟨es'⟩).run E.P w = _
    simp only [tail, Sem.run_bind, hck', Result.andThen_ok, hfr, hz1, Sem.run_pure]
  · simp only [lift_bind, pure_some] at h
    obtain ⟨e, he2, rfl, rfl⟩ := h
    obtain ⟨x1, hx1, _, _, hv1, _⟩ := hel.at j e he2
    rw [hj] at hx1; injection hx1 with hx1; subst hx1
    refine fin e.val e'.val true rfl hv1 ?_ e1 e2
    rw [hrun]
    show (tail ⟨es'⟩).run E.P w = _
    simp only [tail, Sem.run_bind, hck', Result.andThen_ok, hfr, Sem.run_pure]

omit ok in
theorem does_makeMap {t : TypeId} {v : Value} (h : (M.bind (M.fresh (.map [] 0)) fun r => M.pure (.map (some r))) s = some (v, s')) (hs : SRel base μ s.rows.get w) (hf : ∀ r, s.next ≤ r → r < s'.next → μ r = none) :
    Does E base μ w s s' (Instr.makeMap t none) fun μ' b => VRel μ' v b := by
  simp only [fresh_bind, pure_some] at h
  obtain ⟨hb, rfl, e2⟩ := h
  have hn : μ s.next = none := hf s.next (Nat.le_refl _) (by rw [e2]; exact Nat.lt_succ_self _)
  have hbel : Below w.heap.size w (w.alloc (.map #[] 0)) := (Below.refl _ _).alloc (Nat.le_refl _) _
  let K : Place := ⟨w.heap.size, 0, 0, 0, 0⟩
  refine ⟨.map (some w.heap.size), w.alloc (.map #[] 0), μ.with s.next K, ?_, ?_, ?_, Mu.le_with hn _, fun r p q => ?_, fun _ a b => absurd a b, hbel.mono hs.ge⟩
  · unfold Instr.makeMap
    simp only [Sem.run_bind, Result.andThen_ok, Sem.run_pure, run_newObj, World.alloc_eq]
  · exact VRel.map (μ := μ.with s.next K) s.next K (Mu.with_at _ _ _)
  · refine hs.extend s.next hn (.map [] 0) K hbel (Nat.le_refl _) (by show w.heap.size < _; simp) ⟨hs.ge, [], ?_, .nil⟩ (fun r => ?_)
    · show (w.heap.push _)[w.heap.size]? = _; simp
    · rw [e2]; exact D.got _ _ _ _ hb
  · have : r = s.next := by
      rw [Mu.with_eq] at q
      by_cases h : r = s.next
      · exact h
      · rw [if_neg h] at q; exact absurd p q
    rw [e2]; show s.next ≤ r ∧ r < s.next + 1; omega

omit ok in
theorem ERels.put {l l' : List MapEntry} (h : ERels μ l l') {k v v' : Value} (hk : plain k = true) (hv : VRel μ v v') : ∀ (j : Nat), ERels μ (l.modify j fun e => { e with key := k, val := v }) (l'.modify j fun e => { e with key := k, val := v' }) := by
  induction h with
  | nil => intro j; cases j <;> exact .nil
  | cons e e' l l' hk1 hk2 hv1 hb hl ih =>
    intro j
    cases j with
    | zero => exact .cons _ _ _ _ hk rfl hv hb hl
    | succ j => exact .cons _ _ _ _ hk1 hk2 hv1 hb (ih j)
omit ok in
theorem ERels.push {l l' : List MapEntry} (h : ERels μ l l') {k v v' : Value} {b : Nat} (hk : plain k = true) (hv : VRel μ v v') : ERels μ (l ++ [⟨k, v, b⟩]) (l' ++ [⟨k, v', b⟩]) := by
  induction h with
  | nil => exact .cons _ _ _ _ hk rfl hv rfl .nil
  | cons e e' l l' hk1 hk2 hv1 hb hl ih => exact .cons _ _ _ _ hk1 hk2 hv1 hb ih
theorem does_update {t : TypeId} {m k v m' k' v' : Value} (h : updateA E t m k v s = some ((), s')) (hm : VRel μ m m') (hk : VRel μ k k') (hv : VRel μ v v') (hs : SRel base μ s.rows.get w) :
    Does E base μ w s s' (Instr.mapUpdate t m' k' v') fun _ _ => True := by
  unfold updateA at h
  split at h
  · rename_i r
    simp only [lift_bind, row_bind, Option.bind_eq_some_iff] at h
    obtain ⟨⟨kt, et⟩, ⟨d, hd, hke⟩, _, y, hy, p, hp, f, hf, h⟩ := h
    have hdm : d = .map kt et := by
      unfold mapKE at hke
      split at hke
      · injection hke with hke; injection hke with h1 h2; subst h1; subst h2; rfl
      · cases hke
    subst hdm
    have hyr : y = .map p.1 p.2 := by
      unfold entriesOf at hp
      split at hp
      · injection hp with hp; subst hp; rfl
      · cases hp
    subst hyr
    obtain ⟨L, hL, rfl⟩ := hm.ofMap
    obtain ⟨K, hK, hge, es', hobj, hel⟩ := hs.row r _ hy
    rw [hL] at hK; injection hK with hK; subst hK
    have hget : (getObj L.b).run E.P w = .ok (.map ⟨es'⟩ p.2) w := by simp only [getObj, Sem.run, hobj]
    obtain ⟨rfl, hpk, hck, hfk⟩ := find_run (w := w) hf hk hel
    have hLb : L.b < w.heap.size := hs.dom r _ L hy hL
    have done : ∀ (es2 es3 : List MapEntry) (c : Nat), ERels μ es2 es3 → (M.turn r (some (.map es2 c)) { s with log := r :: s.log }) = some ((), s') →
        (Instr.mapUpdate t (.map (some L.b)) k' v').run E.P w = (setObj L.b (.map ⟨es3⟩ c)).run E.P w → Does E base μ w s s' (Instr.mapUpdate t (.map (some L.b)) k' v') fun _ _ => True := by
      intro es2 es3 c hr ht hrun
      rw [turn_some] at ht
      obtain ⟨_, _, hbr, e1⟩ := ht
      let w' : World := { w with heap := w.heap.setIfInBounds L.b (.map ⟨es3⟩ c) }
      have hset : (setObj L.b (.map ⟨es3⟩ c)).run E.P w = .ok () w' := by
        simp only [setObj, Sem.run, hobj]; rfl
      have hb2 : ∀ b, b ≠ L.b → w'.heap[b]? = w.heap[b]? := by
        intro b hb
        show (w.heap.setIfInBounds L.b _)[b]? = _
        rw [Array.getElem?_setIfInBounds, if_neg (Ne.symm hb)]
      refine ⟨(), w', μ, by rw [hrun, hset], trivial, ?_, Mu.le_refl _, fun _ a b => absurd a b, fun _ a b => absurd a b, ?_⟩
      · refine hs.turn r _ L hy rfl hL (by show (w.heap.setIfInBounds _ _).size = _; simp) hb2 (some (.map es2 c)) (fun z hz => ?_) (fun q => ?_)
        · injection hz with hz; subst hz
          refine ⟨hge, es3, ?_, hr⟩
          show (w.heap.setIfInBounds L.b _)[L.b]? = _
          rw [Array.getElem?_setIfInBounds, if_pos rfl, if_pos hLb]
        · rw [e1]; exact D.got _ _ _ _ hbr
      · exact ⟨rfl, rfl, rfl, by show w.heap.size ≤ (w.heap.setIfInBounds _ _).size; simp, fun k hk => hb2 k (by omega)⟩
    rcases hfk with ⟨rfl, hfr⟩ | ⟨j, v0, e', rfl, hj, hfr⟩
    · simp only at h
      refine done _ (es' ++ [⟨k', v', p.2⟩]) _ (hel.push hpk hv) h ?_
      unfold Instr.mapUpdate
      simp only [Sem.run_bind, ok.run_und w hd, Result.andThen_ok, hget, hck, hfr]
      congr 2
      simp
    · simp only [lift_bind, guard_bind] at h
      obtain ⟨e, he, hsb, h⟩ := h
      obtain ⟨x1, hx1, _, hkk, _, _⟩ := hel.at j e he
      rw [hj] at hx1; injection hx1 with hx1; subst hx1
      refine done _ (es'.modify j fun e => { e with key := k', val := v' }) _ (hel.put hpk hv j) h ?_
      unfold Instr.mapUpdate
      have hkey : (((Array.mk es')[j]?).map (·.key)).getD k' = e.key := by simp [hj, hkk]
      have hstay : (Instr.keyThatStays e.key k').run E.P w = .ok k' w := by
        unfold Instr.keyThatStays
        rw [if_pos hsb]; rfl
      simp only [Sem.run_bind, ok.run_und w hd, Result.andThen_ok, hget, hck, hfr, hkey, hstay]
      congr 2
      simp
  · rw [fail_some] at h; exact h.elim

omit ok in
theorem ERels.erase {l l' : List MapEntry} (h : ERels μ l l') : ∀ (j : Nat), ERels μ (l.eraseIdx j) (l'.eraseIdx j) := by
  induction h with
  | nil => intro j; exact .nil
  | cons e e' l l' hk1 hk2 hv1 hb hl ih =>
    intro j
    cases j with
    | zero => exact hl
    | succ j => exact .cons _ _ _ _ hk1 hk2 hv1 hb (ih j)
theorem does_delete {t : TypeId} {m k m' k' v : Value} {argTypes : Array TypeId} {args : Array Value} {ty : TypeId} (h : deleteA E t m k s = some (v, s')) (ht0 : argTypes[0]? = some t) (ha0 : args[0]? = some m') (ha1 : args[1]? = some k')
    (hm : VRel μ m m') (hk : VRel μ k k') (hs : SRel base μ s.rows.get w) :
    Does E base μ w s s' (Builtin.delete_ argTypes ty args) fun μ' b => VRel μ' v b := by
  unfold deleteA at h
  split at h
  · rename_i r
    simp only [lift_bind, row_bind, Option.bind_eq_some_iff] at h
    obtain ⟨⟨kt, et⟩, ⟨d, hd, hke⟩, _, y, hy, p, hp, f, hf, h⟩ := h
    have hdm : d = .map kt et := by
      unfold mapKE at hke
      split at hke
      · injection hke with hke; injection hke with h1 h2; subst h1; subst h2; rfl
      · cases hke
    subst hdm
    have hyr : y = .map p.1 p.2 := by
      unfold entriesOf at hp
      split at hp
      · injection hp with hp; subst hp; rfl
      · cases hp
    subst hyr
    obtain ⟨L, hL, rfl⟩ := hm.ofMap
    obtain ⟨K, hK, hge, es', hobj, hel⟩ := hs.row r _ hy
    rw [hL] at hK; injection hK with hK; subst hK
    have hget : (getObj L.b).run E.P w = .ok (.map ⟨es'⟩ p.2) w := by simp only [getObj, Sem.run, hobj]
    obtain ⟨rfl, hpk, hck, hfk⟩ := find_run (w := w) hf hk hel
    have hLb : L.b < w.heap.size := hs.dom r _ L hy hL
    have hem : (⟨es'⟩ : Array MapEntry).isEmpty = p.1.isEmpty := by
      rw [← hel.empty]; cases es' <;> rfl
    have done : ∀ (es2 es3 : List MapEntry) (c : Nat), ERels μ es2 es3 → M.bind (M.turn r (some (.map es2 c))) (fun _ => M.pure (.tuple #[])) { s with log := r :: s.log } = some (v, s') →
        (Builtin.delete_ argTypes ty args).run E.P w = (do setObj L.b (.map ⟨es3⟩ c); pure (.tuple #[]) : Sem Value).run E.P w → Does E base μ w s s' (Builtin.delete_ argTypes ty args) fun μ' b => VRel μ' v b := by
      intro es2 es3 c hr ht hrun
      rw [bind_some] at ht
      obtain ⟨_, s1, ht, hv⟩ := ht
      rw [pure_some] at hv
      obtain ⟨rfl, rfl⟩ := hv
      rw [turn_some] at ht
      obtain ⟨_, _, hbr, e1⟩ := ht
      let w' : World := { w with heap := w.heap.setIfInBounds L.b (.map ⟨es3⟩ c) }
      have hset : (setObj L.b (.map ⟨es3⟩ c)).run E.P w = .ok () w' := by
        simp only [setObj, Sem.run, hobj]; rfl
      have hb2 : ∀ b, b ≠ L.b → w'.heap[b]? = w.heap[b]? := by
        intro b hb
        show (w.heap.setIfInBounds L.b _)[b]? = _
        rw [Array.getElem?_setIfInBounds, if_neg (Ne.symm hb)]
      refine ⟨.tuple #[], w', μ, by rw [hrun]; simp only [Sem.run_bind, hset, Result.andThen_ok, Sem.run_pure], .plain _ rfl, ?_, Mu.le_refl _, fun _ a b => absurd a b, fun _ a b => absurd a b, ?_⟩
      · refine hs.turn r _ L hy rfl hL (by show (w.heap.setIfInBounds _ _).size = _; simp) hb2 (some (.map es2 c)) (fun z hz => ?_) (fun q => ?_)
        · injection hz with hz; subst hz
          refine ⟨hge, es3, ?_, hr⟩
          show (w.heap.setIfInBounds L.b _)[L.b]? = _
          rw [Array.getElem?_setIfInBounds, if_pos rfl, if_pos hLb]
        · rw [e1]; exact D.got _ _ _ _ hbr
      · exact ⟨rfl, rfl, rfl, by show w.heap.size ≤ (w.heap.setIfInBounds _ _).size; simp, fun k hk => hb2 k (by omega)⟩
    rcases hfk with ⟨rfl, hfr⟩ | ⟨j, v0, e', rfl, hj, hfr⟩
    · refine done _ es' _ hel h ?_
      unfold Builtin.delete_
      simp only [ht0, ha0, ha1, Sem.run_bind, ok.run_und w hd, Result.andThen_ok, hget, hem, hck, hfr]
    · refine done _ (es'.eraseIdx j) _ (hel.erase j) h ?_
      unfold Builtin.delete_
      have hjl : j < es'.length := by
        rcases Nat.lt_or_ge j es'.length with hlt | hge'
        · exact hlt
        · rw [List.getElem?_eq_none hge'] at hj; cases hj
      have her : (⟨es'⟩ : Array MapEntry).eraseIdxIfInBounds j = ⟨es'.eraseIdx j⟩ := by
        simp [Array.eraseIdxIfInBounds, hjl]
      simp only [ht0, ha0, ha1, Sem.run_bind, ok.run_und w hd, Result.andThen_ok, hget, hem, hck, hfr, her]
  · rw [fail_some] at h; exact h.elim
end
end Go.Cm
namespace Go.Cm
open Go Go.RowKit

theorem blt_lt {m n : Nat} (h : Nat.blt m n = true) : m < n := Nat.le_of_ble_eq_true h
theorem wrapA_eq (k : IntKind) (n : Int) : wrapA k n = k.wrap n := by
  have key : ∀ n : Int, -9223372036854775808 ≤ n ∧ n ≤ 9223372036854775807 → n = IntKind.i64.wrap n := fun n h => (IntWalk.i64_in n h).symm
  cases k with
  | i64 =>
    cases n with
    | ofNat m =>
      show (bif Nat.blt m two63 then Int.ofNat m else IntKind.i64.wrap (Int.ofNat m)) = _
      cases h : Nat.blt m two63 with
      | false => rw [cond_false]
      | true =>
        have hm := blt_lt h
        rw [cond_true]
        refine key _ ?_
        unfold two63 at hm
        simp only [Int.ofNat_eq_natCast]; omega
    | negSucc m =>
      show (bif Nat.blt m two63 then Int.negSucc m else IntKind.i64.wrap (Int.negSucc m)) = _
      cases h : Nat.blt m two63 with
      | false => rw [cond_false]
      | true =>
        have hm := blt_lt h
        rw [cond_true]
        refine key _ ?_
        unfold two63 at hm
        rw [Int.negSucc_eq]; omega
  | _ => rfl
theorem ltA_eq (a b : Int) : ltA a b = decide (a < b) := by
  have hb : ∀ m n : Nat, Nat.blt m n = decide (m < n) := by
    intro m n
    cases h : Nat.blt m n with
    | true => exact (decide_eq_true (Nat.le_of_ble_eq_true h)).symm
    | false => exact (decide_eq_false (fun hh => by have : Nat.blt m n = true := Nat.ble_eq_true_of_le hh; rw [this] at h; cases h)).symm
  unfold ltA
  split
  · rw [hb]; simp
  · rename_i m n; exact (decide_eq_false (by rw [Int.negSucc_eq]; simp only [Int.ofNat_eq_natCast]; omega)).symm
  · rename_i m n; exact (decide_eq_true (by rw [Int.negSucc_eq]; simp only [Int.ofNat_eq_natCast]; omega)).symm
  · rename_i m n; rw [hb]; simp only [Int.negSucc_eq, decide_eq_decide]; omega
theorem eqA_eq (a b : Int) : eqA a b = (a == b) := by
  have hb : ∀ m n : Nat, Nat.beq m n = decide (m = n) := by
    intro m n
    cases h : Nat.beq m n with
    | true => exact (decide_eq_true (Nat.eq_of_beq_eq_true h)).symm
    | false => exact (decide_eq_false (fun hh => by subst hh; simp at h)).symm
  show _ = decide (a = b)
  unfold eqA
  split
  · rw [hb]; simp only [Int.ofNat_eq_natCast, decide_eq_decide]; omega
  · rename_i m n; rw [hb]; simp
  · rename_i h1 h2
    cases a <;> cases b <;> first
      | exact absurd rfl (h1 _ _ rfl)
      | exact absurd rfl (h2 _ _ rfl)
      | rfl
theorem codeK_inj {a b : IntKind} (h : Nat.beq (codeK a) (codeK b) = true) : a = b := by
  have := Nat.eq_of_beq_eq_true h
  cases a <;> cases b <;> first | rfl | (simp [codeK] at this)
theorem bytesEqA_eq : ∀ a b : List UInt8, bytesEqA a b = (a == b)
  | [], [] => rfl
  | [], _ :: _ => rfl
  | _ :: _, [] => rfl
  | x :: a, y :: b => by
    unfold bytesEqA
    rw [bytesEqA_eq a b]
    have e : ((x :: a) == (y :: b)) = ((x == y) && (a == b)) := rfl
    rw [e]
    cases h : Nat.beq x.toNat y.toNat with
    | true =>
      have : x = y := UInt8.toNat_inj.1 (Nat.eq_of_beq_eq_true h)
      subst this; simp
    | false =>
      have : x ≠ y := by intro hh; subst hh; simp at h
      simp [this]

section
variable {E : Env} (ok : E.Ok) {μ : Mu} {w : World}
include ok

/-- What is asked of two values one of which is nil. -/
def NilOps (P : Program) (w : World) (t : TypeId) (xo yo : Operand) (x y : Value) : Prop :=
  (∀ k, (Op.equalIn (k + 1) t x y).run P w = .ok false w) ∧ (∀ op, eqGuard op t xo yo x y = pure ()) ∧
    (binOp .eql t x y = do pure (.bool (← Op.equal t x y))) ∧ (binOp .neq t x y = do pure (.bool (!(← Op.equal t x y))))

theorem nil_ops {t : TypeId} {d : TypeDesc} (hd : E.und t = some d) {x y x' y' : Value} (hx : VRel μ x x') (hy : VRel μ y y') (hn : nilT d x y = true) (hs : nilish x + nilish y = 3) (xo yo : Operand) : NilOps E.P w t xo yo x' y' := by
  have hu := ok.run_und w hd
  have fin : ∀ x' y', (∀ k, (Op.equalIn (k + 1) t x' y').run E.P w = .ok false w) → (∀ op, eqGuard op t xo yo x' y' = pure ()) →
    (binOp .eql t x' y' = do pure (.bool (← Op.equal t x' y'))) → (binOp .neq t x' y' = do pure (.bool (!(← Op.equal t x' y')))) → NilOps E.P w t xo yo x' y' := fun _ _ a b c d => ⟨a, b, c, d⟩
  unfold nilT at hn
  split at hn
  · rename_i a b
    cases a <;> cases b <;> first | (simp [nilish] at hs; done) | skip
    · rename_i b; have := hx.eq rfl; subst this
      obtain ⟨r, off, sp⟩ := b
      cases hy with
      | plain _ h => simp [Cm.plain, plainN] at h
      | ptr r off L h => refine fin _ _ (fun k => ?_) (fun op => by cases op <;> rfl) rfl rfl; simp only [Op.equalIn, Sem.run_bind, hu, Result.andThen_ok]; rfl
    · rename_i a; have := hy.eq rfl; subst this
      cases hx with
      | plain _ h => simp [Cm.plain, plainN] at h
      | ptr r off L h => refine fin _ _ (fun k => ?_) (fun op => by cases op <;> rfl) rfl rfl; simp only [Op.equalIn, Sem.run_bind, hu, Result.andThen_ok]; rfl
  · rename_i a n c b m k
    cases a <;> cases b <;> first | (simp [nilish] at hs; done) | skip
    · have := hx.ofNilSlice; subst this
      rcases hy.ofSlice with ⟨L, _, _, rfl⟩ | ⟨L, c2, _, _, _, _, rfl⟩ | ⟨a2, rfl, rfl, rfl⟩ <;> (refine fin _ _ (fun k => ?_) (fun op => by cases op <;> rfl) rfl rfl; simp only [Op.equalIn, Sem.run_bind, hu, Result.andThen_ok]; rfl)
    · have := hy.ofNilSlice; subst this
      rcases hx.ofSlice with ⟨L, _, _, rfl⟩ | ⟨L, c2, _, _, _, _, rfl⟩ | ⟨a2, rfl, rfl, rfl⟩ <;> (refine fin _ _ (fun k => ?_) (fun op => by cases op <;> rfl) rfl rfl; simp only [Op.equalIn, Sem.run_bind, hu, Result.andThen_ok]; rfl)
  · rename_i a b
    cases a <;> cases b <;> first | (simp [nilish] at hs; done) | skip
    · have := hx.eq rfl; subst this
      obtain ⟨L, _, rfl⟩ := hy.ofMap
      refine fin _ _ (fun k => ?_) (fun op => by cases op <;> rfl) rfl rfl; simp only [Op.equalIn, Sem.run_bind, hu, Result.andThen_ok]; rfl
    · have := hy.eq rfl; subst this
      obtain ⟨L, _, rfl⟩ := hx.ofMap
      refine fin _ _ (fun k => ?_) (fun op => by cases op <;> rfl) rfl rfl; simp only [Op.equalIn, Sem.run_bind, hu, Result.andThen_ok]; rfl
  · obtain ⟨a', c', rfl, _, _⟩ := hy.ofFunc
    have := hx.eq rfl; subst this
    refine fin _ _ (fun k => ?_) (fun op => by cases op <;> rfl) rfl rfl; simp only [Op.equalIn, Sem.run_bind, hu, Result.andThen_ok]; rfl
  · obtain ⟨a', c', rfl, _, _⟩ := hx.ofFunc
    have := hy.eq rfl; subst this
    refine fin _ _ (fun k => ?_) (fun op => by cases op <;> rfl) rfl rfl; simp only [Op.equalIn, Sem.run_bind, hu, Result.andThen_ok]; rfl
  · have := hx.eq rfl; subst this
    cases hy with
    | plain _ h => simp [Cm.plain, plainN] at h
    | ref => refine fin _ _ (fun k => ?_) (fun op => by cases op <;> rfl) rfl rfl; simp only [Op.equalIn, Sem.run_bind, hu, Result.andThen_ok]; rfl
  · have := hy.eq rfl; subst this
    cases hx with
    | plain _ h => simp [Cm.plain, plainN] at h
    | ref => refine fin _ _ (fun k => ?_) (fun op => by cases op <;> rfl) rfl rfl; simp only [Op.equalIn, Sem.run_bind, hu, Result.andThen_ok]; rfl
  · have := hx.ofNilSlice; subst this
    cases hy with
    | plain _ h => simp [Cm.plain, plainN] at h
    | arr => refine fin _ _ (fun k => ?_) (fun op => by cases op <;> rfl) rfl rfl; simp only [Op.equalIn, Sem.run_bind, hu, Result.andThen_ok]; rfl
  · have := hy.ofNilSlice; subst this
    cases hx with
    | plain _ h => simp [Cm.plain, plainN] at h
    | arr => refine fin _ _ (fun k => ?_) (fun op => by cases op <;> rfl) rfl rfl; simp only [Op.equalIn, Sem.run_bind, hu, Result.andThen_ok]; rfl
  · obtain ⟨u, rfl, _⟩ := hy.ofIface
    have := hx.eq rfl; subst this
    refine fin _ _ (fun k => ?_) (fun op => by cases op <;> rfl) rfl rfl; simp only [Op.equalIn, Sem.run_bind, hu, Result.andThen_ok]; rfl
  · obtain ⟨u, rfl, _⟩ := hx.ofIface
    have := hy.eq rfl; subst this
    refine fin _ _ (fun k => ?_) (fun op => by cases op <;> rfl) rfl rfl; simp only [Op.equalIn, Sem.run_bind, hu, Result.andThen_ok]; rfl
  · cases hn

theorem does_slow {op : BinOp} {t : TypeId} {xo yo : Operand} {x y x' y' v : Value} (h : binSlowA E op t xo yo x y = some v) (hx : VRel μ x x') (hy : VRel μ y y') :
    (do eqGuard op t xo yo x' y'; binOp op t x' y').run E.P w = .ok v w ∧ Cm.plain v = true := by
  unfold binSlowA at h
  cases hp : (plain x && plain y) with
  | true =>
    rw [hp, cond_true] at h
    rw [Bool.and_eq_true] at hp
    have e1 := hx.eq hp.1; have e2 := hy.eq hp.2
    subst e1; subst e2
    have := plainly_some.1 h
    exact ⟨pureRun_ok _ _ this.1 w, this.2⟩
  | false =>
    rw [hp, cond_false] at h
    simp only [Option.bind_eq_some_iff, guardO_some, Bool.and_eq_true] at h
    obtain ⟨d, hd, _, ⟨h1, h2⟩, h⟩ := h
    obtain ⟨g1, g2, g3, g4⟩ := nil_ops ok (w := w) hd hx hy h1 (Nat.eq_of_beq_eq_true h2) xo yo
    have heq : (Op.equal t x' y').run E.P w = .ok false w := g1 9999
    rw [g2]
    unfold nilOpA at h
    split at h
    · injection h with h; subst h
      refine ⟨?_, rfl⟩
      rw [g3]; simp only [Sem.run_bind, Sem.run_pure, Result.andThen_ok, heq]
    · injection h with h; subst h
      refine ⟨?_, rfl⟩
      rw [g4]; simp only [Sem.run_bind, Sem.run_pure, Result.andThen_ok, heq]; rfl
    · cases h

omit ok in
theorem int_ops {op : BinOp} {t : TypeId} {xo yo : Operand} {k : IntKind} {a b : Int} {v : Value} (h : intBinA op k a b = some v) :
    (do eqGuard op t xo yo (.int k a) (.int k b); binOp op t (.int k a) (.int k b)).run E.P w = .ok v w ∧ Cm.plain v = true := by
  rw [eqGuard_at_int]
  unfold intBinA at h
  have he := eqA_eq a b
  have hl := ltA_eq a b
  have hl' := ltA_eq b a
  split at h <;> cases h
  all_goals refine ⟨?_, rfl⟩
  all_goals simp only [Sem.run_bind, Sem.run_pure, Result.andThen_ok, binOp_add, binOp_sub, binOp_mul, binOp_eql, binOp_neq, binOp_lss, binOp_leq, binOp_gtr, binOp_geq, Op.intArith, wrapA_eq, he, hl, hl']
  all_goals first
    | rfl
    | (congr 2; rw [← decide_not]; apply decide_eq_decide.2; omega)

omit ok in
theorem str_ops {op : BinOp} {t : TypeId} {xo yo : Operand} {a b : ByteArray} {v : Value} (h : strBinA op a b = some v) :
    (do eqGuard op t xo yo (.string a) (.string b); binOp op t (.string a) (.string b)).run E.P w = .ok v w ∧ Cm.plain v = true := by
  rw [eqGuard_at_string]
  unfold strBinA at h
  have he : bytesEqA a.data.toList b.data.toList = (a.toList == b.toList) := by rw [bytesEqA_eq, Go.ByteArray.toList_eq, Go.ByteArray.toList_eq]
  split at h <;> cases h
  all_goals refine ⟨?_, rfl⟩
  all_goals rw [he]; rfl

theorem ptrs_eq {op : BinOp} {t : TypeId} {xo yo : Operand} {a b : Addr} {x' y' v : Value} (h : ptrEqA E op t a b = some v) (hx : VRel μ (.pointer (some a)) x') (hy : VRel μ (.pointer (some b)) y') :
    (do eqGuard op t xo yo x' y'; binOp op t x' y').run E.P w = .ok v w ∧ Cm.plain v = true := by
  unfold ptrEqA at h
  simp only [Option.bind_eq_some_iff, guardO_some, Bool.and_eq_true] at h
  obtain ⟨d, hd, i, hi, _, ⟨⟨⟨h1, h2⟩, h3⟩, h4⟩, h⟩ := h
  obtain ⟨r, off, sp⟩ := a
  obtain ⟨r2, off2, sp2⟩ := b
  have e1 := Nat.eq_of_beq_eq_true h1
  have e2 := Nat.eq_of_beq_eq_true h2
  have e3 : sp = none := by cases sp <;> first | rfl | cases h3
  have e4 : sp2 = none := by cases sp2 <;> first | rfl | cases h4
  simp only at e1 e2
  subst e1 e2 e3 e4
  obtain ⟨L, hL, rfl⟩ := hx.ofPtr
  obtain ⟨L2, hL2, rfl⟩ := hy.ofPtr
  rw [hL] at hL2; injection hL2 with hL2; subst hL2
  split at hi
  · rename_i te
    have hu := ok.und _ _ hd
    have hq : ∀ k, (Op.equalIn (k + 1) t (.pointer (some ⟨L.b, L.o + off, none⟩)) (.pointer (some ⟨L.b, L.o + off, none⟩))).run E.P w = .ok true w := fun k => by
      simp [Op.equalIn, run_underlying hu, sizeOf, typeInfo, ok.info _ _ hi, run_sameAddr_same]
    have heq : (Op.equal t (.pointer (some ⟨L.b, L.o + off, none⟩)) (.pointer (some ⟨L.b, L.o + off, none⟩))).run E.P w = .ok true w := hq 9999
    have g2 : eqGuard op t xo yo (.pointer (some ⟨L.b, L.o + off, none⟩)) (.pointer (some ⟨L.b, L.o + off, none⟩)) = pure () := by cases op <;> rfl
    rw [g2]
    split at h
    · injection h with h; subst h
      refine ⟨?_, rfl⟩
      show (do pure (); pure (.bool (← Op.equal t _ _)) : Sem Value).run E.P w = _
      simp only [Sem.run_bind, Sem.run_pure, Result.andThen_ok, heq]
    · injection h with h; subst h
      refine ⟨?_, rfl⟩
      show (do pure (); pure (.bool (!(← Op.equal t _ _))) : Sem Value).run E.P w = _
      simp only [Sem.run_bind, Sem.run_pure, Result.andThen_ok, heq]; rfl
    · cases h
  · cases hi

theorem does_binOp_plain {op : BinOp} {t : TypeId} {xo yo : Operand} {x y x' y' v : Value} (hn : ∀ c, x ≠ .chan (some c)) (h : binOpA E op t xo yo x y = some v) (hx : VRel μ x x') (hy : VRel μ y y') (htk : (bif isTok x then true else isTok y) = false) :
    (do eqGuard op t xo yo x' y'; binOp op t x' y').run E.P w = .ok v w ∧ Cm.plain v = true := by
  have slow : binSlowA E op t xo yo x y = some v → _ := fun h => does_slow ok (w := w) h hx hy
  unfold binOpA at h
  rw [htk, cond_false] at h
  split at h
  · rename_i k a
    split at h
    · rename_i k' b
      cases hk : Nat.beq (codeK k) (codeK k') with
      | false => rw [hk, cond_false] at h; exact slow h
      | true =>
        rw [hk, cond_true] at h
        have := codeK_inj hk; subst this
        have e1 := hx.ofInt; have e2 := hy.ofInt
        unfold orA at h
        cases hi : intBinA op k a b with
        | some u => rw [hi] at h; injection h with h; subst h; rw [e1, e2]; exact int_ops hi
        | none => rw [hi] at h; exact slow h
    · exact slow h
  · rename_i a
    split at h
    · rename_i b
      have e1 := hx.ofString; have e2 := hy.ofString
      unfold orA at h
      cases hi : strBinA op a b with
      | some u => rw [hi] at h; injection h with h; subst h; rw [e1, e2]; exact str_ops hi
      | none => rw [hi] at h; exact slow h
    · exact slow h
  · rename_i c; exact absurd rfl (hn c)
  · split at h
    · exact ptrs_eq ok h hx hy
    · exact slow h
  · exact slow h

omit ok in
theorem lowOf_range (n : Int) : 0 ≤ lowOf n 255 ∧ lowOf n 255 ≤ 255 := by
  unfold lowOf
  have h : (BitVec.ofInt 64 n &&& BitVec.ofInt 64 (255 : Nat)).toNat ≤ 255 := by
    rw [BitVec.toNat_and]
    exact Nat.le_trans Nat.and_le_right (by decide)
  have := IntWalk.i64_in ((BitVec.ofInt 64 n &&& BitVec.ofInt 64 (255 : Nat)).toNat : Int) (by omega)
  rw [this]; omega

omit ok in
theorem does_sym {op : BinOp} {t : TypeId} {xo yo : Operand} {c : Nat} {n : Int} {y y' v : Value} (h : symBinA op c y = some v) (hc : SymOk c n) (hy : VRel μ y y') :
    ∃ v', (do eqGuard op t xo yo (.int .i64 n) y'; binOp op t (.int .i64 n) y').run E.P w = .ok v' w ∧ VRel μ v v' := by
  unfold symBinA at h
  split at h
  · rename_i b
    have := hy.ofInt; subst this
    rw [eqGuard_at_int]
    unfold symIn at h
    split at h
    · have hrun : (do pure (); binOp .and t (.int .i64 n) (.int .i64 (.ofNat b)) : Sem Value).run E.P w = .ok (.int .i64 (lowOf n b)) w := rfl
      cases h1 : Nat.beq (Nat.mod c 3) 0 && Nat.beq b 255 with
      | true =>
        rw [h1, cond_true] at h
        injection h with h; subst h
        simp only [Bool.and_eq_true] at h1
        have e1 := Nat.eq_of_beq_eq_true h1.1
        have e2 := Nat.eq_of_beq_eq_true h1.2
        subst e2
        refine ⟨_, hrun, .sym _ _ ?_⟩
        have e1' : c % 3 = 0 := e1
        have hm : (c + 1) % 3 = 1 := by omega
        have hd : (c + 1) / 3 = c / 3 := by omega
        unfold SymOk at hc ⊢
        rw [e1'] at hc
        simp only at hc
        obtain ⟨hlt, hc⟩ := hc
        refine ⟨by omega, ?_⟩
        show (match (c + 1) % 3 with | 0 => _ | 1 => _ | _ => _)
        rw [hm]
        have g1 : symM (c + 1) = symM c := by unfold symM; show (c + 1) / 3 / 1024 = c / 3 / 1024; rw [hd]
        have g2 : symK (c + 1) = symK c := by unfold symK; show (c + 1) / 3 % 1024 = c / 3 % 1024; rw [hd]
        simp only [Nat.succ_eq_add_one, g1, g2]
        exact ⟨(lowOf_range n).1, hc⟩
      | false =>
        rw [h1, cond_false] at h
        cases h2 : Nat.beq (Nat.mod c 3) 2 && Nat.beq b (symM c) with
        | false => rw [h2, cond_false] at h; cases h
        | true =>
          rw [h2, cond_true] at h
          injection h with h; subst h
          simp only [Bool.and_eq_true] at h2
          have e1 : c % 3 = 2 := Nat.eq_of_beq_eq_true h2.1
          have e2 := Nat.eq_of_beq_eq_true h2.2
          subst e2
          refine ⟨_, hrun, ?_⟩
          unfold SymOk at hc
          rw [e1] at hc
          simp only at hc
          rw [hc.2]
          exact .plain _ rfl
    · cases h1 : Nat.beq (Nat.mod c 3) 1 && Nat.beq b (symM c) && Nat.blt 0 b with
      | false => rw [h1, cond_false] at h; cases h
      | true =>
        rw [h1, cond_true] at h
        injection h with h; subst h
        simp only [Bool.and_eq_true] at h1
        have e1 : c % 3 = 1 := Nat.eq_of_beq_eq_true h1.1.1
        have e2 := Nat.eq_of_beq_eq_true h1.1.2
        have e3 := blt_lt h1.2
        subst e2
        unfold SymOk at hc
        rw [e1] at hc
        simp only at hc
        have hc := hc.2
        refine ⟨.int .i64 (symK c : Nat), ?_, .plain _ rfl⟩
        have hz : ((symM c : Nat) : Int) ≠ 0 := by omega
        have ht : n.tmod ((symM c : Nat) : Int) = (symK c : Nat) := by rw [Int.tmod_eq_emod_of_nonneg hc.1]; exact hc.2
        show (Op.intDiv .rem .i64 n ((symM c : Nat) : Int)).run E.P w = _
        unfold Op.intDiv
        simp only [hz, if_false, ht]
        simp
    · cases h
  · cases h

theorem does_binOp {op : BinOp} {t : TypeId} {xo yo : Operand} {x y x' y' v : Value} (h : binOpA E op t xo yo x y = some v) (hx : VRel μ x x') (hy : VRel μ y y') (hsy : μ.sy = E.sy) :
    ∃ v', (do eqGuard op t xo yo x' y'; binOp op t x' y').run E.P w = .ok v' w ∧ VRel μ v v' := by
  cases htk : (bif isTok x then true else isTok y) with
  | true =>
    unfold binOpA at h
    rw [htk, cond_true] at h
    simp only [Option.bind_eq_some_iff, guardO_some, Bool.and_eq_true] at h
    obtain ⟨_, ⟨h1, h2⟩, h⟩ := h
    obtain ⟨v', hr, hv'⟩ := ok.ask op t xo yo x y v x' y' w h (hsy ▸ TokV.of hx h1) (hsy ▸ TokV.of hy h2)
    exact ⟨v', hr, (hsy ▸ hv' : TokV μ.sy v v').rel⟩
  | false =>
  by_cases hc : ∃ c, x = .chan (some c)
  · obtain ⟨c, rfl⟩ := hc
    cases hx with
    | plain _ hp => simp [Cm.plain, plainN] at hp
    | sym _ n hs =>
      unfold binOpA at h
      rw [htk, cond_false] at h
      exact does_sym h hs hy
    | tok _ _ hc' => rw [show isTok (.chan (some c)) = true from Nat.ble_eq_true_of_le hc'] at htk; cases htk
  · obtain ⟨h1, h2⟩ := does_binOp_plain ok (w := w) (fun c e => hc ⟨c, e⟩) h hx hy htk
    exact ⟨v, h1, .plain _ h2⟩

theorem does_fieldAddr {t : TypeId} {a a' v : Value} {f : Nat} (h : fieldAddrA E t a f = some v) (ha : VRel μ a a') : ∃ v', (Instr.fieldAt t a' f).run E.P w = .ok v' w ∧ VRel μ v v' := by
  unfold fieldAddrA at h
  simp only [Option.bind_eq_some_iff, structT_some, guardO_some] at h
  obtain ⟨fs, ⟨_, hd, rfl⟩, f', hf, i, hi, _, hsz, h⟩ := h
  have hpos := blt_lt hsz
  cases hfz : asFz a with
  | some p =>
    obtain ⟨k, o, cs⟩ := p
    simp only [hfz, Option.map_eq_some_iff, guardO_some] at h
    obtain ⟨_, hk, rfl⟩ := h
    have hk' := Nat.eq_of_beq_eq_true hk
    subst hk'
    rw [asFz_some] at hfz
    simp only at hfz
    subst hfz
    obtain ⟨b, z, l', rfl, hl, hm⟩ := ha.ofRef
    refine ⟨.pointer (some ⟨b, z + (o + f'.offset), none⟩), ?_, .ref _ _ b z l' hl hm⟩
    unfold Instr.fieldAt Instr.sureAddr fieldPlace
    simp only [Sem.run_bind, ok.run_und w hd, Result.andThen_ok, hf, Sem.run_pure, ok.run_size w hi]
    rw [if_neg (by omega)]
    simp only [Sem.run_pure, Result.andThen_ok, addr_add, Nat.add_assoc]
  | none =>
  simp only [hfz, Option.map_eq_some_iff, asRef_some] at h
  obtain ⟨⟨r, off⟩, rfl, rfl⟩ := h
  obtain ⟨L, hL, rfl⟩ := ha.ofPtr
  refine ⟨.pointer (some ⟨L.b, L.o + (off + f'.offset), none⟩), ?_, .ptr _ _ L hL⟩
  unfold Instr.fieldAt Instr.sureAddr fieldPlace
  simp only [Sem.run_bind, ok.run_und w hd, Result.andThen_ok, hf, Sem.run_pure, ok.run_size w hi]
  rw [if_neg (by omega)]
  simp only [Sem.run_pure, Result.andThen_ok, addr_add, Nat.add_assoc]

theorem does_field {t : TypeId} {x x' v : Value} {f : Nat} (h : fieldA E t x f = some v) (hx : VRel μ x x') : ∃ v', (Instr.field t x' f).run E.P w = .ok v' w ∧ VRel μ v v' := by
  unfold fieldA at h
  simp only [Option.bind_eq_some_iff, structT_some, asAggA_some] at h
  obtain ⟨fs, ⟨_, hd, rfl⟩, f', hf, cs, ⟨c, rfl, rfl⟩, h⟩ := h
  obtain ⟨c', rfl, hc⟩ := hx.ofAgg
  obtain ⟨v', hr, hv⟩ := does_part ok (w := w) h hc
  refine ⟨v', ?_, hv⟩
  unfold Instr.field
  simp only [Sem.run_bind, ok.run_und w hd, Result.andThen_ok, hf, asAgg, Sem.run_pure]
  exact hr

omit ok in
theorem idx_rel {i i' : Value} {k : Nat} (h : idx i = some k) (hi : VRel μ i i') : ∃ kk, i' = .int kk (.ofNat k) ∧ (asIntOf i').run E.P w = .ok (kk, (k : Int)) w := by
  obtain ⟨kk, rfl⟩ := idx_some.1 h
  have := hi.ofInt; subst this
  exact ⟨kk, rfl, rfl⟩

theorem does_indexAddr {t : TypeId} {x x' i i' v : Value} (h : indexAddrA E t x i = some v) (hx : VRel μ x x') (hi : VRel μ i i') : ∃ v', (Instr.indexAt t x' i').run E.P w = .ok v' w ∧ VRel μ v v' := by
  unfold indexAddrA at h
  simp only [Option.bind_eq_some_iff] at h
  obtain ⟨d, hd, k, hk, h⟩ := h
  obtain ⟨kk, rfl, hrun⟩ := idx_rel (E := E) (w := w) hk hi
  split at h
  · rename_i e
    simp only [Option.bind_eq_some_iff] at h
    obtain ⟨inf, hinf, h⟩ := h
    cases hfz : asFz x with
    | some p =>
      obtain ⟨g, n, cs⟩ := p
      simp only [hfz, Option.map_eq_some_iff, guardO_some, Bool.and_eq_true] at h
      obtain ⟨_, ⟨hg, hlt⟩, rfl⟩ := h
      have hg' := Nat.eq_of_beq_eq_true hg
      subst hg'
      have hkn := blt_lt hlt
      rw [asFz_some] at hfz
      simp only at hfz
      subst hfz
      obtain ⟨a, cap, l', rfl, hsp, hc, hl, hm⟩ := hx.ofArr
      obtain ⟨b, z, sp⟩ := a
      have hsp' : sp = none := hsp.elim (fun e => absurd hkn (by omega)) id
      subst hsp'
      refine ⟨.pointer (some ⟨b, z + k * inf.size, none⟩), ?_, .ref _ _ b z l' hl hm⟩
      unfold Instr.indexAt
      have hcond : (0 : Int) ≤ (k : Int) ∧ (k : Int) < (n : Int) := by omega
      simp only [Sem.run_bind, hrun, Result.andThen_ok, ok.run_und w hd, Sem.run_pure, hcond, and_self, if_true, ok.run_size w hinf, Int.toNat_natCast, addr_add]
    | none =>
    simp only [hfz, Option.bind_eq_some_iff, Option.map_eq_some_iff, asSlice_some, guardO_some] at h
    obtain ⟨⟨b, n, c⟩, rfl, _, hlt, a, rfl, rfl⟩ := h
    simp only at hlt hx
    have hkn := blt_lt hlt
    obtain ⟨r, off, sp⟩ := a
    have fin : ∀ (L : Place) (c' : Nat), μ r = some L → x' = .slice (some ⟨L.b, L.o + off, none⟩) n c' →
        ∃ v', (Instr.indexAt t x' (.int kk (.ofNat k))).run E.P w = .ok v' w ∧ VRel μ (.pointer (some ⟨r, off + k * inf.size, none⟩)) v' := by
      intro L c' hL hx'
      subst hx'
      refine ⟨.pointer (some ⟨L.b, L.o + (off + k * inf.size), none⟩), ?_, .ptr _ _ L hL⟩
      unfold Instr.indexAt
      have hcond : (0 : Int) ≤ (k : Int) ∧ (k : Int) < (n : Int) := by omega
      simp only [Sem.run_bind, hrun, Result.andThen_ok, ok.run_und w hd, Sem.run_pure, hcond, and_self, if_true, ok.run_size w hinf, Int.toNat_natCast, addr_add, Nat.add_assoc]
    rcases hx.ofSlice with ⟨L, hsp, hL, e1⟩ | ⟨L, c2, hsp, hL, hc2, hx2, e1⟩ | ⟨a2, e0, e2, e1⟩
    · exact fin L _ hL e1
    · exact fin L _ hL e1
    · omega
  · rename_i n e
    simp only [Option.bind_eq_some_iff, Option.map_eq_some_iff, asRef_some, guardO_some] at h
    obtain ⟨inf, hinf, ⟨r, off⟩, rfl, _, hlt, rfl⟩ := h
    have hkn := blt_lt hlt
    obtain ⟨L, hL, rfl⟩ := hx.ofPtr
    refine ⟨.pointer (some ⟨L.b, L.o + (off + k * inf.size), none⟩), ?_, .ptr _ _ L hL⟩
    unfold Instr.indexAt Instr.sureAddr
    have hcond : (0 : Int) ≤ (k : Int) ∧ (k : Int) < (n : Int) := by omega
    simp only [Sem.run_bind, hrun, Result.andThen_ok, ok.run_und w hd, Sem.run_pure, hcond, and_self, if_true, ok.run_size w hinf, Int.toNat_natCast, addr_add, Nat.add_assoc]
  · cases h

theorem does_index {t : TypeId} {x x' i i' v : Value} (h : indexA E t x i = some v) (hx : VRel μ x x') (hi : VRel μ i i') : ∃ v', (Instr.index t x' i').run E.P w = .ok v' w ∧ VRel μ v v' := by
  unfold indexA at h
  simp only [Option.bind_eq_some_iff] at h
  obtain ⟨d, hd, k, hk, h⟩ := h
  obtain ⟨kk, rfl, hrun⟩ := idx_rel (E := E) (w := w) hk hi
  split at h
  · rename_i n e
    simp only [Option.bind_eq_some_iff, asAggA_some, guardO_some] at h
    obtain ⟨inf, hinf, cs, ⟨c, rfl, rfl⟩, _, hlt, h⟩ := h
    have hkn := blt_lt hlt
    obtain ⟨c', rfl, hc⟩ := hx.ofAgg
    obtain ⟨v', hr, hv⟩ := does_part ok (w := w) h hc
    refine ⟨v', ?_, hv⟩
    unfold Instr.index
    have hcond : (0 : Int) ≤ (k : Int) ∧ (k : Int) < (n : Int) := by omega
    simp only [Sem.run_bind, hrun, Result.andThen_ok, ok.run_und w hd, hcond, and_self, if_true, ok.run_size w hinf, Int.toNat_natCast]
    exact hr
  · simp only [Option.bind_eq_some_iff, Option.map_eq_some_iff, asStr_some] at h
    obtain ⟨st, rfl, b, hb, rfl⟩ := h
    have := hx.ofString; subst this
    refine ⟨.int .u8 b.toNat, ?_, .plain _ rfl⟩
    unfold Instr.index
    have hlt : k < st.size := by
      rcases Nat.lt_or_ge k st.data.toList.length with h | h
      · simpa using h
      · rw [List.getElem?_eq_none h] at hb; cases hb
    have hget : st[k]? = some b := by
      rw [getElem?_pos st k hlt]
      have : st.data.toList[k]? = some (st.data.toList[k]'(by simpa using hlt)) := List.getElem?_eq_getElem _
      rw [this] at hb; injection hb with hb; rw [← hb]; rfl
    have h0 : (0 : Int) ≤ (k : Int) := by omega
    simp only [Sem.run_bind, hrun, Result.andThen_ok, ok.run_und w hd, h0, if_true, Int.toNat_natCast, hget, Sem.run_pure]
  · cases h
end
end Go.Cm
