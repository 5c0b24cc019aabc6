/-
  Append, whole; copy; conversions; lengths.
-/
import Derived.Test.YtfofdglgacfklaaGreatDoorCmI
namespace Go.Cm
open Go Go.RowKit

/-- The same place, another length. -/
theorem VRel.relen {μ : Mu} {a : Option Addr} {n c m : Nat} {v' : Value} (h : VRel μ (.slice a n c) v') (hm : n + m ≤ c) :
    ∃ a' c', v' = .slice a' n c' ∧ c ≤ c' ∧ (a = none → a' = none) ∧ VRel μ (.slice a (n + m) c) (.slice a' (n + m) c') := by
  cases a with
  | none => exact ⟨none, c, h.ofNilSlice, Nat.le_refl _, fun _ => rfl, .plain _ rfl⟩
  | some a =>
    obtain ⟨r, off, sp⟩ := a
    rcases h.ofSlice with ⟨L, hsp, hL, rfl⟩ | ⟨L, c', hsp, hL, hc, hx, rfl⟩ | ⟨a', rfl, rfl, rfl⟩
    · simp only at hsp; subst hsp
      exact ⟨_, c, rfl, Nat.le_refl _, (fun h => by cases h), .slice r off _ _ L hL⟩
    · simp only at hsp; subst hsp
      exact ⟨_, c', rfl, hc, (fun h => by cases h), .grown r off _ _ _ L hL hc hx⟩
    · have : m = 0 := by omega
      subst this
      exact ⟨_, 0, rfl, Nat.le_refl _, (fun h => by cases h), .over _ _⟩

theorem rows_put (t : D Row) (n : Nat) (x : Option Row) (hb : Nat.ble n 1000000000 = true) : (D.put x deep t n).get = fun q => if q = n then x else t.get q :=
  funext fun q => D.got x t n q hb

section
variable {E : Env} (ok : E.Ok) {base : Nat} {μ : Mu} {w : World} {s s' : St}
include ok

theorem append_run {sT xT e : TypeId} {d : TypeDesc} {argTypes : Array TypeId} {args : Array Value} {ty : TypeId} {b : Option Addr} {n c m : Nat} {x' : Value} {inf : TypeInfo} (ht0 : argTypes[0]? = some sT) (ht1 : argTypes[1]? = some xT) (ha0 : args[0]? = some (.slice b n c)) (ha1 : args[1]? = some x')
    (hd : E.und sT = some (.slice e)) (hx : E.und xT = some d) (hi : E.info e = some inf) (h1 : isInt d = false → (Builtin.lenOf x').run E.P w = .ok m w) (h2 : isInt d = true → ∃ k, x' = .int k (.ofNat m) ∧ m ≤ 1000000000 ∧ m * inf.bytes ≤ 1000000000000) :
    (Builtin.append_ argTypes ty args).run E.P w = (appendTail (isInt d) e inf.size n c m b x').run E.P w := by
  cases hz : isInt d with
  | false => exact append_plain ok ht0 ht1 ha0 ha1 hd hx hi hz (h1 hz)
  | true =>
    obtain ⟨k, rfl, a, b⟩ := h2 hz
    exact append_zeros ok ht0 ht1 ha0 ha1 hd hx hi hz a b

theorem does_append {sT xT : TypeId} {sv xv sv' xv' v : Value} {argTypes : Array TypeId} {args : Array Value} {ty : TypeId} (h : appendA E sT xT sv xv s = some (v, s')) (ht0 : argTypes[0]? = some sT) (ht1 : argTypes[1]? = some xT)
    (ha0 : args[0]? = some sv') (ha1 : args[1]? = some xv') (hsv : VRel μ sv sv') (hxv : VRel μ xv xv') (hs : SRel base μ s.rows.get w) (hf : ∀ r, s.next ≤ r → r < s'.next → μ r = none)  (hsy : μ.sy = E.sy) :
    Does E base μ w s s' (Builtin.append_ argTypes ty args) fun μ' b => VRel μ' v b := by
  unfold appendA at h
  simp only [lift_bind, Option.bind_eq_some_iff, sliceT_some, asSlice_some] at h
  obtain ⟨e, ⟨_, hd, rfl⟩, i, hi, d, hx, ⟨b, n, c⟩, rfl, h⟩ := h
  rw [bind_some] at h
  obtain ⟨⟨m, l⟩, s1, hnew, h⟩ := h
  rw [guard_bind] at h
  obtain ⟨hone, h⟩ := h
  simp only at hone h hsv
  obtain ⟨inf, z, he⟩ := elem_some hi
  obtain ⟨hrows, hnext, hll, ⟨l', hl, happ⟩, hlen1, hlen2⟩ := newCells_ok ok (e := e) he hnew hxv hs hsy
  have hpos := he.pos
  have hll' := hl.length
  have hs1 : SRel base μ s1.rows.get w := by rw [hrows]; exact hs
  by_cases hle : n + m ≤ c
  · rw [Nat.ble_eq_true_of_le hle, cond_true] at h
    obtain ⟨a', c', rfl, hcc, hnone, hv2⟩ := hsv.relen hle
    have hrun := append_run ok (ty := ty) ht0 ht1 ha0 ha1 hd hx he.info hlen1 hlen2
    unfold appendIn at h
    cases l with
    | nil =>
      simp only [pure_some] at h
      obtain ⟨rfl, rfl⟩ := h
      cases hl
      refine ⟨_, w, μ, ?_, hv2, hs1, by rw [hnext]; exact Grew.refl _ _ _ _ _⟩
      rw [hrun]
      refine tail_in (by omega) (happ w fun _ => rfl) ?_
      cases a' with
      | none => rfl
      | some a' => simp only [storeCells]; rfl
    | cons x l =>
      simp only [lift_bind] at h
      obtain ⟨a, rfl, h⟩ := h
      rw [bind_some] at h
      obtain ⟨⟨⟩, s2, hw, h⟩ := h
      rw [pure_some] at h
      obtain ⟨rfl, rfl⟩ := h
      have hm : 0 < m := by
        rcases Nat.eq_zero_or_pos m with h | h
        · subst h; simp at hll
        · exact h
      obtain ⟨r, off, sp⟩ := a
      have fin : ∀ (L : Place) (c' : Nat), μ r = some L → c ≤ c' → VRel μ (.slice (some ⟨r, off, sp⟩) (n + m) c) (.slice (some ⟨L.b, L.o + off, none⟩) (n + m) c') →
          (Builtin.append_ argTypes ty args).run E.P w = (appendTail (isInt d) e inf.size n c' m (some ⟨L.b, L.o + off, none⟩) xv').run E.P w →
          Does E base μ w s s' (Builtin.append_ argTypes ty args) fun μ' b => VRel μ' (.slice (some ⟨r, off, sp⟩) (n + m) c) b := by
        intro L c' hL hcc hv hrun
        obtain ⟨g1, g2, g3, g4⟩ := write_ok (P := E.P) hw hl hs1 hL
        refine ⟨_, _, μ, ?_, hv, g2, ⟨Mu.le_refl _, fun _ a b => absurd a b, fun _ a b => absurd a b, g3⟩⟩
        rw [hrun]
        refine tail_in (by omega) (happ w fun _ => rfl) ?_
        simp only
        rw [addr_add, he.size, Nat.add_assoc]
        exact g1
      rcases hsv.ofSlice with ⟨L, hsp, hL, e1⟩ | ⟨L, c2, hsp, hL, hc2, hx2, e1⟩ | ⟨a2, e0, e2, e1⟩
      · injection e1 with e1 e2 e3; subst e1; subst e3
        simp only at hsp hL; subst hsp
        exact fin L _ hL (Nat.le_refl _) hv2 hrun
      · injection e1 with e1 e2 e3; subst e1; subst e3
        simp only at hsp hL; subst hsp
        exact fin L _ hL hc2 hv2 hrun
      · omega
  · have hb : Nat.ble (n + m) c = false := by
      cases hbb : Nat.ble (n + m) c with
      | false => rfl
      | true => exact absurd (Nat.le_of_ble_eq_true hbb) hle
    rw [hb, cond_false] at h
    unfold appendNew at h
    rw [guard_bind] at h
    obtain ⟨hreach, h⟩ := h
    rw [bind_some] at h
    obtain ⟨old, s2, hread, h⟩ := h
    rw [bind_some] at h
    obtain ⟨es, s3, hleave, h⟩ := h
    rw [fresh_bind, pure_some] at h
    obtain ⟨hble, rfl, e2⟩ := h
    obtain ⟨o', ho, hol, hold, hrows2, hnext2⟩ := read_ok (P := E.P) hread hsv (Nat.le_refl _) hs1
    -- what is there behind the leaving
    have hleft : s3.next = s2.next ∧ ∃ tq, es = codeE i.size tq ∧ (tq = 0 ∨ tq = e + 1) ∧ ((s3.rows.get = s2.rows.get ∧ ∀ r off k, b ≠ some ⟨r, off, some k⟩) ∨ ∃ r off k ec cs, b = some ⟨r, off, some k⟩ ∧ sizeE ec = i.size ∧ (tq = 0 ∨ ec = i.es) ∧ s2.rows.get r = some (.cells false ec cs) ∧ s3.rows.get = fun q => if q = r then none else s2.rows.get q) := by
      unfold leaveA at hleave
      split at hleave
      · rename_i r off k
        simp only [row_bind, lift_bind, guard_bind, ownR_some] at hleave
        obtain ⟨_, x, hx, ⟨ec, cs⟩, rfl, hes, hleave⟩ := hleave
        rw [bind_some] at hleave
        obtain ⟨⟨⟩, s4, h4, h5⟩ := hleave
        rw [turn_some] at h4
        obtain ⟨_, _, hbr, e4⟩ := h4
        rw [pure_some] at h5
        obtain ⟨h5, e3⟩ := h5
        rw [e4] at e3
        simp only at hes hx h5
        have hz := Nat.eq_of_beq_eq_true hes
        refine ⟨by rw [e3], ?_⟩
        cases hq : Nat.beq ec i.es with
        | true => rw [hq, cond_true] at h5; exact ⟨e + 1, h5.trans he.es, Or.inr rfl, Or.inr ⟨r, off, k, ec, cs, rfl, hz, Or.inr (Nat.eq_of_beq_eq_true hq), hx, by rw [e3]; exact rows_put _ _ _ hbr⟩⟩
        | false => rw [hq, cond_false] at h5; exact ⟨0, h5, Or.inl rfl, Or.inr ⟨r, off, k, ec, cs, rfl, hz, Or.inl rfl, hx, by rw [e3]; exact rows_put _ _ _ hbr⟩⟩
      · rename_i hn
        rw [pure_some] at hleave
        rw [hleave.2]
        exact ⟨rfl, e + 1, hleave.1.trans he.es, Or.inr rfl, Or.inl ⟨rfl, fun r off k e => hn r off k e⟩⟩
    obtain ⟨hnext3, tq, hest, hty, hleft⟩ := hleft
    have hn3 : s3.next = s.next := by omega
    have hfresh : μ s.next = none := hf s.next (Nat.le_refl _) (by rw [e2]; show s.next < s3.next + 1; omega)
    have hsub : ∀ r x, s3.rows.get r = some x → s.rows.get r = some x := by
      intro r x hr
      rw [← hrows, ← hrows2]
      rcases hleft with ⟨e3, _⟩ | ⟨r2, _, _, _, _, _, _, _, _, e3⟩
      · rw [← e3]; exact hr
      · rw [e3] at hr
        simp only at hr
        split at hr
        · cases hr
        · exact hr
    have hs3 : SRel base μ s3.rows.get w := hs.less hsub
    have hR : ∀ q, s'.rows.get q = if q = s.next then some (.cells false es (old ++ l)) else s3.rows.get q := by
      intro q; rw [e2]; simp only [rows_put _ _ _ hble]; rw [hn3]
    -- in new memory
    have new : ∀ (a' : Option Addr) (c' : Nat), c' < n + m → (∀ w2 : World, (∀ b : Nat, w2.heap[b]? = w.heap[b]?) → (Builtin.firstCells i.size n (.slice a' n c')).run E.P w2 = .ok ⟨o'⟩ w2) →
        (Builtin.append_ argTypes ty args).run E.P w = (appendTail (isInt d) e inf.size n c' m a' xv').run E.P w →
        Does E base μ w s s' (Builtin.append_ argTypes ty args) fun μ' b => VRel μ' (.slice (some ⟨s3.next, 0, some i.size⟩) (n + m) (n + m)) b := by
      intro a' c' hc' hold' hrun
      obtain ⟨cap, k, hcap, hk, htail⟩ := tail_new ok he hc' hreach happ (by rw [he.size]; exact hold')
      have hsz : (o' ++ l' ++ repeats i.zero k).length = cap * i.size := by
        simp only [List.length_append, hol, hll', hll, repeats_length, he.len]
        rw [← Nat.add_mul, ← Nat.add_mul]; congr 1; omega
      have hbel : Below w.heap.size w (w.drew.alloc (.cells ⟨o' ++ l' ++ repeats i.zero k⟩ e)) := ((Below.refl _ _).drew).alloc (Nat.le_refl _) _
      let K : Place := ⟨w.heap.size, 0, cap * i.size, i.size, tq⟩
      refine ⟨_, _, μ.with s.next K, by rw [hrun]; exact htail, ?_, ?_, Mu.le_with hfresh _, fun r p q => ?_, fun _ a b => absurd a b, hbel.mono hs.ge⟩
      · have := VRel.grown (μ := μ.with s.next K) s.next 0 (n + m) (n + m) cap K (Mu.with_at _ _ _) hcap (by show 0 + cap * i.size ≤ cap * i.size; omega)
        rw [hn3]; simpa using this
      · refine hs3.extend s.next hfresh (.cells false es (old ++ l)) K hbel (Nat.le_refl _) (by show w.heap.size < _; simp) ⟨fun j x hx => ?_, ?_, fun _ => ⟨⟨hs.ge, Marked.alloc _ _ _ _ _ _ (by simp only [List.size_toArray]; omega) he.small hty⟩, hest, fun j hj => ?_⟩⟩ hR
        · obtain ⟨x', hx', hr⟩ := (ho.append hl).get j x hx
          refine ⟨x', ?_, hr.mono (Mu.le_with hfresh _)⟩
          show (w.drew.alloc _).cell? ⟨w.drew.heap.size, 0 + j, none⟩ = _
          rw [Nat.zero_add, World.cell?_alloc_new]
          have hlt : j < (o' ++ l').length := by
            rcases Nat.lt_or_ge j (o' ++ l').length with h | h
            · exact h
            · rw [List.getElem?_eq_none h] at hx'; cases hx'
          simp only [List.getElem?_toArray]
          rw [List.getElem?_append_left hlt]; exact hx'
        · show (old ++ l).length ≤ cap * i.size
          have := (ho.append hl).length
          rw [← this]
          simp only [List.length_append] at hsz ⊢; omega
        · show ((w.drew.alloc _).cell? ⟨w.drew.heap.size, 0 + j, none⟩).isSome = true ∧ (w.drew.alloc _).frozen? ⟨w.drew.heap.size, 0 + j, none⟩ = false
          have hj' : j < cap * i.size := hj
          rw [Nat.zero_add, World.cell?_alloc_new, World.frozen?_alloc_new]
          refine ⟨?_, rfl⟩
          have : j < (o' ++ l' ++ repeats i.zero k).length := by omega
          simp only [List.getElem?_toArray, List.getElem?_eq_getElem this]; rfl
      · have : r = s.next := by
          rw [Mu.with_eq] at q
          by_cases h : r = s.next
          · exact h
          · rw [if_neg h] at q; exact absurd p q
        rw [e2]; show s.next ≤ r ∧ r < s3.next + 1; omega
    cases b with
    | none =>
      have := hsv.ofNilSlice; subst this
      exact new none c (by omega) hold (append_run ok ht0 ht1 ha0 ha1 hd hx he.info hlen1 hlen2)
    | some a =>
      obtain ⟨r, off, sp⟩ := a
      rcases hsv.ofSlice with ⟨L, hsp, hL, rfl⟩ | ⟨L, c2, hsp, hL, hc2, hx2, rfl⟩ | ⟨a2, rfl, rfl, rfl⟩
      · exact new _ c (by omega) hold (append_run ok ht0 ht1 ha0 ha1 hd hx he.info hlen1 hlen2)
      · simp only at hsp hL hx2; subst hsp
        have hrun := append_run ok (ty := ty) ht0 ht1 ha0 ha1 hd hx he.info hlen1 hlen2
        by_cases hin : n + m ≤ c2
        · -- the model writes in place
          rcases hleft with ⟨_, hno⟩ | ⟨r2, off2, k2, ec, cs, hbq, hsz9, hty9, hrow, e3⟩
          · exact absurd rfl (hno r off L.es)
          · injection hbq with hbq; injection hbq with q1 q2 q3; subst q1
            have hrow' : s.rows.get r = some (.cells false ec cs) := by rw [← hrows, ← hrows2]; exact hrow
            obtain ⟨L2, hL2, hok⟩ := hs.row r _ hrow'
            rw [hL] at hL2; injection hL2 with hL2; subst hL2
            obtain ⟨hc, hext, hfree⟩ := hok
            obtain ⟨⟨hge, hmk⟩, hes0, hcells⟩ := hfree rfl
            have hes : i.size = L.es := by rw [← hsz9, hes0, sizeE_code hmk.1.2]
            have hroom : off + (n + m) * i.size ≤ L.ext := by
              have : (n + m) * i.size ≤ c2 * L.es := by rw [← hes]; exact Nat.mul_le_mul_right _ hin
              omega
            have hmul : (n + m) * i.size = n * i.size + m * i.size := Nat.add_mul _ _ _
            have hw1 : ∀ j, j < l'.length → (w.cell? ⟨L.b, L.o + (off + n * i.size) + j, none⟩).isSome = true := by
              intro j hj
              have := (hcells (off + n * i.size + j) (by omega)).1
              rwa [← Nat.add_assoc] at this
            have hw2 : ∀ j, j < l'.length → w.frozen? ⟨L.b, L.o + (off + n * i.size) + j, none⟩ = false := by
              intro j hj
              have := (hcells (off + n * i.size + j) (by omega)).2
              rwa [← Nat.add_assoc] at this
            have hst : (storeCells ⟨L.b, L.o + (off + n * i.size), none⟩ l').run E.P w = .ok () (w.setCells L.b (L.o + (off + n * i.size)) l') := by
              have := run_storeCells_cells (P := E.P) L.b (L.o + (off + n * i.size)) l' 0 w (by simpa using hw1) (by simpa using hw2) (hl.oneCells hone)
              simpa using this
            have hsize : ∀ (vs : List Value) (o : Nat) (w : World), (w.setCells L.b o vs).heap.size = w.heap.size := by
              intro vs
              induction vs with
              | nil => intro o w; rfl
              | cons v vs ih => intro o w; rw [World.setCells, ih, World.size_setCell]
            have hblock : ∀ (vs : List Value) (o : Nat) (w : World) (b : Nat), b ≠ L.b → (w.setCells L.b o vs).heap[b]? = w.heap[b]? := by
              intro vs
              induction vs with
              | nil => intro o w b _; rfl
              | cons v vs ih => intro o w b hb; rw [World.setCells, ih _ _ _ hb, Below.heap_setCell _ _ _ _ hb]
            have hos : ∀ (vs : List Value) (o : Nat) (w : World), (w.setCells L.b o vs).os = w.os ∧ (w.setCells L.b o vs).tape = w.tape ∧ (w.setCells L.b o vs).output = w.output := by
              intro vs
              induction vs with
              | nil => intro o w; exact ⟨rfl, rfl, rfl⟩
              | cons v vs ih => intro o w; rw [World.setCells]; have := ih (o + 1) (w.setCell ⟨L.b, o, none⟩ v); exact this
            let K : Place := ⟨L.b, L.o + off, L.ext - off, L.es, tq⟩
            have hcell : ∀ j, j < n * i.size → (w.setCells L.b (L.o + (off + n * i.size)) l').cell? ⟨L.b, L.o + off + j, none⟩ = w.cell? ⟨L.b, L.o + off + j, none⟩ := by
              intro j hj
              rw [World.cell?_setCells_out]
              intro _ _
              show L.o + off + j < L.o + (off + n * i.size) ∨ _
              omega
            refine ⟨.slice (some ⟨L.b, L.o + off, none⟩) (n + m) c2, w.setCells L.b (L.o + (off + n * i.size)) l', μ.with s.next K, ?_, ?_, ?_, Mu.le_with hfresh _, fun r' p q => ?_, fun _ a b => absurd a b, ?_⟩
            · rw [hrun]
              refine tail_in hin (happ w fun _ => rfl) ?_
              simp only
              rw [addr_add, he.size, Nat.add_assoc]
              exact hst
            · have := VRel.grown (μ := μ.with s.next K) s.next 0 (n + m) (n + m) c2 K (Mu.with_at _ _ _) hin (by show 0 + c2 * L.es ≤ L.ext - off; omega)
              show VRel _ (.slice (some ⟨s3.next, 0, some i.size⟩) (n + m) (n + m)) _
              rw [hn3, hes]
              exact this
            · refine hs.moved r (.cells false ec cs) L hrow' rfl hL (hsize _ _ _) (hblock _ _ _) s.next hfresh (.cells false es (old ++ l)) K rfl ⟨fun j x hx => ?_, ?_, fun _ => ⟨⟨hge, (by
                obtain ⟨_, c9, e9, fr9, k1, k2, k3⟩ := hmk.setCells l' (L.o + (off + n * i.size)) w
                have e : K.o + K.ext = L.o + L.ext := by show L.o + off + (L.ext - off) = _; omega
                exact ⟨⟨fun hz => by exfalso; have hz : L.es = 0 := hz; have := he.pos; omega, hmk.1.2⟩, c9, e9, fr9, k1, by rw [e]; exact k2, by rw [e]; exact k3.1, by
                  rcases hty9 with h | h
                  · exact Or.inl h
                  · rcases hty with h' | h'
                    · exact Or.inl h'
                    · rw [hes0, he.es] at h
                      have := (codeE_inj hmk.1.2 he.small h).2
                      rcases k3.2 with k | k
                      · omega
                      · exact Or.inr (by show tq = _; omega)⟩)⟩, by rw [hest, hes], fun j hj => ?_⟩⟩ (fun q => ?_)
              · show ∃ v', (w.setCells _ _ _).cell? ⟨L.b, L.o + off + j, none⟩ = some v' ∧ _
                have hlo := ho.length
                have hj : j < (old ++ l).length := by
                  rcases Nat.lt_or_ge j (old ++ l).length with h | h
                  · exact h
                  · rw [List.getElem?_eq_none h] at hx; cases hx
                simp only [List.length_append] at hj
                rcases Nat.lt_or_ge j old.length with hjo | hjo
                · rw [List.getElem?_append_left hjo] at hx
                  obtain ⟨x', hx', hr⟩ := ho.get j x hx
                  refine ⟨x', ?_, hr.mono (Mu.le_with hfresh _)⟩
                  rw [hcell j (by omega)]
                  have := hold w (fun _ => rfl)
                  have h2 : (loadCells ⟨L.b, L.o + off, none⟩ (n * i.size)).run E.P w = .ok ⟨o'⟩ w := this
                  have h3 := run_loadCells (P := E.P) w ⟨L.b, L.o + off, none⟩ (n * i.size) (fun j => (w.cell? ⟨L.b, L.o + off + j, none⟩).getD undef) (fun j hj => by
                    rw [addr_add]
                    have := (hcells (off + j) (by omega)).1
                    rw [← Nat.add_assoc] at this
                    obtain ⟨y, hy⟩ := Option.isSome_iff_exists.1 this
                    rw [hy]; rfl)
                  rw [h2] at h3
                  injection h3 with h3
                  have h4 : o' = (List.range (n * i.size)).map fun j => (w.cell? ⟨L.b, L.o + off + j, none⟩).getD undef := by
                    have := congrArg Array.toList h3; simpa using this
                  rw [h4] at hx'
                  have := (hcells (off + j) (by omega)).1
                  rw [← Nat.add_assoc] at this
                  obtain ⟨y, hy⟩ := Option.isSome_iff_exists.1 this
                  rw [List.getElem?_map, List.getElem?_range (by omega)] at hx'
                  simp only [Option.map_some, hy, Option.getD_some] at hx'
                  rw [hy]; exact hx'
                · rw [List.getElem?_append_right hjo] at hx
                  obtain ⟨x', hx', hr⟩ := hl.get _ x hx
                  refine ⟨x', ?_, hr.mono (Mu.le_with hfresh _)⟩
                  have hjl : j - old.length < l'.length := by omega
                  have := World.cell?_setCells_in L.b l' (L.o + (off + n * i.size)) w hw1 (j - old.length) hjl
                  rw [show L.o + (off + n * i.size) + (j - old.length) = L.o + off + j by omega] at this
                  rw [this, ← List.getElem?_eq_getElem hjl]; exact hx'
              · show (old ++ l).length ≤ L.ext - off
                have := ho.length
                simp only [List.length_append]; omega
              · show ((w.setCells _ _ _).cell? ⟨L.b, L.o + off + j, none⟩).isSome = true ∧ (w.setCells _ _ _).frozen? ⟨L.b, L.o + off + j, none⟩ = false
                have hj' : j < L.ext - off := hj
                have hold1 := hcells (off + j) (by omega)
                rw [← Nat.add_assoc] at hold1
                refine ⟨?_, by rw [World.frozen?_setCells]; exact hold1.2⟩
                by_cases cin : n * i.size ≤ j ∧ j < n * i.size + l'.length
                · have hjl : j - n * i.size < l'.length := by omega
                  have := World.cell?_setCells_in L.b l' (L.o + (off + n * i.size)) w hw1 (j - n * i.size) hjl
                  rw [show L.o + (off + n * i.size) + (j - n * i.size) = L.o + off + j by omega] at this
                  rw [this]; rfl
                · rw [World.cell?_setCells_out]
                  · exact hold1.1
                  · intro _ _
                    show L.o + off + j < L.o + (off + n * i.size) ∨ L.o + (off + n * i.size) + l'.length ≤ L.o + off + j
                    omega
              · rw [hR, e3, hrows2, hrows]
            · have : r' = s.next := by
                rw [Mu.with_eq] at q
                by_cases h : r' = s.next
                · exact h
                · rw [if_neg h] at q; exact absurd p q
              rw [e2]; show s.next ≤ r' ∧ r' < s3.next + 1; omega
            · obtain ⟨p1, p2, p3⟩ := hos l' (L.o + (off + n * i.size)) w
              exact ⟨p1, p2, p3, by rw [hsize]; exact Nat.le_refl _, fun k hk => hblock _ _ _ _ (by omega)⟩
        · exact new _ c2 (by omega) hold hrun
      · exact new _ 0 (by omega) hold (append_run ok ht0 ht1 ha0 ha1 hd hx he.info hlen1 hlen2)
end
end Go.Cm
