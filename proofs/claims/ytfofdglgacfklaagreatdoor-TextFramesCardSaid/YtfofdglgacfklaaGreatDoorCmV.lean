/-
  A region that draws an order: the induction.
-/
import Derived.Test.YtfofdglgacfklaaGreatDoorCmU
namespace Go.Cm
open Go Go.RowKit

section
variable {E : Env} (ok : E.Ok) {base : Nat} {call : FuncId → List Value → M Value} (hcall : CallSim E base call) {ops : Array Oper} {Q : Exit → Act → World → Prop}
  {F : Nat → Fr} {R : Nat → Nat → Option Row} {N : Nat → Nat} {L W : Nat → List Nat} {n0 : Nat} {μ0 : Mu} {w0 : World} {ds : List Deferred}
  (hstep : ∀ (i : Nat) (o : Oper), ops[i]? = some o → Stp E call ops o (F i) (F (i + 1)) (R i) (R (i + 1)) (N i) (N (i + 1)) (L i) (W i))
  (hord : ∀ (j i : Nat), j < i → i < ops.size → clash (didOf (N j) (N (j + 1)) (L j) (W j)) (didOf (N i) (N (i + 1)) (L i) (W i)) = true → ordered (Region.before ops) j i = true)
  (hstat : ∀ (j i : Nat) (oj oi : Oper), j < i → ops[j]? = some oj → ops[i]? = some oi → ordered (Region.before ops) j i = true ∨ oj.apart ops oi = true)
  (haft : ∀ (i : Nat) (o : Oper) (e : Edge), ops[i]? = some o → e ∈ o.after → Region.binds .any e = true → e.on < i)
  (hok : ∀ (i : Nat) (o : Oper), ops[i]? = some o → opOk E o = true)
  (hn0 : ∀ i, i ≤ ops.size → (F i).n = n0) (hn : n0 ≤ 1024)
  (hf0 : ∀ r, N 0 ≤ r → r < N ops.size → μ0 r = none) (hgl : Globs E μ0)
  (hQ : ∀ μ' a' w', FRel μ' (F ops.size) a'.tmps → a'.defers = ds → SRel base μ' (R ops.size) w' → Grew base μ0 μ' (N 0) (N ops.size) w0 w' → Q .normal a' w')


include ok hcall hstep hord hstat haft hok hn0 hn hf0 hgl hQ

theorem draw_any : ∀ (fuel : Nat) (listed : Array Bool) (a : Act) (w : World) (μ : Mu) (s : St), Mid E base ops F R N W n0 μ0 w0 ds listed a w μ s → listed.toList.countP (fun b => !b) ≤ fuel →
    wpAny E.P .any ops Q fuel listed a w
  | 0, listed, a, w, μ, s, h, hc => by
    have hr : Region.ready .any ops listed = [] := by
      rw [List.eq_nil_iff_forall_not_mem]
      intro i hi
      rw [mem_ready] at hi
      obtain ⟨hl, o, ho, _⟩ := hi
      have hlt : i < listed.size := by rw [h.size]; exact (Array.getElem?_eq_some_iff.1 ho).1
      have hv : listed[i]? = some false := by
        rw [Array.getElem?_eq_getElem hlt]
        simp [Array.getD, hlt] at hl
        rw [hl]
      have := countP_listed hv
      omega
    exact ⟨hr, draw_end hstep haft hn0 hn hQ h hr⟩
  | fuel + 1, listed, a, w, μ, s, h, hc => by
    refine ⟨fun hr => draw_end hstep haft hn0 hn hQ h hr, fun i hi => ?_⟩
    rw [mem_ready] at hi
    obtain ⟨hl, o, ho, hafter⟩ := hi
    have hio : i < ops.size := (Array.getElem?_eq_some_iff.1 ho).1
    have hlt : i < listed.size := by rw [h.size]; exact hio
    have hv0 : listed[i]? = some false := by
      rw [Array.getElem?_eq_getElem hlt]
      simp [Array.getD, hlt] at hl
      rw [hl]
    have hnot : ¬ isOn listed i := by unfold isOn; simp [Array.getD_eq_getD_getElem?, hv0]
    have honlt : ∀ j, isOn listed j → j < ops.size := by
      intro j hj
      rcases Nat.lt_or_ge j ops.size with h1 | h1
      · exact h1
      · unfold isOn at hj
        simp [Array.getD_eq_getD_getElem?, Array.getElem?_eq_none (by rw [h.size]; exact h1 : listed.size ≤ j)] at hj
    -- what stands before it was done; what was done does not stand behind it
    have hA : ∀ j, ordered (Region.before ops) j i = true → isOn listed j := by
      intro j hj
      obtain ⟨e, he, hb, he2⟩ := ordered_edge ho hj
      have hx : isOn listed e.on := hafter e he hb
      rcases he2 with rfl | ⟨_, h2⟩
      · exact hx
      · exact ordered_closed h.closed honlt _ e.on (Nat.lt_succ_self _) hx h2
    have hB : ∀ j, isOn listed j → ordered (Region.before ops) i j = true → False := fun j hj ho =>
      hnot (ordered_closed h.closed honlt _ j (Nat.lt_succ_self _) hj ho)
    have si := hstep i o ho
    have hNi := si.mono
    have jlt : ∀ j, j < i → N (j + 1) ≤ N i := fun j hj => N_mono hstep (by omega) (by omega)
    have jgt : ∀ j, i < j → j < ops.size → N (i + 1) ≤ N j := fun j hj hj' => N_mono hstep (by omega) (by omega)
    -- the rows that it looks at
    have hagree : ∀ r, r ∈ L i → r < N i → s.rows.get r = R i r := by
      intro r hr _
      refine (h.rows r).at_ (m := ops.size) (by omega) (fun j hj hw => ?_) (fun j hj hw => ?_) honlt
      · have sj := hstep j _ (Array.getElem?_eq_getElem hj)
        refine sj.same r (fun hh => hw ⟨hj, Or.inl hh⟩) ?_
        rcases Nat.lt_or_ge r (N j) with h1 | h1
        · exact Or.inl h1
        · rcases Nat.lt_or_ge r (N (j + 1)) with h2 | h2
          · exact absurd ⟨hj, Or.inr ⟨h1, h2⟩⟩ hw
          · exact Or.inr h2
      · constructor
        · intro hx
          rcases Nat.lt_trichotomy j i with h1 | h1 | h1
          · exact h1
          · subst h1; exact absurd hx hnot
          · exfalso
            rcases hw.2 with h2 | h2
            · exact hB j hx (ord_of hstep hord h1 hj (Or.inr ⟨hr, h2⟩))
            · have := si.lt r hr
              have := jgt j h1 hj
              omega
        · intro h1
          exact hA j (ord_of hstep hord h1 hio (Or.inl ⟨hw, hr⟩))
    -- the temporaries that it looks at
    have hlook : ∀ t, t ∈ o.looksAt ops → VRel μ ((F i).get t) (a.tmps.getD t undef) := by
      intro t ht
      refine (h.tmps t).at_ (m := ops.size) (by omega) (fun j hj hw => ?_) (fun j hj hw => ?_) honlt
      · have hoj := Array.getElem?_eq_getElem hj
        have sj := hstep j _ hoj
        obtain ⟨v, hd | ⟨d, hd, hlt, he⟩⟩ := sj.dst
        · show (F (j + 1)).get t = (F j).get t
          rw [hd.2]
        · have hne : t ≠ d := fun e => hw ⟨_, hoj, by rw [hd, e]⟩
          show (F (j + 1)).get t = (F j).get t
          rw [he, Fr.get_put hlt (by rw [hn0 j (by omega)]; exact hn), if_neg hne]
      · obtain ⟨oj, hoj, hdj⟩ := hw
        constructor
        · intro hx
          rcases Nat.lt_trichotomy j i with h1 | h1 | h1
          · exact h1
          · subst h1; exact absurd hx hnot
          · exfalso
            rcases hstat i j o oj h1 ho hoj with h2 | h2
            · exact hB j hx h2
            · exact (Oper.apart_spec h2).2.2 t hdj ht
        · intro h1
          rcases hstat j i oj o h1 hoj ho with h2 | h2
          · exact hA j h2
          · exact absurd ht ((Oper.apart_spec h2).1 t hdj)
    obtain ⟨s', hev, hn', hrows'⟩ := si.again { s with next := N i } rfl hagree
    have hmu : ∀ r, N i ≤ r → r < N (i + 1) → μ r = none := by
      intro r h1 h2
      rcases hμ : μ r with _ | K
      · rfl
      · exfalso
        rcases h.mu r (by rw [hμ]; simp) with h3 | ⟨j, hj, h3, h4⟩
        · have a1 : N 0 ≤ N i := N_mono hstep (by omega) (by omega)
          have a2 : N (i + 1) ≤ N ops.size := N_mono hstep (by omega) (by omega)
          exact h3 (hf0 r (by omega) (by omega))
        · have hjl := honlt j hj
          rcases Nat.lt_trichotomy j i with h5 | h5 | h5
          · have := jlt j h5; omega
          · subst h5; exact hnot hj
          · have := jgt j h5 hjl; omega
    refine sim_op ok hcall ho hev ?_ ?_ (s := { s with next := N i }) h.srel (hgl.mono h.le) (fun r h1 h2 => hmu r h1 (by rw [← hn']; exact h2)) fun v v' μ1 w1 hd hv hs1 hg1 => ?_
    · intro x hx
      have h1 := hok i o ho
      unfold opOk at h1
      rw [List.all_eq_true] at h1
      refine eval_rel (h1 x (by simpa using hx)) (hgl.mono h.le) fun t ht => hlook t ?_
      subst ht
      exact List.mem_append_left _ (List.mem_filterMap.2 ⟨.tmp t, by simpa using hx, rfl⟩)
    · refine wanted_same (μ := μ) (evOp_sure hev) fun j want g d hg hog hd => hlook d ?_
      unfold Oper.looksAt
      rw [hg]
      simp only [hog, Option.bind_some, hd]
      exact List.mem_append_right _ (by simp)
    · -- the next one
      have hle1 := hg1.le
      refine draw_any fuel (listed.setIfInBounds i true) (a.put o.dst v') w1 μ1 s' ?_ (by have := countP_listed hv0; omega)
      have hX : isOn (listed.setIfInBounds i true) = fun j => isOn listed j ∨ j = i := by
        funext j; exact propext (isOn_set hlt)
      refine ⟨by rw [Array.size_setIfInBounds]; exact h.size, ?_, ?_, ?_, ?_, hs1, ?_, Mu.le_trans h.le hle1, (fun b a c => by
        cases e : μ.fz b with
        | none => exact hg1.fzn b e c
        | some o => exact h.fzn b a (by rw [e]; simp)), h.below.trans hg1.below, by rw [put_defers]; exact h.defers⟩
      · intro j oj hj hoj e he hb
        rw [isOn_set hlt] at hj ⊢
        rcases hj with hj | rfl
        · exact Or.inl (h.closed j oj hj hoj e he hb)
        · rw [ho] at hoj; injection hoj with hoj; subst hoj
          exact Or.inl (hafter e he hb)
      · intro r
        rw [hX]
        refine (h.rows r).step ?_ ?_ ?_
        · intro hw
          rw [hrows' r, if_pos]
          rcases hw.2 with h1 | h1
          · exact ⟨Or.inl h1, si.lt r (si.sub r h1)⟩
          · exact ⟨Or.inr h1.1, h1.2⟩
        · intro hw x hx
          rw [hrows' r, if_neg]
          · exact hx
          · rintro ⟨h1 | h1, h2⟩
            · exact hw ⟨hio, Or.inl h1⟩
            · exact hw ⟨hio, Or.inr ⟨h1, h2⟩⟩
        · intro hw j hj hwj
          rcases Nat.lt_trichotomy j i with h1 | h1 | h1
          · exact h1
          · subst h1; exact absurd hj hnot
          · exfalso
            have hjl := honlt j hj
            have hwr : r < N (i + 1) := by
              rcases hw.2 with h2 | h2
              · exact si.lt r (si.sub r h2)
              · exact h2.2
            have hge := jgt j h1 hjl
            rcases hwj.2 with h2 | h2
            · have sj := hstep j _ (Array.getElem?_eq_getElem hjl)
              exact hB j hj (ord_of hstep hord h1 hjl (Or.inl ⟨hw, sj.sub r h2⟩))
            · omega
      · intro t
        rw [hX]
        have hni := hn0 i (by omega)
        refine (h.tmps t).step ?_ ?_ ?_
        · rintro ⟨o', ho', hdt⟩
          rw [ho] at ho'; injection ho' with ho'; subst ho'
          rcases hd with ⟨hd1, _⟩ | ⟨d, hd1, hd2, hd3⟩
          · rw [hdt] at hd1; cases hd1
          · rw [hdt] at hd1; injection hd1 with hd1; subst hd1
            show VRel μ1 ((F (i + 1)).get t) _
            rw [hd3, Fr.get_put hd2 (by rw [hni]; exact hn), if_pos rfl, hdt, put_getD (by rw [h.tsize, ← hni]; exact hd2), if_pos rfl]
            exact hv
        · intro hw x hx
          have : (a.put o.dst v').tmps.getD t undef = a.tmps.getD t undef := by
            rcases hd with ⟨hd1, _⟩ | ⟨d, hd1, hd2, hd3⟩
            · rw [hd1]; rfl
            · have hne : t ≠ d := fun e => hw ⟨o, ho, by rw [hd1, e]⟩
              rw [hd1, put_getD (by rw [h.tsize, ← hni]; exact hd2), if_neg hne]
          rw [this]
          exact hx.mono hle1
        · rintro ⟨o', ho', hdt⟩ j hj ⟨oj, hoj, hdj⟩
          rw [ho] at ho'; injection ho' with ho'; subst ho'
          rcases Nat.lt_trichotomy j i with h1 | h1 | h1
          · exact h1
          · subst h1; exact absurd hj hnot
          · exfalso
            rcases hstat i j o oj h1 ho hoj with h2 | h2
            · exact hB j hj h2
            · exact (Oper.apart_spec h2).2.1 t hdt hdj
      · rw [← h.tsize]
        cases o.dst with
        | none => rfl
        | some d => simp [Act.put]
      · intro r hr
        rcases hμ : μ r with _ | K
        · have h1 := hg1.new r hμ hr
          rw [hn'] at h1
          exact Or.inr ⟨i, (isOn_set hlt).2 (Or.inr rfl), h1.1, h1.2⟩
        · rcases h.mu r (by rw [hμ]; simp) with h1 | ⟨j, hj, h1⟩
          · exact Or.inl h1
          · exact Or.inr ⟨j, (isOn_set hlt).2 (Or.inl hj), h1⟩
end
end Go.Cm
