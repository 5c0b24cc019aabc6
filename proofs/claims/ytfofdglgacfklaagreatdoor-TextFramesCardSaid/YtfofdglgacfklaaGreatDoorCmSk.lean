/-
  A map's keys, sorted.
-/
import Derived.Test.YtfofdglgacfklaaGreatDoorCmLm
namespace Go.Cm
open Go Go.RowKit

theorem ltA_iff (a b : Int) : ltA a b = true ↔ a < b := by
  cases a with
  | ofNat a => cases b with
    | ofNat b =>
      show Nat.blt a b = true ↔ (Int.ofNat a) < (Int.ofNat b)
      rw [Int.ofNat_eq_natCast, Int.ofNat_eq_natCast, Int.ofNat_lt]
      exact ⟨blt_lt0, lt_blt0⟩
    | negSucc b => show false = true ↔ _; constructor
                   · intro h; cases h
                   · intro h; exact absurd (Int.lt_of_le_of_lt (Int.natCast_nonneg a) (Int.lt_trans h (Int.negSucc_lt_zero b))) (Int.lt_irrefl 0)
  | negSucc a => cases b with
    | ofNat b => show true = true ↔ _; constructor
                 · intro _; exact Int.lt_of_lt_of_le (Int.negSucc_lt_zero a) (Int.natCast_nonneg b)
                 · intro _; rfl
    | negSucc b =>
      show Nat.blt b a = true ↔ _
      constructor
      · intro h; have := blt_lt0 h; rw [Int.negSucc_eq, Int.negSucc_eq]; omega
      · intro h; rw [Int.negSucc_eq, Int.negSucc_eq] at h; exact lt_blt0 (by omega)
theorem insI_perm (x : Int) : ∀ l : List Int, (insI x l).Perm (x :: l)
  | [] => List.Perm.refl _
  | y :: l => by
    unfold insI
    cases ltA x y with
    | true => exact List.Perm.refl _
    | false => exact ((insI_perm x l).cons y).trans (List.Perm.swap x y l)
theorem sortI_perm : ∀ l : List Int, (sortI l).Perm l
  | [] => List.Perm.refl _
  | x :: l => by unfold sortI; exact (insI_perm x _).trans ((sortI_perm l).cons x)
theorem risesI_pair : ∀ l : List Int, risesI l = true → l.Pairwise (· < ·)
  | [], _ => .nil
  | [x], _ => by simp
  | x :: y :: l, h => by
    unfold risesI at h
    rw [Bool.and_eq_true] at h
    have ih := risesI_pair (y :: l) h.2
    have hxy : x < y := (ltA_iff x y).1 h.1
    refine List.Pairwise.cons (fun z hz => ?_) ih
    rw [List.mem_cons] at hz
    rcases hz with rfl | hz
    · exact hxy
    · exact Int.lt_trans hxy ((List.pairwise_cons.1 ih).1 z hz)
theorem risesE_pair (c : Nat) : ∀ l : List MapEntry, risesE c l = true → (l.map (·.born)).Pairwise (· < ·) ∧ ∀ x, x ∈ l → x.born < c
  | [], _ => ⟨.nil, fun _ h => by cases h⟩
  | [x], h => by
    unfold risesE at h
    rw [Bool.and_eq_true] at h
    exact ⟨by simp, fun y hy => by simp at hy; subst hy; exact blt_lt0 h.1⟩
  | x :: y :: l, h => by
    unfold risesE at h
    rw [Bool.and_eq_true] at h
    obtain ⟨i1, i2⟩ := risesE_pair c (y :: l) h.2
    have hxy : x.born < y.born := blt_lt0 h.1
    refine ⟨List.Pairwise.cons (fun z hz => ?_) i1, fun z hz => ?_⟩
    · rw [List.map_cons, List.mem_cons] at hz
      rcases hz with rfl | hz
      · exact hxy
      · exact Nat.lt_trans hxy ((List.pairwise_cons.1 i1).1 z hz)
    · rw [List.mem_cons] at hz
      rcases hz with rfl | hz
      · exact Nat.lt_trans hxy (i2 y (by simp))
      · exact i2 z hz
theorem in64_range {n : Int} (h : in64 n = true) : -9223372036854775808 ≤ n ∧ n ≤ 9223372036854775807 := by
  cases n with
  | ofNat m =>
    have h1 : m < two63 := blt_lt0 h
    unfold two63 at h1
    rw [Int.ofNat_eq_natCast]
    omega
  | negSucc m =>
    have h1 : m < two63 := blt_lt0 h
    unfold two63 at h1
    rw [Int.negSucc_eq]
    omega
theorem keysI_some : ∀ (l : List MapEntry) (ks : List Int), keysI l = some ks → l.map (·.key) = ks.map (Value.int .i64) ∧ ∀ n, n ∈ ks → -9223372036854775808 ≤ n ∧ n ≤ 9223372036854775807
  | [], ks, h => by injection h with h; subst h; exact ⟨rfl, fun _ h => by cases h⟩
  | e :: l, ks, h => by
    unfold keysI at h
    simp only [Option.bind_eq_some_iff, Option.map_eq_some_iff] at h
    obtain ⟨n, hn, r, hr, rfl⟩ := h
    obtain ⟨i1, i2⟩ := keysI_some l r hr
    have hk : e.key = .int .i64 n ∧ in64 n = true := by
      unfold keyI at hn
      split at hn
      · rename_i m he
        simp only [Option.map_eq_some_iff, guardO_some] at hn
        obtain ⟨_, h1, rfl⟩ := hn
        exact ⟨he, h1⟩
      · cases hn
    refine ⟨by rw [List.map_cons, List.map_cons, hk.1, i1], fun m hm => ?_⟩
    rw [List.mem_cons] at hm
    rcases hm with rfl | hm
    · exact in64_range hk.2
    · exact i2 m hm

section
variable {E : Env} {base : Nat} {μ : Mu} {w : World} {s s' : St}
theorem ERels.borns : ∀ {l l' : List MapEntry}, ERels μ l l' → l'.map (·.born) = l.map (·.born) ∧ l'.map (·.key) = l.map (·.key)
  | _, _, .nil => ⟨rfl, rfl⟩
  | _, _, .cons e e' l l' _ hk' _ hb hl => by
    obtain ⟨h1, h2⟩ := hl.borns
    exact ⟨by rw [List.map_cons, List.map_cons, hb, h1], by rw [List.map_cons, List.map_cons, hk', h2]⟩

theorem sorted_ok {f g : FuncId} {args : List Value} {args' : Array Value} {v : Value} (hk : SkOk E.P f g) (h : M.within (sortedA g args) s = some (v, s')) (hv : VRels μ args args'.toList) (hs : SRel base μ s.rows.get w)
    (hf : ∀ r, s.next ≤ r → r < s'.next → μ r = none) :
    Calls E.P f args' w fun e w' => ∃ v' μ', e = .returned v' ∧ VRel μ' v v' ∧ SRel base μ' s'.rows.get w' ∧ Grew base μ μ' s.next s'.next w w' := by
  rw [M.within_eq] at h
  cases hm : sortedA g args { s with log := [], wlog := [] } with
  | none => rw [hm] at h; cases h
  | some p =>
    obtain ⟨v1, s1⟩ := p
    rw [hm] at h
    injection h with h; injection h with e1 e2
    have hr1 : s'.rows = s1.rows := by rw [← e2]
    have hn1 : s'.next = s1.next := by rw [← e2]
    have e1 : v1 = v := e1
    subst e1
    unfold sortedA at hm
    simp only [lift_bind, guard_bind, row_bind] at hm
    obtain ⟨x, hx, ⟨f1, fa, fc⟩, hfn, hgd, a, ha, ⟨q, o⟩, hq, ho, _, y, hy, ⟨es0, cs⟩, hown, hes, mv, hmv, r, hr, _, z, hz, ⟨es, clk⟩, hmr, ks, hks, hgd2, hm⟩ := hm
    try dsimp only at hgd
    try dsimp only at ha
    try dsimp only at ho
    try dsimp only at hy
    try dsimp only at hes
    try dsimp only at hmv
    try dsimp only at hks
    try dsimp only at hgd2
    try dsimp only at hm
    simp only [Bool.and_eq_true] at hgd hgd2
    have hx : args = [x] := by
      unfold oneV at hx
      split at hx
      · injection hx with hx; subst hx; rfl
      · cases hx
    subst hx
    have hfx : ∃ a c, x = .func (.func g) a c ∧ a.toList = [] ∧ c.toList = fc := by
      unfold asFunc at hfn
      split at hfn
      · rename_i f0 a0 c0
        injection hfn with hfn; injection hfn with h1 h2; injection h2 with h2 h3
        subst h1 h2 h3
        have := Nat.eq_of_beq_eq_true hgd.1
        subst this
        refine ⟨a0, c0, rfl, ?_, rfl⟩
        have h4 := hgd.2
        unfold noneV at h4
        split at h4
        · next hh => exact hh
        · cases h4
      · cases hfn
    obtain ⟨a0, c0, rfl, ha0, hc0⟩ := hfx
    have hfc : fc = [a] := by
      unfold oneV at ha
      split at ha
      · injection ha with ha; subst ha; rfl
      · cases ha
    have hap : a = .pointer (some ⟨q, 0, none⟩) := by
      unfold asRef at hq
      split at hq
      · injection hq with hq; injection hq with h1 h2; subst h1 h2
        rw [Nat.eq_of_beq_eq_true ho]
      · cases hq
    subst hap
    have hyr : y = .cells false es0 cs := by
      unfold ownR at hown
      split at hown
      · injection hown with hown; injection hown with h1 h2; subst h1 h2; rfl
      · cases hown
    subst hyr
    have hmvr : mv = .map (some r) := by
      unfold asMap at hr
      split at hr
      · injection hr with hr; subst hr; rfl
      · cases hr
    subst hmvr
    have hzr : z = .map es clk := by
      unfold mapR at hmr
      split at hmr
      · injection hmr with hmr; injection hmr with h1 h2; subst h1 h2; rfl
      · cases hmr
    subst hzr
    -- the arguments
    obtain ⟨x', hx0, hxr⟩ := hv.get 0 _ rfl
    have hlen := hv.length
    obtain ⟨a', c', rfl, hra, hrc⟩ := hxr.ofFunc
    rw [ha0] at hra
    rw [hc0, hfc] at hrc
    have ha' : a' = #[] := by
      have := hra.length
      simp at this
      exact this
    obtain ⟨p', hp0, hpr⟩ := hrc.get 0 _ rfl
    obtain ⟨L, hL, rfl⟩ := hpr.ofPtr
    have hc' : c' = #[.pointer (some ⟨L.b, L.o + 0, none⟩)] := by
      have h1 := hrc.length
      obtain ⟨cl⟩ := c'
      simp only at h1 hp0
      cases cl with
      | nil => cases hp0
      | cons p l =>
        cases l with
        | nil => have hp0 : some p = some (Value.pointer (some ⟨L.b, L.o + 0, none⟩)) := hp0; injection hp0 with hp0; rw [hp0]
        | cons _ _ => simp at h1
    have hargs : args' = #[.func (.func g) #[] #[.pointer (some ⟨L.b, L.o + 0, none⟩)]] := by
      obtain ⟨al⟩ := args'
      simp only at hlen hx0
      cases al with
      | nil => cases hx0
      | cons p l =>
        cases l with
        | nil => simp at hx0; rw [hx0, ha', hc']
        | cons _ _ => simp at hlen
    -- the cell, the map
    obtain ⟨L1, hL1, hcell, hcl, hfree⟩ := hs.row q _ hy
    rw [hL] at hL1; injection hL1 with hL1; subst hL1
    obtain ⟨⟨_, hmk⟩, hes1, _⟩ := hfree rfl
    have hLo : L.o = 0 := hmk.1.1 (by have := Nat.eq_of_beq_eq_true hes; rw [hes1, sizeE_code hmk.1.2] at this; exact this)
    obtain ⟨mv', hmv', hmr'⟩ := hcell 0 _ hmv
    obtain ⟨K, hK, rfl⟩ := hmr'.ofMap
    obtain ⟨K1, hK1, _, es', hobj, hel⟩ := hs.row r _ hz
    rw [hK] at hK1; injection hK1 with hK1; subst hK1
    obtain ⟨hb1, hb2⟩ := hel.borns
    obtain ⟨hk1, hk2⟩ := keysI_some es ks hks
    have hris := risesI_pair _ hgd2.1.1
    obtain ⟨hbp, hbc⟩ := risesE_pair clk es hgd2.1.2
    have hnd : ks.Nodup := ((sortI_perm ks).nodup_iff).1 (hris.imp fun h => by omega)
    have hcall := hk w L.b K.b es' clk ks (by rw [hLo] at hmv'; exact hmv') hobj (by rw [hb2, hk1]) hk2 hnd (by rw [hb1]; exact hbp.imp fun h => by omega)
      (fun x hx => by
        obtain ⟨i, hi⟩ := List.mem_iff_getElem?.1 hx
        have h1 : (es'.map (·.born))[i]? = some x.born := by rw [List.getElem?_map, hi]; rfl
        rw [hb1, List.getElem?_map] at h1
        cases h2 : es[i]? with
        | none => rw [h2] at h1; cases h1
        | some y => rw [h2] at h1; injection h1 with h1; rw [← h1]; exact hbc y (List.mem_of_getElem? h2)) (Nat.le_of_ble_eq_true hgd2.2)
    have hLo0 : L.o + 0 = 0 := by omega
    rw [hargs, hLo0]
    refine hcall.mono fun e w' ⟨v', ss, he, hbel, hperm, hsort, hres⟩ => ?_
    have hss : ss = sortI ks := List.Perm.eq_of_pairwise (le := fun a b => a ≤ b) (fun a b _ _ h1 h2 => by omega) hsort (hris.imp fun h => by omega) (hperm.trans (sortI_perm ks).symm)
    cases hso : sortI ks with
    | nil =>
      rw [hso] at hm hss
      simp only [pure_some] at hm
      obtain ⟨rfl, rfl⟩ := hm
      subst hss
      rcases hres with ⟨_, rfl⟩ | ⟨blk, cap, cur, t, h0, rfl, hge, hb, hle, hsz, htk⟩
      · refine ⟨_, μ, he, .plain _ rfl, ?_, Mu.le_refl _, fun _ a b => absurd a b, fun _ a b => absurd a b, hbel.mono hs.ge⟩
        rw [hr1]; exact hs.grow hbel
      · exact absurd rfl h0
    | cons n l =>
      rw [hso] at hm hss
      simp only [fresh_bind, pure_some] at hm
      obtain ⟨hbl, rfl, hs1⟩ := hm
      subst hss
      rcases hres with ⟨h0, _⟩ | ⟨blk, cap, cur, t, h0, rfl, hge, hb, hle, hsz, htk⟩
      · cases h0
      · have hnx : s1.next = s.next + 1 := by rw [hs1]
        have hn : μ s.next = none := hf s.next (Nat.le_refl _) (by rw [hn1, hnx]; exact Nat.lt_succ_self _)
        have hblk : blk < w'.heap.size := by
          rcases Nat.lt_or_ge blk w'.heap.size with h | h
          · exact h
          · rw [Array.getElem?_eq_none h] at hb; cases hb
        have hcl : ∀ j, w'.cell? ⟨blk, 0 + j, none⟩ = cur[j]? := fun j => by
          unfold World.cell?; simp only [hb, Nat.zero_add]; rfl
        have hfz : ∀ j, w'.frozen? ⟨blk, 0 + j, none⟩ = false := fun j => by
          unfold World.frozen?; simp only [hb]; simp
        let Kp : Place := ⟨blk, 0, cap, 1, 0⟩
        refine ⟨_, μ.with s.next Kp, he, ?_, ?_, Mu.le_with hn _, fun r a b => ?_, fun _ a b => absurd a b, hbel.mono hs.ge⟩
        · have := VRel.grown (μ := μ.with s.next Kp) s.next 0 (n :: l).length (n :: l).length cap Kp (Mu.with_at _ _ _) hle (by show 0 + cap * 1 ≤ cap; omega)
          simpa using this
        · rw [hr1]
          refine hs.extend s.next hn (.cells false 1 ((n :: l).map (Value.int .i64))) Kp hbel hge hblk ⟨fun i v hv => ?_, ?_, fun _ => ⟨⟨Nat.le_trans hs.ge hge, ⟨(fun h => by have h : (1 : Nat) = 0 := h; cases h), (by show 1 < tagT; unfold tagT; omega)⟩, cur, t, (0, 0), hb, by show 0 + cap ≤ cur.size; omega, Or.inl rfl, Or.inl rfl⟩, rfl, fun i hi => ?_⟩⟩ (fun r => ?_)
          · refine ⟨v, ?_, ?_⟩
            · show w'.cell? ⟨blk, 0 + i, none⟩ = some v
              rw [hcl]
              rw [← htk] at hv
              rw [List.getElem?_take] at hv
              split at hv
              · simpa using hv
              · cases hv
            · have hvi : ∃ m, v = .int .i64 m := by
                rw [List.getElem?_map, Option.map_eq_some_iff] at hv
                obtain ⟨m, _, rfl⟩ := hv
                exact ⟨m, rfl⟩
              obtain ⟨m, rfl⟩ := hvi
              exact .plain _ rfl
          · show ((n :: l).map (Value.int .i64)).length ≤ cap; rw [List.length_map]; exact hle
          · show (w'.cell? ⟨blk, 0 + i, none⟩).isSome = true ∧ w'.frozen? ⟨blk, 0 + i, none⟩ = false
            have hi : i < cap := hi
            rw [hcl, hfz]
            exact ⟨by simp [hsz, hi], rfl⟩
          · rw [hs1]; exact D.got _ _ _ _ hbl
        · have : r = s.next := by
            rw [Mu.with_eq] at b
            by_cases e : r = s.next
            · exact e
            · rw [if_neg e] at b; exact absurd a b
          rw [hn1, hnx]; omega

theorem peek_one {size : Nat} {v v' : Value} {l : List Value} (h : peekA size v s = some (l, s')) (hv : VRel μ v v') (hs : SRel base μ s.rows.get w) : s'.rows = s.rows ∧ s'.next = s.next ∧ SliceAt μ w size l v' := by
  unfold peekA at h
  rw [lift_bind] at h
  obtain ⟨⟨a, n, c⟩, hb, h⟩ := h
  rw [asSlice_some] at hb
  subst hb
  simp only at h
  cases n with
  | zero =>
    unfold readA at h
    rw [pure_some] at h
    obtain ⟨rfl, rfl⟩ := h
    refine ⟨rfl, rfl, ?_⟩
    cases a with
    | none => have := hv.ofNilSlice; subst this; exact ⟨none, 0, c, [], rfl, .nil, by simp, fun h => absurd rfl h⟩
    | some a =>
      rcases hv.ofSlice with ⟨L, _, _, rfl⟩ | ⟨L, c2, _, _, _, _, rfl⟩ | ⟨a2, _, _, rfl⟩ <;> exact ⟨_, 0, _, [], rfl, .nil, by simp, fun h => absurd rfl h⟩
  | succ n =>
    unfold readA at h
    simp only [lift_bind, row_bind, cellsR_some] at h
    obtain ⟨ad, rfl, _, x, hx, cs, ⟨ro, es, rfl⟩, h⟩ := h
    rw [lift_some] at h
    obtain ⟨hl, rfl⟩ := h
    refine ⟨rfl, rfl, ?_⟩
    obtain ⟨L, hL, hrow⟩ := hs.row ad.block _ hx
    obtain ⟨l', h1, h2, h3⟩ := row_read hrow hl
    have fin : ∀ c2, v' = .slice (some ⟨L.b, L.o + ad.off, none⟩) (n + 1) c2 → SliceAt μ w size l v' := fun c2 e => by
      subst e
      exact ⟨_, n + 1, c2, l', rfl, h1, h2, fun _ => ⟨L.b, L.o + ad.off, rfl, fun j u hu => by have := h3 j u hu; rwa [addr_add] at this⟩⟩
    rcases hv.ofSlice with ⟨K, _, hK, e1⟩ | ⟨K, c2, _, hK, _, _, e1⟩ | ⟨a2, h0, _, _⟩
    · rw [hL] at hK; injection hK with hK; subst hK; exact fin _ e1
    · rw [hL] at hK; injection hK with hK; subst hK; exact fin _ e1
    · exact absurd h0 (Nat.succ_ne_zero _)
theorem peek_list {size : Nat} : ∀ {vs vs' : List Value} {ls : List (List Value)} {s s' : St}, M.mapL (peekA size) vs s = some (ls, s') → VRels μ vs vs' → SRel base μ s.rows.get w → s'.rows = s.rows ∧ s'.next = s.next ∧ SlicesAt μ w size ls vs'
  | [], vs', ls, s, s', h, hv, hs => by
    unfold M.mapL at h
    rw [pure_some] at h
    obtain ⟨rfl, rfl⟩ := h
    cases hv
    exact ⟨rfl, rfl, .nil⟩
  | v :: vs, vs', ls, s, s', h, hv, hs => by
    unfold M.mapL at h
    rw [bind_some] at h
    obtain ⟨l, s1, h1, h⟩ := h
    rw [bind_some] at h
    obtain ⟨ls2, s2, h2, h⟩ := h
    rw [pure_some] at h
    obtain ⟨rfl, rfl⟩ := h
    cases hv with
    | cons _ v' _ vs'' hv hvs =>
      obtain ⟨a1, a2, a3⟩ := peek_one h1 hv hs
      obtain ⟨b1, b2, b3⟩ := peek_list h2 hvs (by rw [a1]; exact hs)
      exact ⟨b1.trans a1, b2.trans a2, .cons _ _ _ _ a3 b3⟩
theorem peeks_ok {sy : Nat → Value → Prop} {P : Program} {f : FuncId} {size : Nat} {F : List (List Value) → Option Value} {args : List Value} {args' : Array Value} {v : Value} (hk : PkOk P sy f size F) (hsy : μ.sy = sy) (h : M.within (peeksA size F args) s = some (v, s')) (hv : VRels μ args args'.toList) (hs : SRel base μ s.rows.get w) :
    Calls P f args' w fun e w' => ∃ v' μ', e = .returned v' ∧ VRel μ' v v' ∧ SRel base μ' s'.rows.get w' ∧ Grew base μ μ' s.next s'.next w w' := by
  rw [M.within_eq] at h
  cases hm : peeksA size F args { s with log := [], wlog := [] } with
  | none => rw [hm] at h; cases h
  | some p =>
    obtain ⟨v1, s1⟩ := p
    rw [hm] at h
    injection h with h; injection h with e1 e2
    have e1 : v1 = v := e1
    subst e1
    unfold peeksA at hm
    rw [bind_some] at hm
    obtain ⟨ls, s2, h1, hm⟩ := hm
    simp only [lift_bind, guard_bind, pure_some] at hm
    obtain ⟨u, hF, hp, rfl, rfl⟩ := hm
    obtain ⟨a1, a2, a3⟩ := peek_list (s := { s with log := [], wlog := [] }) h1 hv hs
    have hr : s'.rows = s.rows := by rw [← e2]; exact a1
    refine (hk ls _ μ w args' hF hp hsy a3).mono fun e w' ⟨he, hbel⟩ => ?_
    exact ⟨_, μ, he, .plain _ hp, by rw [hr]; exact hs.grow hbel, Mu.le_refl _, fun _ a b => absurd a b, fun _ a b => absurd a b, hbel.mono hs.ge⟩
end
end Go.Cm
