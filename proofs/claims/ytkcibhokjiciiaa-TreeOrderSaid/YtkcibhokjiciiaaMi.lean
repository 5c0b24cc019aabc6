/-
  A map's keys, sorted. The code of a function; a call; and what a run shows. What a run shows. An Env out of a program's tables; and a closed call that answers true.
-/
import Derived.Test.YtkcibhokjiciiaaMe
import Derived.Test.YtkcibhokjiciiaaMh
import Derived.LoopN
import Derived.Eval
import Derived.KernelRfl
namespace Go.Cm
open Go Go.RowKit

theorem ltA_iff (a b : Int) : ltA a b = true ↔ a < b := by
  cases a with
  | ofNat a => cases b with
    | ofNat b =>
      show Nat.blt a b = true ↔ (Int.ofNat a) < (Int.ofNat b)
      rw [Int.ofNat_eq_natCast, Int.ofNat_eq_natCast, Int.ofNat_lt]
      exact ⟨blt_lt0, lt_blt0⟩
    | negSucc b => show false = true ↔ _; constructor
                   · intro h; cases h
                   · intro h; exact absurd (Int.lt_of_le_of_lt (Int.natCast_nonneg a) (Int.lt_trans h (Int.negSucc_lt_zero b))) (Int.lt_irrefl 0)
  | negSucc a => cases b with
    | ofNat b => show true = true ↔ _; constructor
                 · intro _; exact Int.lt_of_lt_of_le (Int.negSucc_lt_zero a) (Int.natCast_nonneg b)
                 · intro _; rfl
    | negSucc b =>
      show Nat.blt b a = true ↔ _
      constructor
      · intro h; have := blt_lt0 h; rw [Int.negSucc_eq, Int.negSucc_eq]; omega
      · intro h; rw [Int.negSucc_eq, Int.negSucc_eq] at h; exact lt_blt0 (by omega)
theorem insI_perm (x : Int) : ∀ l : List Int, (insI x l).Perm (x :: l)
  | [] => List.Perm.refl _
  | y :: l => by
    unfold insI
    cases ltA x y with
    | true => exact List.Perm.refl _
    | false => exact ((insI_perm x l).cons y).trans (List.Perm.swap x y l)
theorem sortI_perm : ∀ l : List Int, (sortI l).Perm l
  | [] => List.Perm.refl _
  | x :: l => by unfold sortI; exact (insI_perm x _).trans ((sortI_perm l).cons x)
theorem risesI_pair : ∀ l : List Int, risesI l = true → l.Pairwise (· < ·)
  | [], _ => .nil
  | [x], _ => by simp
  | x :: y :: l, h => by
    unfold risesI at h
    rw [Bool.and_eq_true] at h
    have ih := risesI_pair (y :: l) h.2
    have hxy : x < y := (ltA_iff x y).1 h.1
    refine List.Pairwise.cons (fun z hz => ?_) ih
    rw [List.mem_cons] at hz
    rcases hz with rfl | hz
    · exact hxy
    · exact Int.lt_trans hxy ((List.pairwise_cons.1 ih).1 z hz)
theorem risesE_pair (c : Nat) : ∀ l : List MapEntry, risesE c l = true → (l.map (·.born)).Pairwise (· < ·) ∧ ∀ x, x ∈ l → x.born < c
  | [], _ => ⟨.nil, fun _ h => by cases h⟩
  | [x], h => by
    unfold risesE at h
    rw [Bool.and_eq_true] at h
    exact ⟨by simp, fun y hy => by simp at hy; subst hy; exact blt_lt0 h.1⟩
  | x :: y :: l, h => by
    unfold risesE at h
    rw [Bool.and_eq_true] at h
    obtain ⟨i1, i2⟩ := risesE_pair c (y :: l) h.2
    have hxy : x.born < y.born := blt_lt0 h.1
    refine ⟨List.Pairwise.cons (fun z hz => ?_) i1, fun z hz => ?_⟩
    · rw [List.map_cons, List.mem_cons] at hz
      rcases hz with rfl | hz
      · exact hxy
      · exact Nat.lt_trans hxy ((List.pairwise_cons.1 i1).1 z hz)
    · rw [List.mem_cons] at hz
      rcases hz with rfl | hz
      · exact Nat.lt_trans hxy (i2 y (by simp))
      · exact i2 z hz
theorem in64_range {n : Int} (h : in64 n = true) : -9223372036854775808 ≤ n ∧ n ≤ 9223372036854775807 := by
  cases n with
  | ofNat m =>
    have h1 : m < two63 := blt_lt0 h
    unfold two63 at h1
    rw [Int.ofNat_eq_natCast]
    omega
  | negSucc m =>
    have h1 : m < two63 := blt_lt0 h
    unfold two63 at h1
    rw [Int.negSucc_eq]
    omega
theorem keysI_some : ∀ (l : List MapEntry) (ks : List Int), keysI l = some ks → l.map (·.key) = ks.map (Value.int .i64) ∧ ∀ n, n ∈ ks → -9223372036854775808 ≤ n ∧ n ≤ 9223372036854775807
  | [], ks, h => by injection h with h; subst h; exact ⟨rfl, fun _ h => by cases h⟩
  | e :: l, ks, h => by
    unfold keysI at h
    simp only [Option.bind_eq_some_iff, Option.map_eq_some_iff] at h
    obtain ⟨n, hn, r, hr, rfl⟩ := h
    obtain ⟨i1, i2⟩ := keysI_some l r hr
    have hk : e.key = .int .i64 n ∧ in64 n = true := by
      unfold keyI at hn
      split at hn
      · rename_i m he
        simp only [Option.map_eq_some_iff, guardO_some] at hn
        obtain ⟨_, h1, rfl⟩ := hn
        exact ⟨he, h1⟩
      · cases hn
    refine ⟨by rw [List.map_cons, List.map_cons, hk.1, i1], fun m hm => ?_⟩
    rw [List.mem_cons] at hm
    rcases hm with rfl | hm
    · exact in64_range hk.2
    · exact i2 m hm

section
variable {E : Env} {base : Nat} {μ : Mu} {w : World} {s s' : St}
theorem ERels.borns : ∀ {l l' : List MapEntry}, ERels μ l l' → l'.map (·.born) = l.map (·.born) ∧ l'.map (·.key) = l.map (·.key)
  | _, _, .nil => ⟨rfl, rfl⟩
  | _, _, .cons e e' l l' _ hk' _ hb hl => by
    obtain ⟨h1, h2⟩ := hl.borns
    exact ⟨by rw [List.map_cons, List.map_cons, hb, h1], by rw [List.map_cons, List.map_cons, hk', h2]⟩

theorem sorted_ok {f g : FuncId} {args : List Value} {args' : Array Value} {v : Value} (hk : SkOk E.P f g) (h : M.within (sortedA g args) s = some (v, s')) (hv : VRels μ args args'.toList) (hs : SRel base μ s.rows.get w)
    (hf : ∀ r, s.next ≤ r → r < s'.next → μ r = none) :
    Calls E.P f args' w fun e w' => ∃ v' μ', e = .returned v' ∧ VRel μ' v v' ∧ SRel base μ' s'.rows.get w' ∧ Grew base μ μ' s.next s'.next w w' := by
  rw [M.within_eq] at h
  cases hm : sortedA g args { s with log := [], wlog := [] } with
  | none => rw [hm] at h; cases h
  | some p =>
    obtain ⟨v1, s1⟩ := p
    rw [hm] at h
    injection h with h; injection h with e1 e2
    have hr1 : s'.rows = s1.rows := by rw [← e2]
    have hn1 : s'.next = s1.next := by rw [← e2]
    have e1 : v1 = v := e1
    subst e1
    unfold sortedA at hm
    simp only [lift_bind, guard_bind, row_bind] at hm
    obtain ⟨x, hx, ⟨f1, fa, fc⟩, hfn, hgd, a, ha, ⟨q, o⟩, hq, ho, _, y, hy, ⟨es0, cs⟩, hown, hes, mv, hmv, r, hr, _, z, hz, ⟨es, clk⟩, hmr, ks, hks, hgd2, hm⟩ := hm
    try dsimp only at hgd
    try dsimp only at ha
    try dsimp only at ho
    try dsimp only at hy
    try dsimp only at hes
    try dsimp only at hmv
    try dsimp only at hks
    try dsimp only at hgd2
    try dsimp only at hm
    simp only [Bool.and_eq_true] at hgd hgd2
    have hx : args = [x] := by
      unfold oneV at hx
      split at hx
      · injection hx with hx; subst hx; rfl
      · cases hx
    subst hx
    have hfx : ∃ a c, x = .func (.func g) a c ∧ a.toList = [] ∧ c.toList = fc := by
      unfold asFunc at hfn
      split at hfn
      · rename_i f0 a0 c0
        injection hfn with hfn; injection hfn with h1 h2; injection h2 with h2 h3
        subst h1 h2 h3
        have := Nat.eq_of_beq_eq_true hgd.1
        subst this
        refine ⟨a0, c0, rfl, ?_, rfl⟩
        have h4 := hgd.2
        unfold noneV at h4
        split at h4
        · next hh => exact hh
        · cases h4
      · cases hfn
    obtain ⟨a0, c0, rfl, ha0, hc0⟩ := hfx
    have hfc : fc = [a] := by
      unfold oneV at ha
      split at ha
      · injection ha with ha; subst ha; rfl
      · cases ha
    have hap : a = .pointer (some ⟨q, 0, none⟩) := by
      unfold asRef at hq
      split at hq
      · injection hq with hq; injection hq with h1 h2; subst h1 h2
        rw [Nat.eq_of_beq_eq_true ho]
      · cases hq
    subst hap
    have hyr : y = .cells false es0 cs := by
      unfold ownR at hown
      split at hown
      · injection hown with hown; injection hown with h1 h2; subst h1 h2; rfl
      · cases hown
    subst hyr
    have hmvr : mv = .map (some r) := by
      unfold asMap at hr
      split at hr
      · injection hr with hr; subst hr; rfl
      · cases hr
    subst hmvr
    have hzr : z = .map es clk := by
      unfold mapR at hmr
      split at hmr
      · injection hmr with hmr; injection hmr with h1 h2; subst h1 h2; rfl
      · cases hmr
    subst hzr
    -- the arguments
    obtain ⟨x', hx0, hxr⟩ := hv.get 0 _ rfl
    have hlen := hv.length
    obtain ⟨a', c', rfl, hra, hrc⟩ := hxr.ofFunc
    rw [ha0] at hra
    rw [hc0, hfc] at hrc
    have ha' : a' = #[] := by
      have := hra.length
      simp at this
      exact this
    obtain ⟨p', hp0, hpr⟩ := hrc.get 0 _ rfl
    obtain ⟨L, hL, rfl⟩ := hpr.ofPtr
    have hc' : c' = #[.pointer (some ⟨L.b, L.o + 0, none⟩)] := by
      have h1 := hrc.length
      obtain ⟨cl⟩ := c'
      simp only at h1 hp0
      cases cl with
      | nil => cases hp0
      | cons p l =>
        cases l with
        | nil => have hp0 : some p = some (Value.pointer (some ⟨L.b, L.o + 0, none⟩)) := hp0; injection hp0 with hp0; rw [hp0]
        | cons _ _ => simp at h1
    have hargs : args' = #[.func (.func g) #[] #[.pointer (some ⟨L.b, L.o + 0, none⟩)]] := by
      obtain ⟨al⟩ := args'
      simp only at hlen hx0
      cases al with
      | nil => cases hx0
      | cons p l =>
        cases l with
        | nil => simp at hx0; rw [hx0, ha', hc']
        | cons _ _ => simp at hlen
    -- the cell, the map
    obtain ⟨L1, hL1, hcell, hcl, hfree⟩ := hs.row q _ hy
    rw [hL] at hL1; injection hL1 with hL1; subst hL1
    obtain ⟨⟨_, hmk⟩, hes1, _⟩ := hfree rfl
    have hLo : L.o = 0 := hmk.1.1 (by have := Nat.eq_of_beq_eq_true hes; rw [hes1, sizeE_code hmk.1.2] at this; exact this)
    obtain ⟨mv', hmv', hmr'⟩ := hcell 0 _ hmv
    obtain ⟨K, hK, rfl⟩ := hmr'.ofMap
    obtain ⟨K1, hK1, _, es', hobj, hel⟩ := hs.row r _ hz
    rw [hK] at hK1; injection hK1 with hK1; subst hK1
    obtain ⟨hb1, hb2⟩ := hel.borns
    obtain ⟨hk1, hk2⟩ := keysI_some es ks hks
    have hris := risesI_pair _ hgd2.1.1
    obtain ⟨hbp, hbc⟩ := risesE_pair clk es hgd2.1.2
    have hnd : ks.Nodup := ((sortI_perm ks).nodup_iff).1 (hris.imp fun h => by omega)
    have hcall := hk w L.b K.b es' clk ks (by rw [hLo] at hmv'; exact hmv') hobj (by rw [hb2, hk1]) hk2 hnd (by rw [hb1]; exact hbp.imp fun h => by omega)
      (fun x hx => by
        obtain ⟨i, hi⟩ := List.mem_iff_getElem?.1 hx
        have h1 : (es'.map (·.born))[i]? = some x.born := by rw [List.getElem?_map, hi]; rfl
        rw [hb1, List.getElem?_map] at h1
        cases h2 : es[i]? with
        | none => rw [h2] at h1; cases h1
        | some y => rw [h2] at h1; injection h1 with h1; rw [← h1]; exact hbc y (List.mem_of_getElem? h2)) (Nat.le_of_ble_eq_true hgd2.2)
    have hLo0 : L.o + 0 = 0 := by omega
    rw [hargs, hLo0]
    refine hcall.mono fun e w' ⟨v', ss, he, hbel, hperm, hsort, hres⟩ => ?_
    have hss : ss = sortI ks := List.Perm.eq_of_pairwise (le := fun a b => a ≤ b) (fun a b _ _ h1 h2 => by omega) hsort (hris.imp fun h => by omega) (hperm.trans (sortI_perm ks).symm)
    cases hso : sortI ks with
    | nil =>
      rw [hso] at hm hss
      simp only [pure_some] at hm
      obtain ⟨rfl, rfl⟩ := hm
      subst hss
      rcases hres with ⟨_, rfl⟩ | ⟨blk, cap, cur, t, h0, rfl, hge, hb, hle, hsz, htk⟩
      · refine ⟨_, μ, he, .plain _ rfl, ?_, Mu.le_refl _, fun _ a b => absurd a b, fun _ a b => absurd a b, hbel.mono hs.ge⟩
        rw [hr1]; exact hs.grow hbel
      · exact absurd rfl h0
    | cons n l =>
      rw [hso] at hm hss
      simp only [fresh_bind, pure_some] at hm
      obtain ⟨hbl, rfl, hs1⟩ := hm
      subst hss
      rcases hres with ⟨h0, _⟩ | ⟨blk, cap, cur, t, h0, rfl, hge, hb, hle, hsz, htk⟩
      · cases h0
      · have hnx : s1.next = s.next + 1 := by rw [hs1]
        have hn : μ s.next = none := hf s.next (Nat.le_refl _) (by rw [hn1, hnx]; exact Nat.lt_succ_self _)
        have hblk : blk < w'.heap.size := by
          rcases Nat.lt_or_ge blk w'.heap.size with h | h
          · exact h
          · rw [Array.getElem?_eq_none h] at hb; cases hb
        have hcl : ∀ j, w'.cell? ⟨blk, 0 + j, none⟩ = cur[j]? := fun j => by
          unfold World.cell?; simp only [hb, Nat.zero_add]; rfl
        have hfz : ∀ j, w'.frozen? ⟨blk, 0 + j, none⟩ = false := fun j => by
          unfold World.frozen?; simp only [hb]; simp
        let Kp : Place := ⟨blk, 0, cap, 1, 0⟩
        refine ⟨_, μ.with s.next Kp, he, ?_, ?_, Mu.le_with hn _, fun r a b => ?_, fun _ a b => absurd a b, hbel.mono hs.ge⟩
        · have := VRel.grown (μ := μ.with s.next Kp) s.next 0 (n :: l).length (n :: l).length cap Kp (Mu.with_at _ _ _) hle (by show 0 + cap * 1 ≤ cap; omega)
          simpa using this
        · rw [hr1]
          refine hs.extend s.next hn (.cells false 1 ((n :: l).map (Value.int .i64))) Kp hbel hge hblk ⟨fun i v hv => ?_, ?_, fun _ => ⟨⟨Nat.le_trans hs.ge hge, ⟨(fun h => by have h : (1 : Nat) = 0 := h; cases h), (by show 1 < tagT; unfold tagT; omega)⟩, cur, t, (0, 0), hb, by show 0 + cap ≤ cur.size; omega, Or.inl rfl, Or.inl rfl⟩, rfl, fun i hi => ?_⟩⟩ (fun r => ?_)
          · refine ⟨v, ?_, ?_⟩
            · show w'.cell? ⟨blk, 0 + i, none⟩ = some v
              rw [hcl]
              rw [← htk] at hv
              rw [List.getElem?_take] at hv
              split at hv
              · simpa using hv
              · cases hv
            · have hvi : ∃ m, v = .int .i64 m := by
                rw [List.getElem?_map, Option.map_eq_some_iff] at hv
                obtain ⟨m, _, rfl⟩ := hv
                exact ⟨m, rfl⟩
              obtain ⟨m, rfl⟩ := hvi
              exact .plain _ rfl
          · show ((n :: l).map (Value.int .i64)).length ≤ cap; rw [List.length_map]; exact hle
          · show (w'.cell? ⟨blk, 0 + i, none⟩).isSome = true ∧ w'.frozen? ⟨blk, 0 + i, none⟩ = false
            have hi : i < cap := hi
            rw [hcl, hfz]
            exact ⟨by simp [hsz, hi], rfl⟩
          · rw [hs1]; exact D.got _ _ _ _ hbl
        · have : r = s.next := by
            rw [Mu.with_eq] at b
            by_cases e : r = s.next
            · exact e
            · rw [if_neg e] at b; exact absurd a b
          rw [hn1, hnx]; omega

theorem peek_one {size : Nat} {v v' : Value} {l : List Value} (h : peekA size v s = some (l, s')) (hv : VRel μ v v') (hs : SRel base μ s.rows.get w) : s'.rows = s.rows ∧ s'.next = s.next ∧ SliceAt μ w size l v' := by
  unfold peekA at h
  rw [lift_bind] at h
  obtain ⟨⟨a, n, c⟩, hb, h⟩ := h
  rw [asSlice_some] at hb
  subst hb
  simp only at h
  cases n with
  | zero =>
    unfold readA at h
    rw [pure_some] at h
    obtain ⟨rfl, rfl⟩ := h
    refine ⟨rfl, rfl, ?_⟩
    cases a with
    | none => have := hv.ofNilSlice; subst this; exact ⟨none, 0, c, [], rfl, .nil, by simp, fun h => absurd rfl h⟩
    | some a =>
      rcases hv.ofSlice with ⟨L, _, _, rfl⟩ | ⟨L, c2, _, _, _, _, rfl⟩ | ⟨a2, _, _, rfl⟩ <;> exact ⟨_, 0, _, [], rfl, .nil, by simp, fun h => absurd rfl h⟩
  | succ n =>
    unfold readA at h
    simp only [lift_bind, row_bind, cellsR_some] at h
    obtain ⟨ad, rfl, _, x, hx, cs, ⟨ro, es, rfl⟩, h⟩ := h
    rw [lift_some] at h
    obtain ⟨hl, rfl⟩ := h
    refine ⟨rfl, rfl, ?_⟩
    obtain ⟨L, hL, hrow⟩ := hs.row ad.block _ hx
    obtain ⟨l', h1, h2, h3⟩ := row_read hrow hl
    have fin : ∀ c2, v' = .slice (some ⟨L.b, L.o + ad.off, none⟩) (n + 1) c2 → SliceAt μ w size l v' := fun c2 e => by
      subst e
      exact ⟨_, n + 1, c2, l', rfl, h1, h2, fun _ => ⟨L.b, L.o + ad.off, rfl, fun j u hu => by have := h3 j u hu; rwa [addr_add] at this⟩⟩
    rcases hv.ofSlice with ⟨K, _, hK, e1⟩ | ⟨K, c2, _, hK, _, _, e1⟩ | ⟨a2, h0, _, _⟩
    · rw [hL] at hK; injection hK with hK; subst hK; exact fin _ e1
    · rw [hL] at hK; injection hK with hK; subst hK; exact fin _ e1
    · exact absurd h0 (Nat.succ_ne_zero _)
theorem peek_list {size : Nat} : ∀ {vs vs' : List Value} {ls : List (List Value)} {s s' : St}, M.mapL (peekA size) vs s = some (ls, s') → VRels μ vs vs' → SRel base μ s.rows.get w → s'.rows = s.rows ∧ s'.next = s.next ∧ SlicesAt μ w size ls vs'
  | [], vs', ls, s, s', h, hv, hs => by
    unfold M.mapL at h
    rw [pure_some] at h
    obtain ⟨rfl, rfl⟩ := h
    cases hv
    exact ⟨rfl, rfl, .nil⟩
  | v :: vs, vs', ls, s, s', h, hv, hs => by
    unfold M.mapL at h
    rw [bind_some] at h
    obtain ⟨l, s1, h1, h⟩ := h
    rw [bind_some] at h
    obtain ⟨ls2, s2, h2, h⟩ := h
    rw [pure_some] at h
    obtain ⟨rfl, rfl⟩ := h
    cases hv with
    | cons _ v' _ vs'' hv hvs =>
      obtain ⟨a1, a2, a3⟩ := peek_one h1 hv hs
      obtain ⟨b1, b2, b3⟩ := peek_list h2 hvs (by rw [a1]; exact hs)
      exact ⟨b1.trans a1, b2.trans a2, .cons _ _ _ _ a3 b3⟩
theorem peeks_ok {sy : Nat → Value → Prop} {P : Program} {f : FuncId} {size : Nat} {F : List (List Value) → Option Value} {args : List Value} {args' : Array Value} {v : Value} (hk : PkOk P sy f size F) (hsy : μ.sy = sy) (h : M.within (peeksA size F args) s = some (v, s')) (hv : VRels μ args args'.toList) (hs : SRel base μ s.rows.get w) :
    Calls P f args' w fun e w' => ∃ v' μ', e = .returned v' ∧ VRel μ' v v' ∧ SRel base μ' s'.rows.get w' ∧ Grew base μ μ' s.next s'.next w w' := by
  rw [M.within_eq] at h
  cases hm : peeksA size F args { s with log := [], wlog := [] } with
  | none => rw [hm] at h; cases h
  | some p =>
    obtain ⟨v1, s1⟩ := p
    rw [hm] at h
    injection h with h; injection h with e1 e2
    have e1 : v1 = v := e1
    subst e1
    unfold peeksA at hm
    rw [bind_some] at hm
    obtain ⟨ls, s2, h1, hm⟩ := hm
    simp only [lift_bind, guard_bind, pure_some] at hm
    obtain ⟨u, hF, hp, rfl, rfl⟩ := hm
    obtain ⟨a1, a2, a3⟩ := peek_list (s := { s with log := [], wlog := [] }) h1 hv hs
    have hr : s'.rows = s.rows := by rw [← e2]; exact a1
    refine (hk ls _ μ w args' hF hp hsy a3).mono fun e w' ⟨he, hbel⟩ => ?_
    exact ⟨_, μ, he, .plain _ hp, by rw [hr]; exact hs.grow hbel, Mu.le_refl _, fun _ a b => absurd a b, fun _ a b => absurd a b, hbel.mono hs.ge⟩
end
end Go.Cm
namespace Go.Cm
open Go Go.RowKit

/-- What of the functions is asked before they run. -/
def Env.Coded (E : Env) : Prop := ∀ f fn c, E.fn f = some fn → fn.body = some c → codeOk E c = true

def XRel : X → Exit → Prop
  | .normal, .normal => True
  | .exit k, .exit k' => k = k'
  | .ret, .ret => True
  | _, _ => False

section
variable {E : Env} (ok : E.Ok) (cok : E.Coded) {base : Nat}

include ok in
theorem sim_draw {call : FuncId → List Value → M Value} (hcall : CallSim E base call) {ops : Array Oper} {id : Nat} {Q : Exit → Act → World → Prop} {fr fr' : Fr} {s s' : St} {a : Act} {w : World} {μ : Mu}
    (h : evDraw E call ops (Region.before ops) ops.toList 0 [] fr s = some (fr', s')) (h1 : ops.toList.all (opOk E) = true) (h2 : orderOk ops (Region.before ops) ops.toList 0 = true)
    (hfr : FRel μ fr a.tmps) (hs : SRel base μ s.rows.get w) (hgl : Globs E μ) (hf : ∀ r, s.next ≤ r → r < s'.next → μ r = none)
    (hQ : ∀ μ' a' w', FRel μ' fr' a'.tmps → a'.defers = a.defers → SRel base μ' s'.rows.get w' → Grew base μ μ' s.next s'.next w w' → Q .normal a' w') :
    (Code.region id ops true).wp E.P Q a w := by
  obtain ⟨F, R, N, L, W, ⟨f1, f2, f3⟩, ⟨e1, e2, e3⟩, hall⟩ := trace hcall.1 ops.toList 0 [] fr fr' s s' h
  simp only [Nat.zero_add, Array.length_toList] at e1 e2 e3 hall
  have hall' : ∀ (i : Nat) (o : Oper), ops[i]? = some o → _ := fun i o ho => hall i o (by simpa using ho)
  have hst := orderOk_spec ops.toList 0 h2
  simp only [Nat.zero_add] at hst
  have hst' : ∀ (j : Nat) (o : Oper), ops[j]? = some o → _ := fun j o ho => hst j o (by simpa using ho)
  have hbw : Below w.heap.size w { w with drawn := w.drawn + 1 } := ⟨rfl, rfl, rfl, Nat.le_refl _, fun _ _ => rfl⟩
  have hs2 : SRel base μ s.rows.get { w with drawn := w.drawn + 1 } := hs.grow hbw
  have hnF : ∀ i, i ≤ ops.size → (F i).n = fr.n := by
    intro i
    induction i with
    | zero => intro _; rw [f1]
    | succ i ih =>
      intro hi
      obtain ⟨v, hd | ⟨t, _, _, hd⟩⟩ := (hall' i _ (Array.getElem?_eq_getElem (by omega : i < ops.size))).1.dst
      · rw [hd.2]; exact ih (by omega)
      · rw [hd]; exact ih (by omega)
  refine wp_region_any ok.mixed ?_
  refine draw_any ok hcall (F := F) (R := R) (N := N) (L := L) (W := W) (n0 := fr.n) (μ0 := μ) (w0 := w) (ds := a.defers) (base := base)
    (fun i o ho => (hall' i o ho).1) (fun j i hj hi hc => (hall' i _ (Array.getElem?_eq_getElem hi)).2.2 j hj hc)
    (fun j i oj oi hj hoj hoi => (hst' i oi hoi).1 j oj hoj hj) (fun i o e ho he hb => (hst' i o ho).2 e he hb)
    (fun i o ho => by rw [List.all_eq_true] at h1; exact h1 o (Array.mem_toList_iff.2 (Array.mem_of_getElem? ho))) hnF hfr.le (by rw [f3, e3]; exact hf) hgl ?_ ops.size _ a _ μ s ?_ (Nat.le_trans List.countP_le_length (by simp))
  · intro μ' a' w' g1 g2 g3 g4
    rw [e1] at g1; rw [e2] at g3; rw [f3, e3] at g4
    exact hQ μ' a' w' g1 g2 g3 g4
  · have hoff : ∀ j, ¬ isOn (Array.replicate ops.size false) j := by
      intro j hj
      unfold isOn at hj
      simp only [Array.getD_eq_getD_getElem?, Array.getElem?_replicate] at hj
      split at hj <;> simp at hj
    refine ⟨by simp, fun j o hj => absurd hj (hoff j), fun r => ⟨fun _ => (by show s.rows.get r = R 0 r; rw [f2]), fun j hj => absurd hj (hoff j)⟩, fun t => ⟨fun _ => (by show VRel μ ((F 0).get t) _; rw [f1]; exact hfr.get t), fun j hj => absurd hj (hoff j)⟩,
      hfr.n.symm, hs2, fun r hr => Or.inl hr, Mu.le_refl _, fun _ a b => absurd a b, ?_, rfl⟩
    exact hbw.mono hs.ge

def resSem (tmps : Array Value) : ResultVar → Sem Value
  | .tmp t => pure (tmps.getD t undef)
  | .cell a t => do loadVar t (← asAddr (tmps.getD a undef))

include ok in
theorem sim_results {fr : Fr} {μ : Mu} {w : World} {tmps : Array Value} (hfr : FRel μ fr tmps) : ∀ (l : List ResultVar) (vs : List Value) (s s' : St), resultsA E fr l s = some (vs, s') → SRel base μ s.rows.get w →
    s'.rows = s.rows ∧ s'.next = s.next ∧ ∃ vs', VRels μ vs vs' ∧ (l.mapM (resSem tmps)).run E.P w = .ok vs' w
  | [], vs, s, s', h, hs => by
    unfold resultsA at h
    rw [pure_some] at h
    obtain ⟨rfl, rfl⟩ := h
    exact ⟨rfl, rfl, [], .nil, rfl⟩
  | r :: l, vs, s, s', h, hs => by
    unfold resultsA at h
    rw [bind_some] at h
    obtain ⟨v, s1, h1, h2⟩ := h
    rw [bind_some] at h2
    obtain ⟨us, s2, h2, h3⟩ := h2
    rw [pure_some] at h3
    obtain ⟨rfl, rfl⟩ := h3
    have hone : s1.rows = s.rows ∧ s1.next = s.next ∧ ∃ v', VRel μ v v' ∧ (resSem tmps r).run E.P w = .ok v' w := by
      cases r with
      | tmp t =>
        simp only [resA, pure_some] at h1
        obtain ⟨rfl, rfl⟩ := h1
        exact ⟨rfl, rfl, _, hfr.get t, rfl⟩
      | cell a t =>
        simp only [resA] at h1
        obtain ⟨ad, v', he, hr, hv, e1, e2⟩ := load_var ok h1 (hfr.get a) hs
        refine ⟨e1, e2, v', hv, ?_⟩
        simp only [resSem, Sem.run_bind, he, asAddr, Sem.run_pure, Result.andThen_ok]
        exact hr
    obtain ⟨e1, e2, v', hv, hr⟩ := hone
    obtain ⟨g1, g2, vs', hvs, hrs⟩ := sim_results hfr l us s1 s' h2 (by rw [e1]; exact hs)
    refine ⟨g1.trans e1, g2.trans e2, v' :: vs', .cons _ _ _ _ hv hvs, ?_⟩
    simp only [List.mapM_cons, Sem.run_bind, hr, Result.andThen_ok, hrs, Sem.run_pure]

theorem one_rel {μ : Mu} {vs vs' : List Value} (h : VRels μ vs vs') : VRel μ (oneOf vs) (if h : vs'.toArray.size = 1 then vs'.toArray[0] else .tuple vs'.toArray) := by
  cases h with
  | nil => exact .plain _ rfl
  | cons v v' l l' h1 h2 =>
    cases h2 with
    | nil => exact h1
    | cons v2 v2' l2 l2' h3 h4 => simpa [oneOf] using VRel.tuple ⟨v :: v2 :: l2⟩ ⟨v' :: v2' :: l2'⟩ (.cons _ _ _ _ h1 (.cons _ _ _ _ h3 h4))

include ok in
theorem sim_res {fr : Fr} {μ : Mu} {w : World} {tmps : Array Value} {fn : Func} (hfr : FRel μ fr tmps) {vs : List Value} {s s' : St} (h : resultsA E fr fn.results.toList s = some (vs, s')) (hs : SRel base μ s.rows.get w) :
    s'.rows = s.rows ∧ s'.next = s.next ∧ ∃ v', VRel μ (oneOf vs) v' ∧ (results fn tmps).run E.P w = .ok v' w := by
  obtain ⟨e1, e2, vs', hv, hr⟩ := sim_results ok hfr _ vs s s' h hs
  refine ⟨e1, e2, _, one_rel hv, ?_⟩
  have he : results fn tmps = (do let vs ← fn.results.mapM (resSem tmps); pure (if h : vs.size = 1 then vs[0] else .tuple vs)) := rfl
  rw [he, Array.mapM_eq_mapM_toList]
  simp only [map_eq_pure_bind, bind_assoc, pure_bind, Sem.run_bind, hr, Result.andThen_ok, Sem.run_pure]

/-! ### The code -/
def CodeSim (E : Env) (base : Nat) (n : Nat) : Prop :=
  ∀ (c : Code) (fr fr' : Fr) (x : X) (s s' : St) (μ : Mu) (a : Act) (w : World) (Q : Exit → Act → World → Prop), ev E n c fr s = some ((x, fr'), s') → codeOk E c = true → FRel μ fr a.tmps → SRel base μ s.rows.get w → Globs E μ →
    (∀ r, s.next ≤ r → r < s'.next → μ r = none) →
    (∀ μ' a' w' e, XRel x e → FRel μ' fr' a'.tmps → a'.defers = a.defers → SRel base μ' s'.rows.get w' → Grew base μ μ' s.next s'.next w w' → Q e a' w') → c.wp E.P Q a w

theorem fill_get : ∀ (l : List Value) (k : Nat) (t : FT 5), k + l.length ≤ 1024 → ∀ i, i < 1024 → FT.get 5 (Fr.fill l k t) i = if i < k then FT.get 5 t i else (l[i - k]?).getD (FT.get 5 t i)
  | [], k, t, _, i, _ => by unfold Fr.fill; simp
  | v :: l, k, t, h, i, hi => by
    rw [Fr.fill_cons]
    simp only [List.length_cons] at h
    rw [fill_get l (k + 1) _ (by omega) i hi, FT.get_put 5 t k i v (by show k < 1024; omega) (by show i < 1024; omega)]
    rcases Nat.lt_trichotomy i k with h1 | h1 | h1
    · rw [if_pos (by omega), if_neg (by omega), if_pos h1]
    · subst h1; simp
    · rw [if_neg (by omega), if_neg (by omega), if_neg (by omega)]
      rw [show i - k = i - (k + 1) + 1 by omega, List.getElem?_cons_succ]

theorem init_rel {μ : Mu} {n : Nat} {args : List Value} {args' : Array Value} (h : VRels μ args args'.toList) (hn : max n args.length ≤ 1024) :
    FRel μ (Fr.init n args) (args' ++ Array.replicate (n - args'.size) undef) := by
  have hl : args'.size = args.length := by have := h.length; simpa using this
  refine ⟨?_, hn, fun t ht => ?_⟩
  · simp only [Fr.init, Array.size_append, Array.size_replicate, hl]; omega
  · have ht' : t < max n args.length := ht
    show VRel μ (FT.get 5 (Fr.fill args 0 (FT.all undef 5)) t) _
    rw [fill_get args 0 _ (by omega) t (by omega), if_neg (by omega), Nat.sub_zero, FT.get_all]
    rcases Nat.lt_or_ge t args.length with h1 | h1
    · obtain ⟨v', hv, hr⟩ := h.get t _ (List.getElem?_eq_getElem h1)
      rw [List.getElem?_eq_getElem h1]
      rw [Array.getElem?_toList] at hv
      simp only [Array.getD_eq_getD_getElem?, Array.getElem?_append_left (by omega : t < args'.size), hv, Option.getD_some]
      exact hr
    · rw [List.getElem?_eq_none h1]
      simp only [Array.getD_eq_getD_getElem?, Array.getElem?_append_right (by omega : args'.size ≤ t), Array.getElem?_replicate, Option.getD_none]
      split <;> exact .plain _ rfl

include ok cok in
theorem sim_callF {n : Nat} (hev : CodeSim E base n) : CallSim E base (callF E (ev E n)) := by
  refine ⟨fun f args => Loc.callF E (Loc.ev E n) f args, fun f args v s s' μ w args' h hv hs hgl hf => ?_⟩
  unfold callF at h
  cases hdk : E.dk f with
  | some F =>
    rw [hdk] at h
    exact known_ok ok hdk h hv hs hf
  | none =>
  rw [hdk] at h
  simp only at h
  cases hsk : E.sk f with
  | some g =>
    rw [hsk] at h
    exact sorted_ok (ok.sk f g hsk) h hv hs hf
  | none =>
  rw [hsk] at h
  simp only at h
  cases hpk : E.pk f with
  | some p =>
    rw [hpk] at h
    exact peeks_ok (ok.pk f p hpk) hgl.2.1 h hv hs
  | none =>
  rw [hpk] at h
  simp only at h
  rw [M.within_eq] at h
  split at h
  · rename_i v1 s1 h1
    injection h with h; injection h with e1 e2; subst e1; subst e2
    cases hfn : E.fn f with
    | none => rw [hfn] at h1; rw [fail_some] at h1; exact h1.elim
    | some fn =>
      simp only [hfn] at h1
      cases hb : fn.body with
      | none => rw [hb] at h1; rw [fail_some] at h1; exact h1.elim
      | some c =>
        simp only [hb] at h1
        cases hle : Nat.ble (max fn.ntmps args.length) 1024 with
        | false => rw [hle, cond_false, fail_some] at h1; exact h1.elim
        | true =>
          rw [hle, cond_true, bind_some] at h1
          obtain ⟨⟨x, fr'⟩, s2, h2, h3⟩ := h1
          have hfin : x ≠ .normal → x ≠ .ret → False := by
            intro n1 n2
            cases x with
            | normal => exact n1 rfl
            | ret => exact n2 rfl
            | exit k => simp only [fail_some] at h3
          have h4 : (M.bind (resultsA E fr' fn.results.toList) fun vs => M.pure (oneOf vs)) s2 = some (v1, s1) := by
            cases x with
            | normal => exact h3
            | ret => exact h3
            | exit k => simp only [fail_some] at h3
          rw [bind_some] at h4
          obtain ⟨vs, s3, h5, h6⟩ := h4
          rw [pure_some] at h6
          obtain ⟨rfl, rfl⟩ := h6
          obtain ⟨hP, _, _⟩ := ok.fn f fn hfn
          have hnext : s2.next ≤ s1.next := by obtain ⟨_, _, r⟩ := Loc.resultsA E fr' _ s2 vs s1 h5; exact r.next
          refine calls_of_wp hP hb ?_
          refine hev c _ fr' x _ s2 μ _ w _ h2 (cok f fn c hfn hb) (init_rel hv (Nat.le_of_ble_eq_true hle)) hs hgl (fun r h1 h2 => hf r h1 (by show r < s1.next; omega)) fun μ' a' w' e hx hfr hd hs' hg => ?_
          obtain ⟨e1, e2, v', hv', hr⟩ := sim_res ok hfr h5 hs'
          have hg' : Grew base μ μ' s.next s1.next w w' := by rw [e2]; exact hg
          have hs3 : SRel base μ' s1.rows.get w' := by rw [e1]; exact hs'
          cases x with
          | normal => cases e <;> first | exact hx.elim | exact ⟨hd, v', hr, v', μ', rfl, hv', hs3, hg'⟩
          | ret => cases e <;> first | exact hx.elim | exact ⟨hd, v', hr, v', μ', rfl, hv', hs3, hg'⟩
          | exit k => exact (hfin (by simp) (by simp)).elim
  · cases h
end
end Go.Cm
namespace Go.Cm
open Go Go.RowKit

section
variable {E : Env} (ok : E.Ok) (cok : E.Coded) {base : Nat}

theorem two_fresh {base : Nat} {μ μ1 : Mu} {n n1 n' : Nat} {w w1 : World} (hf : ∀ r, n ≤ r → r < n' → μ r = none) (hg : Grew base μ μ1 n n1 w w1) (h : n ≤ n1) : ∀ r, n1 ≤ r → r < n' → μ1 r = none := by
  intro r h1 h2
  rcases hμ : μ1 r with _ | K
  · rfl
  · have := hg.new r (hf r (by omega) h2) (by rw [hμ]; simp)
    omega

include ok cok in
theorem sim_code : ∀ n, CodeSim E base n
  | 0 => fun c fr fr' x s s' μ a w Q h => by unfold ev at h; rw [fail_some] at h; exact h.elim
  | n + 1 => by
    have ih := sim_code n
    have hcall := sim_callF ok cok ih
    intro c fr fr' x s s' μ a w Q h hok hfr hs hgl hf hQ
    unfold ev at h
    cases c with
    | skip =>
      simp only [pure_some, Prod.mk.injEq] at h
      obtain ⟨⟨rfl, rfl⟩, rfl⟩ := h
      exact wp_skip (hQ μ a w .normal trivial hfr rfl hs (Grew.refl _ _ _ _ _))
    | label l =>
      simp only [pure_some, Prod.mk.injEq] at h
      obtain ⟨⟨rfl, rfl⟩, rfl⟩ := h
      exact wp_label (hQ μ a w .normal trivial hfr rfl hs (Grew.refl _ _ _ _ _))
    | ret =>
      simp only [pure_some, Prod.mk.injEq] at h
      obtain ⟨⟨rfl, rfl⟩, rfl⟩ := h
      exact wp_ret (hQ μ a w .ret trivial hfr rfl hs (Grew.refl _ _ _ _ _))
    | exit id =>
      simp only [pure_some, Prod.mk.injEq] at h
      obtain ⟨⟨rfl, rfl⟩, rfl⟩ := h
      exact wp_exit (hQ μ a w (.exit id) rfl hfr rfl hs (Grew.refl _ _ _ _ _))
    | region id ops draw =>
      simp only at h
      unfold codeOk at hok
      rw [Bool.and_eq_true] at hok
      cases draw with
      | true =>
        simp only [cond_true] at h hok
        rw [bind_some] at h
        obtain ⟨fr1, s1, h1, h2⟩ := h
        rw [pure_some] at h2
        simp only [Prod.mk.injEq] at h2
        obtain ⟨⟨rfl, rfl⟩, rfl⟩ := h2
        exact sim_draw ok hcall h1 hok.1 hok.2 hfr hs hgl hf fun μ' a' w' h1 h2 h3 h4 => hQ μ' a' w' .normal trivial h1 h2 h3 h4
      | false =>
        simp only [cond_false] at h
        rw [bind_some] at h
        obtain ⟨fr1, s1, h1, h2⟩ := h
        rw [pure_some] at h2
        simp only [Prod.mk.injEq] at h2
        obtain ⟨⟨rfl, rfl⟩, rfl⟩ := h2
        refine wp_region ?_
        have hall : ∀ o ∈ ops.toList, opOk E o = true := by have := hok.1; rw [List.all_eq_true] at this; exact this
        have := sim_ops ok hcall (Q := Q) ops.toList 0 fr fr' a s s' μ w (by simp) h1 hall hfr hs hgl hf fun μ' a' w' h1 h2 h3 h4 => hQ μ' a' w' .normal trivial h1 h2 h3 h4
        rw [Array.length_toList, ← List.range_eq_range'] at this
        exact this
    | seq c1 c2 =>
      simp only at h
      unfold codeOk at hok
      rw [Bool.and_eq_true] at hok
      rw [bind_some] at h
      obtain ⟨⟨x1, fr1⟩, s1, h1, h2⟩ := h
      obtain ⟨_, _, r1⟩ := Loc.ev E n c1 fr s _ s1 h1
      have hn1 := r1.next
      have hn2 : s1.next ≤ s'.next := by
        cases x1 with
        | normal => obtain ⟨_, _, r2⟩ := Loc.ev E n c2 fr1 s1 _ s' h2; exact r2.next
        | exit k => rw [pure_some] at h2; obtain ⟨_, rfl⟩ := h2; exact Nat.le_refl _
        | ret => rw [pure_some] at h2; obtain ⟨_, rfl⟩ := h2; exact Nat.le_refl _
      refine wp_seq ?_
      refine ih c1 fr fr1 x1 s s1 μ a w _ h1 hok.1 hfr hs hgl (fun r h1 h2 => hf r h1 (by omega)) fun μ1 a1 w1 e hx hfr1 hd1 hs1 hg1 => ?_
      cases x1 with
      | normal =>
        cases e with
        | normal =>
          simp only at h2
          refine ih c2 fr1 fr' x s1 s' μ1 a1 w1 Q h2 hok.2 hfr1 hs1 (hgl.mono hg1.le) (two_fresh hf hg1 hn1) fun μ2 a2 w2 e2 hx2 hfr2 hd2 hs2 hg2 => ?_
          exact hQ μ2 a2 w2 e2 hx2 hfr2 (hd2.trans hd1) hs2 (hg1.trans hg2 hn1 hn2)
        | _ => exact hx.elim
      | exit k =>
        simp only [pure_some, Prod.mk.injEq] at h2
        obtain ⟨⟨rfl, rfl⟩, rfl⟩ := h2
        cases e with
        | exit k' => exact hQ μ1 a1 w1 _ hx hfr1 hd1 hs1 hg1
        | _ => exact hx.elim
      | ret =>
        simp only [pure_some, Prod.mk.injEq] at h2
        obtain ⟨⟨rfl, rfl⟩, rfl⟩ := h2
        cases e with
        | ret => exact hQ μ1 a1 w1 _ hx hfr1 hd1 hs1 hg1
        | _ => exact hx.elim
    | cond o c1 c2 =>
      simp only at h
      unfold codeOk at hok
      rw [Bool.and_eq_true, Bool.and_eq_true] at hok
      have hrel : VRel μ (fr.eval o) (a.eval o) := eval_rel hok.1.1 hgl fun t _ => hfr.get t
      cases ht : fr.eval o with
      | bool t =>
        rw [ht] at hrel
        simp only [ht] at h
        have hb := hrel.ofBool
        cases t with
        | true => exact wp_cond_true hb (ih c1 fr fr' x s s' μ a w Q h hok.1.2 hfr hs hgl hf hQ)
        | false => exact wp_cond_false hb (ih c2 fr fr' x s s' μ a w Q h hok.2 hfr hs hgl hf hQ)
      | _ => simp only [ht] at h; rw [fail_some] at h; exact h.elim
    | block id c =>
      simp only at h
      unfold codeOk at hok
      rw [bind_some] at h
      obtain ⟨⟨x1, fr1⟩, s1, h1, h2⟩ := h
      refine wp_block ?_
      have hsn : s1 = s' := by
        cases x1 with
        | normal => rw [pure_some] at h2; exact h2.2.symm
        | ret => rw [pure_some] at h2; exact h2.2.symm
        | exit k => simp only at h2; cases hk : Nat.beq k id <;> rw [hk] at h2 <;> exact (pure_some.1 h2).2.symm
      subst hsn
      refine ih c fr fr1 x1 s s1 μ a w _ h1 hok hfr hs hgl hf fun μ1 a1 w1 e hx hfr1 hd1 hs1 hg1 => ?_
      cases x1 with
      | normal =>
        simp only [pure_some, Prod.mk.injEq] at h2
        obtain ⟨⟨rfl, rfl⟩, _⟩ := h2
        cases e with
        | normal => exact hQ μ1 a1 w1 .normal trivial hfr1 hd1 hs1 hg1
        | _ => exact hx.elim
      | ret =>
        simp only [pure_some, Prod.mk.injEq] at h2
        obtain ⟨⟨rfl, rfl⟩, _⟩ := h2
        cases e with
        | ret => exact hQ μ1 a1 w1 .ret trivial hfr1 hd1 hs1 hg1
        | _ => exact hx.elim
      | exit k =>
        cases e with
        | exit k' =>
          have : k = k' := hx
          subst this
          simp only at h2
          show (if k = id then Q .normal a1 w1 else Q (.exit k) a1 w1)
          cases hk : Nat.beq k id with
          | true =>
            rw [hk, cond_true, pure_some] at h2
            simp only [Prod.mk.injEq] at h2
            obtain ⟨⟨rfl, rfl⟩, _⟩ := h2
            rw [if_pos (Nat.eq_of_beq_eq_true hk)]
            exact hQ μ1 a1 w1 .normal trivial hfr1 hd1 hs1 hg1
          | false =>
            rw [hk, cond_false, pure_some] at h2
            simp only [Prod.mk.injEq] at h2
            obtain ⟨⟨rfl, rfl⟩, _⟩ := h2
            rw [if_neg (by rintro rfl; rw [Nat.beq_refl] at hk; cases hk)]
            exact hQ μ1 a1 w1 (.exit k) rfl hfr1 hd1 hs1 hg1
        | _ => exact hx.elim
    | scope c =>
      simp only at h
      unfold codeOk at hok
      refine wp_scope_straight (ih c fr fr' x s s' μ a w _ h hok hfr hs hgl hf fun μ1 a1 w1 e hx hfr1 hd1 hs1 hg1 => ?_)
      cases e with
      | goto l => cases x <;> exact hx.elim
      | _ => exact hQ μ1 a1 w1 _ hx hfr1 hd1 hs1 hg1
    | loop c =>
      have key : ∀ m (fr fr' : Fr) (x : X) (s s' : St) (μ : Mu) (a : Act) (w : World) (Q : Exit → Act → World → Prop), m ≤ n + 1 → (∀ k, k < m → CodeSim E base k) → ev E m (.loop c) fr s = some ((x, fr'), s') → FRel μ fr a.tmps → SRel base μ s.rows.get w → Globs E μ →
          (∀ r, s.next ≤ r → r < s'.next → μ r = none) →
          (∀ μ' a' w' e, XRel x e → FRel μ' fr' a'.tmps → a'.defers = a.defers → SRel base μ' s'.rows.get w' → Grew base μ μ' s.next s'.next w w' → Q e a' w') → Code.rounds E.P c Q m a w := by
        intro m
        induction m with
        | zero => intro fr fr' x s s' μ a w Q _ _ h; unfold ev at h; rw [fail_some] at h; exact h.elim
        | succ m ihm =>
          intro fr fr' x s s' μ a w Q hm hall h hfr hs hgl hf hQ
          unfold ev at h
          simp only at h
          rw [bind_some] at h
          obtain ⟨⟨x1, fr1⟩, s1, h1, h2⟩ := h
          obtain ⟨_, _, r1⟩ := Loc.ev E m c fr s _ s1 h1
          have hn1 := r1.next
          have hn2 : s1.next ≤ s'.next := by
            cases x1 with
            | normal => obtain ⟨_, _, r2⟩ := Loc.ev E m (.loop c) fr1 s1 _ s' h2; exact r2.next
            | exit k => rw [pure_some] at h2; obtain ⟨_, rfl⟩ := h2; exact Nat.le_refl _
            | ret => rw [pure_some] at h2; obtain ⟨_, rfl⟩ := h2; exact Nat.le_refl _
          rw [rounds_succ]
          refine hall m (Nat.lt_succ_self _) c fr fr1 x1 s s1 μ a w _ h1 (by unfold codeOk at hok; exact hok) hfr hs hgl (fun r h1 h2 => hf r h1 (by omega)) fun μ1 a1 w1 e hx hfr1 hd1 hs1 hg1 => ?_
          cases x1 with
          | normal =>
            cases e with
            | normal =>
              simp only at h2
              refine ihm fr1 fr' x s1 s' μ1 a1 w1 Q (by omega) (fun k hk => hall k (by omega)) h2 hfr1 hs1 (hgl.mono hg1.le) (two_fresh hf hg1 hn1) fun μ2 a2 w2 e2 hx2 hfr2 hd2 hs2 hg2 => ?_
              exact hQ μ2 a2 w2 e2 hx2 hfr2 (hd2.trans hd1) hs2 (hg1.trans hg2 hn1 hn2)
            | _ => exact hx.elim
          | exit k =>
            simp only [pure_some, Prod.mk.injEq] at h2
            obtain ⟨⟨rfl, rfl⟩, rfl⟩ := h2
            cases e with
            | exit k' => exact hQ μ1 a1 w1 _ hx hfr1 hd1 hs1 hg1
            | _ => exact hx.elim
          | ret =>
            simp only [pure_some, Prod.mk.injEq] at h2
            obtain ⟨⟨rfl, rfl⟩, rfl⟩ := h2
            cases e with
            | ret => exact hQ μ1 a1 w1 _ hx hfr1 hd1 hs1 hg1
            | _ => exact hx.elim
      refine wp_loop_rounds (n + 1) (key (n + 1) fr fr' x s s' μ a w Q (Nat.le_refl _) (fun k hk => ?_) (by unfold ev; exact h) hfr hs hgl hf hQ)
      exact sim_code k
    | goto l => simp only [fail_some] at h
    | rangeFunc g ps c1 c2 => simp only [fail_some] at h
    | refuse m => simp only [fail_some] at h

include ok cok in
/-- WHAT A RUN SHOWS: where the machine's call answers, the model's call answers alike, and of what there was before nothing turns. -/
theorem run_sound {n : Nat} {f : FuncId} {args : List Value} {s s' : St} {v : Value} (h : run E n f args s = some (v, s')) {μ : Mu} {w : World} {args' : Array Value} (hv : VRels μ args args'.toList)
    (hs : SRel base μ s.rows.get w) (hgl : Globs E μ) (hf : ∀ r, s.next ≤ r → r < s'.next → μ r = none) :
    Calls E.P f args' w fun e w' => ∃ v' μ', e = .returned v' ∧ VRel μ' v v' ∧ SRel base μ' s'.rows.get w' ∧ Grew base μ μ' s.next s'.next w w' :=
  (sim_callF ok cok (sim_code ok cok n)).2 f args v s s' μ w args' h hv hs hgl hf
end
end Go.Cm
namespace Go.Cm
open Go Go.RowKit

/-- A tree of what f gives below n: at x it holds what f gives at a * x + b. -/
noncomputable def T.of {α : Type} (f : Nat → Option α) (n : Nat) : Nat → Nat → Nat → T α
  | 0, _, _ => .leaf
  | d + 1, a, b => .node (T.of f n d (Nat.mul 2 a) (Nat.add a b)) (bif Nat.blt b n then f b else none) (T.of f n d (Nat.mul 2 a) (Nat.add (Nat.mul 2 a) b))

theorem T.of_get {α : Type} (f : Nat → Option α) (n : Nat) : ∀ (d a b x : Nat) (v : α), (T.of f n d a b).get x = some v → f (a * x + b) = some v ∧ a * x + b < n
  | 0, a, b, x, v, h => by rw [T.of, T.get_leaf] at h; cases h
  | d + 1, a, b, x, v, h => by
    rw [T.of, T.get_node] at h
    by_cases h0 : x = 0
    · subst h0
      rw [if_pos rfl] at h
      cases hb : Nat.blt b n with
      | false => rw [hb] at h; cases h
      | true => rw [hb] at h; simpa using ⟨h, blt_lt0 hb⟩
    · rw [if_neg h0] at h
      by_cases h1 : x % 2 = 1
      · rw [if_pos h1] at h
        have := T.of_get f n d _ _ _ v h
        have e : Nat.mul 2 a * (x / 2) + Nat.add a b = a * x + b := by
          have hx : x = 2 * (x / 2) + 1 := by omega
          show 2 * a * (x / 2) + (a + b) = a * x + b
          conv => rhs; rw [hx]
          rw [Nat.mul_add, Nat.mul_one, Nat.mul_comm 2 a, Nat.mul_assoc, Nat.add_assoc]
        rwa [e] at this
      · rw [if_neg h1] at h
        have := T.of_get f n d _ _ _ v h
        have e : Nat.mul 2 a * (x / 2 - 1) + Nat.add (Nat.mul 2 a) b = a * x + b := by
          have hx : x = 2 * (x / 2 - 1) + 2 := by omega
          show 2 * a * (x / 2 - 1) + (2 * a + b) = a * x + b
          conv => rhs; rw [hx]
          rw [Nat.mul_add, Nat.mul_comm 2 a, Nat.mul_assoc, Nat.add_assoc]
        rwa [e] at this

/-- Which functions are let in: the bits of a number. -/
noncomputable def funcOf (P : Program) (mask : Nat) (i : Nat) : Option Func := bif Nat.testBit mask i then P.funcs[i]? else none
noncomputable def unds (P : Program) : T TypeDesc := T.of P.underlying P.types.size 12 1 0
noncomputable def infos (P : Program) : T TypeInfo := T.of P.info? P.types.size 12 1 0
noncomputable def funcs (P : Program) (mask : Nat) : T Func := T.of (funcOf P mask) P.funcs.size 12 1 0

noncomputable def goodAt (E : Env) (i : Nat) : Bool :=
  match E.P.funcs[i]? with
  | some fn => (match fn.body with | some c => codeOk E c | none => false) && fn.name != "runtime.NumGoroutine"
  | none => true
noncomputable def goodAll (E : Env) (mask n : Nat) : Bool := (List.range n).all fun i => !Nat.testBit mask i || goodAt E i

structure Env.Made (E : Env) (mask : Nat) : Prop where
  und : E.und = (unds E.P).get
  info : E.info = (infos E.P).get
  fn : E.fn = (funcs E.P mask).get
  good : goodAll E mask E.P.funcs.size = true
  mixed : E.P.follows .mixedOrders = true
  sk : ∀ f g, E.sk f = some g → SkOk E.P f g := by intro f g h; cases h
  pk : ∀ f p, E.pk f = some p → PkOk E.P E.sy f p.1 p.2 := by intro f p h; cases h
  askB : ∀ (μ : Mu) (l l' : List Value) (v : Value), E.askB l = some v → μ.sy = E.sy → VRels μ l l' → ∃ ns : List Int, l' = ns.map (Value.int .u8) ∧ TokV E.sy v (.string ⟨⟨ns.map fun n => UInt8.ofNat n.toNat⟩⟩) := by intro μ l l' v h; cases h
  askY : ∀ (x x' : Value) (l : List Value), E.askY x = some l → TokV E.sy x x' → ∃ t : ByteArray, x' = .string t ∧ l.length = t.size ∧ ∀ (i : Nat) (v : Value), l[i]? = some v → ∃ b, t.data.toList[i]? = some b ∧ TokV E.sy v (.int .u8 b.toNat) := by intro x x' l h; cases h
  ext : ∀ f e args v, E.ext f = some e → plains args = true → e args = some v → plain v = true ∧ ∀ w, Known E.P f ⟨args⟩ v w
  dk : ∀ f F ds v rows, E.dk f = some F → F ds = some (v, rows) → DeepOk E.P f ds v rows
  ask : ∀ op t xo yo x y v x' y' w, E.ask op x y = some v → TokV E.sy x x' → TokV E.sy y y' → ∃ v', (do eqGuard op t xo yo x' y'; binOp op t x' y').run E.P w = .ok v' w ∧ TokV E.sy v v'
  askLen : ∀ (t ty : TypeId) (x v x' : Value) (w : World) (ts : Array TypeId) (args : Array Value), E.askLen t x = some v → TokV E.sy x x' → ts[0]? = some t → args[0]? = some x' → ∃ v', (Builtin.len_ ts ty args).run E.P w = .ok v' w ∧ TokV E.sy v v'
  kt : ∀ f e args v (μ : Mu) args' (w : World), E.kt f = some e → e args = some v → μ.sy = E.sy → (∀ b o, μ.fz b = some o → w.heap[b]? = some o) → VRels μ args args'.toList → ∃ v', VRel μ v v' ∧ Known E.P f args' v' w
  askC : ∀ (s d : TypeId) (x v x' : Value) (w : World), E.askC s d x = some v → TokV E.sy x x' → (∀ b o, E.fz b = some o → w.heap[b]? = some o) → ∃ v', (convert s d x').run E.P w = .ok v' w ∧ TokV E.sy v v'
  askS : ∀ (t : TypeId) (x v x' : Value) (lo hi mx : Option Value) (w : World), E.askS t x lo hi mx = some v → TokV E.sy x x' → ∃ v', (Instr.sliceAt t x' lo hi mx).run E.P w = .ok v' w ∧ TokV E.sy v v'

theorem noAsk {E : Env} (h : E.ask = fun _ _ _ => none := by rfl) : ∀ op t xo yo x y v x' y' w, E.ask op x y = some v → TokV E.sy x x' → TokV E.sy y y' → ∃ v', (do eqGuard op t xo yo x' y'; binOp op t x' y').run E.P w = .ok v' w ∧ TokV E.sy v v' :=
  fun _ _ _ _ _ _ _ _ _ _ h' => by rw [h] at h'; cases h'
theorem noLen {E : Env} (h : E.askLen = fun _ _ => none := by rfl) : ∀ (t ty : TypeId) (x v x' : Value) (w : World) (ts : Array TypeId) (args : Array Value), E.askLen t x = some v → TokV E.sy x x' → ts[0]? = some t → args[0]? = some x' → ∃ v', (Builtin.len_ ts ty args).run E.P w = .ok v' w ∧ TokV E.sy v v' :=
  fun _ _ _ _ _ _ _ _ h' => by rw [h] at h'; cases h'
theorem noKt {E : Env} (h : E.kt = fun _ => none := by rfl) : ∀ f e args v (μ : Mu) args' (w : World), E.kt f = some e → e args = some v → μ.sy = E.sy → (∀ b o, μ.fz b = some o → w.heap[b]? = some o) → VRels μ args args'.toList → ∃ v', VRel μ v v' ∧ Known E.P f args' v' w :=
  fun _ _ _ _ _ _ _ h' => by rw [h] at h'; cases h'
theorem noC {E : Env} (h : E.askC = fun _ _ _ => none := by rfl) : ∀ (s d : TypeId) (x v x' : Value) (w : World), E.askC s d x = some v → TokV E.sy x x' → (∀ b o, E.fz b = some o → w.heap[b]? = some o) → ∃ v', (convert s d x').run E.P w = .ok v' w ∧ TokV E.sy v v' :=
  fun _ _ _ _ _ _ h' => by rw [h] at h'; cases h'
theorem noS {E : Env} (h : E.askS = fun _ _ _ _ _ => none := by rfl) : ∀ (t : TypeId) (x v x' : Value) (lo hi mx : Option Value) (w : World), E.askS t x lo hi mx = some v → TokV E.sy x x' → ∃ v', (Instr.sliceAt t x' lo hi mx).run E.P w = .ok v' w ∧ TokV E.sy v v' :=
  fun _ _ _ _ _ _ _ _ h' => by rw [h] at h'; cases h'

theorem Env.Made.fn_some {E : Env} {mask : Nat} (m : E.Made mask) {f : FuncId} {fn : Func} (h : E.fn f = some fn) : E.P.funcs[f]? = some fn ∧ goodAt E f = true := by
  rw [m.fn] at h
  obtain ⟨h1, h2⟩ := T.of_get _ _ _ _ _ _ _ h
  rw [Nat.one_mul, Nat.add_zero] at h1 h2
  unfold funcOf at h1
  cases hb : Nat.testBit mask f with
  | false => rw [hb] at h1; cases h1
  | true =>
    rw [hb] at h1
    refine ⟨h1, ?_⟩
    have := m.good
    unfold goodAll at this
    rw [List.all_eq_true] at this
    have := this f (List.mem_range.2 h2)
    rw [hb] at this
    simpa using this

theorem Env.Made.ok {E : Env} {mask : Nat} (m : E.Made mask) : E.Ok where
  und := fun t d h => by
    rw [m.und] at h
    have := (T.of_get _ _ _ _ _ _ _ h).1
    rwa [Nat.one_mul, Nat.add_zero] at this
  info := fun t d h => by
    rw [m.info] at h
    have := (T.of_get _ _ _ _ _ _ _ h).1
    rwa [Nat.one_mul, Nat.add_zero] at this
  fn := fun f fn h => by
    obtain ⟨h1, h2⟩ := m.fn_some h
    refine ⟨h1, ?_⟩
    unfold goodAt at h2
    rw [h1] at h2
    simp only [Bool.and_eq_true, bne_iff_ne] at h2
    refine ⟨h2.2, ?_⟩
    cases hb : fn.body with
    | none => rw [hb] at h2; exact absurd h2.1 (by simp)
    | some c => rfl
  ext := m.ext
  mixed := m.mixed
  sk := m.sk
  pk := m.pk
  askB := m.askB
  askY := m.askY
  dk := m.dk
  ask := m.ask
  askLen := m.askLen
  kt := m.kt
  askC := m.askC
  askS := m.askS

theorem Env.Made.coded {E : Env} {mask : Nat} (m : E.Made mask) : E.Coded := fun f fn c h hb => by
  obtain ⟨h1, h2⟩ := m.fn_some h
  unfold goodAt at h2
  rw [h1] at h2
  simp only [hb, Bool.and_eq_true] at h2
  exact h2.1

theorem yes_run {E : Env} {n : Nat} {f : FuncId} {args : List Value} {next : Nat} (h : yes E n f args next = true) : ∃ s', run E n f args (St.empty next) = some (.bool true, s') := by
  unfold yes at h
  split at h
  · rename_i b s hr; subst h; exact ⟨s, hr⟩
  · cases h

/-- The names below n0 are the globals'. -/
noncomputable def globMu (n0 : Nat) (sy : Nat → Value → Prop := fun _ _ => False) : Mu := ⟨fun r => if r < n0 then some ⟨r, 0, 0, 0, 0⟩ else .none, fun _ => none, sy⟩
theorem globMu_at {n0 r : Nat} {sy : Nat → Value → Prop} (h : r < n0) : (globMu n0 sy) r = some ⟨r, 0, 0, 0, 0⟩ := if_pos h
theorem globMu_none {n0 r : Nat} {sy : Nat → Value → Prop} (h : ¬ r < n0) : (globMu n0 sy) r = none := if_neg h

/-- A CLOSED CALL: it answers true, and of what there was nothing turns. -/
theorem closedAt {E : Env} (ok : E.Ok) (cok : E.Coded) {n0 : Nat} (hg : ∀ g, E.glob g = true → g < n0) {n : Nat} {f : FuncId} {args : List Value} {args' : Array Value} (h : yes E n f args n0 = true) (hv : VRels (globMu n0 E.sy) args args'.toList) (w : World) (hz : ∀ b, E.fz b = none := by intro _; rfl) :
    Calls E.P f args' w fun e w' => e = .returned (.bool true) ∧ Below w.heap.size w w' := by
  obtain ⟨s', hr⟩ := yes_run h
  have hs : SRel w.heap.size (globMu n0 E.sy) (St.empty n0).rows.get w :=
    { ge := Nat.le_refl _
      dom := fun r x L h _ => by unfold St.empty at h; rw [D.get_leaf] at h; cases h
      row := fun r x h => by unfold St.empty at h; rw [D.get_leaf] at h; cases h
      apart := fun r q x y L K _ h => by unfold St.empty at h; rw [D.get_leaf] at h; cases h
      cold := fun b o h => by cases h
      hot := fun r x L h => by unfold St.empty at h; rw [D.get_leaf] at h; cases h
      old := fun r x L h => by unfold St.empty at h; rw [D.get_leaf] at h; cases h }
  refine Calls.mono (run_sound ok cok hr hv hs ⟨fun g h => ⟨0, 0, 0, globMu_at (hg g h)⟩, rfl, fun b o h => by rw [hz] at h; cases h⟩ fun r h _ => ?_) ?_
  · have h' : n0 ≤ r := h
    exact globMu_none (by omega)
  · rintro e w' ⟨v', μ', rfl, hv', _, hgr⟩
    have := hv'.ofBool
    subst this
    exact ⟨rfl, hgr.below⟩
theorem closed {E : Env} (ok : E.Ok) (cok : E.Coded) (hg : ∀ g, E.glob g = false) {n : Nat} {f : FuncId} {args : List Value} {args' : Array Value} (h : yes E n f args 0 = true) (hv : VRels (globMu 0 E.sy) args args'.toList) (w : World) (hz : ∀ b, E.fz b = none := by intro _; rfl) :
    Calls E.P f args' w fun e w' => e = .returned (.bool true) ∧ Below w.heap.size w w' :=
  closedAt ok cok (fun g h => by rw [hg g] at h; cases h) h hv w hz

/-- What is known of a closed call may be used of it where it is called. -/
theorem known_of {P : Program} {f : FuncId} {fn : Func} {args : List Value} {v : Value} (hf : P.funcs[f]? = some fn) (hn : fn.name ≠ "runtime.NumGoroutine") (hb : fn.body.isSome = true)
    (h : ∀ w, Calls P f ⟨args⟩ w fun e w' => e = .returned v ∧ Below w.heap.size w w') (w : World) : Known P f ⟨args⟩ v w := by
  right
  refine ⟨?_, h w⟩
  unfold callFunc
  have hname : (fn.name == "runtime.NumGoroutine") = false := by simpa using hn
  have hbody : fn.body.isNone = false := by cases hb : fn.body <;> simp_all
  simp only [Sem.run_bind, run_program, Result.andThen_ok, hf, hname, Bool.false_eq_true, if_false, hbody, Sem.run_pure]

/-- One call known beforehand, of no arguments, that answers true. -/
noncomputable def trueAt (f : FuncId) : FuncId → Option (List Value → Option Value) := fun g => bif Nat.beq g f then some (fun l => match l with | [] => some (.bool true) | _ => none) else none
theorem trueAt_ok {P : Program} {f : FuncId} (h : ∀ w, Known P f #[] (.bool true) w) : ∀ g e args v, trueAt f g = some e → plains args = true → e args = some v → plain v = true ∧ ∀ w, Known P g ⟨args⟩ v w := by
  intro g e args v hg _ he
  unfold trueAt at hg
  cases hb : Nat.beq g f with
  | false => rw [hb] at hg; cases hg
  | true =>
    have := Nat.eq_of_beq_eq_true hb
    subst this
    rw [hb] at hg
    injection hg with hg
    subst hg
    cases args with
    | nil => simp only [Option.some.injEq] at he; subst he; exact ⟨rfl, h⟩
    | cons => cases he

/-- A function without a body that looks at no memory and asks nothing: by the model's own words. -/
noncomputable def externA (P : Program) (f : FuncId) (args : List Value) : Option Value :=
  (pureRun P (callFunc f ⟨args⟩)).bind fun nx => match nx with
    | .value v => (guardO (plain v)).map fun _ => v
    | _ => none
noncomputable def externs (P : Program) (l : List FuncId) (g : FuncId) : Option (List Value → Option Value) := bif l.any (Nat.beq g) then some (externA P g) else none
noncomputable def orExt (a b : FuncId → Option (List Value → Option Value)) (g : FuncId) : Option (List Value → Option Value) :=
  match a g with
  | some e => some e
  | none => b g
noncomputable def ExtOk (P : Program) (x : FuncId → Option (List Value → Option Value)) : Prop :=
  ∀ f e args v, x f = some e → plains args = true → e args = some v → plain v = true ∧ ∀ w, Known P f ⟨args⟩ v w
theorem externs_ok (P : Program) (l : List FuncId) : ExtOk P (externs P l) := by
  intro f e args v hf _ he
  unfold externs at hf
  cases hb : l.any (Nat.beq f) with
  | false => rw [hb] at hf; cases hf
  | true =>
    rw [hb] at hf
    injection hf with hf
    subst hf
    unfold externA at he
    rw [Option.bind_eq_some_iff] at he
    obtain ⟨nx, h1, h2⟩ := he
    cases nx with
    | value u =>
      simp only [Option.map_eq_some_iff, guardO_some] at h2
      obtain ⟨_, hp, rfl⟩ := h2
      exact ⟨hp, fun w => Or.inl ⟨w, pureRun_ok _ _ h1 w, Below.refl _ _⟩⟩
    | _ => cases h2
theorem orExt_ok {P : Program} {a b : FuncId → Option (List Value → Option Value)} (ha : ExtOk P a) (hb : ExtOk P b) : ExtOk P (orExt a b) := by
  intro f e args v hf hp he
  unfold orExt at hf
  cases h : a f with
  | some x => rw [h] at hf; injection hf with hf; subst hf; exact ha f x args v h hp he
  | none => rw [h] at hf; exact hb f e args v hf hp he

/-- A number of which only what is left by 255, and then by m, is known. -/
theorem sym_rest (n : Int) (m : Nat) (hm : 0 < m) (hm2 : m < 1024) : ∃ k, k < m ∧ ∀ μ, VRel μ (symAt 0 m k) (.int .i64 n) := by
  have h := lowOf_range n
  refine ⟨(lowOf n 255 % (m : Int)).toNat, ?_, fun μ => .sym _ n ?_⟩
  · have h1 := Int.emod_lt_of_pos (lowOf n 255) (by omega : (0 : Int) < m)
    have h2 := Int.emod_nonneg (lowOf n 255) (by omega : (m : Int) ≠ 0)
    omega
  · have h1 := Int.emod_lt_of_pos (lowOf n 255) (by omega : (0 : Int) < m)
    have h2 := Int.emod_nonneg (lowOf n 255) (by omega : (m : Int) ≠ 0)
    generalize hr : lowOf n 255 % (m : Int) = r at h1 h2 ⊢
    have hk : r.toNat < 1024 := by omega
    unfold SymOk symM symK
    have e1 : (3 * (1024 * m + r.toNat) + 0) % 3 = 0 := by omega
    have e2 : (3 * (1024 * m + r.toNat) + 0) / 3 = 1024 * m + r.toNat := by omega
    refine ⟨by omega, ?_⟩
    show (match (3 * (1024 * m + r.toNat) + 0) % 3 with | 0 => _ | 1 => _ | _ => _)
    rw [e1]
    show lowOf n 255 % ((((3 * (1024 * m + r.toNat) + 0) / 3) / 1024 : Nat) : Int) = ((((3 * (1024 * m + r.toNat) + 0) / 3) % 1024 : Nat) : Int)
    rw [e2, show (1024 * m + r.toNat) / 1024 = m by omega, show (1024 * m + r.toNat) % 1024 = r.toNat by omega, hr]
    omega
/-- A number of which only what the bits of m leave is known. -/
theorem sym_bits (n : Int) (m : Nat) (hm : m < 1024) : ∃ k, k ≤ m ∧ ∀ μ, VRel μ (symAt 2 m k) (.int .i64 n) := by
  have h : (BitVec.ofInt 64 n &&& BitVec.ofInt 64 (m : Nat)).toNat ≤ m := by
    rw [BitVec.toNat_and]
    refine Nat.le_trans Nat.and_le_right ?_
    rw [BitVec.toNat_ofInt]; omega
  refine ⟨(BitVec.ofInt 64 n &&& BitVec.ofInt 64 (m : Nat)).toNat, h, fun μ => .sym _ n ?_⟩
  generalize hr : (BitVec.ofInt 64 n &&& BitVec.ofInt 64 (m : Nat)).toNat = r at h ⊢
  unfold SymOk symM symK
  have e1 : (3 * (1024 * m + r) + 2) % 3 = 2 := by omega
  have e2 : (3 * (1024 * m + r) + 2) / 3 = 1024 * m + r := by omega
  refine ⟨by omega, ?_⟩
  show (match (3 * (1024 * m + r) + 2) % 3 with | 0 => _ | 1 => _ | _ => _)
  rw [e1]
  show lowOf n (((3 * (1024 * m + r) + 2) / 3) / 1024) = ((((3 * (1024 * m + r) + 2) / 3) % 1024 : Nat) : Int)
  rw [e2, show (1024 * m + r) / 1024 = m by omega, show (1024 * m + r) % 1024 = r by omega]
  unfold lowOf
  rw [hr]
  exact IntWalk.i64_in (r : Int) (by omega)
end Go.Cm
