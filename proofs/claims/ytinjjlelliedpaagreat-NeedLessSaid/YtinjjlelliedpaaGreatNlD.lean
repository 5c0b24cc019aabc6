/-
  The law, of whatever arguments.
-/
import Derived.Test.YtinjjlelliedpaaGreatNlC
import Derived.Test.YtinjjlelliedpaaGreatCmLaw
namespace Go.Proofs.YtinjjlelliedpaaGreat.Cl
open Go Go.Cm

theorem low1 (n : Int) : lowOf n 1 = 0 ∨ lowOf n 1 = 1 := by
  have h : (BitVec.ofInt 64 n &&& BitVec.ofInt 64 (1 : Nat)).toNat ≤ 1 := by
    rw [BitVec.toNat_and]
    exact Nat.le_trans Nat.and_le_right (by decide)
  unfold lowOf
  rw [IntWalk.i64_in ((BitVec.ofInt 64 n &&& BitVec.ofInt 64 (1 : Nat)).toNat : Int) (by omega)]
  omega
theorem toks_get {n i : Nat} {v : Value} (h : (toks n)[i]? = some v) : i < n ∧ v = tok i := by
  unfold toks at h
  rw [List.getElem?_map, Option.map_eq_some_iff] at h
  obtain ⟨j, hj, rfl⟩ := h
  rcases Nat.lt_or_ge i n with h | h
  · rw [List.getElem?_range h] at hj; injection hj with hj; subst hj; exact ⟨h, rfl⟩
  · rw [List.getElem?_eq_none (by simpa using h)] at hj; cases hj
theorem say_int (x : Nat → Int) (i : Nat) (h : i < 10) : (sayB x)[i]? = some fun v => v = .int .i64 (x i) := by
  match i, h with
  | 0, _ => rfl
  | 1, _ => rfl
  | 2, _ => rfl
  | 3, _ => rfl
  | 4, _ => rfl
  | 5, _ => rfl
  | 6, _ => rfl
  | 7, _ => rfl
  | 8, _ => rfl
  | 9, _ => rfl
  | i + 10, h => omega
theorem flat_ints : ∀ (els : List (List Value)), (∀ x ∈ els, Ty.Has (.int .i64) x) → ∃ xs : List Int, els.flatten = xs.map (Value.int .i64) ∧ xs.length = els.length
  | [], _ => ⟨[], rfl, rfl⟩
  | e :: els, h => by
    obtain ⟨xs, h1, h2⟩ := flat_ints els fun x hx => h x (by simp [hx])
    obtain ⟨i, hi, _⟩ := h e (by simp)
    refine ⟨i :: xs, ?_, by simp [h2]⟩
    rw [List.flatten_cons, h1, hi]; rfl

theorem ints64_plain : ∀ ns : List Int, plains (ns.map (Value.int .i64)) = true
  | [] => rfl
  | _ :: l => plains_cons.2 ⟨rfl, ints64_plain l⟩

theorem less (cs : List Value) (hcs : HasArgs [.slice (.int .i64), .int .i64] cs) (W : World) (args : Array Value) (hc : Colds (fun b => W.heap[b]?) cs args.toList) :
    Calls Tryz.prog 3 args W fun e W' => e = .returned (.bool true) ∧ Go.RowKit.Below W.heap.size W W' := by
  obtain ⟨v, r, hv, ⟨a, r2, ⟨ai, hai, _⟩, hr2, rfl⟩, rfl⟩ := hcs
  have hr2 : r2 = [] := hr2
  subst hr2
  injection hai with hai _
  subst hai
  obtain ⟨al⟩ := args
  cases hc with
  | cons _ v' _ l' hv' hl =>
    cases hl with
    | cons _ a' _ l'' ha' hl' =>
      cases hl'
      have ha'' : a' = .int .i64 ai := by
        cases ha' with
        | plain => rfl
      subst ha''
      have closed0 : ∀ u, VRel (globMu 1 env1.sy) u v' → yesC env1 1000 100 3 [u, symAt 0 1 0] 1 = true → Calls Tryz.prog 3 #[v', .int .i64 ai] W fun e W' => e = .returned (.bool true) ∧ Go.RowKit.Below W.heap.size W W' := by
        intro u hu hy
        obtain ⟨k, hk, hr⟩ := sym_rest ai 1 (by decide) (by decide)
        have : k = 0 := by omega
        subst this
        obtain ⟨n, h⟩ := yes_of_fast hy
        exact closedAt made1.ok made1.coded (fun _ h => blt_lt0 h) h (args' := #[v', .int .i64 ai]) (.cons _ _ _ _ hu (.cons _ _ _ _ (hr _) .nil)) W
      rcases hv with hv | ⟨els, hlen, hels, hv⟩
      · injection hv with hv _
        subst hv
        have : v' = .slice none 0 0 := by cases hv' with | plain => rfl
        subst this
        exact closed0 _ (.plain _ rfl) none0
      · injection hv with hv _
        subst hv
        obtain ⟨xs, hx1, hx2⟩ := flat_ints els hels
        rw [hx1, ← hx2] at hv'
        generalize hn : xs.length = n at hv'
        unfold fzs at hv'
        cases hv' with
        | plain _ hp => simp [plain, plainN] at hp
        | arr _ _ ad cap l' hs hcap hl hm =>
          by_cases h0 : n = 0
          · subst h0
            have : xs = [] := List.length_eq_zero_iff.1 hn
            subst this
            exact closed0 (fzs 0 []) (.arr 0 [] ad cap [] (Or.inl rfl) (Nat.zero_le _) .nil (by simp)) some0
          · have hsp : ad.spot = none := hs.resolve_left h0
            obtain ⟨b, off, sp⟩ := ad
            simp only at hsp hm
            subst hsp
            have hl' : l' = xs.map (Value.int .i64) := by
              have := Colds.rel (μ := ⟨fun _ => none, fun b => W.heap[b]?, fun _ _ => False⟩) hl
              exact VRels.eq (ints64_plain xs) this
            subst hl'
            let x : Nat → Int := fun i => xs.getD i 0
            have hcell : ∀ i, i < n → W.cell? ⟨b, off + i, none⟩ = some (.int .i64 (x i)) := by
              intro i hi
              have h1 : (xs.map (Value.int .i64))[i]? = some (.int .i64 (x i)) := by
                rw [List.getElem?_map, List.getElem?_eq_getElem (by omega)]
                show some (Value.int .i64 xs[i]) = some (Value.int .i64 (xs.getD i 0))
                rw [List.getD_eq_getElem?_getD, List.getElem?_eq_getElem (by omega)]; rfl
              have h2 := hm i _ h1
              unfold objAt at h2
              unfold World.cell?
              simp only at h2 ⊢
              cases hb : W.heap[b]? with
              | none => rw [hb] at h2; cases h2
              | some o => rw [hb] at h2; cases o <;> simp only at h2 ⊢ <;> first | exact h2 | cases h2
            obtain ⟨o, ho⟩ : ∃ o, W.heap[b]? = some o := by
              have := hcell 0 (by omega)
              unfold World.cell? at this
              simp only at this
              cases hb : W.heap[b]? with
              | none => rw [hb] at this; cases this
              | some o => exact ⟨o, rfl⟩
            have row : ∀ (k N : Nat), k < 10 → N ≤ 10 → N ≤ n → (∀ β : Int, β = 0 ∨ β = 1 → yesR (envL k β x) 1000 100 3 [.slice (some ⟨1, 0, none⟩) n cap, symAt 0 N k] (.cells true 1 (toks N)) = true) →
                (∀ μ, VRel μ (symAt 0 N k) (.int .i64 ai)) → Calls Tryz.prog 3 #[.slice (some ⟨b, off, none⟩) n cap, .int .i64 ai] W fun e W' => e = .returned (.bool true) ∧ Go.RowKit.Below W.heap.size W W' := by
              intro k N hk hN hNn hy ha
              have m := madeL (k := k) (x := x) rfl
              refine rowed m.ok m.coded (fun _ h => blt_lt0 h) (fun _ => rfl) (hy _ (low1 _)) (b := b) (off := off) (ext := N) ho (fun i v hv => ?_) (by unfold toks; simp) ?_
              · obtain ⟨hi, rfl⟩ := toks_get hv
                exact ⟨_, hcell i (by omega), tok_rel rfl (say_int x i (by omega)) rfl rfl⟩
              · refine .cons _ _ _ _ ?_ (.cons _ _ _ _ (ha _) .nil)
                have := VRel.slice (μ := muR b off N 1 o (envL k (lowOf (x k) 1) x).sy) 1 0 n cap ⟨b, off, N, 1, 0⟩ rfl
                simpa using this
            by_cases h10 : n ≤ 10
            · obtain ⟨k, hk, hr⟩ := sym_rest ai n (by omega) (by omega)
              exact row k n (by omega) h10 (Nat.le_refl _) (fun β hβ => s n (by omega) h10 k hk β hβ cap x) hr
            · obtain ⟨m, rfl⟩ : ∃ m, n = m + 11 := ⟨n - 11, by omega⟩
              obtain ⟨k, hk, hr⟩ := sym_rest ai 10 (by decide) (by decide)
              exact row k 10 hk (by omega) (by omega) (fun β hβ => l k hk β hβ m cap x) hr
end Go.Proofs.YtinjjlelliedpaaGreat.Cl
