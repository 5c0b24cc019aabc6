/-
  slices.Sorted at what maps.Keys handed back for a map of whole numbers: the shelf's contract at this dump, as the machine asks for it.
-/
import Derived.Test.YtfofdglgacfklaaGreatDoorSbP
import Derived.Test.YtfofdglgacfklaaGreatDoorCmY
namespace Go.Proofs
open Go.RowKit Go.Maps Go.Sort Go.Shelf

theorem Tryz.sortsA (m : Nat) : AnyZI.SortsIn Tryz.prog Tryz.sortedA_ren Fence.wide m :=
  ⟨fun blk off cap ss W hH hblk hsz => callsIn_wide.2 (AnyM.slices_Sort_int Tryz.sortA blk off cap ss W hH hblk hsz),
   fun p cap W => callsIn_wide.2 (AnyM.slices_Sort_int_none Tryz.sortA p cap W)⟩

theorem wf_of_range {n : Int} (h : -9223372036854775808 ≤ n ∧ n ≤ 9223372036854775807) : (Lit.int .i64 n).wf = true := by
  show (decide (-9223372036854775808 ≤ n) && decide (n ≤ 9223372036854775807)) = true
  simp [h.1, h.2]

set_option maxRecDepth 100000 in
theorem Tryz.skOk : Cm.SkOk Tryz.prog 151 176 := by
  intro w bp b es clock ks hcell hblk hkeys hwf hnd hbn hbc hlen
  let R : Value → Option (DataW Unit × List MemPlace) := fun _ => some (.nil, [])
  have hkey : ∀ x, x ∈ es → ∃ n, n ∈ ks ∧ x.key = .int .i64 n := fun x hx => by
    have : x.key ∈ es.map (·.key) := List.mem_map.2 ⟨x, hx, rfl⟩
    rw [hkeys, List.mem_map] at this
    obtain ⟨n, hn, e⟩ := this
    exact ⟨n, hn, e.symm⟩
  have hund : Tryz.prog.underlying 3 = some (.int .i64) := Tryz.underlying3
  have hko : ∀ n, n ∈ ks → keyOf Tryz.prog 3 (.int .i64 n) = some (.int .i64 n) := fun n hn => by
    have := wf_of_range (hwf n hn)
    simp [keyOf, hund, mapKey, this]
  have hrd : ∀ x, x ∈ es → ∀ n, x.key = .int .i64 n → Go.WideElems.rd Tryz.prog 3 R x = some (.int .i64 n, .nil) := fun x hx n e => by
    obtain ⟨m, hm, e'⟩ := hkey x hx
    rw [e] at e'; injection e' with _ e'; subst e'
    unfold Go.WideElems.rd
    rw [e, hko n hm]; rfl
  have hrg : ∀ x, x ∈ es → ∀ n, x.key = .int .i64 n → Go.WideElems.rg Tryz.prog 3 R x = (.int .i64 n, .nil) := fun x hx n e => Go.WideElems.rg_of (hrd x hx n e)
  have hints : (es.map (Go.WideElems.rg Tryz.prog 3 R)).map (fun p => _root_.Go.intOf p.1) = ks := by
    have key : ∀ (l : List MapEntry) (r : List Int), (∀ x, x ∈ l → x ∈ es) → l.map (·.key) = r.map (Value.int .i64) → (l.map (Go.WideElems.rg Tryz.prog 3 R)).map (fun p => _root_.Go.intOf p.1) = r := by
      intro l
      induction l with
      | nil => intro r _ h; cases r with
               | nil => rfl
               | cons _ _ => cases h
      | cons x l ih =>
        intro r hm h
        cases r with
        | nil => cases h
        | cons n r =>
          rw [List.map_cons, List.map_cons] at h
          injection h with h1 h2
          rw [List.map_cons, List.map_cons, hrg x (hm x (by simp)) n h1, ih r (fun y hy => hm y (by simp [hy])) h2]
          rfl
    exact key es ks (fun _ h => h) hkeys
  let D0 : DataW Unit := .map ((es.map (Go.WideElems.rg Tryz.prog 3 R)).foldr DataW.insert [])
  have hperm : (intKeys D0).Perm ks := by
    have := (Go.WideShapes.sorted_perm (es.map (Go.WideElems.rg Tryz.prog 3 R))).map (fun p => _root_.Go.intOf p.1)
    rw [hints] at this
    exact this
  have hsz : es.length = ks.length := by
    have := congrArg List.length hkeys
    simpa using this
  have hown : w.ownsMap Tryz.prog 3 R b 1000 D0 := by
    refine ⟨⟨es⟩, clock, hblk, ⟨?_, ⟨hbc, hbn, ?_⟩, fun x hx => ?_⟩, ?_, rfl⟩
    · show es.length ≤ maxLen
      have : (1000 : Nat) ≤ maxLen := by decide
      omega
    · show (es.map (·.key)).Nodup
      rw [hkeys]
      exact hnd.map (f := Value.int .i64) (fun a b h e => h (by injection e))
    · obtain ⟨n, _, e⟩ := hkey x hx
      exact ⟨_, hrd x hx n e⟩
    · show es.length ≤ 1000; omega
  have hbp : bp < w.heap.size := by
    rcases Nat.lt_or_ge bp w.heap.size with h | h
    · exact h
    · unfold World.cell? at hcell
      simp only [Array.getElem?_eq_none h] at hcell
      cases hcell
  have hms : Maps.size D0 = ks.length := by
    show ((es.map (Go.WideElems.rg Tryz.prog 3 R)).foldr DataW.insert []).length = _
    rw [(Go.WideShapes.sorted_perm _).length_eq, List.length_map, hsz]
  have hseq : SeqGives Fence.wide 2 Tryz.prog 176 #[.pointer (some ⟨bp, 0, none⟩)] encZ (fun ss => ss.Perm (intKeys D0)) (Maps.size D0) w :=
    AnyZI.keys_gives (ρ := Tryz.keysA_ren) { Tryz.keysA with } Fence.wide _ trivial rfl (by omega) bp b 1000 D0 w hbp hcell hown
  have cS := AnyZI.sorted_in Tryz.sortedA Fence.wide 5 trivial trivial trivial trivial rfl (by omega) (Tryz.sortsA _) (enters_of Tryz.func175 (by kernel_rfl) rfl) 176 #[.pointer (some ⟨bp, 0, none⟩)] trivial (enters_of Tryz.func176 (by kernel_rfl) rfl) _ _ (by rw [hms]; exact Nat.le_trans hlen (by decide)) (by rw [hms]; omega) _ hseq
  change CallsIn _ _ Tryz.prog 151 _ _ _ at cS
  refine callsIn_wide.1 (cS.mono ?_)
  rintro e w' ⟨v, ss, rfl, hS, hrow, hnil, hb⟩
  refine ⟨v, ss.mergeSort (fun x y => decide (x ≤ y)), rfl, hb, (List.mergeSort_perm _ _).trans (hS.trans hperm), ?_, ?_⟩
  · have := List.pairwise_mergeSort (le := fun x y : Int => decide (x ≤ y)) (fun a b c h1 h2 => by simp only [decide_eq_true_eq] at *; exact Int.le_trans h1 h2) (fun a b => by simp only [Bool.or_eq_true, decide_eq_true_eq]; exact Int.le_total a b) ss
    exact this.imp fun h => by simpa using h
  · by_cases h0 : ss = []
    · subst h0
      exact .inl ⟨by simp, hnil.2 rfl⟩
    · refine .inr ?_
      obtain ⟨hlen2, hh⟩ := hrow
      rcases hh with ⟨hv, _⟩ | ⟨g, cap, cur, hv, hge, hg, hle, _, hcs, htk⟩
      · exact absurd (hnil.1 hv) h0
      · have hl : (ss.mergeSort (fun x y => decide (x ≤ y))).length = ss.length := List.length_mergeSort ..
        refine ⟨g, cap, cur, _, ?_, by rw [hl]; exact hv, hge, hg, by rw [hl]; exact hle, by omega, ?_⟩
        · intro h; rw [h] at hl; exact h0 (List.length_eq_zero_iff.1 hl.symm)
        · rw [hl, ← Nat.mul_one ss.length]; exact htk
end Go.Proofs
