/-
  tree.read reads the part that a row of nodes is.
-/
import Derived.Test.YtkcibhokjiciiaaBn
import Derived.Test.YtkcibhokjiciiaaChecked
import Derived.Lib.SliceRun
import Derived.Lib.Hide
import Derived.Below
import Derived.WalkKit
import Derived.ProofKit
namespace Go.Proofs
open Go.RowKit Go.Lib Tp

theorem bcell {W w1 : World} (hb : Below W.heap.size W w1) : (∀ b o, b < W.heap.size → w1.cell? ⟨b, o, none⟩ = W.cell? ⟨b, o, none⟩) ∧ (∀ b o, b < W.heap.size → w1.frozen? ⟨b, o, none⟩ = W.frozen? ⟨b, o, none⟩) :=
  ⟨fun b o h => hb.cell (p := ⟨b, o, none⟩) h, fun b o h => hb.frozen (p := ⟨b, o, none⟩) h⟩

theorem Try.leaf_true (p : Int) (hp : 1 ≤ p) (w : World) :
    Calls Try.prog 63 #[.agg #[.int .i64 p, .int .i64 0, .int .i64 0, .int .i64 0, .int .i64 0]] w fun e w' => e = .returned (.bool true) ∧ Below w.heap.size w w' := by
  have h : decide (0 < p) = true := by simp; omega
  go_enter Try.func63, Try.ntmps63
  go_wp2
  go_ret
  exact ⟨by simp, (Below.refl _ w).alloc (Nat.le_refl _) _⟩

theorem Try.leaf_false (d f a b : Int) (w : World) :
    Calls Try.prog 63 #[.agg #[.int .i64 0, .int .i64 d, .int .i64 f, .int .i64 a, .int .i64 b]] w fun e w' => e = .returned (.bool false) ∧ Below w.heap.size w w' := by
  go_enter Try.func63, Try.ntmps63
  go_wp2
  go_ret
  exact ⟨by simp, (Below.refl _ w).alloc (Nat.le_refl _) _⟩

/-- What read answers: a part of new blocks. -/
def ReadPost (T : Tr) (next : Nat) (w : World) (e : Ending) (w' : World) : Prop :=
  ∃ k S, e = .returned (.tuple #[.pointer (some ⟨k, 0, none⟩), .int .i64 (next : Int), .bool true]) ∧ PartAt 66 w' T k S ∧ S.Nodup ∧ (∀ i ∈ S, w.heap.size ≤ i) ∧ Below w.heap.size w w'

set_option maxRecDepth 100000 in
set_option maxHeartbeats 1000000 in
theorem Try.read_ok (n c b off : Nat) (hn : n ≤ 63) : ∀ (T : Tr) (k : Nat) (q : Int) (w : World), q = (k : Int) → T.good → k + T.size ≤ n → b < w.heap.size → NodesFrom w (T.nodes k) b off k →
    Calls Try.prog 51 #[.slice (some ⟨b, off, none⟩) n c, .int .i64 q] w (ReadPost T (k + T.size) w)
  | .leaf p, k, q, w, hq, hg, hk, hb, hN => by
    subst hq
    obtain ⟨c0, c1, c2, c3, c4⟩ := hN 0 (by simp [Tr.nodes])
    simp only [Tr.nodes, List.getElem!_cons_zero, Nat.add_zero] at c0 c1 c2 c3 c4
    simp only [Tr.size] at hk
    have hlt : (k : Int) < (n : Int) := by omega
    have hp := hg.1
    go_enter Try.func51, Try.ntmps51
    go_wp2_with (go_at_call 63; refine (Try.leaf_true p hp _).mono ?_; rintro e w1 ⟨rfl, hb1⟩; obtain ⟨hc1, hf1⟩ := bcell hb1)
    go_ret3
    have HB : Below w.heap.size w w1 := ((Below.refl _ w).alloc (Nat.le_refl _) _).trans (hb1.mono (by simp))
    refine ⟨w1.heap.size, [w1.heap.size], rfl, ⟨rfl, heap_alloc_new w1 _⟩, by simp, fun i hi => ?_, HB.alloc HB.size _⟩
    rw [List.mem_singleton] at hi; subst hi; exact HB.size
  | .node d f A B, k, q, w, hq, hg, hk, hb, hN => by
    subst hq
    obtain ⟨hd, hf1, hf2, hgA, hgB⟩ := hg
    obtain ⟨c0, c1, c2, c3, c4⟩ := hN 0 (by simp [Tr.nodes])
    have hN1 : NodesFrom w (A.nodes (k + 1) ++ B.nodes (k + 1 + A.size)) b off (k + 1) := NodesFrom.right (l := [⟨0, d, f, (k + 1 : Nat), (k + 1 + A.size : Nat)⟩]) hN
    have hNA := hN1.left
    have hNB := hN1.right
    rw [Tr.nodes_length] at hNB
    simp only [Tr.nodes, List.getElem!_cons_zero, Nat.add_zero] at c0 c1 c2 c3 c4
    simp only [Tr.size] at hk
    have hlt : (k : Int) < (n : Int) := by omega
    have e1 : decide (f < 1) = false := by simp; omega
    have e2 : decide (1000 < f) = false := by simp; omega
    have ihA := Lib.hid (fun w' (hW : Below w.heap.size w w') => Try.read_ok n c b off hn A (k + 1) ((k : Int) + 1) w' (by simp) hgA (by omega) (Nat.lt_of_lt_of_le hb hW.size) (hNA.below hb hW))
    have ihB := Lib.hid (fun w' (hW : Below w.heap.size w w') => Try.read_ok n c b off hn B (k + 1 + A.size) ((k : Int) + 1 + (A.size : Int)) w' (by simp) hgB (by omega) (Nat.lt_of_lt_of_le hb hW.size) (hNB.below hb hW))
    clear hN hN1 hNA hNB hgA hgB
    rcases hd with rfl | rfl
    all_goals
      go_enter Try.func51, Try.ntmps51
      go_wp2_with fail
      go_at_call 63
      refine (Try.leaf_false _ _ _ _ _).mono ?_
      rintro e w1 ⟨rfl, hb1⟩
      obtain ⟨hc1, hz1⟩ := bcell hb1
      have HB1 : Below w.heap.size w w1 := ((Below.refl _ w).alloc (Nat.le_refl _) _).trans (hb1.mono (by simp))
      have hs1 : w.heap.size < w1.heap.size := by have := hb1.size; simp at this; omega
      go_wp2_with fail
      go_at_call 51
      refine (ihA.out _ HB1).mono ?_
      rintro e w2 ⟨ka, Sa, rfl, hpa, hna, hla, hb2⟩
      obtain ⟨hc2, hz2⟩ := bcell hb2
      have HB2 : Below w.heap.size w w2 := HB1.trans (hb2.mono (by omega))
      have hs2 : w1.heap.size ≤ w2.heap.size := hb2.size
      have hs02 : w.heap.size < w2.heap.size := by omega
      go_wp2_with fail
      go_at_call 51
      refine (ihB.out _ HB2).mono ?_
      rintro e w3 ⟨kb, Sb, rfl, hpb, hnb, hlb, hb3⟩
      obtain ⟨hc3, hz3⟩ := bcell hb3
      have HB3 : Below w.heap.size w w3 := HB2.trans (hb3.mono (by omega))
      have hs3 : w2.heap.size ≤ w3.heap.size := hb3.size
      have hA3 := Lib.hid (hpa.below hb3); have hB3 := Lib.hid hpb; have hlt2 := Lib.hid hpa.lt; have hlt3 := Lib.hid hpb.lt
      have hla := Lib.hid hla; have hlb := Lib.hid hlb; have hna := Lib.hid hna; have hnb := Lib.hid hnb
      clear hpa hpb
      go_wp2
      go_ret3
      refine ⟨w3.heap.size, w3.heap.size :: (Sa ++ Sb), ?_, ⟨ka, kb, Sa, Sb, rfl, heap_alloc_new w3 _, hA3.out.below ((Below.refl _ w3).alloc (Nat.le_refl _) _), hB3.out.below ((Below.refl _ w3).alloc (Nat.le_refl _) _)⟩, ?_, fun i hi => ?_, HB3.alloc HB3.size _⟩
      · simp [Tr.size]; omega
      · rw [List.nodup_cons, List.nodup_append]
        refine ⟨fun h => ?_, hna.out, hnb.out, fun x hx y hy e => ?_⟩
        · rcases List.mem_append.1 h with h | h
          · have := hlt2.out _ h; omega
          · have := hlt3.out _ h; omega
        · have := hlt2.out _ hx; have := hlb.out _ hy; omega
      · rcases List.mem_cons.1 hi with rfl | hi
        · omega
        · rcases List.mem_append.1 hi with h | h
          · have := hla.out _ h; omega
          · have := hlb.out _ h; omega
end Go.Proofs
