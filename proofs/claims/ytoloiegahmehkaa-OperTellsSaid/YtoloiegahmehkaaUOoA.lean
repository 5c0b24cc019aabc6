/-
  The calls of the laws of what may be asked: names; what is wrong with an op.
-/
import Derived.Test.YtoloiegahmehkaaUCmTk
import Derived.Test.YtoloiegahmehkaaChecked
namespace Go.Proofs.Ytoloiegahmehkaa.Oo
open Go Go.Cm Go.RowKit

noncomputable def uds : T TypeDesc := unds Try.prog
noncomputable def tis : T TypeInfo := infos Try.prog
noncomputable def fns : T Func := Cm.funcs Try.prog 0xfff8
noncomputable def env0 : Env := { P := Try.prog, und := uds.get, info := tis.get, fn := fns.get, ext := fun _ => none, glob := fun _ => false }
theorem made0 : env0.Made 0xfff8 := ⟨rfl, rfl, rfl, by kernel_rfl, Try.checked.mixed, (fun _ _ _ _ h => by cases h), (fun _ _ _ _ _ h => by cases h), noAsk, noLen, noKt, noC, noS⟩
theorem awake0 : yes env0 1000 6 [] 0 = true := by kernel_rfl
theorem awake (w : World) : Calls Try.prog 6 #[] w fun e w' => e = .returned (.bool true) ∧ Go.RowKit.Below w.heap.size w w' :=
  closed made0.ok made0.coded (fun _ => rfl) awake0 .nil w
theorem noGlob0 : ∀ g, env0.glob g = true → g < 0 := fun _ h => by cases h

theorem und3 : env0.und 3 = some (.int .i64) := by kernel_rfl
theorem und9 : env0.und 9 = some .string := by kernel_rfl
theorem und23 : env0.und 23 = some (.slice 5) := by kernel_rfl
theorem info5 : ∃ i, env0.info 5 = some i ∧ i.size = 1 := has_size (by kernel_rfl)
theorem fn8 : env0.fn 8 = some Try.f8 := by kernel_rfl
theorem fn9 : env0.fn 9 = some Try.f9 := by kernel_rfl
theorem agg5 : aggT env0 5 = some false := by kernel_rfl

def lowerB (b : UInt8) : Bool := decide (97 ≤ (b.toNat : Int)) && decide ((b.toNat : Int) ≤ 122)
def nameB (s : ByteArray) : Bool := s.data.toList.all lowerB && decide (1 ≤ (s.size : Int)) && decide ((s.size : Int) ≤ 8)

theorem no_name {st : ByteArray} {b : UInt8} (hm : b ∈ st.data.toList) (hb : lowerB b = false) : nameB st = false := by
  unfold nameB
  have : st.data.toList.all lowerB = false := by
    rw [Bool.eq_false_iff]; intro h; rw [List.all_eq_true] at h; rw [h b hm] at hb; cases hb
  rw [this]; rfl
theorem low_less {b : UInt8} (h : (b.toNat : Int) < 97) : lowerB b = false := by unfold lowerB; rw [decide_eq_false (by omega)]; rfl
theorem low_more {b : UInt8} (h : (122 : Int) < b.toNat) : lowerB b = false := by unfold lowerB; rw [decide_eq_false (show ¬ (b.toNat : Int) ≤ 122 by omega), Bool.and_false]
theorem low_is {b : UInt8} (h : ¬ (b.toNat : Int) < 97) (k : ¬ (122 : Int) < b.toNat) : lowerB b = true := by unfold lowerB; simp; omega

set_option maxRecDepth 100000 in
theorem ref_name (st : ByteArray) (hsz : st.size ≤ 9223372036854775807) : DeepOk env0.P 9 [.string st] (.bool (nameB st)) [] := by
  have hl : st.data.toList.length = st.size := by simp
  refine deep_of_wpP made0.ok made0.coded (d := 5) noGlob0 fn9 rfl rfl (fl := []) ?_
  refine loop_at made0.ok made0.coded (call_spec 5) (fun m f s => ∃ i : Nat, i ≤ st.size ∧ m = st.size - i ∧ (st.data.toList.take i).all lowerB = true ∧ f = SF.kept 28 [(0, .string st), (3, .int .i64 i)] ∧ s = St.empty 0)
    st.size 28 [(0, .string st), (3, .int .i64 0)] rfl rfl rfl ⟨⟨rfl, rfl⟩, ⟨rfl, rfl⟩, trivial⟩ ⟨0, Nat.zero_le _, rfl, rfl, rfl, rfl⟩ ?_
  rintro m f s ⟨i, hi, rfl, hall, rfl, rfl⟩
  repeat (refine Exists.intro _ (Exists.intro _ (And.intro rfl ?_)))
  by_cases hlt : i < st.size
  · have hget : st.data.toList[i]? = some (st.data.toList[i]'(by omega)) := List.getElem?_eq_getElem (by omega)
    have htake : st.data.toList.take (i + 1) = st.data.toList.take i ++ [st.data.toList[i]'(by omega)] := List.take_succ_eq_append_getElem (by omega)
    have hmem : st.data.toList[i]'(by omega) ∈ st.data.toList := List.getElem_mem _
    generalize st.data.toList[i]'(by omega) = b at hget htake hmem
    refine Exists.intro true (And.intro (decide_eq_true (by omega)) ?_)
    refine And.intro (und9) (Exists.intro (i) (Exists.intro (b) (And.intro rfl (And.intro (hget) ?_))))
    by_cases h1 : (b.toNat : Int) < 97
    · refine Exists.intro true (And.intro (decide_eq_true (h1)) ?_)
      refine Exists.intro _ (Exists.intro _ (And.intro rfl ?_))
      rw [no_name hmem (low_less h1)]; kernel_rfl
    · refine Exists.intro false (And.intro (decide_eq_false (h1)) ?_)
      refine And.intro (und9) (Exists.intro (i) (Exists.intro (b) (And.intro rfl (And.intro (hget) ?_))))
      by_cases h2 : (122 : Int) < b.toNat
      · refine Exists.intro true (And.intro (decide_eq_true (h2)) ?_)
        refine Exists.intro _ (Exists.intro _ (And.intro rfl ?_))
        rw [no_name hmem (low_more h2)]; kernel_rfl
      · refine Exists.intro false (And.intro (decide_eq_false (h2)) ?_)
        refine Exists.intro (((i + 1 : Nat) : Int)) (And.intro (wrap_i64 (by omega) (by omega)) ?_)
        refine round_to [(0, .string st), (3, .int .i64 ((i + 1 : Nat) : Int))] rfl rfl ⟨⟨rfl, rfl⟩, ⟨rfl, rfl⟩, trivial⟩ (by omega) ⟨i + 1, by omega, rfl, ?_, rfl, rfl⟩
        rw [htake, List.all_append, hall]
        simp [low_is h1 h2]
  · refine Exists.intro false (And.intro (decide_eq_false (by omega)) ?_)
    have hfull : st.data.toList.all lowerB = true := by rw [← hall, List.take_of_length_le (by omega)]
    repeat (refine Exists.intro _ (Exists.intro _ (And.intro rfl ?_)))
    by_cases h1 : (st.size : Int) < 1
    · refine Exists.intro true (And.intro (decide_eq_true (h1)) ?_)
      refine Exists.intro _ (Exists.intro _ (And.intro rfl ?_))
      unfold nameB; rw [decide_eq_false (show ¬ (1 : Int) ≤ st.size by omega), Bool.and_false]; kernel_rfl
    · refine Exists.intro false (And.intro (decide_eq_false (h1)) ?_)
      repeat (refine Exists.intro _ (Exists.intro _ (And.intro rfl ?_)))
      by_cases h2 : (8 : Int) < st.size
      · refine Exists.intro true (And.intro (decide_eq_true (h2)) ?_)
        refine Exists.intro _ (Exists.intro _ (And.intro rfl ?_))
        unfold nameB; rw [decide_eq_false (show ¬ (st.size : Int) ≤ 8 by omega), Bool.and_false]; kernel_rfl
      · refine Exists.intro false (And.intro (decide_eq_false (h2)) ?_)
        refine Exists.intro _ (Exists.intro _ (And.intro rfl ?_))
        unfold nameB; rw [hfull, decide_eq_true (show (1 : Int) ≤ st.size by omega), decide_eq_true (show (st.size : Int) ≤ 8 by omega)]; kernel_rfl

set_option maxRecDepth 100000 in
theorem our_name (st : ByteArray) (hsz : st.size ≤ 9223372036854775807) : DeepOk env0.P 8 [.string st] (.bool (nameB st)) [] := by
  have hl : st.data.toList.length = st.size := by simp
  refine deep_of_wpP made0.ok made0.coded (d := 5) noGlob0 fn8 rfl rfl (fl := []) ?_
  repeat (refine Exists.intro _ (Exists.intro _ (And.intro rfl ?_)))
  refine loop_ren made0.ok made0.coded (call_spec 5) noGlob0 (fun m f s => ∃ i : Nat, i ≤ st.size ∧ m = st.size - i ∧ (st.data.toList.take i).all lowerB = true ∧ f = SF.kept 27 [(0, .string st), (6, .slice (some ⟨0, 0, some 1⟩) st.size st.size), (7, .int .i64 st.size), (8, .int .i64 i)] ∧ s = St.of 1 [(0, .cells false 1 (bytesOf st))])
    st.size 27 [(0, 0)] [(0, .string st), (6, .slice (some ⟨0, 0, some 1⟩) st.size st.size), (7, .int .i64 st.size), (8, .int .i64 0)] [(0, 0, .cells false 1 (bytesOf st))] 1 rfl rfl rfl rfl rfl ⟨⟨rfl, rfl⟩, ⟨rfl, rfl⟩, ⟨rfl, rfl⟩, ⟨rfl, rfl⟩, trivial⟩ ⟨⟨rfl, _, rfl, ?_⟩, trivial⟩ rfl ⟨0, Nat.zero_le _, rfl, rfl, rfl, rfl⟩ ?_
  · exact Or.inl ⟨_, _, _, rfl, rfl, bytes_cold st⟩
  rintro m f s ⟨i, hi, rfl, hall, rfl, rfl⟩
  obtain ⟨i5, hi5, hs5⟩ := info5
  repeat (refine Exists.intro _ (Exists.intro _ (And.intro rfl ?_)))
  by_cases hlt : i < st.size
  · have hget : st.data.toList[i]? = some (st.data.toList[i]'(by omega)) := List.getElem?_eq_getElem (by omega)
    have htake : st.data.toList.take (i + 1) = st.data.toList.take i ++ [st.data.toList[i]'(by omega)] := List.take_succ_eq_append_getElem (by omega)
    have hmem : st.data.toList[i]'(by omega) ∈ st.data.toList := List.getElem_mem _
    generalize st.data.toList[i]'(by omega) = b at hget htake hmem
    refine Exists.intro true (And.intro (decide_eq_true (by omega)) ?_)
    refine Exists.intro _ (Exists.intro _ (And.intro (und23) (And.intro (hi5) (Exists.intro (i) (And.intro rfl (And.intro (hlt) ?_))))))
    refine Exists.intro _ (Exists.intro _ (And.intro (load_hot rfl rfl rfl rfl (part_one agg5 hi5 (bytes_at (by rw [hs5]; show 0 + i * 1 = i; omega) hget))) ?_))
    by_cases h1 : (b.toNat : Int) < 97
    · refine Exists.intro true (And.intro (decide_eq_true (h1)) ?_)
      refine Exists.intro _ (Exists.intro _ (And.intro rfl ?_))
      rw [no_name hmem (low_less h1)]; kernel_rfl
    · refine Exists.intro false (And.intro (decide_eq_false (h1)) ?_)
      by_cases h2 : (122 : Int) < b.toNat
      · refine Exists.intro true (And.intro (decide_eq_true (h2)) ?_)
        refine Exists.intro _ (Exists.intro _ (And.intro rfl ?_))
        rw [no_name hmem (low_more h2)]; kernel_rfl
      · refine Exists.intro false (And.intro (decide_eq_false (h2)) ?_)
        refine Exists.intro (((i + 1 : Nat) : Int)) (And.intro (wrap_i64 (by omega) (by omega)) ?_)
        refine round_ren noGlob0 [(0, 0)] [(0, .string st), (6, .slice (some ⟨0, 0, some 1⟩) st.size st.size), (7, .int .i64 st.size), (8, .int .i64 ((i + 1 : Nat) : Int))] [(0, 0, .cells false 1 (bytesOf st))] 1 rfl rfl rfl rfl ⟨⟨rfl, rfl⟩, ⟨rfl, rfl⟩, ⟨rfl, rfl⟩, ⟨rfl, rfl⟩, trivial⟩ ⟨⟨rfl, _, rfl, Or.inl ⟨_, _, _, rfl, rfl, bytes_cold st⟩⟩, trivial⟩ rfl (by omega) ⟨i + 1, by omega, rfl, ?_, rfl, rfl⟩
        rw [htake, List.all_append, hall]
        simp [low_is h1 h2]
  · refine Exists.intro false (And.intro (decide_eq_false (by omega)) ?_)
    have hfull : st.data.toList.all lowerB = true := by rw [← hall, List.take_of_length_le (by omega)]
    repeat (refine Exists.intro _ (Exists.intro _ (And.intro rfl ?_)))
    by_cases h1 : (st.size : Int) < 1
    · refine Exists.intro true (And.intro (decide_eq_true (h1)) ?_)
      refine Exists.intro _ (Exists.intro _ (And.intro rfl ?_))
      unfold nameB; rw [decide_eq_false (show ¬ (1 : Int) ≤ st.size by omega), Bool.and_false]; kernel_rfl
    · refine Exists.intro false (And.intro (decide_eq_false (h1)) ?_)
      repeat (refine Exists.intro _ (Exists.intro _ (And.intro rfl ?_)))
      by_cases h2 : (8 : Int) < st.size
      · refine Exists.intro true (And.intro (decide_eq_true (h2)) ?_)
        refine Exists.intro _ (Exists.intro _ (And.intro rfl ?_))
        unfold nameB; rw [decide_eq_false (show ¬ (st.size : Int) ≤ 8 by omega), Bool.and_false]; kernel_rfl
      · refine Exists.intro false (And.intro (decide_eq_false (h2)) ?_)
        refine Exists.intro _ (Exists.intro _ (And.intro rfl ?_))
        unfold nameB; rw [hfull, decide_eq_true (show (1 : Int) ≤ st.size by omega), decide_eq_true (show (st.size : Int) ≤ 8 by omega)]; kernel_rfl

theorem fn15 : env0.fn 15 = some Try.f15 := by kernel_rfl
def inB (n lo hi : Int) : Bool := decide (lo ≤ n) && decide (n ≤ hi)
theorem within_deep (n lo hi : Int) : DeepOk env0.P 15 [.int .i64 n, .int .i64 lo, .int .i64 hi] (.bool (inB n lo hi)) [] := by
  refine deep_of_wpP made0.ok made0.coded (d := 5) noGlob0 fn15 rfl rfl (fl := []) ?_
  repeat (refine Exists.intro _ (Exists.intro _ (And.intro rfl ?_)))
  by_cases h1 : n < lo
  · refine Exists.intro true (And.intro (decide_eq_true (h1)) ?_)
    repeat (refine Exists.intro _ (Exists.intro _ (And.intro rfl ?_)))
    rw [show inB n lo hi = false by unfold inB; rw [decide_eq_false (by omega)]; rfl]; kernel_rfl
  · refine Exists.intro false (And.intro (decide_eq_false (h1)) ?_)
    repeat (refine Exists.intro _ (Exists.intro _ (And.intro rfl ?_)))
    by_cases h2 : hi < n
    · refine Exists.intro true (And.intro (decide_eq_true (h2)) ?_)
      repeat (refine Exists.intro _ (Exists.intro _ (And.intro rfl ?_)))
      rw [show inB n lo hi = false by unfold inB; rw [decide_eq_false (show ¬ n ≤ hi by omega), Bool.and_false]]; kernel_rfl
    · refine Exists.intro false (And.intro (decide_eq_false (h2)) ?_)
      repeat (refine Exists.intro _ (Exists.intro _ (And.intro rfl ?_)))
      rw [show inB n lo hi = true by unfold inB; rw [decide_eq_true (show lo ≤ n by omega), decide_eq_true (show n ≤ hi by omega)]; rfl]; kernel_rfl
end Go.Proofs.Ytoloiegahmehkaa.Oo
