/-
  What is warm: loads out of rows; loops whose rows go on.
-/
import Derived.Test.YtfofdglgacfklaaGreatDoorCmSr
namespace Go.Cm
open Go Go.RowKit

theorem load_hot {E : Env} {ρ : Operand → Value} {o : Oper} {s : St} {t : TypeId} {a : Operand} {r off es : Nat} {fl : Bool} {cs : List Value} {v : Value} (ho : o.op = .load t a) (ha : ρ a = .pointer (some ⟨r, off, none⟩))
    (hr : Nat.blt r s.next = true) (hx : s.rows.get r = some (.cells fl es cs)) (hv : partA E t cs off = some v) : execA E ρ o s = some (.value v, { s with log := r :: s.log }) := by
  unfold execA
  rw [ho]
  simp only
  unfold asV loadA
  have h1 : asFz (ρ a) = none := by rw [ha]; rfl
  have h2 : asRef (ρ a) = some (r, off) := by rw [ha]; rfl
  rw [h1]
  simp only [h2, M.bind_eq, M.lift_eq]
  have h3 : M.row r s = some (.cells fl es cs, { s with log := r :: s.log }) := by
    rw [M.row_eq, hr, hx]; rfl
  simp only [h3, cellsR, hv]
  rfl
theorem part_one {E : Env} {t : TypeId} {cs : List Value} {off : Nat} {v : Value} {i : TypeInfo} (h : aggT E t = some false) (hi : E.info t = some i) (hv : cs[off]? = some v) : partA E t cs off = some v := by
  unfold partA
  rw [h, hi]
  exact hv
theorem bytes_at {st : ByteArray} {m k : Nat} {b : UInt8} (hk : k = m) (h : st.data.toList[m]? = some b) : (bytesOf st)[k]? = some (.int .u8 b.toNat) := by
  subst hk
  unfold bytesOf
  rw [List.getElem?_map, h]
  rfl
theorem has_size {E : Env} {t n : Nat} (h : (E.info t).map (fun i => i.size) = some n) : ∃ i, E.info t = some i ∧ i.size = n := by
  rw [Option.map_eq_some_iff] at h
  exact h
theorem bytes_cold (st : ByteArray) : coldsB (bytesOf st) = true := by
  unfold bytesOf
  generalize st.data.toList = l
  induction l with
  | nil => rfl
  | cons b l ih =>
    show (bif coldB (.int .u8 b.toNat) then _ else false) = true
    exact ih

/-- To a loop's head, with rows that go on. -/
theorem loop_ren {E : Env} (ok : E.Ok) (cok : E.Coded) {cp : CallP} {N lo : Nat} (hc : cp.fitsFrom E N) (hgl : ∀ g, E.glob g = true → g < lo) {c : Code} {f : SF} {s : St} {K : X → SF → St → Prop} (I : Nat → SF → St → Prop)
    (m0 n : Nat) (m : List (Nat × Nat)) (l : List (Nat × Value)) (rows : List (Nat × Nat × Row)) (next : Nat) (hok : codeOk E c = true) (hn : f.n = n) (hb : f.okB = true) (hm : goodMap lo next m = true) (hn2 : Nat.ble lo next = true)
    (hs : slotsP (nameTo lo m) f l) (hr : rowsP (nameTo lo m) s rows) (hk : (rows.all fun p => Nat.ble p.2.1 1000000000) = true) (h0 : I m0 (SF.kept n l) (St.of next (rows.map fun p => p.2)))
    (h : ∀ m f s, I m f s → wpP E cp lo c f s fun x f s => match x with | .normal => ∃ k f' s', k < m ∧ f'.ok ∧ Weak E lo f.fr s f'.fr s' ∧ I k f' s' | x => K x f s) : Wp E lo (.loop c) f.fr s (ends K) := by
  subst hn
  have hw := weak_ren (E := E) hgl m l rows next hb hm hn2 hs hr hk
  exact loop_spec ok cok hc hok I hw.1 hw.2 h0 fun m f s _ hI => h m f s hI
theorem round_ren {E : Env} {lo : Nat} (hgl : ∀ g, E.glob g = true → g < lo) {I : Nat → SF → St → Prop} {f : SF} {s : St} {k m0 n : Nat} (m : List (Nat × Nat)) (l : List (Nat × Value)) (rows : List (Nat × Nat × Row)) (next : Nat) (hn : f.n = n) (hb : f.okB = true)
    (hm : goodMap lo next m = true) (hn2 : Nat.ble lo next = true) (hs : slotsP (nameTo lo m) f l) (hr : rowsP (nameTo lo m) s rows) (hk : (rows.all fun p => Nat.ble p.2.1 1000000000) = true) (hlt : k < m0) (hI : I k (SF.kept n l) (St.of next (rows.map fun p => p.2))) :
    ∃ k f' s', k < m0 ∧ f'.ok ∧ Weak E lo f.fr s f'.fr s' ∧ I k f' s' := by
  subst hn
  have hw := weak_ren (E := E) hgl m l rows next hb hm hn2 hs hr hk
  exact ⟨k, _, _, hlt, hw.1, hw.2, hI⟩
end Go.Cm
