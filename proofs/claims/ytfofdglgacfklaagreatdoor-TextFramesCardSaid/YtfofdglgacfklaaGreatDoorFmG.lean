/-
  A call of cold things, once run by the faster machine: what it answers may be taken as known.
-/
import Derived.Test.YtfofdglgacfklaaGreatDoorFmF
import Derived.Test.YtfofdglgacfklaaGreatDoorCmZ
namespace Go.Cm
open Go

noncomputable def deepRunC (E : Env) (lf d n0 : Nat) (fl : List (List Bool)) (f : FuncId) (ds : List Value) : Option (Value × List (Nat × List Value)) :=
  match callC E lf d f ds (St.empty n0) with
  | some (v, s) => packed fl v s
  | none => none
theorem deep_of_fast {E : Env} (ok : E.Ok) (cok : E.Coded) {n0 : Nat} (hg : ∀ g, E.glob g = true → g < n0) {lf d : Nat} {fl : List (List Bool)} {f : FuncId} {ds : List Value} {v : Value} {rows : List (Nat × List Value)}
    (h : deepRunC E lf d n0 fl f ds = some (v, rows)) (hz : ∀ b, E.fz b = none := by intro _; rfl) : DeepOk E.P f ds v rows := by
  unfold deepRunC at h
  cases hr : callC E lf d f ds (St.empty n0) with
  | none => rw [hr] at h; cases h
  | some r =>
    obtain ⟨n, hn⟩ := run_of_fast hr
    refine deep_of_run ok cok hg (n := n) (fl := fl) ?_ hz
    unfold deepRun
    rw [hn, ← h, hr]
end Go.Cm
