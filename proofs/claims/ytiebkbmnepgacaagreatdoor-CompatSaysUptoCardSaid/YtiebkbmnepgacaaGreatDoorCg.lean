import Derived.Test.YtiebkbmnepgacaaGreatDoorRows
import Derived.SevenTiedAt
/-
  No function of the program starts a goroutine.
-/
namespace Go.Proofs.YtiebkbmnepgacaaGreatDoor
open Go
theorem goes_none {P : Program} (h : P.funcs.any Func.goes = false) (f : FuncId) : P.goes f = false := by
  have h1 : ∀ g : FuncId, (P.funcs[g]?).any Func.goes = false := fun g => by
    cases hg : P.funcs[g]? with
    | none => rfl
    | some fn =>
      have h2 : ∀ (i : Nat) (x : i < P.funcs.size), P.funcs[i].goes = false := by simpa using h
      obtain ⟨h3, h4⟩ := Array.getElem?_eq_some_iff.1 hg
      have h5 := h2 g h3
      rw [h4] at h5
      exact h5
  unfold Program.goes
  rw [h]
  simp [h1]
theorem no_goes : Tryz.prog.funcs.any Func.goes = false := by kernel_rfl
theorem goes_by {c : OpenClaim} (hc : c.start = .entering) : false = c.goesBy Tryz.prog := by
  unfold OpenClaim.goesBy Program.goesAt Program.goesFrom
  rw [hc]
  cases Tryz.prog.funcNamed c.func with
  | none => rfl
  | some f => simp [goes_none no_goes f]
end Go.Proofs.YtiebkbmnepgacaaGreatDoor
