import Derived.Test.YtiebkbmnepgacaaGreatDoorRows
import Derived.SevenTiedAt
/-
  Closed facts of the card CompatSteps, part 2.
-/
namespace Go.Proofs.YtiebkbmnepgacaaGreatDoor.compatSteps
open Go
theorem c_looks : true = Tryz.prog.looks [] := by kernel_rfl
end Go.Proofs.YtiebkbmnepgacaaGreatDoor.compatSteps
