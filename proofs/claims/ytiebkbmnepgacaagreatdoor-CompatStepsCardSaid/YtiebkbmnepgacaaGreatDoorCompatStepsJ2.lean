import Derived.Test.YtiebkbmnepgacaaGreatDoorRows
import Derived.JoinedOf
/-
  Closed facts of the row CompatSteps, part 2.
-/
namespace Go.Proofs.YtiebkbmnepgacaaGreatDoor.compatSteps
open Go
theorem fact9 : ((Rows.compatStepsRow.inPlace == Tryz.prog.inPlace 5)) = true := by kernel_rfl
end Go.Proofs.YtiebkbmnepgacaaGreatDoor.compatSteps
