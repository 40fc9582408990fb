import Derived.Test.YtiebkbmnepgacaaGreatDoorRows
import Derived.JoinedOf
/-
  Closed facts of the row CompatSteps, part 4.
-/
namespace Go.Proofs.YtiebkbmnepgacaaGreatDoor.compatSteps
open Go
theorem fact12 : ((Rows.compatStepsRow.named == Tryz.prog.varsNamed 5)) = true := by kernel_rfl
end Go.Proofs.YtiebkbmnepgacaaGreatDoor.compatSteps
