import Derived.Test.YtiebkbmnepgacaaGreatDoorRows
import Derived.JoinedOf
/-
  Closed facts of the row CompatSteps, part 3.
-/
namespace Go.Proofs.YtiebkbmnepgacaaGreatDoor.compatSteps
open Go
theorem fact10 : ((Rows.compatStepsRow.unfollowed == Tryz.prog.unfollowed 5)) = true := by kernel_rfl
theorem fact11 : ((Rows.compatStepsRow.recurses == Tryz.prog.recurses 5)) = true := by kernel_rfl
end Go.Proofs.YtiebkbmnepgacaaGreatDoor.compatSteps
