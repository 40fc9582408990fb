import Derived.Test.YtiebkbmnepgacaaGreatDoorRows
import Derived.Test.YtiebkbmnepgacaaGreatDoorJo
/-
  Closed facts of the row CompatSteps, part 5.
-/
namespace Go.Proofs.YtiebkbmnepgacaaGreatDoor.compatSteps
open Go
theorem fact28 : (kindsOf Tryz.prog Tryz.f5 Rows.compatStepsRow) = true := by kernel_rfl
end Go.Proofs.YtiebkbmnepgacaaGreatDoor.compatSteps
