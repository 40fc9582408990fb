import Derived.Test.YtiebkbmnepgacaaGreatDoorRows
import Derived.SevenTiedAt
import Derived.Test.YtiebkbmnepgacaaGreatDoorCg
/-
  Closed facts of the card CompatSteps, part 3.
-/
namespace Go.Proofs.YtiebkbmnepgacaaGreatDoor.compatSteps
open Go
theorem c_goes : false = Rows.compatStepsRow.goesBy Tryz.prog := goes_by rfl
end Go.Proofs.YtiebkbmnepgacaaGreatDoor.compatSteps
