import Derived.Test.YtiebkbmnepgacaaGreatDoorRows
import Derived.Test.YtiebkbmnepgacaaGreatDoorJo
/-
  Closed facts of the row CompatSays, part 5.
-/
namespace Go.Proofs.YtiebkbmnepgacaaGreatDoor.compatSays
open Go
theorem fact28 : (kindsOf Tryz.prog Tryz.f4 Rows.compatSaysUptoRow) = true := by kernel_rfl
end Go.Proofs.YtiebkbmnepgacaaGreatDoor.compatSays
