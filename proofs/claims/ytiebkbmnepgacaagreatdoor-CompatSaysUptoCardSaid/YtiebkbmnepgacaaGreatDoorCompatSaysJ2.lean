import Derived.Test.YtiebkbmnepgacaaGreatDoorRows
import Derived.JoinedOf
/-
  Closed facts of the row CompatSays, part 2.
-/
namespace Go.Proofs.YtiebkbmnepgacaaGreatDoor.compatSays
open Go
theorem fact9 : ((Rows.compatSaysUptoRow.inPlace == Tryz.prog.inPlace 4)) = true := by kernel_rfl
end Go.Proofs.YtiebkbmnepgacaaGreatDoor.compatSays
