import Derived.Test.YtiebkbmnepgacaaGreatDoorRows
import Derived.JoinedOf
/-
  Closed facts of the row CompatWidens, part 2.
-/
namespace Go.Proofs.YtiebkbmnepgacaaGreatDoor.compatWidens
open Go
theorem fact9 : ((Rows.compatWidensRow.inPlace == Tryz.prog.inPlace 3)) = true := by kernel_rfl
end Go.Proofs.YtiebkbmnepgacaaGreatDoor.compatWidens
