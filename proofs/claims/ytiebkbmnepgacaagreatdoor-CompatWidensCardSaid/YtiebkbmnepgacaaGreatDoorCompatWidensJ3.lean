import Derived.Test.YtiebkbmnepgacaaGreatDoorRows
import Derived.JoinedOf
/-
  Closed facts of the row CompatWidens, part 3.
-/
namespace Go.Proofs.YtiebkbmnepgacaaGreatDoor.compatWidens
open Go
theorem fact10 : ((Rows.compatWidensRow.unfollowed == Tryz.prog.unfollowed 3)) = true := by kernel_rfl
theorem fact11 : ((Rows.compatWidensRow.recurses == Tryz.prog.recurses 3)) = true := by kernel_rfl
end Go.Proofs.YtiebkbmnepgacaaGreatDoor.compatWidens
