import Derived.Test.YtiebkbmnepgacaaGreatDoorRows
import Derived.JoinedOf
/-
  Closed facts of the row CompatSays, part 3.
-/
namespace Go.Proofs.YtiebkbmnepgacaaGreatDoor.compatSays
open Go
theorem fact10 : ((Rows.compatSaysUptoRow.unfollowed == Tryz.prog.unfollowed 4)) = true := by kernel_rfl
theorem fact11 : ((Rows.compatSaysUptoRow.recurses == Tryz.prog.recurses 4)) = true := by kernel_rfl
end Go.Proofs.YtiebkbmnepgacaaGreatDoor.compatSays
