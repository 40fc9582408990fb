import Derived.Test.YtiebkbmnepgacaaGreatDoorRows
import Derived.JoinedOf
/-
  Closed facts of the row CompatSays, part 4.
-/
namespace Go.Proofs.YtiebkbmnepgacaaGreatDoor.compatSays
open Go
theorem fact12 : ((Rows.compatSaysUptoRow.named == Tryz.prog.varsNamed 4)) = true := by kernel_rfl
end Go.Proofs.YtiebkbmnepgacaaGreatDoor.compatSays
