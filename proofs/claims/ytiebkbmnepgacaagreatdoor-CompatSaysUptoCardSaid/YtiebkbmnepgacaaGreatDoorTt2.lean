import Derived.Test.YtiebkbmnepgacaaGreatDoorTt1
import Derived.Test.YtiebkbmnepgacaaGreatDoorRows
import Derived.LaidByTextLater
import Derived.LaidOnce
import Derived.SevenTiedAt
/-
  The program's tie: the listed names are laid in order.
-/
namespace Go.Proofs.YtiebkbmnepgacaaGreatDoor
open Go
theorem tie_n : varsNamedLaterB Tryz.prog (varsId Tryz.prog) laidL = true := by kernel_rfl
end Go.Proofs.YtiebkbmnepgacaaGreatDoor
