import Derived.Test.YtiebkbmnepgacaaGreatDoorRows
import Derived.Test.YtiebkbmnepgacaaGreatDoorJo
/-
  Closed facts of the row CompatWidens, part 5.
-/
namespace Go.Proofs.YtiebkbmnepgacaaGreatDoor.compatWidens
open Go
theorem fact28 : (kindsOf Tryz.prog Tryz.f3 Rows.compatWidensRow) = true := by kernel_rfl
end Go.Proofs.YtiebkbmnepgacaaGreatDoor.compatWidens
