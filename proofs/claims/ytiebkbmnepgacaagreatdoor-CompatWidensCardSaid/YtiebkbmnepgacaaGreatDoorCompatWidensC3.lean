import Derived.Test.YtiebkbmnepgacaaGreatDoorRows
import Derived.SevenTiedAt
import Derived.Test.YtiebkbmnepgacaaGreatDoorCg
/-
  Closed facts of the card CompatWidens, part 3.
-/
namespace Go.Proofs.YtiebkbmnepgacaaGreatDoor.compatWidens
open Go
theorem c_goes : false = Rows.compatWidensRow.goesBy Tryz.prog := goes_by rfl
end Go.Proofs.YtiebkbmnepgacaaGreatDoor.compatWidens
