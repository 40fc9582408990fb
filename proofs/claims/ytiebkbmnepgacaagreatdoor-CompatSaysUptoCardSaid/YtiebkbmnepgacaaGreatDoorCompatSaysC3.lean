import Derived.Test.YtiebkbmnepgacaaGreatDoorRows
import Derived.SevenTiedAt
import Derived.Test.YtiebkbmnepgacaaGreatDoorCg
/-
  Closed facts of the card CompatSays, part 3.
-/
namespace Go.Proofs.YtiebkbmnepgacaaGreatDoor.compatSays
open Go
theorem c_goes : false = Rows.compatSaysUptoRow.goesBy Tryz.prog := goes_by rfl
end Go.Proofs.YtiebkbmnepgacaaGreatDoor.compatSays
