import Derived.Test.YtiebkbmnepgacaaGreatDoorRows
import Derived.SevenTiedAt
/-
  Closed facts of the card CompatWidens, part 2.
-/
namespace Go.Proofs.YtiebkbmnepgacaaGreatDoor.compatWidens
open Go
theorem c_looks : true = Tryz.prog.looks [] := by kernel_rfl
end Go.Proofs.YtiebkbmnepgacaaGreatDoor.compatWidens
