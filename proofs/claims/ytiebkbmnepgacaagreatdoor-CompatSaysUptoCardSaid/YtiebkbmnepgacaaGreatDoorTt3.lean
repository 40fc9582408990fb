import Derived.Test.YtiebkbmnepgacaaGreatDoorTt1
import Derived.Test.YtiebkbmnepgacaaGreatDoorRows
import Derived.LaidByTextLater
import Derived.LaidOnce
import Derived.SevenTiedAt
/-
  The program's tie: what the run leaves.
-/
namespace Go.Proofs.YtiebkbmnepgacaaGreatDoor
open Go
theorem tie_run : ∀ os tape, doorLeaves Tryz.prog 400 8 300 laidL os tape = some (laidL.filter fun x => x.2.handleName?.isNone, (funcsListed laidL).map (·.2.funcsOut)) := fun _ _ => by kernel_rfl
end Go.Proofs.YtiebkbmnepgacaaGreatDoor
