import Derived.Test.YtiebkbmnepgacaaGreatDoorRows
import Derived.WalkKit
import Derived.ProofKit
import Derived.LaidLaws
import Derived.MakeChecks
import Derived.Lay
/-
  A world in which the listed variables are laid.
-/
namespace Go.Proofs.YtiebkbmnepgacaaGreatDoor
open Go.ChangeShapes Go.WideShapes Go.ChangeAt
set_option linter.unusedVariables false
set_option maxRecDepth 100000

theorem wit_met (os : Os) (args : Array Value) : laidMetH Tryz.prog Rows.compatStepsRow.laid ((World.laidAll Tryz.prog os Rows.compatStepsRow.laid).forCall (fun _ _ => 0) ⟨#[], args, []⟩).memory := by
  rw [MakeChecks.laidMetH_plain _ _ _ (by kernel_rfl)]
  exact laidMet_laidAll _ (by kernel_rfl) (by kernel_rfl)
theorem wit_shaped (os : Os) : ((World.laidAll Tryz.prog os Rows.compatStepsRow.laid).forCall (fun _ _ => 0) ⟨#[], #[.slice none 0 0], []⟩).Shaped Tryz.prog := World.shaped_of_ZipB (by kernel_rfl) (by kernel_rfl)
end Go.Proofs.YtiebkbmnepgacaaGreatDoor
