import Derived.Test.YtiebkbmnepgacaaGreatDoorRows
import Derived.SevenTiedAt
/-
  Closed facts of the card CompatSays, part 1.
-/
namespace Go.Proofs.YtiebkbmnepgacaaGreatDoor.compatSays
open Go
theorem c_wf : Rows.compatSaysUptoRow.wfByText (Rows.OpenSpec.upto Rows.compatSaysSpec) = true := by kernel_rfl
theorem c_main : Tryz.prog.mainIs = some (((true, "7c7249109af9008aa3dde35a50030e08edf8da6d4bc5980ecfcaf08d3b3c95df") : Bool × String).1, ((true, "7c7249109af9008aa3dde35a50030e08edf8da6d4bc5980ecfcaf08d3b3c95df") : Bool × String).2.toList) := by kernel_rfl
theorem c_named : Tryz.prog.funcNamed "sigil/sigillaw14.CompatSays" = some 4 := by kernel_rfl
theorem c_stand : Tryz.prog.wantsStandIn 28 = false := by kernel_rfl
end Go.Proofs.YtiebkbmnepgacaaGreatDoor.compatSays
