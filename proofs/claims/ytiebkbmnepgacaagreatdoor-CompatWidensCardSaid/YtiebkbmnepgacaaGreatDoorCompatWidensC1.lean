import Derived.Test.YtiebkbmnepgacaaGreatDoorRows
import Derived.SevenTiedAt
/-
  Closed facts of the card CompatWidens, part 1.
-/
namespace Go.Proofs.YtiebkbmnepgacaaGreatDoor.compatWidens
open Go
theorem c_wf : Rows.compatWidensRow.wfByText (OpenSpec.ofChange Rows.compatWidensSpec) = true := by kernel_rfl
theorem c_main : Tryz.prog.mainIs = some (((true, "7c7249109af9008aa3dde35a50030e08edf8da6d4bc5980ecfcaf08d3b3c95df") : Bool × String).1, ((true, "7c7249109af9008aa3dde35a50030e08edf8da6d4bc5980ecfcaf08d3b3c95df") : Bool × String).2.toList) := by kernel_rfl
theorem c_named : Tryz.prog.funcNamed "sigil/sigillaw14.CompatWidens" = some 3 := by kernel_rfl
theorem c_stand : Tryz.prog.wantsStandIn 22 = false := by kernel_rfl
end Go.Proofs.YtiebkbmnepgacaaGreatDoor.compatWidens
