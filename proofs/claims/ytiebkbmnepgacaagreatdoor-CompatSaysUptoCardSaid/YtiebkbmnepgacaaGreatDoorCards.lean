/-
  DERIVED. GIVEN WITH THE SEED: THE CARDS: each row of YtiebkbmnepgacaaGreatDoorRows.lean that lists a variable, with what it lists TIED to the program's text (the seventh form; the later family's looks); each row that meets fmt, with fmt's text TOLD by the authors' own Lean function (tested against real Go, not proved from fmt's source: count such statements apart). THE CARD IS WHAT COUNTS. Prove the row's statement (the work); the ties are given (YtiebkbmnepgacaaGreatDoorTie.lean); close each card by the builder's one call (the guide's Derived/Test/ToyasCard.lean, 'card_holds'). Laid BY PROGRAM, IN A SANDBOX (cutbox-door.mjs). By AI agents, Wed Nov 11 2026. No macro, syntax, notation, axiom, sorry.
-/
import Derived.Test.YtiebkbmnepgacaaGreatDoorRows
import GoSem.ClaimSeven
namespace Go.Proofs.YtiebkbmnepgacaaGreatDoor
namespace Rows

/-- THE TIED CARD OF 'sigillaw14.CompatWidens'. -/
def compatWidensCard : Claim7 := { stood := { row := compatWidensRow, standIns := [], harness := (true, "7c7249109af9008aa3dde35a50030e08edf8da6d4bc5980ecfcaf08d3b3c95df"), looks := true }, kinds := [], alts := [], laidByText := true, laidKinds := [.sentinel, .sentinel, .sentinel, .sentinel, .sentinel, .sentinel, .sentinel, .sentinel, .sentinel, .sentinel, .sentinel, .sentinel, .data, .pinned, .data, .data, .data, .data, .data], laidTests := true, laidLooks := .later }
def CompatWidensCardSaid : Prop := Claim7.holds Tryz.pinned (.plain (OpenSpec.ofChange compatWidensSpec)) compatWidensCard

/-- THE TIED CARD OF 'sigillaw14.CompatSays'. -/
def compatSaysCard : Claim7 := { stood := { row := compatSaysRow, standIns := [], harness := (true, "7c7249109af9008aa3dde35a50030e08edf8da6d4bc5980ecfcaf08d3b3c95df"), looks := true }, kinds := [], alts := [], laidByText := true, laidKinds := [.sentinel, .sentinel, .sentinel, .sentinel, .sentinel, .sentinel, .sentinel, .sentinel, .sentinel, .sentinel, .sentinel, .sentinel, .data, .pinned, .data, .data, .data, .data, .data], laidTests := true, laidLooks := .later }
def CompatSaysCardSaid : Prop := Claim7.holds Tryz.pinned (.plain (OpenSpec.ofChange compatSaysSpec)) compatSaysCard

/-- THE TIED CARD OF 'sigillaw14.CompatSteps'. -/
def compatStepsCard : Claim7 := { stood := { row := compatStepsRow, standIns := [], harness := (true, "7c7249109af9008aa3dde35a50030e08edf8da6d4bc5980ecfcaf08d3b3c95df"), looks := true }, kinds := [], alts := [], laidByText := true, laidKinds := [.sentinel, .sentinel, .sentinel, .sentinel, .sentinel, .sentinel, .sentinel, .sentinel, .sentinel, .sentinel, .sentinel, .sentinel, .data, .pinned, .data, .data, .data, .data, .data], laidTests := true, laidLooks := .later }
def CompatStepsCardSaid : Prop := Claim7.holds Tryz.pinned (.plain (OpenSpec.ofChange compatStepsSpec)) compatStepsCard

/-- THE SECOND FORM's CARD OF 'sigillaw14.CompatWidens'. -/
def compatWidensUptoCard : Claim7 := { stood := { row := compatWidensUptoRow, standIns := [], harness := (true, "7c7249109af9008aa3dde35a50030e08edf8da6d4bc5980ecfcaf08d3b3c95df"), looks := true }, kinds := [], alts := [], laidByText := true, laidKinds := [.sentinel, .sentinel, .sentinel, .sentinel, .sentinel, .sentinel, .sentinel, .sentinel, .sentinel, .sentinel, .sentinel, .sentinel, .data, .pinned, .data, .data, .data, .data, .data], laidTests := true, laidLooks := .later }
def CompatWidensUptoCardSaid : Prop := Claim7.holds Tryz.pinned (.plain (OpenSpec.upto compatWidensSpec)) compatWidensUptoCard

/-- THE SECOND FORM's CARD OF 'sigillaw14.CompatSays'. -/
def compatSaysUptoCard : Claim7 := { stood := { row := compatSaysUptoRow, standIns := [], harness := (true, "7c7249109af9008aa3dde35a50030e08edf8da6d4bc5980ecfcaf08d3b3c95df"), looks := true }, kinds := [], alts := [], laidByText := true, laidKinds := [.sentinel, .sentinel, .sentinel, .sentinel, .sentinel, .sentinel, .sentinel, .sentinel, .sentinel, .sentinel, .sentinel, .sentinel, .data, .pinned, .data, .data, .data, .data, .data], laidTests := true, laidLooks := .later }
def CompatSaysUptoCardSaid : Prop := Claim7.holds Tryz.pinned (.plain (OpenSpec.upto compatSaysSpec)) compatSaysUptoCard

/-- THE SECOND FORM's CARD OF 'sigillaw14.CompatSteps'. -/
def compatStepsUptoCard : Claim7 := { stood := { row := compatStepsUptoRow, standIns := [], harness := (true, "7c7249109af9008aa3dde35a50030e08edf8da6d4bc5980ecfcaf08d3b3c95df"), looks := true }, kinds := [], alts := [], laidByText := true, laidKinds := [.sentinel, .sentinel, .sentinel, .sentinel, .sentinel, .sentinel, .sentinel, .sentinel, .sentinel, .sentinel, .sentinel, .sentinel, .data, .pinned, .data, .data, .data, .data, .data], laidTests := true, laidLooks := .later }
def CompatStepsUptoCardSaid : Prop := Claim7.holds Tryz.pinned (.plain (OpenSpec.upto compatStepsSpec)) compatStepsUptoCard
end Rows
end Go.Proofs.YtiebkbmnepgacaaGreatDoor
