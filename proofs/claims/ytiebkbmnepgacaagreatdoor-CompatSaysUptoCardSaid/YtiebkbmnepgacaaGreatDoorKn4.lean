import Derived.Test.YtiebkbmnepgacaaGreatDoorKn2
import Derived.Test.YtiebkbmnepgacaaGreatDoorKn3
/-
  known() answers true, wherever the package variables are laid.
-/
namespace Go.Proofs.YtiebkbmnepgacaaGreatDoor
open Ew Go.RowKit
set_option linter.unusedVariables false
set_option maxRecDepth 1000000
noncomputable section

def ovL : List AV → HP → Option (AV × HP) := fun l h => match l with
  | [.sl b 0 1 1 true] => bf (Pos.eqb b (posOf 20)) (ran1.ov h) (bf (Pos.eqb b (posOf 1787)) (ran2.ov h) none)
  | _ => none
def parK : Par := { P := Tryz.prog, G := 20, ov := fun f => bf (Nat.beq f 12) (some ovL) (ovs f), quietD := fun f => Nat.beq f 21 || Nat.beq f 178 }
theorem parK_ok : ParOK parK where
  mix := (parC_ok 20).mix
  qd := (parC_ok 20).qd
  ov := fun f r l h v h' hov hq ρ w args ha hr hG => by
    have hov0 : bf (Nat.beq f 12) (some ovL) (ovs f) = some r := hov
    rcases bf_or hov0 with ⟨h1, h2⟩ | ⟨_, h2⟩
    · have := Nat.eq_of_beq_eq_true h1
      subst this
      cases h2
      unfold ovL at hq
      split at hq
      · rename_i b
        rcases bf_or hq with ⟨h3, h4⟩ | ⟨_, h4⟩
        · have := Pos.eqb_eq.1 h3
          subst this
          exact ran1.ok (parC_ok 20) h4 ha hr hG
        · obtain ⟨h5, h6⟩ := bf_some h4
          have := Pos.eqb_eq.1 h5
          subst this
          exact ran2.ok (parC_ok 20) h6 ha hr hG
      · cases hq
    · exact (parC_ok 20).ov f r l h v h' h2 hq ρ w args ha hr hG
def isT : R → Bool
  | .val (.bool true) _ => true
  | _ => false
theorem run6 : isT (Ew.ev parK 100000 (.cl (.fn 6 [] (heapOf globA 20)))) = true := by decide +kernel
end
end Go.Proofs.YtiebkbmnepgacaaGreatDoor
