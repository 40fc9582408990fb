import Derived.Test.YtiebkbmnepgacaaGreatDoorCards
import Derived.Test.YtiebkbmnepgacaaGreatDoorCompatSaysProof
import Derived.Test.YtiebkbmnepgacaaGreatDoorTt4
import Derived.Test.YtiebkbmnepgacaaGreatDoorCompatSaysC1
import Derived.Test.YtiebkbmnepgacaaGreatDoorCompatSaysC2
import Derived.Test.YtiebkbmnepgacaaGreatDoorCompatSaysC3
import Derived.SevenTiedAt
/-
  What is proved: Rows.CompatSaysUptoCardSaid: the row, with what it lists tied to the program's text. (The cards tie the listed variables to the pruned copy of the project that the seat holds.)
-/
namespace Go.Proofs.YtiebkbmnepgacaaGreatDoor.compatSays
open Go

theorem row_tie : Rows.compatSaysUptoRow.laidByTextAt .later Tryz.pinned [.sentinel, .sentinel, .sentinel, .sentinel, .sentinel, .sentinel, .sentinel, .sentinel, .sentinel, .sentinel, .sentinel, .sentinel, .data, .pinned, .data, .data, .data, .data, .data] true :=
  OpenClaim.laidByTextAt_pinned rfl rfl tie rfl rfl rfl rfl (fun y hy _e => by
    simp only [Rows.compatSaysUptoRow, List.zip_cons_cons, List.zip_nil_right, List.mem_cons, List.mem_nil_iff, or_false] at hy
    rcases hy with rfl | rfl | rfl | rfl | rfl | rfl | rfl | rfl | rfl | rfl | rfl | rfl | rfl | rfl | rfl | rfl | rfl | rfl | rfl
    iterate 13 (· cases _e)
    · exact ⟨pin_laid_unicode_utf8_first, by kernel_rfl⟩
    iterate 5 (· cases _e)) fits1

theorem card : Rows.CompatSaysUptoCardSaid :=
  Claim7.holds_tied_plain_at .later [] [.sentinel, .sentinel, .sentinel, .sentinel, .sentinel, .sentinel, .sentinel, .sentinel, .sentinel, .sentinel, .sentinel, .sentinel, .data, .pinned, .data, .data, .data, .data, .data] true (true, "7c7249109af9008aa3dde35a50030e08edf8da6d4bc5980ecfcaf08d3b3c95df") true
    over (fun _ h => by cases h) c_wf (fun _ h => by cases h) row_tie rfl ⟨rfl, rfl⟩ c_main rfl
    (fun f fn hf hfn => by
      obtain rfl : f = 4 := (Option.some.inj (c_named.symm.trans hf)).symm
      obtain rfl : fn = Tryz.f4 := (Option.some.inj (Tryz.func4.symm.trans hfn)).symm
      exact ⟨c_looks, fun j t ht => by
        rw [Tryz.params4] at ht
        have h3 : t = 28 := by
          rcases j with _ | j
          · simpa using ht.symm
          · simp at ht
        subst h3
        exact c_stand⟩)
    c_goes
#print axioms card
end Go.Proofs.YtiebkbmnepgacaaGreatDoor.compatSays
