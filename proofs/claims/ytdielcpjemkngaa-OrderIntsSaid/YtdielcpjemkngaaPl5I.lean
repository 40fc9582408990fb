/-
  The walk of the laws' helper beginInts.
-/
import Derived.Test.YtdielcpjemkngaaPl4I
namespace Go.Proofs.Ytdielcpjemkngaa.OI
open Go.RowKit
set_option linter.unusedVariables false

theorem begin_w (w : World) : Rt Try.prog 60 [] w fun x w' => ∃ bI vs, x = ptr bI ∧ vs.length = 1 ∧ WI w' w.heap.size bI [] vs := by
  refine Rt.of Try.func60 rfl Try.ntmps60 (by rfl) ?_
  refine CD.rs FW.wide rfl ?_
  refine PL.q rfl rfl (OQ.assign rfl) rfl ?_
  refine PL.to ?_
  refine CD.rs FW.wide rfl ?_
  refine PL.call FW.wide rfl rfl rfl rfl (New_w w) ?_
  rintro _ w1 hx1 ⟨m0, rfl, hm0⟩
  refine PL.q rfl rfl (OQ.assign rfl) rfl ?_
  refine PL.to ?_
  refine CD.seq ?_
  refine CD.rs FW.wide rfl ?_
  refine PL.q rfl rfl (OQ.move rfl) rfl ?_
  refine PL.q rfl rfl ((by first | exact OQ.eqNN rfl rfl | exact OQ.eqNS rfl rfl | exact OQ.eqN rfl rfl)) rfl ?_
  refine PL.q rfl rfl (OQ.move rfl) rfl ?_
  refine PL.q rfl rfl (OQ.move rfl) rfl ?_
  refine PL.call FW.wide rfl rfl rfl rfl (Len_w m0 _ w1 hm0) ?_
  rintro _ _ _ ⟨rfl, rfl⟩
  refine PL.q rfl rfl (OQ.no (OQ.neq rfl rfl) (rfl)) rfl ?_
  refine PL.q rfl rfl ((by first | exact OQ.pickT rfl rfl | exact OQ.pickF rfl rfl)) rfl ?_
  refine PL.to ?_
  refine CD.condF rfl ?_
  refine CD.skip ?_
  refine CD.rs FW.wide rfl ?_
  refine PL.q rfl rfl (OQ.move rfl) rfl ?_
  refine PL.call FW.wide rfl rfl rfl rfl (Put_w m0 5 7 .leaf w1 hm0 (by simp [Tr.size])) ?_
  rintro _ w2 hx2 ⟨m1, rfl, hm1⟩
  refine PL.q rfl rfl (OQ.assign rfl) rfl ?_
  have hm02 := hm0.ext hx2
  refine PL.to ?_
  refine CD.seq ?_
  refine CD.rs FW.wide rfl ?_
  refine PL.q rfl rfl (OQ.move rfl) rfl ?_
  refine PL.q rfl rfl ((by first | exact OQ.eqNN rfl rfl | exact OQ.eqNS rfl rfl | exact OQ.eqN rfl rfl)) rfl ?_
  refine PL.q rfl rfl (OQ.move rfl) rfl ?_
  refine PL.q rfl rfl (OQ.move rfl) rfl ?_
  refine PL.call FW.wide rfl rfl rfl rfl (Len_w m1 _ w2 hm1) ?_
  rintro _ _ _ ⟨rfl, rfl⟩
  refine PL.q rfl rfl (OQ.no (OQ.neq rfl rfl) (rfl)) rfl ?_
  refine PL.q rfl rfl ((by first | exact OQ.pickT rfl rfl | exact OQ.pickF rfl rfl)) rfl ?_
  refine PL.q rfl rfl (OQ.move rfl) rfl ?_
  refine PL.q rfl rfl (OQ.move rfl) rfl ?_
  refine PL.call FW.wide rfl rfl rfl rfl (Len_w m0 _ w2 hm02) ?_
  rintro _ _ _ ⟨rfl, rfl⟩
  refine PL.q rfl rfl (OQ.no (OQ.neq rfl rfl) (rfl)) rfl ?_
  refine PL.q rfl rfl ((by first | exact OQ.pickT rfl rfl | exact OQ.pickF rfl rfl)) rfl ?_
  refine PL.q rfl rfl (OQ.move rfl) rfl ?_
  refine PL.q rfl rfl (OQ.move rfl) rfl ?_
  refine PL.call FW.wide rfl rfl rfl rfl (goes_w m1 w2) ?_
  rintro _ w3 hx3 rfl
  refine PL.q rfl rfl (OQ.not rfl) rfl ?_
  refine PL.q rfl rfl ((by first | exact OQ.pickT rfl rfl | exact OQ.pickF rfl rfl)) rfl ?_
  refine PL.to ?_
  refine CD.condF rfl ?_
  refine CD.skip ?_
  refine CD.rs FW.wide rfl ?_
  refine PL.q rfl rfl (OQ.move rfl) rfl ?_
  refine PL.slice1 FW.wide rfl rfl rfl rfl rfl rfl ?_
  intro b31 w31 new31
  refine PL.slice1 FW.wide rfl rfl rfl rfl rfl rfl ?_
  intro b32 w32 new32
  refine PL.q rfl rfl ((by first | exact OQ.build1 rfl rfl | exact OQ.buildC rfl rfl)) rfl ?_
  refine PL.box FW.wide rfl rfl rfl rfl ?_
  intro b34 w34 new34
  refine PL.q rfl rfl (OQ.assign rfl) rfl ?_
  refine PL.to ?_
  have hx3' : Ext w w3 := (hx1.trans hx2).trans hx3
  have hsz := hx3'.size
  have i31 : w3.heap.size = b31 := new31.idx.symm
  have s31 : w31.heap.size = b31 + 1 := new31.size
  have i32 : w31.heap.size = b32 := new32.idx.symm
  have s32 : w32.heap.size = b32 + 1 := new32.size
  have i34 : w32.heap.size = b34 := new34.idx.symm
  have hx331 : Ext w31 w34 := new32.ext.trans new34.ext
  refine CD.ret (post1 rfl rfl ⟨_, rfl, ((hx3'.trans new31.ext).trans hx331), b34, [⟨m0, .leaf, none, 0⟩], rfl, rfl, some ⟨b31, 0, none⟩, 1, some ⟨b32, 0, none⟩, 1, new34.heap, by omega, ?_, ?_, ?_⟩)
  · have := World.ownsRow_lit (size := 1) (base := w.heap.size) (e := 36) w3 #[ptr m0] 1 (by omega) (by decide) rfl
    rw [i31] at this
    have e : w31 = w3.alloc (.cells #[ptr m0] 36) := new31.eq
    rw [← e] at this
    exact Own.cext this hx331.cext
  · have := World.ownsRow_lit (size := 1) (base := w.heap.size) (e := 104) w31 #[.slice none 0 0] 1 (by omega) (by decide) rfl
    rw [i32] at this
    have e : w32 = w31.alloc (.cells #[.slice none 0 0] 104) := new32.eq
    rw [← e] at this
    exact Own.cext this new34.ext.cext
  · intro v hv
    obtain rfl : v = ⟨m0, .leaf, none, 0⟩ := by simpa using hv
    exact ⟨(hm02.ext hx3).ext (new31.ext.trans hx331), fits_leaf _, ElT.nil, Nat.le_refl _⟩
end Go.Proofs.Ytdielcpjemkngaa.OI
