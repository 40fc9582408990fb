/-
  The walk of the laws' helper beginTexts.
-/
import Derived.Test.YtdielcpjemkngaaPl4S
namespace Go.Proofs.Ytdielcpjemkngaa.OS
open Go.RowKit
set_option linter.unusedVariables false

theorem begin_w (w : World) : Rt Try.prog 62 [] w fun x w' => ∃ bI vs, x = ptr bI ∧ vs.length = 1 ∧ WI w' w.heap.size bI [] vs := by
  refine Rt.of Try.func62 rfl Try.ntmps62 (by rfl) ?_
  refine CD.rs FW.wide rfl ?_
  refine PL.q rfl rfl (OQ.assign rfl) rfl ?_
  refine PL.to ?_
  refine CD.rs FW.wide rfl ?_
  refine PL.call FW.wide rfl rfl rfl rfl (New_w w) ?_
  rintro _ w1 hx1 ⟨m0, rfl, hm0⟩
  refine PL.q rfl rfl (OQ.assign rfl) rfl ?_
  refine PL.to ?_
  refine CD.seq ?_
  refine CD.rs FW.wide rfl ?_
  refine PL.q rfl rfl (OQ.move rfl) rfl ?_
  refine PL.q rfl rfl ((by first | exact OQ.eqNN rfl rfl | exact OQ.eqNS rfl rfl | exact OQ.eqN rfl rfl)) rfl ?_
  refine PL.q rfl rfl (OQ.move rfl) rfl ?_
  refine PL.q rfl rfl (OQ.move rfl) rfl ?_
  refine PL.call FW.wide rfl rfl rfl rfl (Len_w m0 _ w1 hm0) ?_
  rintro _ _ _ ⟨rfl, rfl⟩
  refine PL.q rfl rfl (OQ.no (OQ.neq rfl rfl) (rfl)) rfl ?_
  refine PL.q rfl rfl ((by first | exact OQ.pickT rfl rfl | exact OQ.pickF rfl rfl)) rfl ?_
  refine PL.to ?_
  refine CD.condF rfl ?_
  refine CD.skip ?_
  refine CD.rs FW.wide rfl ?_
  refine PL.q rfl rfl (OQ.move rfl) rfl ?_
  refine PL.call FW.wide rfl rfl rfl rfl (Put_w m0 (ByteArray.mk #[120]) 7 .leaf w1 hm0 (by simp [Tr.size])) ?_
  rintro _ w2 hx2 ⟨m1, rfl, hm1⟩
  refine PL.q rfl rfl (OQ.assign rfl) rfl ?_
  have hm02 := hm0.ext hx2
  refine PL.to ?_
  refine CD.seq ?_
  refine CD.rs FW.wide rfl ?_
  refine PL.q rfl rfl (OQ.move rfl) rfl ?_
  refine PL.q rfl rfl ((by first | exact OQ.eqNN rfl rfl | exact OQ.eqNS rfl rfl | exact OQ.eqN rfl rfl)) rfl ?_
  refine PL.q rfl rfl (OQ.move rfl) rfl ?_
  refine PL.q rfl rfl (OQ.move rfl) rfl ?_
  refine PL.call FW.wide rfl rfl rfl rfl (Len_w m1 _ w2 hm1) ?_
  rintro _ _ _ ⟨rfl, rfl⟩
  refine PL.q rfl rfl (OQ.no (OQ.neq rfl rfl) (rfl)) rfl ?_
  refine PL.q rfl rfl ((by first | exact OQ.pickT rfl rfl | exact OQ.pickF rfl rfl)) rfl ?_
  refine PL.q rfl rfl (OQ.move rfl) rfl ?_
  refine PL.q rfl rfl (OQ.move rfl) rfl ?_
  refine PL.call FW.wide rfl rfl rfl rfl (Len_w m0 _ w2 hm02) ?_
  rintro _ _ _ ⟨rfl, rfl⟩
  refine PL.q rfl rfl (OQ.no (OQ.neq rfl rfl) (rfl)) rfl ?_
  refine PL.q rfl rfl ((by first | exact OQ.pickT rfl rfl | exact OQ.pickF rfl rfl)) rfl ?_
  refine PL.to ?_
  refine CD.condF rfl ?_
  refine CD.skip ?_
  refine CD.rs FW.wide rfl ?_
  refine PL.q rfl rfl (OQ.move rfl) rfl ?_
  refine PL.call FW.wide rfl rfl rfl rfl (All_w m1 w2) ?_
  rintro _ w3 hx3 ⟨bA, rfl, _⟩
  refine PL.q rfl rfl (OQ.assign rfl) rfl ?_
  refine PL.to ?_
  refine CD.rs FW.wide rfl ?_
  refine PL.q rfl rfl (OQ.move rfl) rfl ?_
  refine PL.call FW.wide rfl rfl rfl rfl (From_w m1 (ByteArray.mk #[120]) w3) ?_
  rintro _ w4 hx4 ⟨bF, cF, rfl, _⟩
  refine PL.q rfl rfl (OQ.assign rfl) rfl ?_
  refine PL.to ?_
  refine CD.seq ?_
  refine CD.rs FW.wide rfl ?_
  refine PL.q rfl rfl (OQ.move rfl) rfl ?_
  refine PL.q rfl rfl (OQ.eqF rfl rfl) rfl ?_
  refine PL.q rfl rfl (OQ.move rfl) rfl ?_
  refine PL.q rfl rfl (OQ.move rfl) rfl ?_
  refine PL.q rfl rfl (OQ.eqF rfl rfl) rfl ?_
  refine PL.q rfl rfl ((by first | exact OQ.pickT rfl rfl | exact OQ.pickF rfl rfl)) rfl ?_
  refine PL.to ?_
  refine CD.condF rfl ?_
  refine CD.skip ?_
  refine CD.rs FW.wide rfl ?_
  refine PL.q rfl rfl (OQ.move rfl) rfl ?_
  refine PL.slice1 FW.wide rfl rfl rfl rfl rfl rfl ?_
  intro b38 w38 new38
  refine PL.slice1 FW.wide rfl rfl rfl rfl rfl rfl ?_
  intro b39 w39 new39
  refine PL.q rfl rfl ((by first | exact OQ.build1 rfl rfl | exact OQ.buildC rfl rfl)) rfl ?_
  refine PL.box FW.wide rfl rfl rfl rfl ?_
  intro b41 w41 new41
  refine PL.q rfl rfl (OQ.assign rfl) rfl ?_
  refine PL.to ?_
  have hx3' : Ext w w4 := ((hx1.trans hx2).trans hx3).trans hx4
  have hsz := hx3'.size
  have i38 : w4.heap.size = b38 := new38.idx.symm
  have s38 : w38.heap.size = b38 + 1 := new38.size
  have i39 : w38.heap.size = b39 := new39.idx.symm
  have s39 : w39.heap.size = b39 + 1 := new39.size
  have i41 : w39.heap.size = b41 := new41.idx.symm
  have hx438 : Ext w38 w41 := new39.ext.trans new41.ext
  refine CD.ret (post1 rfl rfl ⟨_, rfl, ((hx3'.trans new38.ext).trans hx438), b41, [⟨m0, .leaf, none, 0⟩], rfl, rfl, some ⟨b38, 0, none⟩, 1, some ⟨b39, 0, none⟩, 1, new41.heap, by omega, ?_, ?_, ?_⟩)
  · have := World.ownsRow_lit (size := 1) (base := w.heap.size) (e := 105) w4 #[ptr m0] 1 (by omega) (by decide) rfl
    rw [i38] at this
    have e : w38 = w4.alloc (.cells #[ptr m0] 105) := new38.eq
    rw [← e] at this
    exact Own.cext this hx438.cext
  · have := World.ownsRow_lit (size := 1) (base := w.heap.size) (e := 113) w38 #[.slice none 0 0] 1 (by omega) (by decide) rfl
    rw [i39] at this
    have e : w39 = w38.alloc (.cells #[.slice none 0 0] 113) := new39.eq
    rw [← e] at this
    exact Own.cext this new41.ext.cext
  · intro v hv
    obtain rfl : v = ⟨m0, .leaf, none, 0⟩ := by simpa using hv
    exact ⟨((hm02.ext hx3).ext hx4).ext (new38.ext.trans hx438), fits_leaf _, ElT.nil, Nat.le_refl _⟩
end Go.Proofs.Ytdielcpjemkngaa.OS
