/-
  The walks of the seven laws that play a script on maps of numbers.
-/
import Derived.Test.YtdielcpjemkngaaPl6I
namespace Go.Proofs.Ytdielcpjemkngaa
open Go.RowKit OI
set_option linter.unusedVariables false

theorem law7_w (a : Option Addr) (c : Nat) (ops : List Op6) (w : World) (h : OpsAt w a ops) (hs : ops.length ≤ 4611686018427387903) (hok : ∀ o ∈ ops, OpOk o) :
    Rt Try.prog 7 [.slice a ops.length c] w fun v _ => v = .bool true := by
  refine Rt.of Try.func7 rfl Try.ntmps7 (by rfl) ?_
  refine CD.rs FW.wide rfl ?_
  refine PL.q rfl rfl (OQ.assign rfl) rfl ?_
  refine PL.to ?_
  refine CD.rs FW.wide rfl ?_
  refine PL.q rfl rfl (OQ.move rfl) rfl ?_
  refine PL.call FW.wide rfl rfl rfl rfl (played_w a c ops 1 6 w h hs hok) ?_
  rintro _ w1 hx1 rfl
  refine PL.q rfl rfl (OQ.assign rfl) rfl ?_
  refine PL.to ?_
  exact CD.ret (post1 rfl rfl ⟨_, rfl, hx1, rfl⟩)
theorem law8_w (a : Option Addr) (c : Nat) (ops : List Op6) (w : World) (h : OpsAt w a ops) (hs : ops.length ≤ 4611686018427387903) (hok : ∀ o ∈ ops, OpOk o) :
    Rt Try.prog 8 [.slice a ops.length c] w fun v _ => v = .bool true := by
  refine Rt.of Try.func8 rfl Try.ntmps8 (by rfl) ?_
  refine CD.rs FW.wide rfl ?_
  refine PL.q rfl rfl (OQ.assign rfl) rfl ?_
  refine PL.to ?_
  refine CD.rs FW.wide rfl ?_
  refine PL.q rfl rfl (OQ.move rfl) rfl ?_
  refine PL.call FW.wide rfl rfl rfl rfl (played_w a c ops 2 7 w h hs hok) ?_
  rintro _ w1 hx1 rfl
  refine PL.q rfl rfl (OQ.assign rfl) rfl ?_
  refine PL.to ?_
  exact CD.ret (post1 rfl rfl ⟨_, rfl, hx1, rfl⟩)
theorem law9_w (a : Option Addr) (c : Nat) (ops : List Op6) (w : World) (h : OpsAt w a ops) (hs : ops.length ≤ 4611686018427387903) (hok : ∀ o ∈ ops, OpOk o) :
    Rt Try.prog 9 [.slice a ops.length c] w fun v _ => v = .bool true := by
  refine Rt.of Try.func9 rfl Try.ntmps9 (by rfl) ?_
  refine CD.rs FW.wide rfl ?_
  refine PL.q rfl rfl (OQ.assign rfl) rfl ?_
  refine PL.to ?_
  refine CD.rs FW.wide rfl ?_
  refine PL.q rfl rfl (OQ.move rfl) rfl ?_
  refine PL.call FW.wide rfl rfl rfl rfl (played_w a c ops 8 9 w h hs hok) ?_
  rintro _ w1 hx1 rfl
  refine PL.q rfl rfl (OQ.assign rfl) rfl ?_
  refine PL.to ?_
  exact CD.ret (post1 rfl rfl ⟨_, rfl, hx1, rfl⟩)
theorem law10_w (a : Option Addr) (c : Nat) (ops : List Op6) (w : World) (h : OpsAt w a ops) (hs : ops.length ≤ 4611686018427387903) (hok : ∀ o ∈ ops, OpOk o) :
    Rt Try.prog 10 [.slice a ops.length c] w fun v _ => v = .bool true := by
  refine Rt.of Try.func10 rfl Try.ntmps10 (by rfl) ?_
  refine CD.rs FW.wide rfl ?_
  refine PL.q rfl rfl (OQ.assign rfl) rfl ?_
  refine PL.to ?_
  refine CD.rs FW.wide rfl ?_
  refine PL.q rfl rfl (OQ.move rfl) rfl ?_
  refine PL.call FW.wide rfl rfl rfl rfl (played_w a c ops 10 3 w h hs hok) ?_
  rintro _ w1 hx1 rfl
  refine PL.q rfl rfl (OQ.assign rfl) rfl ?_
  refine PL.to ?_
  exact CD.ret (post1 rfl rfl ⟨_, rfl, hx1, rfl⟩)
theorem law11_w (a : Option Addr) (c : Nat) (ops : List Op6) (w : World) (h : OpsAt w a ops) (hs : ops.length ≤ 4611686018427387903) (hok : ∀ o ∈ ops, OpOk o) :
    Rt Try.prog 11 [.slice a ops.length c] w fun v _ => v = .bool true := by
  refine Rt.of Try.func11 rfl Try.ntmps11 (by rfl) ?_
  refine CD.rs FW.wide rfl ?_
  refine PL.q rfl rfl (OQ.assign rfl) rfl ?_
  refine PL.to ?_
  refine CD.rs FW.wide rfl ?_
  refine PL.q rfl rfl (OQ.move rfl) rfl ?_
  refine PL.call FW.wide rfl rfl rfl rfl (played_w a c ops 4 5 w h hs hok) ?_
  rintro _ w1 hx1 rfl
  refine PL.q rfl rfl (OQ.assign rfl) rfl ?_
  refine PL.to ?_
  exact CD.ret (post1 rfl rfl ⟨_, rfl, hx1, rfl⟩)
theorem law12_w (a : Option Addr) (c : Nat) (ops : List Op6) (w : World) (h : OpsAt w a ops) (hs : ops.length ≤ 4611686018427387903) (hok : ∀ o ∈ ops, OpOk o) :
    Rt Try.prog 12 [.slice a ops.length c] w fun v _ => v = .bool true := by
  refine Rt.of Try.func12 rfl Try.ntmps12 (by rfl) ?_
  refine CD.rs FW.wide rfl ?_
  refine PL.q rfl rfl (OQ.assign rfl) rfl ?_
  refine PL.to ?_
  refine CD.rs FW.wide rfl ?_
  refine PL.q rfl rfl (OQ.move rfl) rfl ?_
  refine PL.call FW.wide rfl rfl rfl rfl (played_w a c ops 11 12 w h hs hok) ?_
  rintro _ w1 hx1 rfl
  refine PL.q rfl rfl (OQ.assign rfl) rfl ?_
  refine PL.to ?_
  exact CD.ret (post1 rfl rfl ⟨_, rfl, hx1, rfl⟩)
theorem law13_w (a : Option Addr) (c : Nat) (ops : List Op6) (w : World) (h : OpsAt w a ops) (hs : ops.length ≤ 4611686018427387903) (hok : ∀ o ∈ ops, OpOk o) :
    Rt Try.prog 13 [.slice a ops.length c] w fun v _ => v = .bool true := by
  refine Rt.of Try.func13 rfl Try.ntmps13 (by rfl) ?_
  refine CD.rs FW.wide rfl ?_
  refine PL.q rfl rfl (OQ.assign rfl) rfl ?_
  refine PL.to ?_
  refine CD.rs FW.wide rfl ?_
  refine PL.q rfl rfl (OQ.move rfl) rfl ?_
  refine PL.call FW.wide rfl rfl rfl rfl (played_w a c ops 0 0 w h hs hok) ?_
  rintro _ w1 hx1 rfl
  refine PL.q rfl rfl (OQ.assign rfl) rfl ?_
  refine PL.to ?_
  exact CD.ret (post1 rfl rfl ⟨_, rfl, hx1, rfl⟩)
end Go.Proofs.Ytdielcpjemkngaa
