/-
  The walk of the law OrderTexts.
-/
import Derived.Test.YtdielcpjemkngaaPl6S
namespace Go.Proofs.Ytdielcpjemkngaa
open Go.RowKit OS
set_option linter.unusedVariables false

theorem law14_w (a : Option Addr) (c : Nat) (ops : List Op6) (w : World) (h : OpsAt w a ops) (hs : ops.length ≤ 4611686018427387903) (hok : ∀ o ∈ ops, OpOk o) :
    Rt Try.prog 14 [.slice a ops.length c] w fun v _ => v = .bool true := by
  refine Rt.of Try.func14 rfl Try.ntmps14 (by rfl) ?_
  refine CD.rs FW.wide rfl ?_
  refine PL.q rfl rfl (OQ.assign rfl) rfl ?_
  refine PL.to ?_
  refine CD.rs FW.wide rfl ?_
  refine PL.q rfl rfl (OQ.move rfl) rfl ?_
  refine PL.call FW.wide rfl rfl rfl rfl (played_w a c ops 0 0 w h hs hok) ?_
  rintro _ w1 hx1 rfl
  refine PL.q rfl rfl (OQ.assign rfl) rfl ?_
  refine PL.to ?_
  exact CD.ret (post1 rfl rfl ⟨_, rfl, hx1, rfl⟩)
end Go.Proofs.Ytdielcpjemkngaa
