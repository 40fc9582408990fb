/-
  The walk of the laws' helper within.
-/
import Derived.Test.YtdielcpjemkngaaIn2
import Derived.Test.YtdielcpjemkngaaFx8
import Derived.Test.YtdielcpjemkngaaOrT
namespace Go.Proofs.Ytdielcpjemkngaa
open Go.RowKit
set_option linter.unusedVariables false

/-- a number turned into 0 to n - 1 -/
def within (x : Int) (n : Nat) : Nat := (x % (n : Int)).toNat
theorem within_lt (x : Int) {n : Nat} (hn : 0 < n) : within x n < n := by
  have h1 := Int.emod_nonneg x (b := (n : Int)) (by omega)
  have h2 := Int.emod_lt_of_pos x (b := (n : Int)) (by omega)
  unfold within; omega
theorem within_w (x : Int) (n : Nat) (w : World) (hn : 0 < n) (hn' : n ≤ 4611686018427387903) (hx : -9223372036854775808 ≤ x ∧ x ≤ 9223372036854775807) :
    Rt Try.prog 44 [.int .i64 x, .int .i64 n] w fun v w' => v = .int .i64 (within x n : Nat) ∧ w = w' := by
  have h1 := Int.emod_nonneg x (b := (n : Int)) (by omega)
  have h2 := Int.emod_lt_of_pos x (b := (n : Int)) (by omega)
  have h3 : x.tmod n = if 0 ≤ x then x % (n : Int) else if x % (n : Int) = 0 then 0 else x % (n : Int) - n := by
    rw [Int.tmod_eq_emod]
    by_cases c : 0 ≤ x
    · simp [c]
    · by_cases d : (n : Int) ∣ x
      · simp [c, d, Int.emod_eq_zero_of_dvd d]
      · have : x % (n : Int) ≠ 0 := fun e => d (Int.dvd_of_emod_eq_zero e)
        simp [c, d, this]
  have hr : -9223372036854775808 ≤ x.tmod n ∧ x.tmod n ≤ 9223372036854775807 := by
    rw [h3]
    split
    · omega
    · split <;> omega
  have hc : (0 ≤ x.tmod n ∧ x.tmod n = x % (n : Int)) ∨ (x.tmod n < 0 ∧ x.tmod n = x % (n : Int) - n) := by
    rw [h3]
    split
    · omega
    · split <;> omega
  refine Rt.of Try.func44 rfl Try.ntmps44 (by rfl) ?_
  refine CD.rs FW.wide rfl ?_
  refine PL.q rfl rfl (OQ.assign rfl) rfl ?_
  refine PL.to ?_
  refine CD.rs FW.wide rfl ?_
  refine PL.q rfl rfl (OQ.move rfl) rfl ?_
  refine PL.q rfl rfl (OQ.move rfl) rfl ?_
  refine PL.q rfl rfl (OQ.rem rfl rfl (by omega) (wrapI _ hr.1 hr.2)) rfl ?_
  refine PL.q rfl rfl (OQ.assign rfl) rfl ?_
  refine PL.to ?_
  refine CD.seq ?_
  refine CD.rs FW.wide rfl ?_
  refine PL.q rfl rfl (OQ.move rfl) rfl ?_
  refine PL.q rfl rfl (OQ.lss rfl rfl) rfl ?_
  refine PL.to ?_
  refine CD.condD rfl (fun h2 => ?_) (fun h2 => ?_)
  · refine CD.r FW.wide rfl ?_
    refine PL.q rfl rfl (OQ.move rfl) rfl ?_
    refine PL.q rfl rfl (OQ.move rfl) rfl ?_
    refine PL.q rfl rfl (OQ.addW (r := (within x n : Nat)) rfl rfl (by rw [wrapI _ (by omega) (by omega)]; unfold within; omega)) rfl ?_
    refine PL.q rfl rfl (OQ.assign rfl) rfl ?_
    refine PL.nil ?_
    refine CD.rs FW.wide rfl ?_
    refine PL.q rfl rfl (OQ.move rfl) rfl ?_
    refine PL.q rfl rfl (OQ.assign rfl) rfl ?_
    refine PL.to ?_
    exact CD.ret (post1 rfl rfl ⟨_, rfl, Ext.refl _, rfl, rfl⟩)
  · refine CD.skip ?_
    refine CD.rs FW.wide rfl ?_
    refine PL.q rfl rfl (OQ.move rfl) rfl ?_
    refine PL.q rfl rfl (OQ.assign rfl) rfl ?_
    refine PL.to ?_
    refine CD.ret (post1 rfl rfl ⟨_, rfl, Ext.refl _, ?_, rfl⟩)
    unfold within
    congr 1
    omega
end Go.Proofs.Ytdielcpjemkngaa
