import Derived.Test.YtiebkbmnepgacaaGreatDoorRk2
import Derived.Test.YtiebkbmnepgacaaGreatDoorWs5
import Derived.Test.YtiebkbmnepgacaaGreatDoorWt
import Derived.Test.YtiebkbmnepgacaaGreatDoorCompatWidensJ
import Derived.WalkKit
import Derived.Handed
import Derived.RowKit
import Derived.Stop.Joined
/-
  The row CompatWidens: whatever its argument, the law answers true and its argument reads as it did.
-/
namespace Go.Proofs.YtiebkbmnepgacaaGreatDoor.compatWidens
open Go.ChangeShapes Go.WideShapes Go.ChangeAt Go.RowKit
set_option linter.unusedVariables false

theorem own : ownKnob Tryz.prog.godebug = none := by kernel_rfl
theorem laidOut : laidOutB Tryz.prog = true := by kernel_rfl

set_option maxRecDepth 100000 in
theorem lifted (os : Os) (started : os.Started) (H : Type) (enc : TypeId × Value → H) :
    ReturnsInHanded {} Tryz.checked os 3 .any (fun w args => (Rows.compatWidensSpec.pre enc Tryz.prog Tryz.f3 Rows.compatWidensRow.domain false w args ∧ laidMetH Tryz.prog Rows.compatWidensRow.laid w) ∧ sizedMet enc Tryz.prog Tryz.f3 (OpenSpec.ofChange Rows.compatWidensSpec) false w args)
      (Rows.compatWidensSpec.post enc Tryz.prog Tryz.f3 false true false false) := by
  refine returnsInHanded_of_change_and (C := Tryz.checked) (X := fun w _ => laidMetH Tryz.prog Rows.compatWidensRow.laid w) (fun _ _ _ hh h => h.of_heap hh) own started (by kernel_rfl) Tryz.func3
    (ChangeSpec.witness_shaped (enc := enc) (C := Tryz.checked) (os := os) (X := fun w _ => laidMetH Tryz.prog Rows.compatWidensRow.laid w) false (World.laidAll Tryz.prog os Rows.compatStepsRow.laid) #[.slice none 0 0] 8 (World.laidAll_os _ _ _)
      (wit_shaped os) (by kernel_rfl) (by kernel_rfl) (by kernel_rfl) (wit_met os _)) ?_
  intro W base args ds gs before hval0 hW _ hsz0 hL _
  have hsz : (DataW.weightsEach Tryz.prog (Tryz.f3.params.toList ++ Rows.compatWidensSpec.plain.varTypes Tryz.prog) (ds ++ gs)).all (· ≤ reachBytes) = true := hsz0
  clear hsz0
  have hval : ∀ (j : Nat) t v, Tryz.f3.params[j]? = some t → args[j]? = some v → Value.okWide Tryz.prog W .any base t v := hval0
  have hW' := hW
  obtain ⟨p, q, hA0, hV, rfl, hfz, hnd⟩ := hW
  have hA : DataW.TrodAll enc Tryz.prog W 0 (fun _ => true) true Tryz.f3.params.toList args.toList ds p := hA0
  rw [Tryz.params3] at hA hval hsz
  obtain ⟨v0, vs0, d0, ds0, p0, q0, hargs, rfl, rfl, h0, r0⟩ := trodAll_cons hA
  obtain ⟨rfl, rfl, rfl⟩ := trodAll_nil r0
  obtain ⟨rfl, rfl⟩ := trodVars_none hV
  obtain rfl : args = #[v0] := by cases args; simp_all
  obtain ⟨a0, len0, cap0, rfl⟩ := okWide_slice Tryz.underlying22 (hval 0 22 v0 rfl rfl)
  have k0 := h0
  have lt0 : ∀ x ∈ p0, x.block < W.heap.size := by obtain ⟨m, hm⟩ := k0; exact DataW.trod_lt m _ _ _ hm
  obtain ⟨fuel0, hf0⟩ := h0
  obtain ⟨z0, hz0, w0, hw0, hd0⟩ := fds_arg2 hf0
  have hr : ∀ n ∈ d0.weights Tryz.prog 22, n ≤ 140737488351232 := fun n hn => by
    have := List.all_eq_true.1 hsz _ (DataW.weights_mem_each (j := 0) (t := 22) rfl rfl n hn)
    have h2 := of_decide_eq_true this
    simp only [reachBytes] at h2
    exact h2
  have sz0 : len0 * 88 ≤ 140737488351232 := by
    rcases hd0 with h0 | ⟨es, sp, rfl, hle⟩
    · omega
    · have := sized_slice hsz (j := 0) (t := 22) (e := 26) rfl rfl Tryz.underlying22
      rw [bytes26] at this
      simp only [reachBytes] at this
      omega
  have szs : ∀ f ∈ z0, f.name.size ≤ 4611686018427387903 ∧ f.of'.size ≤ 4611686018427387903 := fun f hf => by
    have h1 := hr _ (hw0 f hf).1
    have h2 := hr _ (hw0 f hf).2
    omega
  clear hA0 hval0
  subst hz0
  refine Calls.mono' (widens_w a0 cap0 z0 W (laid_of hL) w0 (by omega) szs) fun e W' ⟨v, he, hb, hv⟩ => ?_
  subst he hv
  have bel : Below W.heap.size W W' := hb
  exact ⟨_, rfl, _, _, _, [], _, [], hW', trodAll_mk1 (shut_bool Tryz.underlying4 _), (trodAll_cons_mk (Below.trod laidOut (by kernel_rfl) (of_decide_eq_true (by kernel_rfl)) k0 bel lt0) trodAll_mk0), rfl, bel.frame _, fun h => by cases h⟩

theorem over : Rows.compatWidensRow.holds Tryz.pinned (OpenSpec.ofChange Rows.compatWidensSpec) :=
  OpenClaim.holds_of_wide 3 Tryz.f3 rfl rfl rfl rfl rfl rfl rfl ⟨rfl, rfl, rfl, rfl, rfl⟩ rfl rfl rfl rfl rfl (by kernel_rfl) Tryz.func3 closed
    (of_decide_eq_true (by kernel_rfl)) (by unfold Func.isWrapper; first | (rw [if_pos (by decide +kernel)]; kernel_rfl) | (rw [if_neg (by decide +kernel)]; exact ⟨rfl, rfl⟩))
    (fun os started H enc _ => lifted os started H enc)
end Go.Proofs.YtiebkbmnepgacaaGreatDoor.compatWidens
