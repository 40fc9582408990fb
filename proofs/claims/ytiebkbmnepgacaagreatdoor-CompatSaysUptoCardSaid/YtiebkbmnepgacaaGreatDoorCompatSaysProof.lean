import Derived.Test.YtiebkbmnepgacaaGreatDoorRk3
import Derived.Test.YtiebkbmnepgacaaGreatDoorWt
import Derived.Test.YtiebkbmnepgacaaGreatDoorCompatSaysJ
import Derived.WalkKit
import Derived.Handed
import Derived.RowKit
import Derived.Stop.Joined
import Derived.Deep.DeepHandedRow
import Derived.JoinedCond
/-
  The row CompatSays (the second form: bulk at most 1048576): the law answers true and its argument reads as it did.
-/
namespace Go.Proofs.YtiebkbmnepgacaaGreatDoor.compatSays
open Go.ChangeShapes Go.WideShapes Go.ChangeAt Go.RowKit
set_option linter.unusedVariables false

theorem own : ownKnob Tryz.prog.godebug = none := by kernel_rfl
theorem laidOut : laidOutB Tryz.prog = true := by kernel_rfl

set_option maxRecDepth 100000 in
theorem contract (H : Type) (enc : TypeId × Value → H) (W : World) (base : Nat) (args : Array Value) (ds gs : List (DataW H)) (before : List MemPlace)
    (hval0 : ∀ (j : Nat) t v, Tryz.f4.params[j]? = some t → args[j]? = some v → Value.okWide Tryz.prog W .any base t v)
    (hW : DataW.Whole enc Tryz.prog Tryz.f4.params.toList Rows.compatSaysSpec.vars false W args.toList ds gs before) (hb : Rows.uptoBulkAll (ds ++ gs) ≤ 1048576) (hL : laidMetH Tryz.prog Rows.compatStepsRow.laid W) :
    Calls Tryz.prog 4 args W fun e W' => ∃ v, e = .returned v ∧ Rows.compatSaysSpec.post enc Tryz.prog Tryz.f4 false true false false W args v W' := by
  have hval : ∀ (j : Nat) t v, Tryz.f4.params[j]? = some t → args[j]? = some v → Value.okWide Tryz.prog W .any base t v := hval0
  have hW' := hW
  obtain ⟨p, q, hA0, hV, rfl, hfz, hnd⟩ := hW
  have hA : DataW.TrodAll enc Tryz.prog W 0 (fun _ => true) true Tryz.f4.params.toList args.toList ds p := hA0
  rw [Tryz.params4] at hA hval
  obtain ⟨v0, vs0, d0, ds0, p0, q0, hargs, rfl, rfl, h0, r0⟩ := trodAll_cons hA
  obtain ⟨rfl, rfl, rfl⟩ := trodAll_nil r0
  obtain ⟨rfl, rfl⟩ := trodVars_none hV
  obtain rfl : args = #[v0] := by cases args; simp_all
  obtain ⟨a0, len0, cap0, rfl⟩ := okWide_slice Tryz.underlying28 (hval 0 28 v0 rfl rfl)
  have k0 := h0
  have lt0 : ∀ x ∈ p0, x.block < W.heap.size := by obtain ⟨m, hm⟩ := k0; exact DataW.trod_lt m _ _ _ hm
  obtain ⟨fuel0, hf0⟩ := h0
  have hb0 : Rows.uptoBulk d0 ≤ 1048576 := by
    simp only [List.append_nil, Rows.uptoBulkAll] at hb
    omega
  obtain ⟨z0, hz0, w0, ok0, hl0⟩ := bks_arg hf0 hb0
  clear hA0 hval0
  subst hz0
  refine Calls.mono' (says_w a0 cap0 z0 W (laid_of hL) (tab_of hL) w0 ok0 hl0) fun e W' ⟨v, he, hb, hv⟩ => ?_
  subst he hv
  have bel : Below W.heap.size W W' := hb
  exact ⟨_, rfl, _, _, _, [], _, [], hW', trodAll_mk1 (shut_bool Tryz.underlying4 _), (trodAll_cons_mk (Below.trod laidOut (by kernel_rfl) (of_decide_eq_true (by kernel_rfl)) k0 bel lt0) trodAll_mk0), rfl, bel.frame _, fun h => by cases h⟩

theorem reads (os : Os) {H : Type} (enc : TypeId × Value → H) : ∃ places, DataW.whole enc Tryz.prog ((World.laidAll Tryz.prog os Rows.compatStepsRow.laid).forCall (fun _ _ => 0) ⟨#[], #[.slice none 0 0], []⟩).memory Tryz.f4.params.toList Rows.compatSaysSpec.vars false #[Value.slice none 0 0].toList 8 = some ([.nil], [], places) :=
  ⟨[], by kernel_rfl⟩
theorem okIn (os : Os) : Input.okWideB Tryz.prog ((World.laidAll Tryz.prog os Rows.compatStepsRow.laid).forCall (fun _ _ => 0) ⟨#[], #[.slice none 0 0], []⟩) 4 ⟨#[], #[.slice none 0 0], []⟩ = true := by kernel_rfl

set_option maxRecDepth 100000 in
theorem lifted (os : Os) (started : os.Started) (H : Type) (enc : TypeId × Value → H) (F : Stop.Interp) :
    ReturnsInHanded {} Tryz.checked os 4 .any ((Rows.OpenSpec.upto Rows.compatSaysSpec).preRow enc Tryz.prog Tryz.f4 Rows.compatSaysUptoRow.domain false Rows.compatSaysUptoRow.laid) (((Rows.OpenSpec.upto Rows.compatSaysSpec).at F).post enc Tryz.prog Tryz.f4 false true false false) := by
  obtain ⟨places, hx⟩ := reads os enc
  have hp : (Rows.OpenSpec.upto Rows.compatSaysSpec).preRow enc Tryz.prog Tryz.f4 Rows.compatSaysUptoRow.domain false Rows.compatSaysUptoRow.laid ((World.laidAll Tryz.prog os Rows.compatStepsRow.laid).forCall (fun _ _ => 0) ⟨#[], #[.slice none 0 0], []⟩).memory #[.slice none 0 0] :=
    OpenSpec.preRow_of_cond 8 hx (by kernel_rfl) (fun k hk => by cases hk; kernel_rfl) (by kernel_rfl) (wit_met os _)
  refine returnsInHanded_of_row (C := Tryz.checked) (s := Rows.OpenSpec.upto Rows.compatSaysSpec) own started (by kernel_rfl) Tryz.func4
    ⟨World.laidAll Tryz.prog os Rows.compatStepsRow.laid, fun _ _ => 0, ⟨#[], #[.slice none 0 0], []⟩, World.laidAll_os _ _ _, wit_shaped os, (Input.okWide_of_okWideB (base := 0) (okIn os)).1, (Input.okWide_of_okWideB (okIn os)).2, hp, by
      simp only [Assume.holds]
      exact ⟨by simp, by simp, fun _ => Modest.zero, by simp, by simp⟩⟩ ?_
  intro W base args ds gs before hval hW _ hcond _ hL _ _
  exact contract H enc W base args ds gs before hval hW (bulks.bound (hcond _ rfl)) hL

theorem over : Rows.compatSaysUptoRow.holds Tryz.pinned (Rows.OpenSpec.upto Rows.compatSaysSpec) :=
  OpenClaim.holds_of_cond 4 Tryz.f4 rfl rfl rfl rfl rfl rfl rfl ⟨rfl, rfl, rfl, rfl, rfl⟩ rfl rfl rfl rfl rfl (by kernel_rfl) Tryz.func4 closed
    (of_decide_eq_true (by kernel_rfl)) (by unfold Func.isWrapper; first | (rw [if_pos (by decide +kernel)]; kernel_rfl) | (rw [if_neg (by decide +kernel)]; exact ⟨rfl, rfl⟩))
    (fun os started H enc _ F => by rw [OpenClaim.pre_eq_preRow]; exact lifted os started H enc F)
end Go.Proofs.YtiebkbmnepgacaaGreatDoor.compatSays
