import Derived.Test.YtiebkbmnepgacaaGreatDoorKn4
/-
  The contract of known().
-/
namespace Go.Proofs.YtiebkbmnepgacaaGreatDoor
open Ew Go.RowKit
set_option linter.unusedVariables false
set_option maxRecDepth 1000000

def u8s (l : List Int) : List Value := l.map fun x => .int .u8 x
def saysV : List Value := [.string "".toUTF8, .string "a number that is not reserved".toUTF8, .string "another type".toUTF8, .string "another card".toUTF8, .string "another key".toUTF8, .string "fields into one oneof".toUTF8, .string "a message against none".toUTF8]
def rowsV : List Value := [.int .u8 0, .int .u8 127, .int .u8 0, .int .u8 0, .int .i64 0, .int .u8 194, .int .u8 223, .int .u8 128, .int .u8 191, .int .i64 1, .int .u8 224, .int .u8 224, .int .u8 160, .int .u8 191, .int .i64 2, .int .u8 225, .int .u8 236, .int .u8 128, .int .u8 191, .int .i64 2, .int .u8 237, .int .u8 237, .int .u8 128, .int .u8 159, .int .i64 2, .int .u8 238, .int .u8 239, .int .u8 128, .int .u8 191, .int .i64 2, .int .u8 240, .int .u8 240, .int .u8 144, .int .u8 191, .int .i64 3, .int .u8 241, .int .u8 243, .int .u8 128, .int .u8 191, .int .i64 3, .int .u8 244, .int .u8 244, .int .u8 128, .int .u8 143, .int .i64 3]
/-- the package variables that known() reads, as they are laid -/
structure Laid (w : World) : Prop where
  says : ∃ t, w.heap[0]? = some (.cells saysV.toArray t (0, 0))
  errs : ∀ i, i < 12 → ∃ v t, w.heap[i + 1]? = some (.cells #[v] t (0, 0)) ∧ oneC v = true
  rows : ∃ t, w.heap[15]? = some (.cells rowsV.toArray t (0, 0))
theorem Laid.ext {w w' : World} (h : Laid w) (hx : Ext w w') : Laid w' :=
  ⟨let ⟨t, e⟩ := h.says; ⟨t, hx.heap e⟩, fun i hi => let ⟨v, t, e, e2⟩ := h.errs i hi; ⟨v, t, hx.heap e, e2⟩, let ⟨t, e⟩ := h.rows; ⟨t, hx.heap e⟩⟩

theorem strA_vr (ρ : RM) (s : String) : Vr ρ (strA s) (.string s.toUTF8) := by
  obtain ⟨l, h1, h2, h3, h4⟩ := strK_spec s.toUTF8.data.toList 0 (fun s n => AV.str s n)
  have : strA s = .str l (0 + s.toUTF8.data.toList.length) := h1
  rw [this]
  refine ⟨?_, by rw [h3, Nat.zero_add], h4⟩
  rw [h2]
def rho0 : RM := fun b => if b.nat ≤ 20 then some (b.nat - 1, 0) else none
theorem rho0_at (g : Nat) (hg : g < 20) : rho0 (posOf g) = some (g, 0) := by
  have := posOf_nat g (by omega)
  unfold rho0
  rw [if_pos (by omega), this]; rfl
theorem says_vr (ρ : RM) : VrL ρ saysA saysV := by
  refine ⟨_, _, rfl, strA_vr ρ _, _, _, rfl, strA_vr ρ _, _, _, rfl, strA_vr ρ _, _, _, rfl, strA_vr ρ _, _, _, rfl, strA_vr ρ _, _, _, rfl, strA_vr ρ _, _, _, rfl, strA_vr ρ _, rfl⟩
def sameInt : AV → Value → Bool
  | .int .u8 n, .int .u8 m => decide (n = m)
  | .int .i64 n, .int .i64 m => decide (n = m)
  | _, _ => false
def sameIL : List AV → List Value → Bool
  | [], [] => true
  | a :: l, b :: r => sameInt a b && sameIL l r
  | _, _ => false
theorem sameInt_vr {ρ : RM} {a : AV} {v : Value} (h : sameInt a v = true) : Vr ρ a v := by
  unfold sameInt at h
  split at h
  · rw [of_decide_eq_true h]; rfl
  · rw [of_decide_eq_true h]; rfl
  · cases h
theorem sameIL_vr {ρ : RM} : ∀ {l : List AV} {r : List Value}, sameIL l r = true → VrL ρ l r
  | [], [], _ => rfl
  | a :: l, b :: r, h => by
    simp only [sameIL, Bool.and_eq_true] at h
    exact ⟨b, r, rfl, sameInt_vr h.1, sameIL_vr h.2⟩
  | [], _ :: _, h => by cases h
  | _ :: _, [], h => by cases h
theorem rows_vr (ρ : RM) : VrL ρ rowsA rowsV := sameIL_vr rfl
theorem or_ro {P : Program} {ρ : RM} {w : World} {c k : Nat} {l : List AV} {t : TypeId} {vs : List Value} (h : ∃ t', w.heap[c]? = some (.cells vs.toArray t' (0, 0))) (hv : VrL ρ l vs) : Or P ρ w c k (.cells l t none false) := by
  obtain ⟨t', h⟩ := h
  have hl := hv.length
  refine ⟨t', fun e => (by cases e), _, h, by simp [hl], ?_, fun _ => by simp [hl], fun sz e => (by cases e)⟩
  rw [List.take_of_length_le (by simp [hl])]
  exact hv
theorem glob_lt {q : Nat × AO} (h : q ∈ globA) : q.1 < 20 := by
  have : globA.all (fun q => Nat.blt q.1 20) = true := by decide +kernel
  exact Nat.le_of_ble_eq_true (List.all_eq_true.1 this q h)
theorem glob_ro {q : Nat × AO} (h : q ∈ globA) : ro q.2 = true := List.all_eq_true.1 (by decide +kernel : globA.all (fun q => ro q.2) = true) q h
theorem laid_hr (w : World) (hl : Laid w) : Hr Tryz.prog rho0 (heapOf globA 20).g (heapOf globA 20).nx w := by
  have p20 : (posOf 20).nat = 21 := posOf_nat 20 (by omega)
  refine ⟨fun b hb => ?_, fun b o c k g1 g2 => ?_, fun b b' o o' c k k' g1 g2 g3 g4 => ?_⟩
  · have hb' : (posOf 20).nat ≤ b.nat := hb
    refine ⟨by unfold rho0; rw [if_neg (by omega)], ?_⟩
    rw [heapOf_g]
    cases hg : finG globA b with
    | none => rfl
    | some o =>
      obtain ⟨q, h2, h3, _⟩ := finG_some hg
      have h4 := glob_lt h2
      have h5 : (posOf q.1).nat = q.1 + 1 := posOf_nat _ (by omega)
      rw [h3] at hb'
      omega
  · rw [heapOf_g] at g1
    obtain ⟨q, h2, h3, h4⟩ := finG_some g1
    subst h3; subst h4
    rw [rho0_at q.1 (glob_lt h2)] at g2
    simp only [Option.some.injEq, Prod.mk.injEq] at g2
    obtain ⟨rfl, rfl⟩ := g2
    simp only [globA, List.mem_cons, List.mem_map, List.mem_range] at h2
    rcases h2 with rfl | rfl | ⟨i, hi, rfl⟩
    · exact or_ro hl.says (says_vr _)
    · exact or_ro hl.rows (rows_vr _)
    · obtain ⟨v, t, h5, h6⟩ := hl.errs i hi
      exact or_ro (vs := [v]) ⟨t, h5⟩ ⟨v, [], rfl, h6, rfl⟩
  · unfold rho0 at g3 g4
    split at g3
    · split at g4
      · simp only [Option.some.injEq, Prod.mk.injEq] at g3 g4
        have n1 := b.nat_pos
        have n2 := b'.nat_pos
        exact Pos.nat_inj (by omega)
      · cases g4
    · cases g3
/-- known() answers true -/
theorem known_w (w : World) (hl : Laid w) : Rt Tryz.prog 6 [] w fun v _ => v = .bool true := by
  have hrun := run6
  cases hev : Ew.ev parK 100000 (.cl (.fn 6 [] (heapOf globA 20))) with
  | val v h1 =>
    rw [hev] at hrun
    have hv : v = .bool true := by
      unfold isT at hrun
      split at hrun
      · rename_i he; cases he; rfl
      · cases hrun
    subst hv
    obtain ⟨_, h2⟩ := ((ev_sound parK_ok 100000).1 _ _ _ hev rho0 w #[] rfl (laid_hr w hl) (fun g hg _ => ⟨0, rho0_at g hg⟩)).2 rfl
    refine Calls.mono' h2 fun e w' ⟨x, he, ρ', h3, h4, h5⟩ => ⟨x, he, h5.ext_of fun c b o k g1 _ => ?_, h3⟩
    rw [heapOf_g] at g1
    obtain ⟨q, q1, q2, q3⟩ := finG_some g1
    rw [← q3]; exact glob_ro q1
  | _ => rw [hev] at hrun; cases hrun
end Go.Proofs.YtiebkbmnepgacaaGreatDoor
