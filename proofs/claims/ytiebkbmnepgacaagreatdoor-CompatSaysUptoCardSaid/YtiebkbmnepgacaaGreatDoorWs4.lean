import Derived.Test.YtiebkbmnepgacaaGreatDoorMh
import Derived.Test.YtiebkbmnepgacaaGreatDoorKn5
/-
  The walk of the law CompatSteps.
-/
namespace Go.Proofs.YtiebkbmnepgacaaGreatDoor
open Go.RowKit
set_option linter.unusedVariables false
set_option maxRecDepth 100000

theorem widens_self (f : Fd) : widens f f = 0 := by
  have h : ∀ k b, keeps k k b = true := fun k b => by simp [keeps]
  simp [widens, rule1, rule2, rule3, rule4, h]
theorem refall_iff (a b : Int) : refall a b = true ↔ (a = b ∨ (a = 3 ∧ b = 4) ∨ (a = 5 ∧ b = 6) ∨ (a = 7 ∧ b = 8) ∨ (a = 13 ∧ (b = 3 ∨ b = 4 ∨ b = 5 ∨ b = 6)) ∨ (a = 16 ∧ (b = 3 ∨ b = 4)) ∨ (a = 3 ∧ b = 16) ∨ (a = 14 ∧ b = 15)) := by
  unfold refall refw
  split
  · simp_all
  · split
    · subst a; simp; omega
    · split
      · subst a; simp; omega
      · split
        · subst a; simp; omega
        · split
          · subst a; simp; omega
          · simp; omega
theorem refall_trans {a b c : Int} (h1 : refall a b = true) (h2 : refall b c = true) (h3 : ¬ (a = 13 ∧ b = 3 ∧ c = 16)) : refall a c = true := by
  rcases (refall_iff _ _).1 h1 with rfl | ⟨rfl, rfl⟩ | ⟨rfl, rfl⟩ | ⟨rfl, rfl⟩ | ⟨rfl, rfl | rfl | rfl | rfl⟩ | ⟨rfl, rfl | rfl⟩ | ⟨rfl, rfl⟩ | ⟨rfl, rfl⟩
  · exact h2
  all_goals
    rw [refall_iff] at h2 ⊢
    simp at h2 h3 ⊢
    omega
theorem refw_iff (a b : Int) : refw a b = true ↔ (a = b ∨ (a = 3 ∧ b = 4) ∨ (a = 5 ∧ b = 6) ∨ (a = 7 ∧ b = 8) ∨ (a = 13 ∧ (b = 3 ∨ b = 4 ∨ b = 5 ∨ b = 6))) := by
  unfold refw
  split
  · simp_all
  · split
    · subst a; simp; omega
    · split
      · subst a; simp; omega
      · split
        · subst a; simp; omega
        · split
          · subst a; simp; omega
          · simp; omega
theorem rule1_iff (f g : Fd) : rule1 f g = false ↔ (f.card = g.card ∨ ((f.card = 1 ∨ f.card = 2) ∧ (g.card = 1 ∨ g.card = 2 ∨ g.card = 3))) := by
  unfold rule1 single
  by_cases h : f.card = g.card
  · simp [h]
  · simp [h]; omega
theorem rule2_iff (f g : Fd) : rule2 f g = false ↔ (f.card = 4 → g.card = 4 → refw f.key g.key = true) := by
  unfold rule2
  rw [keeps_key]
  by_cases h : f.card = 4 <;> by_cases h2 : g.card = 4 <;> simp [h, h2]
theorem rule3_iff (f g : Fd) : rule3 f g = false ↔ (f.ty = 17 ↔ g.ty = 17) := by
  unfold rule3
  by_cases h : f.ty = 17 <;> by_cases h2 : g.ty = 17 <;> simp [h, h2]
theorem rule4_iff (f g : Fd) : rule4 f g = false ↔ refall f.ty g.ty = true := by
  unfold rule4
  rw [keeps_all]; simp
theorem widens_zero (f g : Fd) : widens f g = 0 ↔ rule1 f g = false ∧ rule2 f g = false ∧ rule3 f g = false ∧ rule4 f g = false := by
  unfold widens
  cases rule1 f g <;> cases rule2 f g <;> cases rule3 f g <;> cases rule4 f g <;> simp
theorem rule1_trans {f g h : Fd} (h1 : rule1 f g = false) (h2 : rule1 g h = false) : rule1 f h = false := by
  rw [rule1_iff] at *
  omega
theorem rule2_trans {f g h : Fd} (h0 : rule1 f g = false) (h0' : rule1 g h = false) (h1 : rule2 f g = false) (h2 : rule2 g h = false) : rule2 f h = false := by
  rw [rule2_iff] at *
  rw [rule1_iff] at h0 h0'
  intro e1 e2
  have e3 : g.card = 4 := by omega
  have k1 := (refw_iff _ _).1 (h1 e1 e3)
  have k2 := (refw_iff _ _).1 (h2 e3 e2)
  rw [refw_iff]
  omega
theorem rule3_trans {f g h : Fd} (h1 : rule3 f g = false) (h2 : rule3 g h = false) : rule3 f h = false := by
  rw [rule3_iff] at *
  exact h1.trans h2
def bent (f g h : Fd) : Bool := decide (f.ty = 13) && decide (g.ty = 3) && decide (h.ty = 16)
theorem steps (f g h : Fd) (h1 : widens f g = 0) (h2 : widens g h = 0) : widens f h = if bent f g h then 2 else 0 := by
  rw [widens_zero] at h1 h2
  have r1 := rule1_trans h1.1 h2.1
  have r2 := rule2_trans h1.1 h2.1 h1.2.1 h2.2.1
  have r3 := rule3_trans h1.2.2.1 h2.2.2.1
  unfold widens
  rw [r1, r2, r3]
  cases hb : bent f g h with
  | true =>
    simp only [bent, Bool.and_eq_true, decide_eq_true_eq] at hb
    have : rule4 f h = true := by
      cases hr : rule4 f h with
      | true => rfl
      | false =>
        have h4 := (refall_iff _ _).1 ((rule4_iff _ _).1 hr)
        obtain ⟨⟨a1, a2⟩, a3⟩ := hb
        rw [a1, a3] at h4
        omega
    rw [this]; rfl
  | false =>
    have hb' : ¬ (f.ty = 13 ∧ g.ty = 3 ∧ h.ty = 16) := fun ⟨a, b, c⟩ => by simp [bent, a, b, c] at hb
    have : rule4 f h = false := by
      rw [rule4_iff]
      exact refall_trans ((rule4_iff _ _).1 h1.2.2.2) ((rule4_iff _ _).1 h2.2.2.2) hb'
    rw [this]; rfl

/-- fields that lie in a row -/
abbrev FdsAt (w : World) (a : Option Addr) (l : List Fd) : Prop := Elems w a 8 fdC l
instance : En Tryz.prog 6 := enters Tryz.func6 (by kernel_rfl) rfl
def fd0 (card ty : Int) : Fd := ⟨0, .empty, .empty, card, ty, .empty, 0, 0⟩
theorem steps_w (a : Option Addr) (c : Nat) (l : List Fd) (w : World) (hl : Laid w) (h : FdsAt w a l) :
    Rt Tryz.prog 5 [.slice a l.length c] w fun v _ => v = .bool true := by
  refine Rt.of Tryz.func5 rfl Tryz.ntmps5 (by rfl) ?_
  refine CD.rs FW.wide rfl ?_
  refine PL.q rfl rfl (OQ.assign rfl) rfl ?_
  refine PL.to ?_
  refine CD.seq ?_
  refine CD.rs FW.wide rfl ?_
  refine PL.call FW.wide rfl rfl rfl rfl (known_w w hl) ?_
  rintro _ w8 hx8 rfl
  refine PL.q rfl rfl (OQ.not rfl) rfl ?_
  refine PL.q rfl rfl (OQ.move rfl) rfl ?_
  refine PL.q rfl rfl ((by first | exact OQ.build1 rfl rfl | exact OQ.buildC rfl rfl)) rfl ?_
  refine PL.q rfl rfl ((by first | exact OQ.build1 rfl rfl | exact OQ.buildC rfl rfl)) rfl ?_
  refine PL.call FW.wide rfl rfl rfl rfl (Widens_w (fd0 1 13) (fd0 2 4) w8) ?_
  rintro _ w13 hx13 rfl
  refine PL.q rfl rfl (OQ.no (OQ.neq rfl rfl) (by decide +kernel)) rfl ?_
  refine PL.q rfl rfl ((by first | exact OQ.pickT rfl rfl | exact OQ.pickF rfl rfl)) rfl ?_
  refine PL.to ?_
  refine CD.condF rfl ?_
  refine CD.skip ?_
  refine CD.seq ?_
  refine CD.rs FW.wide rfl ?_
  refine PL.q rfl rfl (OQ.assign rfl) rfl ?_
  refine PL.to ?_
  refine CD.block ?_
  have hx0 : Ext w w13 := hx8.trans hx13
  refine CD.loop (α := Nat) (fun s => [(0, .slice a l.length c), (3, .int .i64 s)]) (fun s w' => Ext w w' ∧ s ≤ 40) (fun s => 40 - s) 0 ⟨rfl, rfl, trivial⟩ ⟨hx0, by omega⟩ ?_
  rintro i w1 ⟨hx1, hi⟩
  refine CD.seq ?_
  refine CD.cut (α := Bool) (fun r => [(0, .slice a l.length c), (3, .int .i64 i), (23, .bool r)]) (fun r w' => w1 = w' ∧ r = decide (i < l.length ∧ i < 40)) ?_ ?_
  · refine CD.r FW.wide rfl ?_
    by_cases hlt : i < l.length
    · refine PL.q rfl rfl (OQ.move rfl) rfl ?_
      refine PL.q rfl rfl (OQ.move rfl) rfl ?_
      refine PL.q rfl rfl (OQ.lenS rfl) rfl ?_
      refine PL.q rfl rfl (OQ.yes (OQ.lss rfl rfl) (by simp only [decide_eq_true_eq]; omega)) rfl ?_
      refine PL.q rfl rfl (OQ.move rfl) rfl ?_
      refine PL.q rfl rfl (OQ.move rfl) rfl ?_
      refine PL.q rfl rfl (OQ.lss rfl rfl) rfl ?_
      refine PL.q rfl rfl ((by first | exact OQ.pickT rfl rfl | exact OQ.pickF rfl rfl)) rfl ?_
      exact PL.nil fun a ha => ⟨decide ((i : Int) < 40), ha.sub ⟨rfl, rfl, rfl, trivial⟩, rfl, by rw [decide_eq_decide]; omega⟩
    · refine PL.q rfl rfl (OQ.move rfl) rfl ?_
      refine PL.q rfl rfl (OQ.move rfl) rfl ?_
      refine PL.q rfl rfl (OQ.lenS rfl) rfl ?_
      refine PL.q rfl rfl (OQ.no (OQ.lss rfl rfl) (by simp only [decide_eq_false_iff_not]; omega)) rfl ?_
      refine PL.q rfl rfl (OQ.move rfl) rfl ?_
      refine PL.skip rfl rfl rfl ?_
      refine PL.skip rfl rfl rfl ?_
      refine PL.q rfl rfl ((by first | exact OQ.pickT rfl rfl | exact OQ.pickF rfl rfl)) rfl ?_
      exact PL.nil fun a ha => ⟨false, ha.sub ⟨rfl, rfl, rfl, trivial⟩, rfl, by rw [eq_comm, decide_eq_false_iff_not]; omega⟩
  rintro r _ ⟨rfl, hr⟩
  refine CD.cond (b := r) rfl (fun h4 => ?_) (fun h4 => ?_)
  · rw [h4] at hr
    have ⟨hil, hi40⟩ := of_decide_eq_true hr.symm
    refine CD.skip ?_
    refine CD.seq ?_
    refine CD.block ?_
    refine CD.seq ?_
    obtain ⟨b, o, rfl, hci⟩ := h i hil
    refine CD.as .ext trivial FW.wide (by kernel_rfl) [(0, true), (1, true), (2, true), (3, true), (4, true), (5, true), (6, true), (7, true), (8, false), (9, true)] (by kernel_rfl) rfl (by kernel_rfl) ?_
    intro w2 hx2 _
    have ci2 := (hci.ext hx1).ext hx2
    refine PL.q rfl rfl (OQ.move rfl) rfl ?_
    refine PL.q rfl rfl (OQ.move rfl) rfl ?_
    refine PL.q rfl rfl (OQ.indexAddr rfl rfl (by first | assumption | omega)) rfl ?_
    refine PL.q rfl rfl (OQ.loadAX (cs := fdC l[i]) rfl rfl ci2) rfl ?_
    refine PL.q rfl rfl (OQ.move rfl) rfl ?_
    refine PL.q rfl rfl (OQ.move rfl) rfl ?_
    refine PL.q rfl rfl (OQ.indexAddr rfl rfl (by first | assumption | omega)) rfl ?_
    refine PL.q rfl rfl (OQ.loadAX (cs := fdC l[i]) rfl rfl ci2) rfl ?_
    refine PL.call FW.wide rfl rfl rfl rfl (Widens_w l[i] l[i] w2) ?_
    rintro _ w34 hx34 rfl
    refine PL.q rfl rfl (OQ.no (OQ.neq rfl rfl) (by rw [widens_self]; rfl)) rfl ?_
    refine PL.to ?_
    refine CD.condF rfl ?_
    refine CD.skip ?_
    refine CD.rs FW.wide rfl ?_
    refine PL.q rfl rfl (OQ.assign rfl) rfl ?_
    refine PL.to ?_
    refine CD.block ?_
    have hx34' : Ext w w34 := (hx1.trans hx2).trans hx34
    refine CD.loop (α := Nat) (fun s => [(0, .slice (some ⟨b, o, none⟩) l.length c), (3, .int .i64 i), (4, .int .i64 s)]) (fun s w' => Ext w w' ∧ s ≤ 40) (fun s => 40 - s) 0 ⟨rfl, rfl, rfl, trivial⟩ ⟨hx34', by omega⟩ ?_
    rintro j w4 ⟨hx4, hj⟩
    refine CD.seq ?_
    refine CD.cut (α := Bool) (fun r => [(0, .slice (some ⟨b, o, none⟩) l.length c), (3, .int .i64 i), (4, .int .i64 j), (43, .bool r)]) (fun r w' => w4 = w' ∧ r = decide (j < l.length ∧ j < 40)) ?_ ?_
    · refine CD.r FW.wide rfl ?_
      by_cases hlt : j < l.length
      · refine PL.q rfl rfl (OQ.move rfl) rfl ?_
        refine PL.q rfl rfl (OQ.move rfl) rfl ?_
        refine PL.q rfl rfl (OQ.lenS rfl) rfl ?_
        refine PL.q rfl rfl (OQ.yes (OQ.lss rfl rfl) (by simp only [decide_eq_true_eq]; omega)) rfl ?_
        refine PL.q rfl rfl (OQ.move rfl) rfl ?_
        refine PL.q rfl rfl (OQ.move rfl) rfl ?_
        refine PL.q rfl rfl (OQ.lss rfl rfl) rfl ?_
        refine PL.q rfl rfl ((by first | exact OQ.pickT rfl rfl | exact OQ.pickF rfl rfl)) rfl ?_
        exact PL.nil fun a ha => ⟨decide ((j : Int) < 40), ha.sub ⟨rfl, rfl, rfl, rfl, trivial⟩, rfl, by rw [decide_eq_decide]; omega⟩
      · refine PL.q rfl rfl (OQ.move rfl) rfl ?_
        refine PL.q rfl rfl (OQ.move rfl) rfl ?_
        refine PL.q rfl rfl (OQ.lenS rfl) rfl ?_
        refine PL.q rfl rfl (OQ.no (OQ.lss rfl rfl) (by simp only [decide_eq_false_iff_not]; omega)) rfl ?_
        refine PL.q rfl rfl (OQ.move rfl) rfl ?_
        refine PL.skip rfl rfl rfl ?_
        refine PL.skip rfl rfl rfl ?_
        refine PL.q rfl rfl ((by first | exact OQ.pickT rfl rfl | exact OQ.pickF rfl rfl)) rfl ?_
        exact PL.nil fun a ha => ⟨false, ha.sub ⟨rfl, rfl, rfl, rfl, trivial⟩, rfl, by rw [eq_comm, decide_eq_false_iff_not]; omega⟩
    rintro r _ ⟨rfl, hr⟩
    refine CD.cond (b := r) rfl (fun h9 => ?_) (fun h9 => ?_)
    · rw [h9] at hr
      have ⟨hjl, hj40⟩ := of_decide_eq_true hr.symm
      obtain ⟨b', o', hbo, hcj⟩ := h j hjl
      cases hbo
      refine CD.skip ?_
      refine CD.seq ?_
      refine CD.block ?_
      refine CD.rs FW.wide rfl ?_
      refine PL.q rfl rfl (OQ.assign rfl) rfl ?_
      refine PL.to ?_
      refine CD.block ?_
      refine CD.loop (α := Nat) (fun s => [(0, .slice (some ⟨b, o, none⟩) l.length c), (3, .int .i64 i), (4, .int .i64 j), (5, .int .i64 s)]) (fun s w' => Ext w w' ∧ s ≤ 40) (fun s => 40 - s) 0 ⟨rfl, rfl, rfl, rfl, trivial⟩ ⟨hx4, by omega⟩ ?_
      rintro k w5 ⟨hx5, hk⟩
      refine CD.seq ?_
      refine CD.cut (α := Bool) (fun r => [(0, .slice (some ⟨b, o, none⟩) l.length c), (3, .int .i64 i), (4, .int .i64 j), (5, .int .i64 k), (53, .bool r)]) (fun r w' => w5 = w' ∧ r = decide (k < l.length ∧ k < 40)) ?_ ?_
      · refine CD.r FW.wide rfl ?_
        by_cases hlt : k < l.length
        · refine PL.q rfl rfl (OQ.move rfl) rfl ?_
          refine PL.q rfl rfl (OQ.move rfl) rfl ?_
          refine PL.q rfl rfl (OQ.lenS rfl) rfl ?_
          refine PL.q rfl rfl (OQ.yes (OQ.lss rfl rfl) (by simp only [decide_eq_true_eq]; omega)) rfl ?_
          refine PL.q rfl rfl (OQ.move rfl) rfl ?_
          refine PL.q rfl rfl (OQ.move rfl) rfl ?_
          refine PL.q rfl rfl (OQ.lss rfl rfl) rfl ?_
          refine PL.q rfl rfl ((by first | exact OQ.pickT rfl rfl | exact OQ.pickF rfl rfl)) rfl ?_
          exact PL.nil fun a ha => ⟨decide ((k : Int) < 40), ha.sub ⟨rfl, rfl, rfl, rfl, rfl, trivial⟩, rfl, by rw [decide_eq_decide]; omega⟩
        · refine PL.q rfl rfl (OQ.move rfl) rfl ?_
          refine PL.q rfl rfl (OQ.move rfl) rfl ?_
          refine PL.q rfl rfl (OQ.lenS rfl) rfl ?_
          refine PL.q rfl rfl (OQ.no (OQ.lss rfl rfl) (by simp only [decide_eq_false_iff_not]; omega)) rfl ?_
          refine PL.q rfl rfl (OQ.move rfl) rfl ?_
          refine PL.skip rfl rfl rfl ?_
          refine PL.skip rfl rfl rfl ?_
          refine PL.q rfl rfl ((by first | exact OQ.pickT rfl rfl | exact OQ.pickF rfl rfl)) rfl ?_
          exact PL.nil fun a ha => ⟨false, ha.sub ⟨rfl, rfl, rfl, rfl, rfl, trivial⟩, rfl, by rw [eq_comm, decide_eq_false_iff_not]; omega⟩
      rintro r _ ⟨rfl, hr⟩
      refine CD.cond (b := r) rfl (fun h12 => ?_) (fun h12 => ?_)
      · rw [h12] at hr
        have ⟨hkl, hk40⟩ := of_decide_eq_true hr.symm
        obtain ⟨b', o', hbo, hck⟩ := h k hkl
        cases hbo
        refine CD.skip ?_
        refine CD.cut (α := Unit) (fun _ => [(0, .slice (some ⟨b, o, none⟩) l.length c), (3, .int .i64 i), (4, .int .i64 j), (5, .int .i64 k)]) (fun _ w' => Ext w w') ?_ ?_
        · refine CD.block ?_
          refine CD.seq ?_
          refine CD.as .ext trivial FW.wide (by kernel_rfl) [(0, true), (1, true), (2, true), (3, true), (4, true), (5, true), (6, true), (7, true), (8, false), (9, true), (10, true), (11, true), (12, true), (13, true), (14, true), (15, true), (16, true), (17, true), (18, true), (19, false), (20, true), (21, true)] (by kernel_rfl) rfl (by kernel_rfl) ?_
          intro w6 hx6 _
          have ci6 := (hci.ext hx5).ext hx6
          have cj6 := (hcj.ext hx5).ext hx6
          refine PL.q rfl rfl (OQ.move rfl) rfl ?_
          refine PL.q rfl rfl (OQ.move rfl) rfl ?_
          refine PL.q rfl rfl (OQ.indexAddr rfl rfl (by first | assumption | omega)) rfl ?_
          refine PL.q rfl rfl (OQ.loadAX (cs := fdC l[i]) rfl rfl ci6) rfl ?_
          refine PL.q rfl rfl (OQ.move rfl) rfl ?_
          refine PL.q rfl rfl (OQ.move rfl) rfl ?_
          refine PL.q rfl rfl (OQ.indexAddr rfl rfl (by first | assumption | omega)) rfl ?_
          refine PL.q rfl rfl (OQ.loadAX (cs := fdC l[j]) rfl rfl cj6) rfl ?_
          refine PL.call FW.wide rfl rfl rfl rfl (Widens_w l[i] l[j] w6) ?_
          rintro _ w64 hx64 rfl
          have hx64' : Ext w w64 := (hx5.trans hx6).trans hx64
          by_cases k1 : widens l[i] l[j] = 0
          · refine PL.q rfl rfl (OQ.no (OQ.neq rfl rfl) (decide_eq_false (fun e => e k1))) rfl ?_
            have cj7 := cj6.ext hx64
            have ck7 := hck.ext hx64'
            refine PL.q rfl rfl (OQ.move rfl) rfl ?_
            refine PL.q rfl rfl (OQ.move rfl) rfl ?_
            refine PL.q rfl rfl (OQ.move rfl) rfl ?_
            refine PL.q rfl rfl (OQ.indexAddr rfl rfl (by first | assumption | omega)) rfl ?_
            refine PL.q rfl rfl (OQ.loadAX (cs := fdC l[j]) rfl rfl cj7) rfl ?_
            refine PL.q rfl rfl (OQ.move rfl) rfl ?_
            refine PL.q rfl rfl (OQ.move rfl) rfl ?_
            refine PL.q rfl rfl (OQ.indexAddr rfl rfl (by first | assumption | omega)) rfl ?_
            refine PL.q rfl rfl (OQ.loadAX (cs := fdC l[k]) rfl rfl ck7) rfl ?_
            refine PL.call FW.wide rfl rfl rfl rfl (Widens_w l[j] l[k] w64) ?_
            rintro _ w75 hx75 rfl
            have hx75' : Ext w w75 := hx64'.trans hx75
            by_cases k2 : widens l[j] l[k] = 0
            · refine PL.q rfl rfl (OQ.no (OQ.neq rfl rfl) (decide_eq_false (fun e => e k2))) rfl ?_
              refine PL.q rfl rfl ((by first | exact OQ.pickT rfl rfl | exact OQ.pickF rfl rfl)) rfl ?_
              refine PL.to ?_
              refine CD.condF rfl ?_
              refine CD.skip ?_
              refine CD.as .ext trivial FW.wide (by kernel_rfl) [(0, true), (1, true), (2, true), (3, true), (4, true), (5, true), (6, true), (7, true), (8, false), (9, true)] (by kernel_rfl) rfl (by kernel_rfl) ?_
              intro w7 hx7 _
              have ci8 := hci.ext (hx75'.trans hx7)
              have ck8 := hck.ext (hx75'.trans hx7)
              refine PL.q rfl rfl (OQ.move rfl) rfl ?_
              refine PL.q rfl rfl (OQ.move rfl) rfl ?_
              refine PL.q rfl rfl (OQ.indexAddr rfl rfl (by first | assumption | omega)) rfl ?_
              refine PL.q rfl rfl (OQ.loadAX (cs := fdC l[i]) rfl rfl ci8) rfl ?_
              refine PL.q rfl rfl (OQ.move rfl) rfl ?_
              refine PL.q rfl rfl (OQ.move rfl) rfl ?_
              refine PL.q rfl rfl (OQ.indexAddr rfl rfl (by first | assumption | omega)) rfl ?_
              refine PL.q rfl rfl (OQ.loadAX (cs := fdC l[k]) rfl rfl ck8) rfl ?_
              refine PL.call FW.wide rfl rfl rfl rfl (Widens_w l[i] l[k] w7) ?_
              rintro _ w86 hx86 rfl
              refine PL.q rfl rfl (OQ.assign rfl) rfl ?_
              refine PL.to ?_
              have hx86' : Ext w w86 := (hx75'.trans hx7).trans hx86
              have hs := steps l[i] l[j] l[k] k1 k2
              have ti : w86.cell? ⟨b, o + i * 8 + 4, none⟩ = some (.int .i64 l[i].ty) := (hci.ext hx86').at 4 rfl
              have tj : w86.cell? ⟨b, o + j * 8 + 4, none⟩ = some (.int .i64 l[j].ty) := (hcj.ext hx86').at 4 rfl
              have tk : w86.cell? ⟨b, o + k * 8 + 4, none⟩ = some (.int .i64 l[k].ty) := (hck.ext hx86').at 4 rfl
              refine CD.cut (α := Unit) (fun _ => [(0, .slice (some ⟨b, o, none⟩) l.length c), (3, .int .i64 i), (4, .int .i64 j), (5, .int .i64 k), (6, .int .i64 (widens l[i] l[k])), (7, .bool (bent l[i] l[j] l[k]))]) (fun _ w' => w86 = w') ?_ ?_
              · refine CD.r FW.wide rfl ?_
                refine PL.q rfl rfl (OQ.move rfl) rfl ?_
                refine PL.q rfl rfl (OQ.move rfl) rfl ?_
                refine PL.q rfl rfl (OQ.indexAddr rfl rfl (by first | assumption | omega)) rfl ?_
                refine PL.q rfl rfl ((by first | exact OQ.field0 rfl | exact OQ.field rfl)) rfl ?_
                refine PL.q rfl rfl (OQ.loadS rfl (by assumption)) rfl ?_
                by_cases e1 : l[i].ty = 13
                · refine PL.q rfl rfl (OQ.yes (OQ.eql rfl rfl) (decide_eq_true e1)) rfl ?_
                  refine PL.q rfl rfl (OQ.move rfl) rfl ?_
                  refine PL.q rfl rfl (OQ.move rfl) rfl ?_
                  refine PL.q rfl rfl (OQ.move rfl) rfl ?_
                  refine PL.q rfl rfl (OQ.indexAddr rfl rfl (by first | assumption | omega)) rfl ?_
                  refine PL.q rfl rfl ((by first | exact OQ.field0 rfl | exact OQ.field rfl)) rfl ?_
                  refine PL.q rfl rfl (OQ.loadS rfl (by assumption)) rfl ?_
                  by_cases e2 : l[j].ty = 3
                  · refine PL.q rfl rfl (OQ.yes (OQ.eql rfl rfl) (decide_eq_true e2)) rfl ?_
                    refine PL.q rfl rfl ((by first | exact OQ.pickT rfl rfl | exact OQ.pickF rfl rfl)) rfl ?_
                    refine PL.q rfl rfl (OQ.move rfl) rfl ?_
                    refine PL.q rfl rfl (OQ.move rfl) rfl ?_
                    refine PL.q rfl rfl (OQ.move rfl) rfl ?_
                    refine PL.q rfl rfl (OQ.indexAddr rfl rfl (by first | assumption | omega)) rfl ?_
                    refine PL.q rfl rfl ((by first | exact OQ.field0 rfl | exact OQ.field rfl)) rfl ?_
                    refine PL.q rfl rfl (OQ.loadS rfl (by assumption)) rfl ?_
                    refine PL.q rfl rfl (OQ.eql rfl rfl) rfl ?_
                    refine PL.q rfl rfl (OQ.cast ((by first | exact OQ.pickT rfl rfl | exact OQ.pickF rfl rfl)) ((by simp [bent, e1, e2] : Value.bool (decide (l[k].ty = 16)) = .bool (bent l[i] l[j] l[k])))) rfl ?_
                    refine PL.q rfl rfl (OQ.assign rfl) rfl ?_
                    exact PL.nil fun a ha => ⟨(), ha.sub ⟨rfl, rfl, rfl, rfl, rfl, rfl, trivial⟩, rfl⟩
                  · refine PL.q rfl rfl (OQ.no (OQ.eql rfl rfl) (decide_eq_false e2)) rfl ?_
                    refine PL.q rfl rfl ((by first | exact OQ.pickT rfl rfl | exact OQ.pickF rfl rfl)) rfl ?_
                    refine PL.q rfl rfl (OQ.move rfl) rfl ?_
                    refine PL.skip rfl rfl rfl ?_
                    refine PL.skip rfl rfl rfl ?_
                    refine PL.skip rfl rfl rfl ?_
                    refine PL.skip rfl rfl rfl ?_
                    refine PL.skip rfl rfl rfl ?_
                    refine PL.skip rfl rfl rfl ?_
                    refine PL.q rfl rfl (OQ.cast ((by first | exact OQ.pickT rfl rfl | exact OQ.pickF rfl rfl)) ((by simp [bent, e2] : Value.bool false = .bool (bent l[i] l[j] l[k])))) rfl ?_
                    refine PL.q rfl rfl (OQ.assign rfl) rfl ?_
                    exact PL.nil fun a ha => ⟨(), ha.sub ⟨rfl, rfl, rfl, rfl, rfl, rfl, trivial⟩, rfl⟩
                · refine PL.q rfl rfl (OQ.no (OQ.eql rfl rfl) (decide_eq_false e1)) rfl ?_
                  refine PL.q rfl rfl (OQ.move rfl) rfl ?_
                  refine PL.skip rfl rfl rfl ?_
                  refine PL.skip rfl rfl rfl ?_
                  refine PL.skip rfl rfl rfl ?_
                  refine PL.skip rfl rfl rfl ?_
                  refine PL.skip rfl rfl rfl ?_
                  refine PL.skip rfl rfl rfl ?_
                  refine PL.q rfl rfl ((by first | exact OQ.pickT rfl rfl | exact OQ.pickF rfl rfl)) rfl ?_
                  refine PL.q rfl rfl (OQ.move rfl) rfl ?_
                  refine PL.skip rfl rfl rfl ?_
                  refine PL.skip rfl rfl rfl ?_
                  refine PL.skip rfl rfl rfl ?_
                  refine PL.skip rfl rfl rfl ?_
                  refine PL.skip rfl rfl rfl ?_
                  refine PL.skip rfl rfl rfl ?_
                  refine PL.q rfl rfl (OQ.cast ((by first | exact OQ.pickT rfl rfl | exact OQ.pickF rfl rfl)) ((by simp [bent, e1] : Value.bool false = .bool (bent l[i] l[j] l[k])))) rfl ?_
                  refine PL.q rfl rfl (OQ.assign rfl) rfl ?_
                  exact PL.nil fun a ha => ⟨(), ha.sub ⟨rfl, rfl, rfl, rfl, rfl, rfl, trivial⟩, rfl⟩
              rintro _ _ rfl
              refine CD.rs FW.wide rfl ?_
              cases hb : bent l[i] l[j] l[k] with
              | true =>
                rw [hb] at hs
                refine PL.q rfl rfl (OQ.move rfl) rfl ?_
                refine PL.q rfl rfl (OQ.move rfl) rfl ?_
                refine PL.q rfl rfl (OQ.move rfl) rfl ?_
                refine PL.q rfl rfl (OQ.no (OQ.neq rfl rfl) (by rw [hs]; rfl)) rfl ?_
                refine PL.q rfl rfl ((by first | exact OQ.pickT rfl rfl | exact OQ.pickF rfl rfl)) rfl ?_
                refine PL.q rfl rfl (OQ.move rfl) rfl ?_
                refine PL.q rfl rfl (OQ.move rfl) rfl ?_
                refine PL.q rfl rfl (OQ.not rfl) rfl ?_
                refine PL.q rfl rfl (OQ.move rfl) rfl ?_
                refine PL.skip rfl rfl rfl ?_
                refine PL.skip rfl rfl rfl ?_
                refine PL.q rfl rfl ((by first | exact OQ.pickT rfl rfl | exact OQ.pickF rfl rfl)) rfl ?_
                refine PL.q rfl rfl ((by first | exact OQ.pickT rfl rfl | exact OQ.pickF rfl rfl)) rfl ?_
                refine PL.to ?_
                refine CD.condF rfl ?_
                refine CD.skip ?_
                exact fun a ha => ⟨(), ha.sub ⟨rfl, rfl, rfl, rfl, trivial⟩, hx86'⟩
              | false =>
                rw [hb] at hs
                refine PL.q rfl rfl (OQ.move rfl) rfl ?_
                refine PL.q rfl rfl (OQ.move rfl) rfl ?_
                refine PL.skip rfl rfl rfl ?_
                refine PL.skip rfl rfl rfl ?_
                refine PL.q rfl rfl ((by first | exact OQ.pickT rfl rfl | exact OQ.pickF rfl rfl)) rfl ?_
                refine PL.q rfl rfl (OQ.move rfl) rfl ?_
                refine PL.q rfl rfl (OQ.move rfl) rfl ?_
                refine PL.q rfl rfl (OQ.not rfl) rfl ?_
                refine PL.q rfl rfl (OQ.move rfl) rfl ?_
                refine PL.q rfl rfl (OQ.move rfl) rfl ?_
                refine PL.q rfl rfl (OQ.no (OQ.neq rfl rfl) (by rw [hs]; rfl)) rfl ?_
                refine PL.q rfl rfl ((by first | exact OQ.pickT rfl rfl | exact OQ.pickF rfl rfl)) rfl ?_
                refine PL.q rfl rfl ((by first | exact OQ.pickT rfl rfl | exact OQ.pickF rfl rfl)) rfl ?_
                refine PL.to ?_
                refine CD.condF rfl ?_
                refine CD.skip ?_
                exact fun a ha => ⟨(), ha.sub ⟨rfl, rfl, rfl, rfl, trivial⟩, hx86'⟩
            · refine PL.q rfl rfl (OQ.yes (OQ.neq rfl rfl) (decide_eq_true k2)) rfl ?_
              refine PL.q rfl rfl ((by first | exact OQ.pickT rfl rfl | exact OQ.pickF rfl rfl)) rfl ?_
              refine PL.to ?_
              refine CD.condT rfl ?_
              refine CD.exit ?_
              exact fun a ha => ⟨(), ha.sub ⟨rfl, rfl, rfl, rfl, trivial⟩, hx75'⟩
          · refine PL.q rfl rfl (OQ.yes (OQ.neq rfl rfl) (decide_eq_true k1)) rfl ?_
            refine PL.q rfl rfl (OQ.move rfl) rfl ?_
            refine PL.skip rfl rfl rfl ?_
            refine PL.skip rfl rfl rfl ?_
            refine PL.skip rfl rfl rfl ?_
            refine PL.skip rfl rfl rfl ?_
            refine PL.skip rfl rfl rfl ?_
            refine PL.skip rfl rfl rfl ?_
            refine PL.skip rfl rfl rfl ?_
            refine PL.skip rfl rfl rfl ?_
            refine PL.skip rfl rfl rfl ?_
            refine PL.skip rfl rfl rfl ?_
            refine PL.q rfl rfl ((by first | exact OQ.pickT rfl rfl | exact OQ.pickF rfl rfl)) rfl ?_
            refine PL.to ?_
            refine CD.condT rfl ?_
            refine CD.exit ?_
            exact fun a ha => ⟨(), ha.sub ⟨rfl, rfl, rfl, rfl, trivial⟩, hx64'⟩
        rintro _ w9 hx9
        refine CD.r FW.wide rfl ?_
        refine PL.q rfl rfl (OQ.move rfl) rfl ?_
        refine PL.q rfl rfl (OQ.addW (r := ((k + 1 : Nat) : Int)) rfl rfl (wrap_succ (by omega))) rfl ?_
        refine PL.q rfl rfl (OQ.assign rfl) rfl ?_
        refine PL.nil ?_
        exact fun a ha => ⟨k + 1, ha.sub ⟨rfl, rfl, rfl, rfl, trivial⟩, ⟨hx9, by omega⟩, by omega⟩
      · refine CD.exit ?_
        refine CD.r FW.wide rfl ?_
        refine PL.q rfl rfl (OQ.move rfl) rfl ?_
        refine PL.q rfl rfl (OQ.addW (r := ((j + 1 : Nat) : Int)) rfl rfl (wrap_succ (by omega))) rfl ?_
        refine PL.q rfl rfl (OQ.assign rfl) rfl ?_
        refine PL.nil ?_
        exact fun a ha => ⟨j + 1, ha.sub ⟨rfl, rfl, rfl, trivial⟩, ⟨hx5, by omega⟩, by omega⟩
    · refine CD.exit ?_
      refine CD.r FW.wide rfl ?_
      refine PL.q rfl rfl (OQ.move rfl) rfl ?_
      refine PL.q rfl rfl (OQ.addW (r := ((i + 1 : Nat) : Int)) rfl rfl (wrap_succ (by omega))) rfl ?_
      refine PL.q rfl rfl (OQ.assign rfl) rfl ?_
      refine PL.nil ?_
      exact fun a ha => ⟨i + 1, ha.sub ⟨rfl, rfl, trivial⟩, ⟨hx4, by omega⟩, by omega⟩
  · refine CD.exit ?_
    refine CD.rs FW.wide rfl ?_
    refine PL.q rfl rfl (OQ.assign rfl) rfl ?_
    refine PL.to ?_
    exact CD.ret (post1 rfl rfl ⟨_, rfl, hx1, rfl⟩)
end Go.Proofs.YtiebkbmnepgacaaGreatDoor
