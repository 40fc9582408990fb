/-
  The walk of the law OrderUnsigned.
-/
import Derived.Test.YtdielcpjemkngaaFx8
import Derived.Test.YtdielcpjemkngaaOr6U
import Derived.Test.YtdielcpjemkngaaOr8U
namespace Go.Proofs.Ytdielcpjemkngaa
open Go.RowKit OU
set_option linter.unusedVariables false

abbrev U (x : Int) : Int := IntKind.u64.wrap x
theorem U_inj {x y : Int} (hx : -9223372036854775808 ≤ x ∧ x ≤ 9223372036854775807) (hy : -9223372036854775808 ≤ y ∧ y ≤ 9223372036854775807) (h : U x = U y) : x = y := by
  simp only [U, IntKind.wrap, IntKind.signed, IntKind.bits, Bool.false_and, Bool.false_eq_true, if_false] at h
  omega
def insU (l : Ents Int) (x : Int) : Ents Int := ins lt (U x) x l
theorem srt_insU (z : List Int) : ∀ l, Srt lt l → Srt lt (z.foldl insU l) := by
  induction z with
  | nil => intro l h; exact h
  | cons x r ih => intro l h; exact ih _ (srt_ins lo _ _ h)
theorem get_insU (x : Int) (hx : -9223372036854775808 ≤ x ∧ x ≤ 9223372036854775807) (z : List Int) (hz : ∀ y ∈ z, -9223372036854775808 ≤ y ∧ y ≤ 9223372036854775807) : ∀ l, Srt lt l →
    (getL lt (U x) l = some x ∨ x ∈ z) → getL lt (U x) (z.foldl insU l) = some x := by
  induction z with
  | nil => intro l _ h; simpa using h
  | cons y r ih =>
    intro l hl h
    refine ih (fun y' h' => hz y' (by simp [h'])) _ (srt_ins lo _ _ hl) ?_
    by_cases e : x = y
    · left; subst e; rw [insU, getL_ins lo hl, lo.irr]; simp
    · rcases h with h | h
      · left
        rw [insU, getL_ins lo hl, if_pos]
        · exact h
        · have hne : U x ≠ U y := fun e' => e (U_inj hx (hz y (by simp)) e')
          simp only [lt, Bool.or_eq_true, decide_eq_true_eq]; omega
      · rcases List.mem_cons.1 h with h | h
        · exact absurd h e
        · exact .inr h

theorem foldl_insU_ne (z : List Int) : ∀ l, l ≠ [] → z.foldl insU l ≠ [] := by
  induction z with
  | nil => intro l h; exact h
  | cons x r ih => intro l _; exact ih _ (ins_ne_nil _ _ _)
theorem unsigned_w (a : Option Addr) (c : Nat) (z : List Int) (w : World) (h : IntsAt w .i64 a z) (hs : z.length * 8 ≤ 140737488351232) (hz : ∀ x ∈ z, -9223372036854775808 ≤ x ∧ x ≤ 9223372036854775807) :
    Rt Try.prog 3 [.slice a z.length c] w fun v _ => v = .bool true := by
  refine Rt.of Try.func3 rfl Try.ntmps3 (by rfl) ?_
  refine CD.rs FW.wide rfl ?_
  refine PL.q rfl rfl (OQ.assign rfl) rfl ?_
  refine PL.to ?_
  refine CD.rs FW.wide rfl ?_
  refine PL.call FW.wide rfl rfl rfl rfl (New_w w) ?_
  rintro _ w13 hx13 ⟨m0, rfl, hm0⟩
  refine PL.q rfl rfl (OQ.assign rfl) rfl ?_
  refine PL.to ?_
  refine CD.seq ?_
  refine CD.rs FW.wide rfl ?_
  refine PL.q rfl rfl (OQ.move rfl) rfl ?_
  refine PL.q rfl rfl ((by first | exact OQ.eqNN rfl rfl | exact OQ.eqNS rfl rfl | exact OQ.eqN rfl rfl)) rfl ?_
  refine PL.to ?_
  refine CD.condF rfl ?_
  refine CD.skip ?_
  refine CD.rs FW.wide rfl ?_
  refine PL.q rfl rfl (OQ.move rfl) rfl ?_
  refine PL.call FW.wide rfl rfl rfl rfl (Put_w m0 9223372036854775808 1 .leaf w13 hm0 (by simp [Tr.size])) ?_
  rintro _ w17 hx17 ⟨m1, rfl, hm1⟩
  refine PL.q rfl rfl (OQ.assign rfl) rfl ?_
  refine PL.to ?_
  refine CD.seq ?_
  refine CD.rs FW.wide rfl ?_
  refine PL.q rfl rfl (OQ.move rfl) rfl ?_
  refine PL.q rfl rfl ((by first | exact OQ.eqNN rfl rfl | exact OQ.eqNS rfl rfl | exact OQ.eqN rfl rfl)) rfl ?_
  refine PL.q rfl rfl (OQ.move rfl) rfl ?_
  refine PL.q rfl rfl (OQ.move rfl) rfl ?_
  refine PL.call FW.wide rfl rfl rfl rfl (Len_w m1 _ w17 hm1) ?_
  rintro _ _ _ ⟨rfl, rfl⟩
  refine PL.q rfl rfl (OQ.no (OQ.neq rfl rfl) (rfl)) rfl ?_
  refine PL.q rfl rfl ((by first | exact OQ.pickT rfl rfl | exact OQ.pickF rfl rfl)) rfl ?_
  refine PL.to ?_
  refine CD.condF rfl ?_
  refine CD.skip ?_
  refine CD.rs FW.wide rfl ?_
  refine PL.q rfl rfl (OQ.move rfl) rfl ?_
  refine PL.call FW.wide rfl rfl rfl rfl (All_w m1 w17) ?_
  rintro _ w26 hx26 ⟨b26, rfl, _⟩
  refine PL.q rfl rfl (OQ.assign rfl) rfl ?_
  refine PL.to ?_
  refine CD.seq ?_
  refine CD.rs FW.wide rfl ?_
  refine PL.q rfl rfl (OQ.move rfl) rfl ?_
  refine PL.q rfl rfl (OQ.eqF rfl rfl) rfl ?_
  refine PL.to ?_
  refine CD.condF rfl ?_
  refine CD.skip ?_
  refine CD.seq ?_
  refine CD.rs FW.wide rfl ?_
  refine PL.q rfl rfl (OQ.assign rfl) rfl ?_
  refine PL.to ?_
  refine CD.block ?_
  have hx0 := (hx13.trans hx17).trans hx26
  refine CD.loop (α := Nat × Nat × Tr Int) (fun s => [(0, .slice a z.length c), (5, .int .i64 s.1), (3, ptr s.2.1)])
    (fun s w' => Ext w w' ∧ s.1 ≤ z.length ∧ MapAt w' s.2.1 s.2.2 ∧ s.2.2.toL = (z.take s.1).foldl insU [(9223372036854775808, 1)] ∧ s.2.2.size ≤ s.1 + 1) (fun s => z.length - s.1) (0, m1, _) ⟨rfl, rfl, rfl, trivial⟩ ⟨hx0, by simp, hm1.ext hx26, by simp [Tr.put, Tr.toL], by simp [Tr.put, Tr.size]⟩ ?_
  rintro ⟨i, m, t⟩ w1 ⟨hx1, hi, hm, ht, hts⟩
  simp only at hi hm ht hts
  have hst : Srt lt t.toL := by rw [ht]; exact srt_insU _ _ (by simp [Srt])
  refine CD.seq ?_
  refine CD.rs FW.wide rfl ?_
  refine PL.q rfl rfl (OQ.move rfl) rfl ?_
  refine PL.q rfl rfl (OQ.move rfl) rfl ?_
  refine PL.q rfl rfl (OQ.lenS rfl) rfl ?_
  refine PL.q rfl rfl (OQ.lss rfl rfl) rfl ?_
  refine PL.to ?_
  refine CD.condD rfl (fun h11 => ?_) (fun h11 => ?_)
  · have hi' : i < z.length := by omega
    obtain ⟨b, o, rfl, hc⟩ := IntsAt.at (h.ext hx1) i hi'
    refine CD.skip ?_
    refine CD.seq ?_
    refine CD.block ?_
    refine CD.as .ext trivial FW.wide (by kernel_rfl) [(0, true), (1, true), (2, true), (3, true), (4, true), (5, true), (6, true), (7, true), (8, true), (9, true), (10, false), (11, true)] (by kernel_rfl) rfl (by kernel_rfl) ?_
    intro w2 hx2 _
    have hc2 := hx2.cell hc
    refine PL.q rfl rfl (OQ.move rfl) rfl ?_
    refine PL.q rfl rfl (OQ.move rfl) rfl ?_
    refine PL.q rfl rfl (OQ.move rfl) rfl ?_
    refine PL.q rfl rfl (OQ.indexAddr rfl rfl (by first | assumption | omega)) rfl ?_
    refine PL.q rfl rfl (OQ.loadX rfl (by assumption)) rfl ?_
    refine PL.q rfl rfl (OQ.convI rfl) rfl ?_
    refine PL.q rfl rfl (OQ.move rfl) rfl ?_
    refine PL.q rfl rfl (OQ.move rfl) rfl ?_
    refine PL.q rfl rfl (OQ.indexAddr rfl rfl (by first | assumption | omega)) rfl ?_
    refine PL.q rfl rfl (OQ.loadX rfl (by assumption)) rfl ?_
    refine PL.call FW.wide rfl rfl rfl rfl (Put_w m (U z[i]) z[i] t w2 (hm.ext hx2) (by omega)) ?_
    rintro _ w45 hx45 ⟨m', rfl, hm'⟩
    refine PL.q rfl rfl (OQ.assign rfl) rfl ?_
    refine PL.to ?_
    refine CD.rs FW.wide rfl ?_
    refine PL.q rfl rfl (OQ.move rfl) rfl ?_
    refine PL.q rfl rfl ((by first | exact OQ.eqNN rfl rfl | exact OQ.eqNS rfl rfl | exact OQ.eqN rfl rfl)) rfl ?_
    refine PL.to ?_
    refine CD.condF rfl ?_
    refine CD.skip ?_
    refine CD.r FW.wide rfl ?_
    refine PL.q rfl rfl (OQ.move rfl) rfl ?_
    refine PL.q rfl rfl (OQ.addW (r := ((i + 1 : Nat) : Int)) rfl rfl (wrap_succ (by omega))) rfl ?_
    refine PL.q rfl rfl (OQ.assign rfl) rfl ?_
    refine PL.nil ?_
    have hz' := Tr.size_put lt (U z[i]) z[i] t
    exact fun a ha => ⟨(i + 1, m', _), ha.sub ⟨rfl, rfl, rfl, trivial⟩, ⟨(hx1.trans hx2).trans hx45, by simp only; omega, hm', by rw [toL_put _ _ _ hst, ht, List.take_succ_eq_append_getElem hi', List.foldl_append]; rfl, by simp only; omega⟩, by simp only; omega⟩
  · refine CD.exit ?_
    obtain rfl : i = z.length := by omega
    rw [List.take_length] at ht
    refine CD.rs FW.wide rfl ?_
    refine PL.q rfl rfl (OQ.move rfl) rfl ?_
    refine PL.call FW.wide rfl rfl rfl rfl (Keys_w m t w1 hm (by omega)) ?_
    rintro _ w49 hx49 hown
    obtain ⟨ak, ck, rfl, hk, hkl⟩ := hown.slc
    refine PL.q rfl rfl (OQ.assign rfl) rfl ?_
    refine PL.to ?_
    refine CD.seq ?_
    refine CD.rs FW.wide rfl ?_
    refine PL.q rfl rfl (OQ.move rfl) rfl ?_
    refine PL.q rfl rfl (OQ.lenS rfl) rfl ?_
    refine PL.q rfl rfl (OQ.move rfl) rfl ?_
    refine PL.call FW.wide rfl rfl rfl rfl (Len_w m t w49 (hm.ext hx49)) ?_
    rintro _ _ _ ⟨rfl, rfl⟩
    refine PL.q rfl rfl (OQ.no (OQ.neq rfl rfl) (by simp)) rfl ?_
    refine PL.q rfl rfl (OQ.move rfl) rfl ?_
    refine PL.q rfl rfl (OQ.move rfl) rfl ?_
    refine PL.q rfl rfl (OQ.lenS rfl) rfl ?_
    refine PL.q rfl rfl (OQ.no (OQ.lss rfl rfl) (by { have h1 : 0 < t.toL.length := List.length_pos_iff.2 (by rw [ht]; exact foldl_insU_ne _ _ (by simp)); rw [Tr.length_toL] at h1; simp only [decide_eq_false_iff_not]; omega })) rfl ?_
    refine PL.q rfl rfl ((by first | exact OQ.pickT rfl rfl | exact OQ.pickF rfl rfl)) rfl ?_
    refine PL.to ?_
    refine CD.condF rfl ?_
    refine CD.skip ?_
    refine CD.seq ?_
    refine CD.rs FW.wide rfl ?_
    refine PL.q rfl rfl (OQ.assign rfl) rfl ?_
    refine PL.to ?_
    refine CD.block ?_
    refine CD.loop (α := Nat) (fun s => [(0, .slice a z.length c), (3, ptr m), (6, .slice ak t.size ck), (7, .int .i64 s)]) (fun s w' => Ext w49 w' ∧ s ≤ t.size) (fun s => t.size - s) 0 ⟨rfl, rfl, rfl, rfl, trivial⟩ ⟨Ext.refl _, by simp⟩ ?_
    rintro i w2 ⟨hx2, hi2⟩
    refine CD.seq ?_
    refine CD.rs FW.wide rfl ?_
    refine PL.q rfl rfl (OQ.move rfl) rfl ?_
    refine PL.q rfl rfl (OQ.move rfl) rfl ?_
    refine PL.q rfl rfl (OQ.lenS rfl) rfl ?_
    refine PL.q rfl rfl (OQ.lss rfl rfl) rfl ?_
    refine PL.to ?_
    have hm2 := (hm.ext hx49).ext hx2
    have hk2 := hk.ext hx2
    refine CD.condD rfl (fun h20 => ?_) (fun h20 => ?_)
    · have hit : i < t.toL.length := by rw [Tr.length_toL]; omega
      obtain ⟨b, o, rfl, hc⟩ := hk2 i (kv t.toL[i].1) (by simp [keysV, hit])
      have ⟨r1, r2⟩ := Srt.at lo hst i hit
      have ⟨q1, q2⟩ := rank_eq t.toL[i].1 t hst 0
      rw [r1, Nat.zero_add] at q1; rw [r2] at q2
      refine CD.skip ?_
      refine CD.seq ?_
      refine CD.block ?_
      refine CD.rs FW.wide rfl ?_
      refine PL.q rfl rfl (OQ.move rfl) rfl ?_
      refine PL.q rfl rfl (OQ.move rfl) rfl ?_
      refine PL.q rfl rfl (OQ.move rfl) rfl ?_
      refine PL.q rfl rfl (OQ.indexAddr rfl rfl (by first | assumption | omega)) rfl ?_
      refine PL.q rfl rfl (OQ.loadS rfl (by assumption)) rfl ?_
      refine PL.call FW.wide rfl rfl rfl rfl (Rank_w m t.toL[i].1 t w2 hm2 (by omega)) ?_
      rintro _ _ _ ⟨rfl, rfl⟩
      rw [q1, q2]
      refine PL.q rfl rfl (OQ.move rfl) rfl ?_
      refine PL.q rfl rfl (OQ.extract rfl rfl) rfl ?_
      refine PL.q rfl rfl (OQ.extract rfl rfl) rfl ?_
      refine PL.q rfl rfl (OQ.assign rfl) rfl ?_
      refine PL.q rfl rfl (OQ.assign rfl) rfl ?_
      refine PL.to ?_
      refine CD.cut (α := Unit) (fun _ => [(0, .slice a z.length c), (3, ptr m), (6, .slice (some ⟨b, o, none⟩) t.size ck), (7, .int .i64 i), (97, .bool false)]) (fun _ w' => Ext w2 w') ?_ ?_
      · refine CD.a .ext trivial FW.wide (by kernel_rfl) [(0, true), (1, true), (2, true), (3, true), (4, true), (5, true), (6, true), (7, true), (8, true), (9, true), (10, true), (11, true), (12, true), (13, true), (14, true), (15, true), (16, true), (17, true), (18, true), (19, true), (20, true), (21, true), (22, true)] (by kernel_rfl) rfl (by kernel_rfl) ?_
        intro w3 hx3 _
        cases i with
        | zero =>
          refine PL.q rfl rfl (OQ.move rfl) rfl ?_
          refine PL.q rfl rfl (OQ.no (OQ.gtr rfl rfl) (rfl)) rfl ?_
          refine PL.q rfl rfl (OQ.move rfl) rfl ?_
          refine PL.skip rfl rfl rfl ?_
          refine PL.skip rfl rfl rfl ?_
          refine PL.skip rfl rfl rfl ?_
          refine PL.skip rfl rfl rfl ?_
          refine PL.skip rfl rfl rfl ?_
          refine PL.skip rfl rfl rfl ?_
          refine PL.skip rfl rfl rfl ?_
          refine PL.skip rfl rfl rfl ?_
          refine PL.skip rfl rfl rfl ?_
          refine PL.skip rfl rfl rfl ?_
          refine PL.q rfl rfl ((by first | exact OQ.pickT rfl rfl | exact OQ.pickF rfl rfl)) rfl ?_
          refine PL.q rfl rfl (OQ.move rfl) rfl ?_
          refine PL.q rfl rfl (OQ.move rfl) rfl ?_
          refine PL.q rfl rfl (OQ.not rfl) rfl ?_
          refine PL.q rfl rfl ((by first | exact OQ.pickT rfl rfl | exact OQ.pickF rfl rfl)) rfl ?_
          refine PL.q rfl rfl (OQ.move rfl) rfl ?_
          refine PL.q rfl rfl (OQ.move rfl) rfl ?_
          refine PL.q rfl rfl (OQ.move rfl) rfl ?_
          refine PL.q rfl rfl (OQ.no (OQ.neq rfl rfl) (by simp)) rfl ?_
          refine PL.q rfl rfl ((by first | exact OQ.pickT rfl rfl | exact OQ.pickF rfl rfl)) rfl ?_
          exact PL.nil fun a ha => ⟨(), ha.sub ⟨rfl, rfl, rfl, rfl, rfl, trivial⟩, hx3⟩
        | succ i =>
          have hr := Srt.rise hst i (by omega)
          obtain ⟨b', o', e', hc'⟩ := (hk2.ext hx3) i (kv t.toL[i].1) (by rw [keysV, List.getElem?_map, List.getElem?_eq_getElem (by omega)]; rfl)
          obtain ⟨rfl, rfl⟩ : b = b' ∧ o = o' := by simpa using e'
          have hc3 := hx3.cell hc
          refine PL.q rfl rfl (OQ.move rfl) rfl ?_
          refine PL.q rfl rfl (OQ.yes (OQ.gtr rfl rfl) (by simp)) rfl ?_
          refine PL.q rfl rfl (OQ.move rfl) rfl ?_
          refine PL.q rfl rfl (OQ.move rfl) rfl ?_
          refine PL.q rfl rfl (OQ.move rfl) rfl ?_
          refine PL.q rfl rfl (OQ.subW (r := ((i : Nat) : Int)) rfl rfl (by rw [wrapI _ (by omega) (by omega)]; omega)) rfl ?_
          refine PL.q rfl rfl (OQ.indexAddr rfl rfl (by first | assumption | omega)) rfl ?_
          refine PL.q rfl rfl (OQ.loadX rfl (by assumption)) rfl ?_
          refine PL.q rfl rfl (OQ.move rfl) rfl ?_
          refine PL.q rfl rfl (OQ.move rfl) rfl ?_
          refine PL.q rfl rfl (OQ.indexAddr rfl rfl (by first | assumption | omega)) rfl ?_
          refine PL.q rfl rfl (OQ.loadX rfl (by assumption)) rfl ?_
          refine PL.q rfl rfl (OQ.no (OQ.geq rfl rfl) (by simp only [lt, decide_eq_true_eq] at hr; simp only [decide_eq_false_iff_not]; omega)) rfl ?_
          refine PL.q rfl rfl ((by first | exact OQ.pickT rfl rfl | exact OQ.pickF rfl rfl)) rfl ?_
          refine PL.q rfl rfl (OQ.move rfl) rfl ?_
          refine PL.q rfl rfl (OQ.move rfl) rfl ?_
          refine PL.q rfl rfl (OQ.not rfl) rfl ?_
          refine PL.q rfl rfl ((by first | exact OQ.pickT rfl rfl | exact OQ.pickF rfl rfl)) rfl ?_
          refine PL.q rfl rfl (OQ.move rfl) rfl ?_
          refine PL.q rfl rfl (OQ.move rfl) rfl ?_
          refine PL.q rfl rfl (OQ.move rfl) rfl ?_
          refine PL.q rfl rfl (OQ.no (OQ.neq rfl rfl) (by simp)) rfl ?_
          refine PL.q rfl rfl ((by first | exact OQ.pickT rfl rfl | exact OQ.pickF rfl rfl)) rfl ?_
          exact PL.nil fun a ha => ⟨(), ha.sub ⟨rfl, rfl, rfl, rfl, rfl, trivial⟩, hx3⟩
      rintro _ w3 hx3
      have hx23 := hx2.trans hx3
      refine CD.condF rfl ?_
      refine CD.skip ?_
      refine CD.r FW.wide rfl ?_
      refine PL.q rfl rfl (OQ.move rfl) rfl ?_
      refine PL.q rfl rfl (OQ.addW (r := ((i + 1 : Nat) : Int)) rfl rfl (wrap_succ (by omega))) rfl ?_
      refine PL.q rfl rfl (OQ.assign rfl) rfl ?_
      refine PL.nil ?_
      exact fun a ha => ⟨i + 1, ha.sub ⟨rfl, rfl, rfl, rfl, trivial⟩, ⟨hx23, by omega⟩, by omega⟩
    · refine CD.exit ?_
      refine CD.seq ?_
      refine CD.rs FW.wide rfl ?_
      refine PL.q rfl rfl (OQ.assign rfl) rfl ?_
      refine PL.to ?_
      refine CD.block ?_
      have hx02 := (hx1.trans hx49).trans hx2
      refine CD.loop (α := Nat) (fun s => [(0, .slice a z.length c), (3, ptr m), (10, .int .i64 s)]) (fun s w' => Ext w2 w' ∧ s ≤ z.length) (fun s => z.length - s) 0 ⟨rfl, rfl, rfl, trivial⟩ ⟨Ext.refl _, by simp⟩ ?_
      rintro j w3 ⟨hx3, hj⟩
      refine CD.seq ?_
      refine CD.rs FW.wide rfl ?_
      refine PL.q rfl rfl (OQ.move rfl) rfl ?_
      refine PL.q rfl rfl (OQ.move rfl) rfl ?_
      refine PL.q rfl rfl (OQ.lenS rfl) rfl ?_
      refine PL.q rfl rfl (OQ.lss rfl rfl) rfl ?_
      refine PL.to ?_
      refine CD.condD rfl (fun h26 => ?_) (fun h26 => ?_)
      · have hj' : j < z.length := by omega
        obtain ⟨b, o, rfl, hc⟩ := IntsAt.at (h.ext (hx02.trans hx3)) j hj'
        refine CD.skip ?_
        refine CD.seq ?_
        refine CD.block ?_
        refine CD.rs FW.wide rfl ?_
        refine PL.q rfl rfl (OQ.move rfl) rfl ?_
        refine PL.q rfl rfl (OQ.move rfl) rfl ?_
        refine PL.q rfl rfl (OQ.move rfl) rfl ?_
        refine PL.q rfl rfl (OQ.indexAddr rfl rfl (by first | assumption | omega)) rfl ?_
        refine PL.q rfl rfl (OQ.loadS rfl (by assumption)) rfl ?_
        refine PL.q rfl rfl (OQ.convI rfl) rfl ?_
        refine PL.call FW.wide rfl rfl rfl rfl (Get_w m (U z[j]) t w3 (hm2.ext hx3)) ?_
        rintro _ _ _ ⟨rfl, rfl⟩
        rw [find_eq _ _ hst, ht, get_insU z[j] (hz _ (by simp)) z hz _ (by simp [Srt]) (.inr (by simp))]
        refine PL.q rfl rfl (OQ.move rfl) rfl ?_
        refine PL.q rfl rfl (OQ.extract rfl rfl) rfl ?_
        refine PL.q rfl rfl (OQ.extract rfl rfl) rfl ?_
        refine PL.q rfl rfl (OQ.assign rfl) rfl ?_
        refine PL.q rfl rfl (OQ.assign rfl) rfl ?_
        refine PL.to ?_
        refine CD.rs FW.wide rfl ?_
        refine PL.q rfl rfl (OQ.move rfl) rfl ?_
        refine PL.q rfl rfl (OQ.not rfl) rfl ?_
        refine PL.q rfl rfl (OQ.move rfl) rfl ?_
        refine PL.q rfl rfl (OQ.move rfl) rfl ?_
        refine PL.q rfl rfl (OQ.move rfl) rfl ?_
        refine PL.q rfl rfl (OQ.move rfl) rfl ?_
        refine PL.q rfl rfl (OQ.indexAddr rfl rfl (by first | assumption | omega)) rfl ?_
        refine PL.q rfl rfl (OQ.loadS rfl (by assumption)) rfl ?_
        refine PL.q rfl rfl (OQ.no (OQ.neq rfl rfl) (by simp)) rfl ?_
        refine PL.q rfl rfl ((by first | exact OQ.pickT rfl rfl | exact OQ.pickF rfl rfl)) rfl ?_
        refine PL.to ?_
        refine CD.condF rfl ?_
        refine CD.skip ?_
        refine CD.r FW.wide rfl ?_
        refine PL.q rfl rfl (OQ.move rfl) rfl ?_
        refine PL.q rfl rfl (OQ.addW (r := ((j + 1 : Nat) : Int)) rfl rfl (wrap_succ (by omega))) rfl ?_
        refine PL.q rfl rfl (OQ.assign rfl) rfl ?_
        refine PL.nil ?_
        exact fun a ha => ⟨j + 1, ha.sub ⟨rfl, rfl, rfl, trivial⟩, ⟨hx3, by omega⟩, by omega⟩
      · refine CD.exit ?_
        refine CD.rs FW.wide rfl ?_
        refine PL.q rfl rfl (OQ.assign rfl) rfl ?_
        refine PL.to ?_
        exact CD.ret (post1 rfl rfl ⟨_, rfl, hx02.trans hx3, rfl⟩)
end Go.Proofs.Ytdielcpjemkngaa
