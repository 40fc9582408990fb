/-
  The walks of the laws' helper snap (a map's keys and values, each answer held against the others).
-/
import Derived.Test.YtdielcpjemkngaaOb1
import Derived.Test.YtdielcpjemkngaaOr9I
import Derived.Test.YtdielcpjemkngaaFx10
namespace Go.Proofs.Ytdielcpjemkngaa
open Go.RowKit OI
set_option linter.unusedVariables false

def keysL (t : Tr Int) : List Int := t.toL.map (·.1)
def valsL (t : Tr Int) : List Int := t.toL.map (·.2)
theorem length_keysL (t : Tr Int) : (keysL t).length = t.size := by simp [keysL, Tr.length_toL]
theorem length_valsL (t : Tr Int) : (valsL t).length = t.size := by simp [valsL, Tr.length_toL]
abbrev i64s (z : List Int) : List Value := z.map fun x => .int .i64 x
theorem Own.cells1 {w : World} {B : Nat} {e : TypeId} {k c : Nat} {a : Option Addr} {xs : List Value} (h : Own w B e 1 (.slice a k c) k xs) : Cells w a xs := by
  obtain ⟨a', c', e, hc, _⟩ := h.slc
  simp only [Value.slice.injEq] at e
  obtain ⟨rfl, _, rfl⟩ := e
  exact hc

theorem snap_w (m : Nat) (t : Tr Int) (w : World) (hm : MapAt w m t) (hs : Srt lt t.toL) (hsz : t.size * 8 ≤ 140737488355328) :
    Rt Try.prog 27 [ptr m] w fun v w' => ∃ ak ck av cv, v = .tuple #[.agg #[ptr m, .slice ak t.size ck, .slice av t.size cv], .bool true] ∧ Own w' w.heap.size 3 1 (.slice ak t.size ck) t.size (i64s (keysL t)) ∧ Own w' w.heap.size 3 1 (.slice av t.size cv) t.size (i64s (valsL t)) := by
  refine Rt.of Try.func27 rfl Try.ntmps27 (by rfl) ?_
  refine CD.rs FW.wide rfl ?_
  refine PL.alloc FW.wide rfl rfl rfl ?_
  intro b2 w2 new2
  refine PL.q rfl rfl (OQ.assign rfl) rfl ?_
  refine PL.to ?_
  refine CD.rs FW.wide rfl ?_
  refine PL.q rfl rfl (OQ.move rfl) rfl ?_
  refine PL.q rfl rfl ((by first | exact OQ.build1 rfl rfl | exact OQ.buildC rfl rfl)) rfl ?_
  refine PL.alloc FW.wide rfl rfl rfl ?_
  intro b4 w4 new4
  refine PL.put FW.wide rfl rfl rfl rfl rfl new4.heap rfl rfl rfl rfl (fun _ _ => .inl trivial) ?_
  intro w5 hw5
  refine PL.to ?_
  refine CD.rs FW.wide rfl ?_
  refine PL.q rfl rfl (OQ.move rfl) rfl ?_
  have hb2 : w.heap.size = b2 := new2.idx.symm
  have hb4 : w2.heap.size = b4 := new4.idx.symm
  have hb24 : b2 < b4 := by rw [← hb4]; exact new2.lt
  have hx5 : Ext w w5 := hw5.ext (new2.ext.trans new4.ext) (by omega)
  refine PL.call FW.wide rfl rfl rfl rfl (Keys_w m t w5 (hm.ext hx5) hsz) ?_
  rintro _ wK hxK hown
  obtain ⟨ak, ck, rfl, _, _⟩ := hown.slc
  refine PL.q rfl rfl (OQ.assign rfl) rfl ?_
  refine PL.to ?_
  refine CD.seq ?_
  refine CD.rs FW.wide rfl ?_
  refine PL.q rfl rfl (OQ.move rfl) rfl ?_
  refine PL.q rfl rfl (OQ.lenS rfl) rfl ?_
  refine PL.q rfl rfl (OQ.move rfl) rfl ?_
  have hxwK := hx5.trans hxK
  refine PL.call FW.wide rfl rfl rfl rfl (Len_w m t wK (hm.ext hxwK)) ?_
  rintro _ _ _ ⟨rfl, rfl⟩
  refine PL.q rfl rfl (OQ.no (OQ.neq rfl rfl) (by simp)) rfl ?_
  refine PL.to ?_
  refine CD.condF rfl ?_
  refine CD.skip ?_
  refine CD.seq ?_
  refine CD.rs FW.wide rfl ?_
  refine PL.q rfl rfl (OQ.assign rfl) rfl ?_
  refine PL.to ?_
  refine CD.block ?_
  have hh4 : wK.heap[b4]? = some (.cells #[ptr m, .slice none 0 0, .slice none 0 0] 41 (0, 0)) := hxK.heap hw5.heap
  have hh2 : wK.heap[b2]? = some (.cells #[.pointer none, .slice none 0 0, .slice none 0 0] 41 (0, 0)) := hxK.heap (hw5.ne (new4.ext.heap new2.heap) (by omega))
  have hw5s : w5.heap.size = b4 + 1 := by rw [hw5.size, new4.size]
  have hbK : b4 < wK.heap.size := (Array.getElem?_eq_some_iff.1 hh4).1
  obtain ⟨S, hS⟩ : ∃ S : Nat → Prop, S = fun k => k < wK.heap.size ∧ k ≠ b4 := ⟨_, rfl⟩
  have hlenK : (keysL t).length = t.size := length_keysL t
  refine CD.loop (α := Nat × Value × Value) (fun s => [(0, ptr m), (2, .pointer (some ⟨b2, 0, none⟩)), (4, .pointer (some ⟨b4, 0, none⟩)), (5, .slice ak t.size ck), (6, .int .i64 s.1)])
    (fun s w' => Bl S wK w' ∧ s.1 ≤ t.size ∧ w'.heap[b4]? = some (.cells #[ptr m, s.2.1, s.2.2] 41 (0, 0)) ∧ Own w' wK.heap.size 3 1 s.2.1 s.1 (i64s ((keysL t).take s.1)) ∧ Own w' wK.heap.size 3 1 s.2.2 s.1 (i64s ((valsL t).take s.1)) ∧
      (∀ g, s.2.1.ownBlock = some g → s.2.2.ownBlock ≠ some g)) (fun s => t.size - s.1) (0, .slice none 0 0, .slice none 0 0) ⟨rfl, rfl, rfl, rfl, rfl, trivial⟩
    ⟨Bl.refl _ _, by simp, hh4, by simpa [i64s] using World.ownsRow_nil _ _ _ _, by simpa [i64s] using World.ownsRow_nil _ _ _ _, by simp [Value.ownBlock]⟩ ?_
  rintro ⟨i, v1, v2⟩ w1 ⟨hbl, hi, hh41, ho1, ho2, hdis⟩
  simp only at hi hh41 ho1 ho2 hdis
  have hxw1 : Ext w w1 := hxwK.trans' hbl (fun k hk => by subst hS; exact ⟨by have := hxwK.size; omega, by omega⟩)
  have hm1 : MapAt w1 m t := hm.ext hxw1
  have hl1 : Own w1 w5.heap.size 3 1 (.slice ak t.size ck) t.size (keysV t.toL) := hown.keep fun g hg => by
    have := World.ownsRow.lt hown g hg
    exact hbl.block g (by subst hS; exact ⟨this.2, by omega⟩)
  have hcl : IntsAt w1 .i64 ak (keysL t) := by
    have := hl1.cells1
    simpa [IntsAt, keysL, keysV, Function.comp_def] using this
  refine CD.seq ?_
  refine CD.rs FW.wide rfl ?_
  refine PL.q rfl rfl (OQ.move rfl) rfl ?_
  refine PL.q rfl rfl (OQ.move rfl) rfl ?_
  refine PL.q rfl rfl (OQ.lenS rfl) rfl ?_
  refine PL.q rfl rfl (OQ.lss rfl rfl) rfl ?_
  refine PL.to ?_
  refine CD.condD rfl (fun h6 => ?_) (fun h6 => ?_)
  · have hi' : i < t.toL.length := by rw [Tr.length_toL]; omega
    obtain ⟨b, o, rfl, hc⟩ := IntsAt.at hcl i (by rw [hlenK]; omega)
    obtain ⟨key, hkey⟩ : ∃ key, key = t.toL[i].1 := ⟨_, rfl⟩
    obtain ⟨val, hval⟩ : ∃ val, val = t.toL[i].2 := ⟨_, rfl⟩
    have hki : (keysL t)[i]'(by rw [hlenK]; omega) = key := by simp [keysL, hkey]
    have hvi : (valsL t)[i]'(by rw [length_valsL]; omega) = val := by simp [valsL, hval]
    rw [hki] at hc
    have ⟨r1, r2⟩ := Srt.at lo hs i hi'
    have ⟨q1, q2⟩ := rank_eq t.toL[i].1 t hs 0
    rw [r1, Nat.zero_add] at q1; rw [r2] at q2
    have q3 := find_eq t.toL[i].1 t hs
    rw [r2] at q3
    have q4 : atT t (i : Int) = some (key, val) := by rw [atT_eq, if_pos (by omega)]; simp [hi', hkey, hval]
    rw [← hkey] at q1 q2 q3
    rw [← hval] at q3
    refine CD.skip ?_
    refine CD.seq ?_
    refine CD.block ?_
    refine CD.rs FW.wide rfl ?_
    refine PL.q rfl rfl (OQ.move rfl) rfl ?_
    refine PL.q rfl rfl (OQ.move rfl) rfl ?_
    refine PL.q rfl rfl (OQ.move rfl) rfl ?_
    refine PL.q rfl rfl (OQ.indexAddr rfl rfl (by first | assumption | omega)) rfl ?_
    refine PL.q rfl rfl (OQ.loadS rfl (by assumption)) rfl ?_
    refine PL.call FW.wide rfl rfl rfl rfl (Get_w m key t w1 hm1) ?_
    rintro _ _ _ ⟨rfl, rfl⟩
    rw [q3]
    refine PL.q rfl rfl (OQ.move rfl) rfl ?_
    refine PL.q rfl rfl (OQ.extract rfl rfl) rfl ?_
    refine PL.q rfl rfl (OQ.extract rfl rfl) rfl ?_
    refine PL.q rfl rfl (OQ.assign rfl) rfl ?_
    refine PL.q rfl rfl (OQ.assign rfl) rfl ?_
    refine PL.to ?_
    refine CD.rs FW.wide rfl ?_
    refine PL.q rfl rfl (OQ.move rfl) rfl ?_
    refine PL.q rfl rfl (OQ.move rfl) rfl ?_
    refine PL.call FW.wide rfl rfl rfl rfl (At_w m i t w1 hm1 (by omega) (by omega) (by omega)) ?_
    rintro _ w42 hx42 rfl
    rw [q4]
    refine PL.q rfl rfl (OQ.move rfl) rfl ?_
    refine PL.q rfl rfl (OQ.extract rfl rfl) rfl ?_
    refine PL.q rfl rfl (OQ.extract rfl rfl) rfl ?_
    refine PL.q rfl rfl (OQ.extract rfl rfl) rfl ?_
    refine PL.q rfl rfl (OQ.assign rfl) rfl ?_
    refine PL.q rfl rfl (OQ.assign rfl) rfl ?_
    refine PL.q rfl rfl (OQ.assign rfl) rfl ?_
    refine PL.to ?_
    refine CD.rs FW.wide rfl ?_
    have hc42 := hx42.cell hc
    refine PL.q rfl rfl (OQ.move rfl) rfl ?_
    refine PL.q rfl rfl (OQ.move rfl) rfl ?_
    refine PL.q rfl rfl (OQ.move rfl) rfl ?_
    refine PL.q rfl rfl (OQ.indexAddr rfl rfl (by first | assumption | omega)) rfl ?_
    refine PL.q rfl rfl (OQ.loadS rfl (by assumption)) rfl ?_
    refine PL.call FW.wide rfl rfl rfl rfl (Rank_w m key t w42 (hm1.ext hx42) (by omega)) ?_
    rintro _ _ _ ⟨rfl, rfl⟩
    rw [q1, q2]
    refine PL.q rfl rfl (OQ.move rfl) rfl ?_
    refine PL.q rfl rfl (OQ.extract rfl rfl) rfl ?_
    refine PL.q rfl rfl (OQ.extract rfl rfl) rfl ?_
    refine PL.q rfl rfl (OQ.assign rfl) rfl ?_
    refine PL.q rfl rfl (OQ.assign rfl) rfl ?_
    refine PL.to ?_
    refine CD.seq ?_
    refine CD.cut (α := Unit) (fun _ => [(0, ptr m), (2, .pointer (some ⟨b2, 0, none⟩)), (4, .pointer (some ⟨b4, 0, none⟩)), (5, .slice (some ⟨b, o, none⟩) t.size ck), (6, .int .i64 i), (7, .int .i64 val), (98, .bool false)]) (fun _ w' => Ext w42 w') ?_ ?_
    · refine CD.a .ext trivial FW.wide (by kernel_rfl) [(0, true), (1, true), (2, true), (3, true), (4, true), (5, true), (6, true), (7, true), (8, true), (9, true), (10, true), (11, true), (12, true), (13, true), (14, true), (15, true), (16, true), (17, true), (18, true), (19, true), (20, true), (21, true), (22, true), (23, true), (24, true), (25, true), (26, true), (27, true), (28, true), (29, true), (30, true), (31, true), (32, true), (33, true), (34, true), (35, true), (36, true), (37, true), (38, true), (39, true), (40, true), (41, true), (42, true), (43, true)] (by kernel_rfl) rfl (by kernel_rfl) ?_
      intro w3 hx3 _
      have hc3 := hx3.cell hc42
      cases i with
      | zero =>
        refine PL.q rfl rfl (OQ.move rfl) rfl ?_
        refine PL.q rfl rfl (OQ.not rfl) rfl ?_
        refine PL.q rfl rfl (OQ.move rfl) rfl ?_
        refine PL.q rfl rfl (OQ.move rfl) rfl ?_
        refine PL.q rfl rfl (OQ.not rfl) rfl ?_
        refine PL.q rfl rfl ((by first | exact OQ.pickT rfl rfl | exact OQ.pickF rfl rfl)) rfl ?_
        refine PL.q rfl rfl (OQ.move rfl) rfl ?_
        refine PL.q rfl rfl (OQ.move rfl) rfl ?_
        refine PL.q rfl rfl (OQ.not rfl) rfl ?_
        refine PL.q rfl rfl ((by first | exact OQ.pickT rfl rfl | exact OQ.pickF rfl rfl)) rfl ?_
        refine PL.q rfl rfl (OQ.move rfl) rfl ?_
        refine PL.q rfl rfl (OQ.move rfl) rfl ?_
        refine PL.q rfl rfl (OQ.move rfl) rfl ?_
        refine PL.q rfl rfl (OQ.move rfl) rfl ?_
        refine PL.q rfl rfl (OQ.indexAddr rfl rfl (by first | assumption | omega)) rfl ?_
        refine PL.q rfl rfl (OQ.loadX rfl (by assumption)) rfl ?_
        refine PL.q rfl rfl (OQ.no (OQ.neq rfl rfl) (by simp)) rfl ?_
        refine PL.q rfl rfl ((by first | exact OQ.pickT rfl rfl | exact OQ.pickF rfl rfl)) rfl ?_
        refine PL.q rfl rfl (OQ.move rfl) rfl ?_
        refine PL.q rfl rfl (OQ.move rfl) rfl ?_
        refine PL.q rfl rfl (OQ.move rfl) rfl ?_
        refine PL.q rfl rfl (OQ.no (OQ.neq rfl rfl) (by simp)) rfl ?_
        refine PL.q rfl rfl ((by first | exact OQ.pickT rfl rfl | exact OQ.pickF rfl rfl)) rfl ?_
        refine PL.q rfl rfl (OQ.move rfl) rfl ?_
        refine PL.q rfl rfl (OQ.move rfl) rfl ?_
        refine PL.q rfl rfl (OQ.move rfl) rfl ?_
        refine PL.q rfl rfl (OQ.no (OQ.neq rfl rfl) (by simp)) rfl ?_
        refine PL.q rfl rfl ((by first | exact OQ.pickT rfl rfl | exact OQ.pickF rfl rfl)) rfl ?_
        refine PL.q rfl rfl (OQ.move rfl) rfl ?_
        refine PL.q rfl rfl (OQ.move rfl) rfl ?_
        refine PL.q rfl rfl (OQ.no (OQ.gtr rfl rfl) (by simp)) rfl ?_
        refine PL.q rfl rfl (OQ.move rfl) rfl ?_
        refine PL.skip rfl rfl rfl ?_
        refine PL.skip rfl rfl rfl ?_
        refine PL.skip rfl rfl rfl ?_
        refine PL.skip rfl rfl rfl ?_
        refine PL.skip rfl rfl rfl ?_
        refine PL.skip rfl rfl rfl ?_
        refine PL.skip rfl rfl rfl ?_
        refine PL.skip rfl rfl rfl ?_
        refine PL.skip rfl rfl rfl ?_
        refine PL.skip rfl rfl rfl ?_
        refine PL.q rfl rfl ((by first | exact OQ.pickT rfl rfl | exact OQ.pickF rfl rfl)) rfl ?_
        refine PL.q rfl rfl ((by first | exact OQ.pickT rfl rfl | exact OQ.pickF rfl rfl)) rfl ?_
        exact PL.nil fun a ha => ⟨(), ha.sub ⟨rfl, rfl, rfl, rfl, rfl, rfl, rfl, trivial⟩, hx3⟩
      | succ i =>
        have hr := Srt.rise hs i (by omega)
        obtain ⟨b', o', e', hc'⟩ := IntsAt.at ((hcl.ext hx42).ext hx3) i (by rw [hlenK]; omega)
        obtain ⟨rfl, rfl⟩ : b = b' ∧ o = o' := by simpa using e'
        have e1 : (keysL t)[i]'(by rw [hlenK]; omega) = t.toL[i].1 := by simp [keysL]
        simp only [lt, decide_eq_true_eq] at hr
        refine PL.q rfl rfl (OQ.move rfl) rfl ?_
        refine PL.q rfl rfl (OQ.not rfl) rfl ?_
        refine PL.q rfl rfl (OQ.move rfl) rfl ?_
        refine PL.q rfl rfl (OQ.move rfl) rfl ?_
        refine PL.q rfl rfl (OQ.not rfl) rfl ?_
        refine PL.q rfl rfl ((by first | exact OQ.pickT rfl rfl | exact OQ.pickF rfl rfl)) rfl ?_
        refine PL.q rfl rfl (OQ.move rfl) rfl ?_
        refine PL.q rfl rfl (OQ.move rfl) rfl ?_
        refine PL.q rfl rfl (OQ.not rfl) rfl ?_
        refine PL.q rfl rfl ((by first | exact OQ.pickT rfl rfl | exact OQ.pickF rfl rfl)) rfl ?_
        refine PL.q rfl rfl (OQ.move rfl) rfl ?_
        refine PL.q rfl rfl (OQ.move rfl) rfl ?_
        refine PL.q rfl rfl (OQ.move rfl) rfl ?_
        refine PL.q rfl rfl (OQ.move rfl) rfl ?_
        refine PL.q rfl rfl (OQ.indexAddr rfl rfl (by first | assumption | omega)) rfl ?_
        refine PL.q rfl rfl (OQ.loadX rfl (by assumption)) rfl ?_
        refine PL.q rfl rfl (OQ.no (OQ.neq rfl rfl) (by simp)) rfl ?_
        refine PL.q rfl rfl ((by first | exact OQ.pickT rfl rfl | exact OQ.pickF rfl rfl)) rfl ?_
        refine PL.q rfl rfl (OQ.move rfl) rfl ?_
        refine PL.q rfl rfl (OQ.move rfl) rfl ?_
        refine PL.q rfl rfl (OQ.move rfl) rfl ?_
        refine PL.q rfl rfl (OQ.no (OQ.neq rfl rfl) (by simp)) rfl ?_
        refine PL.q rfl rfl ((by first | exact OQ.pickT rfl rfl | exact OQ.pickF rfl rfl)) rfl ?_
        refine PL.q rfl rfl (OQ.move rfl) rfl ?_
        refine PL.q rfl rfl (OQ.move rfl) rfl ?_
        refine PL.q rfl rfl (OQ.move rfl) rfl ?_
        refine PL.q rfl rfl (OQ.no (OQ.neq rfl rfl) (by simp)) rfl ?_
        refine PL.q rfl rfl ((by first | exact OQ.pickT rfl rfl | exact OQ.pickF rfl rfl)) rfl ?_
        refine PL.q rfl rfl (OQ.move rfl) rfl ?_
        refine PL.q rfl rfl (OQ.move rfl) rfl ?_
        refine PL.q rfl rfl (OQ.yes (OQ.gtr rfl rfl) (by simp)) rfl ?_
        refine PL.q rfl rfl (OQ.move rfl) rfl ?_
        refine PL.q rfl rfl (OQ.move rfl) rfl ?_
        refine PL.q rfl rfl (OQ.move rfl) rfl ?_
        refine PL.q rfl rfl (OQ.subW (r := ((i : Nat) : Int)) rfl rfl (by rw [wrapI _ (by omega) (by omega)]; omega)) rfl ?_
        refine PL.q rfl rfl (OQ.indexAddr rfl rfl (by first | assumption | omega)) rfl ?_
        refine PL.q rfl rfl (OQ.loadX rfl (by assumption)) rfl ?_
        refine PL.q rfl rfl (OQ.move rfl) rfl ?_
        refine PL.q rfl rfl (OQ.move rfl) rfl ?_
        refine PL.q rfl rfl (OQ.indexAddr rfl rfl (by first | assumption | omega)) rfl ?_
        refine PL.q rfl rfl (OQ.loadX rfl (by assumption)) rfl ?_
        refine PL.q rfl rfl (OQ.no (OQ.geq rfl rfl) (by simp only [decide_eq_false_iff_not]; omega)) rfl ?_
        refine PL.q rfl rfl ((by first | exact OQ.pickT rfl rfl | exact OQ.pickF rfl rfl)) rfl ?_
        refine PL.q rfl rfl ((by first | exact OQ.pickT rfl rfl | exact OQ.pickF rfl rfl)) rfl ?_
        exact PL.nil fun a ha => ⟨(), ha.sub ⟨rfl, rfl, rfl, rfl, rfl, rfl, rfl, trivial⟩, hx3⟩
    rintro _ w3 hx3
    have hx13 : Ext w1 w3 := hx42.trans hx3
    have hh43 := hx13.heap hh41
    have ho13 := ho1.cext hx13.cext
    have ho23 := ho2.cext hx13.cext
    have hb3 : Bl S wK w3 := hbl.trans (hx13.bl fun k hk => by subst hS; have := hbl.size; omega)
    refine CD.condF rfl ?_
    refine CD.skip ?_
    have lt1 := World.ownsRow.lt ho13
    have lt2 := World.ownsRow.lt ho23
    have ltl := World.ownsRow.lt hown b rfl
    have n14 : v1.ownBlock ≠ some b4 := own_ne ho13 hh43 (by decide)
    have n24 : v2.ownBlock ≠ some b4 := own_ne ho23 hh43 (by decide)
    have hs3 : wK.heap.size ≤ w3.heap.size := hb3.size
    obtain ⟨S3, hS3⟩ : ∃ S3 : Nat → Prop, S3 = fun k => k < w3.heap.size ∧ v1.ownBlock ≠ some k := ⟨_, rfl⟩
    refine CD.as (.below S3) trivial FW.wide (by kernel_rfl) [(0, true), (1, true), (2, true), (3, true), (4, true), (5, true), (6, false), (7, false), (8, true), (9, false)] (by kernel_rfl) rfl (by kernel_rfl) ?_
    intro w4 hx34 _
    have k4 : S3 b4 := by subst hS3; exact ⟨by omega, n14⟩
    have kb : S3 b := by subst hS3; exact ⟨by omega, fun e => by have := (lt1 b e).1; omega⟩
    have hh44 := hx34.heap hh43
    have hc4 := (hx13.trans hx34).cell hc
    have d1 : w4.cell? ⟨b4, 1, none⟩ = some v1 := cell_of_heap hh44 rfl
    refine PL.q rfl rfl ((by first | exact OQ.field0 rfl | exact OQ.field rfl)) rfl ?_
    refine PL.q rfl rfl (OQ.load rfl (Md.cell k4 d1)) rfl ?_
    refine PL.q rfl rfl (OQ.move rfl) rfl ?_
    refine PL.q rfl rfl (OQ.move rfl) rfl ?_
    refine PL.q rfl rfl (OQ.indexAddr rfl rfl (by first | assumption | omega)) rfl ?_
    refine PL.q rfl rfl (OQ.load rfl (Md.cell kb hc4)) rfl ?_
    have sz4 : w3.heap.size ≤ w4.heap.size := hx34.size
    refine PL.slice1E (fun w' h => h.bl fun k hk => by subst hS3; have := hk.1; omega) FW.wide rfl rfl rfl rfl rfl rfl ?_
    intro b6 w6 new6
    have ho16 := (ho13.cext hx34.cext).cext new6.ext.cext
    have ho26 := (ho23.cext hx34.cext).cext new6.ext.cext
    have sz6 : w6.heap.size = b6 + 1 := new6.size
    have sz46 : w4.heap.size = b6 := new6.idx.symm
    refine PL.app [.int .i64 key] FW.wide rfl rfl rfl rfl rfl ho16 (CellsAt.of_heap new6.heap) rfl rfl (by decide) (by omega) (by omega) (by omega) (fun w' hg => .inl (grown_bl hg fun k hk => by subst hS3; exact ⟨by have := hk.1; omega, hk.2⟩)) ?_
    intro v1' w7 ho17 hg7 hat7
    have hh47 := grown_heap hg7 (new6.ext.heap hh44) n14
    have ho27 : Own w7 wK.heap.size 3 1 v2 i (i64s ((valsL t).take i)) := ho26.kept hg7 (by
      cases hv : v2.ownBlock with
      | none => exact .inl rfl
      | some g => exact .inr fun e => hdis g e.symm hv)
    have hdis7 : ∀ g, v1'.ownBlock = some g → v2.ownBlock ≠ some g := fun g hg hg2 => by
      rcases hat7 with e | e
      · exact hdis g (e ▸ hg) hg2
      · have := (lt2 g hg2).2
        rw [e] at hg
        simp only [Option.some.injEq] at hg
        omega
    obtain ⟨a1, c1, rfl, _, _⟩ := ho17.slc
    refine PL.q rfl rfl ((by first | exact OQ.field0 rfl | exact OQ.field rfl)) rfl ?_
    refine PL.put FW.wide rfl rfl rfl rfl rfl hh47 rfl rfl rfl rfl (fun _ _ => .inr (by kernel_rfl)) ?_
    intro w9 hw9
    have ho19 := ho17.wr hw9 hh47 (by decide)
    have ho29 := ho27.wr hw9 hh47 (by decide)
    have hh49 : w9.heap[b4]? = some (.cells #[ptr m, .slice a1 (i + 1) c1, v2] 41 (0, 0)) := hw9.heap
    have hb9 : Bl S wK w9 := ((((hb3.trans (hx34.bl fun k hk => by subst hS; omega)).trans (new6.ext.bl fun k hk => by subst hS; omega)).trans (grown_bl hg7 fun k hk => by
      subst hS; exact ⟨by have := hk.1; omega, fun e => by have := (lt1 k e).1; have := hk.1; omega⟩))).trans (hw9.bl (by subst hS; simp))
    refine PL.to ?_
    refine CD.r FW.wide rfl ?_
    have d2 : w9.cell? ⟨b4, 2, none⟩ = some v2 := cell_of_heap hh49 rfl
    refine PL.q rfl rfl ((by first | exact OQ.field0 rfl | exact OQ.field rfl)) rfl ?_
    refine PL.q rfl rfl (OQ.loadS rfl (by assumption)) rfl ?_
    refine PL.q rfl rfl (OQ.move rfl) rfl ?_
    refine PL.slice1 FW.wide rfl rfl rfl rfl rfl rfl ?_
    intro b12 w12 new12
    have ho112 := ho19.cext new12.ext.cext
    have ho212 := ho29.cext new12.ext.cext
    have lt29 := World.ownsRow.lt ho29
    have sz12 : w12.heap.size = b12 + 1 := new12.size
    have sz912 : w9.heap.size = b12 := new12.idx.symm
    have szK9 : wK.heap.size ≤ w9.heap.size := hb9.size
    refine PL.app [.int .i64 val] FW.wide rfl rfl rfl rfl rfl ho212 (CellsAt.of_heap new12.heap) rfl rfl (by decide) (by omega) (by omega) (by omega) (fun _ _ => .inl trivial) ?_
    intro v2' w13 ho213 hg13 hat13
    have hh413 := grown_heap hg13 (new12.ext.heap hh49) n24
    have hdis13 : ∀ g, Value.ownBlock (.slice a1 (i + 1) c1) = some g → v2'.ownBlock ≠ some g := fun g hg hg2 => by
      rcases hat13 with e | e
      · exact hdis7 g hg (e ▸ hg2)
      · have := (World.ownsRow.lt ho112 g hg).2
        rw [e] at hg2
        simp only [Option.some.injEq] at hg2
        omega
    have ho113 : Own w13 wK.heap.size 3 1 (.slice a1 (i + 1) c1) (i + 1) (i64s ((keysL t).take i) ++ [.int .i64 key]) := ho112.kept hg13 (by
      cases hv : Value.ownBlock (.slice a1 (i + 1) c1) with
      | none => exact .inl rfl
      | some g => exact .inr fun e => hdis7 g hv e.symm)
    obtain ⟨a2, c2, rfl, _, _⟩ := ho213.slc
    refine PL.q rfl rfl ((by first | exact OQ.field0 rfl | exact OQ.field rfl)) rfl ?_
    refine PL.put FW.wide rfl rfl rfl rfl rfl hh413 rfl rfl rfl rfl (fun _ _ => .inl trivial) ?_
    intro w15 hw15
    have ho115 := ho113.wr hw15 hh413 (by decide)
    have ho215 := ho213.wr hw15 hh413 (by decide)
    have hb15 : Bl S wK w15 := ((hb9.trans (new12.ext.bl fun k hk => by subst hS; omega)).trans (grown_bl hg13 fun k hk => by
      subst hS; exact ⟨by have := hk.1; omega, fun e => by have := (lt29 k e).1; have := hk.1; omega⟩)).trans (hw15.bl (by subst hS; simp))
    refine PL.nil ?_
    refine CD.r FW.wide rfl ?_
    refine PL.q rfl rfl (OQ.move rfl) rfl ?_
    refine PL.q rfl rfl (OQ.addW (r := ((i + 1 : Nat) : Int)) rfl rfl (wrap_succ (by omega))) rfl ?_
    refine PL.q rfl rfl (OQ.assign rfl) rfl ?_
    refine PL.nil ?_
    have ek : i64s ((keysL t).take (i + 1)) = i64s ((keysL t).take i) ++ [.int .i64 key] := by
      rw [List.take_succ_eq_append_getElem (by rw [hlenK]; omega), hki]; simp [i64s]
    have ev' : i64s ((valsL t).take (i + 1)) = i64s ((valsL t).take i) ++ [.int .i64 val] := by
      rw [List.take_succ_eq_append_getElem (by rw [length_valsL]; omega), hvi]; simp [i64s]
    exact fun a ha => ⟨(i + 1, .slice a1 (i + 1) c1, .slice a2 (i + 1) c2), ha.sub ⟨rfl, rfl, rfl, rfl, rfl, trivial⟩, ⟨hb15, by simp only; omega, hw15.heap, by rw [ek]; exact ho115, by rw [ev']; exact ho215, hdis13⟩, by simp only; omega⟩
  · refine CD.exit ?_
    refine CD.rs FW.wide rfl ?_
    obtain rfl : i = t.size := by omega
    obtain ⟨a1, c1, rfl, hc1, _⟩ := ho1.slc
    obtain ⟨a2, c2, rfl, hc2, _⟩ := ho2.slc
    refine PL.q rfl rfl (OQ.loadH (cs := [ptr m, .slice a1 t.size c1, .slice a2 t.size c2]) rfl rfl trivial hh41) rfl ?_
    have hh21 : w1.heap[b2]? = some (.cells #[.pointer none, .slice none 0 0, .slice none 0 0] 41 (0, 0)) := hbl.heap (by subst hS; exact ⟨by omega, by omega⟩) hh2
    refine PL.put FW.wide rfl rfl rfl rfl rfl hh21 rfl rfl rfl rfl (fun _ _ => .inl trivial) ?_
    intro w6 hw6
    refine PL.q rfl rfl (OQ.assign rfl) rfl ?_
    refine PL.to ?_
    refine CD.ret (postCT (cs := [ptr m, .slice a1 t.size c1, .slice a2 t.size c2]) rfl rfl rfl rfl hw6.heap ⟨_, rfl, hw6.ext hxw1 (by omega), a1, c1, a2, c2, rfl, ?_, ?_⟩)
    · have := (ho1.wr hw6 hh21 (by decide)).base (B' := w.heap.size) hxwK.size
      rwa [List.take_of_length_le (by rw [hlenK]; omega)] at this
    · have := (ho2.wr hw6 hh21 (by decide)).base (B' := w.heap.size) hxwK.size
      rwa [List.take_of_length_le (by rw [length_valsL]; omega)] at this
end Go.Proofs.Ytdielcpjemkngaa
