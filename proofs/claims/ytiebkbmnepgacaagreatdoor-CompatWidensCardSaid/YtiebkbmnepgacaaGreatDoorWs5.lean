import Derived.Test.YtiebkbmnepgacaaGreatDoorWs4
/-
  The walk of the law CompatWidens.
-/
namespace Go.Proofs.YtiebkbmnepgacaaGreatDoor
open Go.RowKit
set_option linter.unusedVariables false
set_option maxRecDepth 100000

/-- other names, numbers and oneofs -/
def bend (f g : Fd) : Fd := ⟨IntKind.i64.wrap (f.num + 1), f.name ++ ⟨#[120]⟩, ⟨#[121]⟩, g.card, g.ty, f.of' ++ ⟨#[122]⟩, g.key, IntKind.i64.wrap (f.oneof + 1)⟩
theorem add1 {n : Nat} (x : UInt8) (h : n ≤ 4611686018427387903) : n + (ByteArray.mk #[x]).size ≤ 9223372036854775807 := by
  have : (ByteArray.mk #[x]).size = 1 := rfl
  omega
theorem widens_bend (f g : Fd) : widens f (bend f g) = widens f g := rfl
theorem widens_w (a : Option Addr) (c : Nat) (l : List Fd) (w : World) (hl : Laid w) (h : FdsAt w a l) (hlen : l.length ≤ 4611686018427387903) (hs : ∀ f ∈ l, f.name.size ≤ 4611686018427387903 ∧ f.of'.size ≤ 4611686018427387903) :
    Rt Tryz.prog 3 [.slice a l.length c] w fun v _ => v = .bool true := by
  refine Rt.of Tryz.func3 rfl Tryz.ntmps3 (by rfl) ?_
  refine CD.rs FW.wide rfl ?_
  refine PL.q rfl rfl (OQ.assign rfl) rfl ?_
  refine PL.to ?_
  refine CD.seq ?_
  refine CD.rs FW.wide rfl ?_
  refine PL.call FW.wide rfl rfl rfl rfl (known_w w hl) ?_
  rintro _ w8 hx8 rfl
  refine PL.q rfl rfl (OQ.not rfl) rfl ?_
  refine PL.q rfl rfl (OQ.move rfl) rfl ?_
  refine PL.q rfl rfl ((by first | exact OQ.build1 rfl rfl | exact OQ.buildC rfl rfl)) rfl ?_
  refine PL.q rfl rfl ((by first | exact OQ.build1 rfl rfl | exact OQ.buildC rfl rfl)) rfl ?_
  refine PL.call FW.wide rfl rfl rfl rfl (Widens_w (fd0 1 3) (fd0 1 7) w8) ?_
  rintro _ w13 hx13 rfl
  refine PL.q rfl rfl (OQ.no (OQ.neq rfl rfl) (by decide +kernel)) rfl ?_
  refine PL.q rfl rfl ((by first | exact OQ.pickT rfl rfl | exact OQ.pickF rfl rfl)) rfl ?_
  refine PL.to ?_
  refine CD.condF rfl ?_
  refine CD.skip ?_
  refine CD.seq ?_
  refine CD.rs FW.wide rfl ?_
  refine PL.q rfl rfl (OQ.assign rfl) rfl ?_
  refine PL.to ?_
  refine CD.block ?_
  have hx0 : Ext w w13 := hx8.trans hx13
  refine CD.loop (α := Nat) (fun s => [(0, .slice a l.length c), (3, .int .i64 s)]) (fun s w' => Ext w w' ∧ s ≤ l.length) (fun s => l.length - s) 0 ⟨rfl, rfl, trivial⟩ ⟨hx0, by omega⟩ ?_
  rintro i w1 ⟨hx1, hi⟩
  refine CD.seq ?_
  refine CD.rs FW.wide rfl ?_
  refine PL.q rfl rfl (OQ.move rfl) rfl ?_
  refine PL.q rfl rfl (OQ.move rfl) rfl ?_
  refine PL.q rfl rfl (OQ.lenS rfl) rfl ?_
  refine PL.q rfl rfl (OQ.lss rfl rfl) rfl ?_
  refine PL.to ?_
  refine CD.condD rfl (fun h4 => ?_) (fun h4 => ?_)
  · have hil : i < l.length := by omega
    refine CD.skip ?_
    refine CD.seq ?_
    refine CD.block ?_
    refine CD.rs FW.wide rfl ?_
    refine PL.q rfl rfl (OQ.assign rfl) rfl ?_
    refine PL.to ?_
    refine CD.block ?_
    obtain ⟨b, o, rfl, hci⟩ := h i hil
    have hsi := hs l[i] (List.getElem_mem hil)
    refine CD.loop (α := Nat) (fun s => [(0, .slice (some ⟨b, o, none⟩) l.length c), (3, .int .i64 i), (4, .int .i64 s)]) (fun s w' => Ext w w' ∧ s ≤ 40) (fun s => 40 - s) 0 ⟨rfl, rfl, rfl, trivial⟩ ⟨hx1, by omega⟩ ?_
    rintro j w4 ⟨hx4, hj⟩
    refine CD.seq ?_
    refine CD.cut (α := Bool) (fun r => [(0, .slice (some ⟨b, o, none⟩) l.length c), (3, .int .i64 i), (4, .int .i64 j), (28, .bool r)]) (fun r w' => w4 = w' ∧ r = decide (j < l.length ∧ j < 40)) ?_ ?_
    · refine CD.r FW.wide rfl ?_
      by_cases hlt : j < l.length
      · refine PL.q rfl rfl (OQ.move rfl) rfl ?_
        refine PL.q rfl rfl (OQ.move rfl) rfl ?_
        refine PL.q rfl rfl (OQ.lenS rfl) rfl ?_
        refine PL.q rfl rfl (OQ.yes (OQ.lss rfl rfl) (by simp only [decide_eq_true_eq]; omega)) rfl ?_
        refine PL.q rfl rfl (OQ.move rfl) rfl ?_
        refine PL.q rfl rfl (OQ.move rfl) rfl ?_
        refine PL.q rfl rfl (OQ.lss rfl rfl) rfl ?_
        refine PL.q rfl rfl ((by first | exact OQ.pickT rfl rfl | exact OQ.pickF rfl rfl)) rfl ?_
        exact PL.nil fun a ha => ⟨decide ((j : Int) < 40), ha.sub ⟨rfl, rfl, rfl, rfl, trivial⟩, rfl, by rw [decide_eq_decide]; omega⟩
      · refine PL.q rfl rfl (OQ.move rfl) rfl ?_
        refine PL.q rfl rfl (OQ.move rfl) rfl ?_
        refine PL.q rfl rfl (OQ.lenS rfl) rfl ?_
        refine PL.q rfl rfl (OQ.no (OQ.lss rfl rfl) (by simp only [decide_eq_false_iff_not]; omega)) rfl ?_
        refine PL.q rfl rfl (OQ.move rfl) rfl ?_
        refine PL.skip rfl rfl rfl ?_
        refine PL.skip rfl rfl rfl ?_
        refine PL.q rfl rfl ((by first | exact OQ.pickT rfl rfl | exact OQ.pickF rfl rfl)) rfl ?_
        exact PL.nil fun a ha => ⟨false, ha.sub ⟨rfl, rfl, rfl, rfl, trivial⟩, rfl, by rw [eq_comm, decide_eq_false_iff_not]; omega⟩
    rintro r _ ⟨rfl, hr⟩
    refine CD.cond (b := r) rfl (fun h9 => ?_) (fun h9 => ?_)
    · rw [h9] at hr
      have ⟨hjl, hj40⟩ := of_decide_eq_true hr.symm
      obtain ⟨b', o', hbo, hcj⟩ := h j hjl
      cases hbo
      refine CD.skip ?_
      refine CD.seq ?_
      refine CD.block ?_
      refine CD.as .ext trivial FW.wide (by kernel_rfl) [(0, true), (1, true), (2, true), (3, true), (4, true), (5, true), (6, true), (7, true), (8, false), (9, true)] (by kernel_rfl) rfl (by kernel_rfl) ?_
      intro w5 hx5 _
      have hx5' : Ext w w5 := hx4.trans hx5
      have ci5 := hci.ext hx5'
      have cj5 := hcj.ext hx5'
      refine PL.q rfl rfl (OQ.move rfl) rfl ?_
      refine PL.q rfl rfl (OQ.move rfl) rfl ?_
      refine PL.q rfl rfl (OQ.indexAddr rfl rfl (by first | assumption | omega)) rfl ?_
      refine PL.q rfl rfl (OQ.loadAX (cs := fdC l[i]) rfl rfl ci5) rfl ?_
      refine PL.q rfl rfl (OQ.move rfl) rfl ?_
      refine PL.q rfl rfl (OQ.move rfl) rfl ?_
      refine PL.q rfl rfl (OQ.indexAddr rfl rfl (by first | assumption | omega)) rfl ?_
      refine PL.q rfl rfl (OQ.loadAX (cs := fdC l[j]) rfl rfl cj5) rfl ?_
      refine PL.call FW.wide rfl rfl rfl rfl (Widens_w l[i] l[j] w5) ?_
      rintro _ w39 hx39 rfl
      refine PL.q rfl rfl (OQ.assign rfl) rfl ?_
      have hx39' : Ext w w39 := hx5'.trans hx39
      refine PL.to ?_
      refine CD.seq ?_
      refine CD.as .ext trivial FW.wide (by kernel_rfl) [(0, true), (1, true), (2, true), (3, true), (4, true), (5, true), (6, true), (7, true), (8, true), (9, false), (10, true)] (by kernel_rfl) rfl (by kernel_rfl) ?_
      intro w6 hx6 _
      have hx6' : Ext w w6 := hx39'.trans hx6
      have ci6 := hci.ext hx6'
      have cj6 := hcj.ext hx6'
      refine PL.q rfl rfl (OQ.move rfl) rfl ?_
      refine PL.q rfl rfl (OQ.move rfl) rfl ?_
      refine PL.q rfl rfl (OQ.move rfl) rfl ?_
      refine PL.q rfl rfl (OQ.indexAddr rfl rfl (by first | assumption | omega)) rfl ?_
      refine PL.q rfl rfl (OQ.loadAX (cs := fdC l[i]) rfl rfl ci6) rfl ?_
      refine PL.q rfl rfl (OQ.move rfl) rfl ?_
      refine PL.q rfl rfl (OQ.move rfl) rfl ?_
      refine PL.q rfl rfl (OQ.indexAddr rfl rfl (by first | assumption | omega)) rfl ?_
      refine PL.q rfl rfl (OQ.loadAX (cs := fdC l[j]) rfl rfl cj6) rfl ?_
      refine PL.call FW.wide rfl rfl rfl rfl (refWidens_w l[i] l[j] w6) ?_
      rintro _ w49 hx49 rfl
      refine PL.q rfl rfl (OQ.no (OQ.neq rfl rfl) (by rw [widens_eq]; exact decide_eq_false (fun e => e rfl))) rfl ?_
      have hx49' : Ext w w49 := hx6'.trans hx49
      refine PL.to ?_
      refine CD.condF rfl ?_
      refine CD.skip ?_
      have cj7 := hcj.ext hx49'
      refine CD.rs FW.wide rfl ?_
      refine PL.q rfl rfl (OQ.move rfl) rfl ?_
      refine PL.q rfl rfl (OQ.move rfl) rfl ?_
      refine PL.q rfl rfl (OQ.indexAddr rfl rfl (by first | assumption | omega)) rfl ?_
      refine PL.q rfl rfl (OQ.loadAS (cs := fdC l[j]) rfl rfl cj7) rfl ?_
      refine PL.alloc FW.wide rfl rfl rfl ?_
      intro b6 w6 new6
      refine PL.put FW.wide rfl rfl rfl rfl rfl new6.heap rfl rfl rfl rfl (fun _ _ => .inl trivial) ?_
      intro x1 hw1
      have nb : w49.heap.size = b6 := new6.idx.symm
      have gx1 : Ext w49 x1 := hw1.ext new6.ext (by omega)
      have hh1 : x1.heap[b6]? = some (.cells (fdC l[j]).toArray 26 (0, 0)) := hw1.heap
      have ci1 := hci.ext (hx49'.trans gx1)
      refine PL.to ?_
      refine CD.rs FW.wide rfl ?_
      have q0 : x1.cell? ⟨b, o + i * 8 + 0, none⟩ = some (.int .i64 l[i].num) := ci1.at 0 rfl
      refine PL.q rfl rfl (OQ.move rfl) rfl ?_
      refine PL.q rfl rfl (OQ.move rfl) rfl ?_
      refine PL.q rfl rfl (OQ.indexAddr rfl rfl (by first | assumption | omega)) rfl ?_
      refine PL.q rfl rfl ((by first | exact OQ.field0 rfl | exact OQ.field rfl)) rfl ?_
      refine PL.q rfl rfl (OQ.loadS rfl (by assumption)) rfl ?_
      refine PL.q rfl rfl (OQ.add rfl rfl) rfl ?_
      refine PL.q rfl rfl ((by first | exact OQ.field0 rfl | exact OQ.field rfl)) rfl ?_
      refine PL.put FW.wide rfl rfl rfl rfl rfl hh1 rfl rfl rfl rfl (fun _ _ => .inl trivial) ?_
      intro x2 hw2
      have gx2 : Ext w49 x2 := hw2.ext gx1 (by omega)
      have hh2 := hw2.heap
      have ci2 := hci.ext (hx49'.trans gx2)
      refine PL.to ?_
      refine CD.rs FW.wide rfl ?_
      have q1 : x2.cell? ⟨b, o + i * 8 + 1, none⟩ = some (.string l[i].name) := ci2.at 1 rfl
      refine PL.q rfl rfl (OQ.move rfl) rfl ?_
      refine PL.q rfl rfl (OQ.move rfl) rfl ?_
      refine PL.q rfl rfl (OQ.indexAddr rfl rfl (by first | assumption | omega)) rfl ?_
      refine PL.q rfl rfl ((by first | exact OQ.field0 rfl | exact OQ.field rfl)) rfl ?_
      refine PL.q rfl rfl (OQ.loadS rfl (by assumption)) rfl ?_
      refine PL.q rfl rfl (OQ.sadd rfl rfl (add1 120 (by omega))) rfl ?_
      refine PL.q rfl rfl ((by first | exact OQ.field0 rfl | exact OQ.field rfl)) rfl ?_
      refine PL.put FW.wide rfl rfl rfl rfl rfl hh2 rfl rfl rfl rfl (fun _ _ => .inl trivial) ?_
      intro x3 hw3
      have gx3 : Ext w49 x3 := hw3.ext gx2 (by omega)
      have hh3 := hw3.heap
      refine PL.to ?_
      refine CD.rs FW.wide rfl ?_
      refine PL.q rfl rfl ((by first | exact OQ.field0 rfl | exact OQ.field rfl)) rfl ?_
      refine PL.put FW.wide rfl rfl rfl rfl rfl hh3 rfl rfl rfl rfl (fun _ _ => .inl trivial) ?_
      intro x4 hw4
      have gx4 : Ext w49 x4 := hw4.ext gx3 (by omega)
      have hh4 := hw4.heap
      have ci4 := hci.ext (hx49'.trans gx4)
      refine PL.to ?_
      refine CD.rs FW.wide rfl ?_
      have q5 : x4.cell? ⟨b, o + i * 8 + 5, none⟩ = some (.string l[i].of') := ci4.at 5 rfl
      refine PL.q rfl rfl (OQ.move rfl) rfl ?_
      refine PL.q rfl rfl (OQ.move rfl) rfl ?_
      refine PL.q rfl rfl (OQ.indexAddr rfl rfl (by first | assumption | omega)) rfl ?_
      refine PL.q rfl rfl ((by first | exact OQ.field0 rfl | exact OQ.field rfl)) rfl ?_
      refine PL.q rfl rfl (OQ.loadS rfl (by assumption)) rfl ?_
      refine PL.q rfl rfl (OQ.sadd rfl rfl (add1 122 (by omega))) rfl ?_
      refine PL.q rfl rfl ((by first | exact OQ.field0 rfl | exact OQ.field rfl)) rfl ?_
      refine PL.put FW.wide rfl rfl rfl rfl rfl hh4 rfl rfl rfl rfl (fun _ _ => .inl trivial) ?_
      intro x5 hw5
      have gx5 : Ext w49 x5 := hw5.ext gx4 (by omega)
      have hh5 := hw5.heap
      have ci5' := hci.ext (hx49'.trans gx5)
      refine PL.to ?_
      refine CD.rs FW.wide rfl ?_
      have q7 : x5.cell? ⟨b, o + i * 8 + 7, none⟩ = some (.int .i64 l[i].oneof) := ci5'.at 7 rfl
      refine PL.q rfl rfl (OQ.move rfl) rfl ?_
      refine PL.q rfl rfl (OQ.move rfl) rfl ?_
      refine PL.q rfl rfl (OQ.indexAddr rfl rfl (by first | assumption | omega)) rfl ?_
      refine PL.q rfl rfl ((by first | exact OQ.field0 rfl | exact OQ.field rfl)) rfl ?_
      refine PL.q rfl rfl (OQ.loadS rfl (by assumption)) rfl ?_
      refine PL.q rfl rfl (OQ.add rfl rfl) rfl ?_
      refine PL.q rfl rfl ((by first | exact OQ.field0 rfl | exact OQ.field rfl)) rfl ?_
      refine PL.put FW.wide rfl rfl rfl rfl rfl hh5 rfl rfl rfl rfl (fun _ _ => .inl trivial) ?_
      intro x6 hw6
      have gx6 : Ext w49 x6 := hw6.ext gx5 (by omega)
      have hh6 : x6.heap[b6]? = some (.cells (fdC (bend l[i] l[j])).toArray 26 (0, 0)) := hw6.heap
      refine PL.to ?_
      refine CD.as .ext trivial FW.wide (by kernel_rfl) [(0, true), (1, true), (2, true), (3, true), (4, true), (6, true), (5, false), (7, true)] (by kernel_rfl) rfl (by kernel_rfl) ?_
      intro x7 hx7 _
      have gx7 : Ext w x7 := (hx49'.trans gx6).trans hx7
      have ci7 := hci.ext gx7
      have cb7 : CellsAt x7 b6 0 (fdC (bend l[i] l[j])) := (CellsAt.of_heap (cs := (fdC (bend l[i] l[j])).toArray) hh6).ext hx7
      refine PL.q rfl rfl (OQ.move rfl) rfl ?_
      refine PL.q rfl rfl (OQ.move rfl) rfl ?_
      refine PL.q rfl rfl (OQ.indexAddr rfl rfl (by first | assumption | omega)) rfl ?_
      refine PL.q rfl rfl (OQ.loadAX (cs := fdC l[i]) rfl rfl ci7) rfl ?_
      refine PL.q rfl rfl (OQ.loadAX (cs := fdC (bend l[i] l[j])) rfl rfl cb7) rfl ?_
      refine PL.q rfl rfl (OQ.move rfl) rfl ?_
      refine PL.call FW.wide rfl rfl rfl rfl (Widens_w l[i] (bend l[i] l[j]) x7) ?_
      rintro _ w89 hx89 rfl
      refine PL.q rfl rfl (OQ.no (OQ.neq rfl rfl) (by rw [widens_bend]; exact decide_eq_false (fun e => e rfl))) rfl ?_
      refine PL.to ?_
      refine CD.condF rfl ?_
      refine CD.skip ?_
      refine CD.r FW.wide rfl ?_
      refine PL.q rfl rfl (OQ.move rfl) rfl ?_
      refine PL.q rfl rfl (OQ.addW (r := ((j + 1 : Nat) : Int)) rfl rfl (wrap_succ (by omega))) rfl ?_
      refine PL.q rfl rfl (OQ.assign rfl) rfl ?_
      refine PL.nil ?_
      exact fun a ha => ⟨j + 1, ha.sub ⟨rfl, rfl, rfl, trivial⟩, ⟨gx7.trans hx89, by omega⟩, by omega⟩
    · refine CD.exit ?_
      refine CD.r FW.wide rfl ?_
      refine PL.q rfl rfl (OQ.move rfl) rfl ?_
      refine PL.q rfl rfl (OQ.addW (r := ((i + 1 : Nat) : Int)) rfl rfl (wrap_succ (by omega))) rfl ?_
      refine PL.q rfl rfl (OQ.assign rfl) rfl ?_
      refine PL.nil ?_
      exact fun a ha => ⟨i + 1, ha.sub ⟨rfl, rfl, trivial⟩, ⟨hx4, by omega⟩, by omega⟩
  · refine CD.exit ?_
    refine CD.rs FW.wide rfl ?_
    refine PL.q rfl rfl (OQ.assign rfl) rfl ?_
    refine PL.to ?_
    exact CD.ret (post1 rfl rfl ⟨_, rfl, hx1, rfl⟩)
end Go.Proofs.YtiebkbmnepgacaaGreatDoor
