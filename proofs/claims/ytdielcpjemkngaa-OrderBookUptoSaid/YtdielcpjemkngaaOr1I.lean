/-
  The walks of a sorted table's nodes: len, high, with, over, put, drop, toward: keys: numbers.
-/
import Derived.Test.YtdielcpjemkngaaOrT
import Derived.Test.YtdielcpjemkngaaIn
namespace Go.Proofs.Ytdielcpjemkngaa.OI
open Go.RowKit

abbrev kv : Int → Value := fun k => .int .i64 k
abbrev lt : Int → Int → Bool := fun a b => decide (a < b)
abbrev Tt : World → Option Addr → Tr Int → Prop := IsT kv 86

theorem len_w (p : Option Addr) (t : Tr Int) (w : World) (h : Tt w p t) : Rt Try.prog 51 [.pointer p] w fun v w' => v = .int .i64 (t.size : Nat) ∧ w = w' := by
  cases t with
  | leaf =>
    obtain rfl : p = none := h
    refine Rt.of Try.func51 rfl Try.ntmps51 (by rfl) ?_
    refine CD.rs FW.wide rfl ?_
    refine PL.q rfl rfl (OQ.assign rfl) rfl ?_
    refine PL.to (CD.seq (CD.rs FW.wide rfl ?_))
    refine PL.q rfl rfl (OQ.move rfl) rfl ?_
    refine PL.q rfl rfl ((by first | exact OQ.eqNN rfl rfl | exact OQ.eqNS rfl rfl | exact OQ.eqN rfl rfl)) rfl ?_
    refine PL.to (CD.condT rfl (CD.rs FW.wide rfl ?_))
    refine PL.q rfl rfl (OQ.assign rfl) rfl ?_
    exact PL.to (CD.ret (post1 rfl rfl ⟨_, rfl, Ext.refl _, rfl, rfl⟩))
  | node l k v r =>
    obtain ⟨b, pl, pr, rfl, hb, _⟩ := h
    have c4 := cell_of_heap hb (j := 4) rfl
    refine Rt.of Try.func51 rfl Try.ntmps51 (by rfl) ?_
    refine CD.rs FW.wide rfl ?_
    refine PL.q rfl rfl (OQ.assign rfl) rfl ?_
    refine PL.to (CD.seq (CD.rs FW.wide rfl ?_))
    refine PL.q rfl rfl (OQ.move rfl) rfl ?_
    refine PL.q rfl rfl ((by first | exact OQ.eqNN rfl rfl | exact OQ.eqNS rfl rfl | exact OQ.eqN rfl rfl)) rfl ?_
    refine PL.to (CD.condF rfl (CD.skip ?_))
    refine CD.rs FW.wide rfl ?_
    refine PL.q rfl rfl (OQ.move rfl) rfl ?_
    refine PL.q rfl rfl ((by first | exact OQ.nilp rfl | exact OQ.nily rfl | exact OQ.nilf rfl)) rfl ?_
    refine PL.q rfl rfl ((by first | exact OQ.field0 rfl | exact OQ.field rfl)) rfl ?_
    refine PL.q rfl rfl (OQ.loadS rfl (by assumption)) rfl ?_
    refine PL.q rfl rfl (OQ.assign rfl) rfl ?_
    exact PL.to (CD.ret (post1 rfl rfl ⟨_, rfl, Ext.refl _, rfl, rfl⟩))

theorem high_w (p : Option Addr) (t : Tr Int) (w : World) (h : Tt w p t) : Rt Try.prog 90 [.pointer p] w fun v w' => v = .int .i64 (t.height : Nat) ∧ w = w' := by
  cases t with
  | leaf =>
    obtain rfl : p = none := h
    refine Rt.of Try.func90 rfl Try.ntmps90 (by rfl) ?_
    refine CD.rs FW.wide rfl ?_
    refine PL.q rfl rfl (OQ.assign rfl) rfl ?_
    refine PL.to (CD.seq (CD.rs FW.wide rfl ?_))
    refine PL.q rfl rfl (OQ.move rfl) rfl ?_
    refine PL.q rfl rfl ((by first | exact OQ.eqNN rfl rfl | exact OQ.eqNS rfl rfl | exact OQ.eqN rfl rfl)) rfl ?_
    refine PL.to (CD.condT rfl (CD.rs FW.wide rfl ?_))
    refine PL.q rfl rfl (OQ.assign rfl) rfl ?_
    exact PL.to (CD.ret (post1 rfl rfl ⟨_, rfl, Ext.refl _, rfl, rfl⟩))
  | node l k v r =>
    obtain ⟨b, pl, pr, rfl, hb, _⟩ := h
    have c5 := cell_of_heap hb (j := 5) rfl
    refine Rt.of Try.func90 rfl Try.ntmps90 (by rfl) ?_
    refine CD.rs FW.wide rfl ?_
    refine PL.q rfl rfl (OQ.assign rfl) rfl ?_
    refine PL.to (CD.seq (CD.rs FW.wide rfl ?_))
    refine PL.q rfl rfl (OQ.move rfl) rfl ?_
    refine PL.q rfl rfl ((by first | exact OQ.eqNN rfl rfl | exact OQ.eqNS rfl rfl | exact OQ.eqN rfl rfl)) rfl ?_
    refine PL.to (CD.condF rfl (CD.skip ?_))
    refine CD.rs FW.wide rfl ?_
    refine PL.q rfl rfl (OQ.move rfl) rfl ?_
    refine PL.q rfl rfl ((by first | exact OQ.nilp rfl | exact OQ.nily rfl | exact OQ.nilf rfl)) rfl ?_
    refine PL.q rfl rfl ((by first | exact OQ.field0 rfl | exact OQ.field rfl)) rfl ?_
    refine PL.q rfl rfl (OQ.loadS rfl (by assumption)) rfl ?_
    refine PL.q rfl rfl (OQ.assign rfl) rfl ?_
    exact PL.to (CD.ret (post1 rfl rfl ⟨_, rfl, Ext.refl _, rfl, rfl⟩))

theorem with_w (b : Nat) (k : Int) (v : Int) (pl pr : Option Addr) (l r : Tr Int) (w : World) (h0 : w.cell? ⟨b, 0, none⟩ = some (kv k)) (h1 : w.cell? ⟨b, 1, none⟩ = some (.int .i64 v))
    (hl : Tt w pl l) (hr : Tt w pr r) (hs : l.size + 1 + r.size ≤ 4611686018427387904) :
    Rt Try.prog 91 [.pointer (some ⟨b, 0, none⟩), .pointer pl, .pointer pr] w fun x w' => ∃ p, x = .pointer p ∧ Tt w' p (.node l k v r) := by
  obtain ⟨hw1, hw2⟩ := wrap_size hs
  have hw3 := wrap_height (a := l.height) (b := r.height) (by have := l.height_le; omega) (by have := r.height_le; omega)
  refine Rt.of Try.func91 rfl Try.ntmps91 (by rfl) ?_
  refine CD.rs FW.wide rfl ?_
  refine PL.q rfl rfl (OQ.assign rfl) rfl ?_
  refine PL.to (CD.as .ext trivial FW.wide (by kernel_rfl) [(0, true), (1, true), (2, true), (3, true), (4, true), (5, true), (6, true), (7, true), (8, true), (9, true), (10, true), (13, true), (16, true), (18, true), (11, false), (12, true), (14, false), (15, true), (17, false), (19, false), (20, true), (21, true), (22, true), (23, false), (24, true)] (by kernel_rfl) rfl (by kernel_rfl) ?_)
  intro w1 hx1 hh1
  have g0 := hx1.cell h0; have g1 := hx1.cell h1
  refine PL.q rfl rfl (OQ.move rfl) rfl ?_
  refine PL.q rfl rfl ((by first | exact OQ.nilp rfl | exact OQ.nily rfl | exact OQ.nilf rfl)) rfl ?_
  refine PL.q rfl rfl ((by first | exact OQ.field0 rfl | exact OQ.field rfl)) rfl ?_
  refine PL.q rfl rfl (OQ.loadX rfl (by assumption)) rfl ?_
  refine PL.q rfl rfl (OQ.move rfl) rfl ?_
  refine PL.q rfl rfl ((by first | exact OQ.nilp rfl | exact OQ.nily rfl | exact OQ.nilf rfl)) rfl ?_
  refine PL.q rfl rfl ((by first | exact OQ.field0 rfl | exact OQ.field rfl)) rfl ?_
  refine PL.q rfl rfl (OQ.loadX rfl (by assumption)) rfl ?_
  refine PL.q rfl rfl (OQ.move rfl) rfl ?_
  refine PL.q rfl rfl (OQ.move rfl) rfl ?_
  refine PL.q rfl rfl (OQ.move rfl) rfl ?_
  refine PL.q rfl rfl (OQ.move rfl) rfl ?_
  refine PL.q rfl rfl (OQ.move rfl) rfl ?_
  refine PL.q rfl rfl (OQ.move rfl) rfl ?_
  refine PL.call FW.wide rfl rfl rfl rfl (len_w pl l w1 (hl.ext hx1)) ?_
  rintro _ _ _ ⟨rfl, rfl⟩
  refine PL.q rfl rfl (OQ.addW rfl rfl hw1) rfl ?_
  refine PL.call FW.wide rfl rfl rfl rfl (len_w pr r _ (hr.ext hx1)) ?_
  rintro _ _ _ ⟨rfl, rfl⟩
  refine PL.q rfl rfl (OQ.addW rfl rfl hw2) rfl ?_
  refine PL.call FW.wide rfl rfl rfl rfl (high_w pl l _ (hl.ext hx1)) ?_
  rintro _ _ _ ⟨rfl, rfl⟩
  refine PL.call FW.wide rfl rfl rfl rfl (high_w pr r _ (hr.ext hx1)) ?_
  rintro _ _ _ ⟨rfl, rfl⟩
  refine PL.q rfl rfl (OQ.max2 rfl rfl) rfl ?_
  refine PL.q rfl rfl (OQ.addW rfl rfl hw3) rfl ?_
  refine PL.q rfl rfl ((by first | exact OQ.build1 rfl rfl | exact OQ.buildC rfl rfl)) rfl ?_
  refine PL.box FW.wide rfl rfl rfl rfl ?_
  intro b30 w30 new30
  refine PL.q rfl rfl (OQ.assign rfl) rfl ?_
  have hxb := hx1.trans new30.ext
  exact PL.to (CD.ret (post1 rfl rfl ⟨_, rfl, hxb, _, rfl, b30, pl, pr, rfl, new30.heap, hl.ext hxb, hr.ext hxb⟩))

theorem at_node {w : World} {p : Option Addr} {l r : Tr Int} {k : Int} {v : Int} (h : Tt w p (.node l k v r)) : ∃ b pl pr, p = some ⟨b, 0, none⟩ ∧ w.cell? ⟨b, 0, none⟩ = some (kv k) ∧ w.cell? ⟨b, 1, none⟩ = some (.int .i64 v) ∧
    w.cell? ⟨b, 2, none⟩ = some (.pointer pl) ∧ w.cell? ⟨b, 3, none⟩ = some (.pointer pr) ∧ Tt w pl l ∧ Tt w pr r := by
  obtain ⟨b, pl, pr, rfl, hb, hl, hr⟩ := h
  exact ⟨b, pl, pr, rfl, cell_of_heap hb rfl, cell_of_heap hb rfl, cell_of_heap hb rfl, cell_of_heap hb rfl, hl, hr⟩
theorem at_node6 {w : World} {p : Option Addr} {l r : Tr Int} {k : Int} {v : Int} (h : Tt w p (.node l k v r)) : ∃ b pl pr, p = some ⟨b, 0, none⟩ ∧ w.cell? ⟨b, 0, none⟩ = some (kv k) ∧ w.cell? ⟨b, 1, none⟩ = some (.int .i64 v) ∧
    w.cell? ⟨b, 2, none⟩ = some (.pointer pl) ∧ w.cell? ⟨b, 3, none⟩ = some (.pointer pr) ∧ w.cell? ⟨b, 4, none⟩ = some (.int .i64 ((Tr.node l k v r).size : Nat)) ∧ w.cell? ⟨b, 5, none⟩ = some (.int .i64 ((Tr.node l k v r).height : Nat)) ∧ Tt w pl l ∧ Tt w pr r := by
  obtain ⟨b, pl, pr, rfl, hb, hl, hr⟩ := h
  exact ⟨b, pl, pr, rfl, cell_of_heap hb rfl, cell_of_heap hb rfl, cell_of_heap hb rfl, cell_of_heap hb rfl, cell_of_heap hb rfl, cell_of_heap hb rfl, hl, hr⟩

theorem over_w (b : Nat) (k : Int) (v : Int) (pl pr : Option Addr) (l r : Tr Int) (w : World) (h0 : w.cell? ⟨b, 0, none⟩ = some (kv k)) (h1 : w.cell? ⟨b, 1, none⟩ = some (.int .i64 v))
    (hl : Tt w pl l) (hr : Tt w pr r) (hs : l.size + 1 + r.size ≤ 4611686018427387904) :
    Rt Try.prog 65 [.pointer (some ⟨b, 0, none⟩), .pointer pl, .pointer pr] w fun x w' => ∃ p, x = .pointer p ∧ Tt w' p (l.over k v r) := by
  have hlh := l.height_le; have hrh := r.height_le
  have wr := wrap_succ (a := r.height) (by omega)
  have wl := wrap_succ (a := l.height) (by omega)
  refine Rt.of Try.func65 rfl Try.ntmps65 (by rfl) ?_
  refine CD.rs FW.wide rfl ?_
  refine PL.q rfl rfl (OQ.assign rfl) rfl ?_
  refine PL.to (CD.seq (CD.block (CD.rs FW.wide rfl ?_)))
  refine PL.q rfl rfl (OQ.move rfl) rfl ?_
  refine PL.call FW.wide rfl rfl rfl rfl (high_w pl l w hl) ?_
  rintro _ _ _ ⟨rfl, rfl⟩
  refine PL.q rfl rfl (OQ.move rfl) rfl ?_
  refine PL.call FW.wide rfl rfl rfl rfl (high_w pr r _ hr) ?_
  rintro _ _ _ ⟨rfl, rfl⟩
  refine PL.q rfl rfl (OQ.addW rfl rfl wr) rfl ?_
  refine PL.q rfl rfl (OQ.gtr rfl rfl) rfl ?_
  refine PL.q rfl rfl (OQ.assign rfl) rfl ?_
  refine PL.to (CD.condD rfl (fun hc => ?_) (fun hc => ?_))
  · -- the left one is higher by two
    have hc' : r.height + 1 < l.height := by omega
    cases l with
    | leaf => simp [Tr.height] at hc'
    | node ll lk lv lr =>
      obtain ⟨bl, pll, plr, rfl, g0, g1, g2, g3, hll, hlr⟩ := at_node hl
      simp only [Tr.size] at hs
      refine CD.seq (CD.as .ext trivial FW.wide (by kernel_rfl) [(0, true), (1, true), (2, true), (3, true), (5, true), (6, true), (7, true), (8, true), (4, false), (9, false), (10, true)] (by kernel_rfl) rfl (by kernel_rfl) ?_)
      intro w1 hx1 _
      have a2 := hx1.cell g2; have a3 := hx1.cell g3
      refine PL.q rfl rfl (OQ.move rfl) rfl ?_
      refine PL.q rfl rfl ((by first | exact OQ.nilp rfl | exact OQ.nily rfl | exact OQ.nilf rfl)) rfl ?_
      refine PL.q rfl rfl ((by first | exact OQ.field0 rfl | exact OQ.field rfl)) rfl ?_
      refine PL.q rfl rfl (OQ.loadX rfl (by assumption)) rfl ?_
      refine PL.q rfl rfl (OQ.move rfl) rfl ?_
      refine PL.q rfl rfl ((by first | exact OQ.nilp rfl | exact OQ.nily rfl | exact OQ.nilf rfl)) rfl ?_
      refine PL.q rfl rfl ((by first | exact OQ.field0 rfl | exact OQ.field rfl)) rfl ?_
      refine PL.q rfl rfl (OQ.loadX rfl (by assumption)) rfl ?_
      refine PL.call FW.wide rfl rfl rfl rfl (high_w pll ll _ (hll.ext hx1)) ?_
      rintro _ _ _ ⟨rfl, rfl⟩
      refine PL.call FW.wide rfl rfl rfl rfl (high_w plr lr _ (hlr.ext hx1)) ?_
      rintro _ _ _ ⟨rfl, rfl⟩
      refine PL.q rfl rfl (OQ.lss rfl rfl) rfl ?_
      refine PL.to (CD.condD rfl (fun hd => ?_) (fun hd => ?_))
      · have hd' : ll.height < lr.height := by omega
        cases lr with
        | leaf => simp [Tr.height] at hd'
        | node ml mk mv mr =>
          obtain ⟨bm, pml, pmr, rfl, m0, m1, m2, m3, hml, hmr⟩ := at_node (hlr.ext hx1)
          simp only [Tr.size] at hs
          refine CD.rs FW.wide rfl ?_
          refine PL.q rfl rfl (OQ.move rfl) rfl ?_
          refine PL.q rfl rfl ((by first | exact OQ.nilp rfl | exact OQ.nily rfl | exact OQ.nilf rfl)) rfl ?_
          refine PL.q rfl rfl ((by first | exact OQ.field0 rfl | exact OQ.field rfl)) rfl ?_
          refine PL.q rfl rfl (OQ.loadS rfl (by assumption)) rfl ?_
          refine PL.q rfl rfl (OQ.assign rfl) rfl ?_
          refine PL.to (CD.as .ext trivial FW.wide (by kernel_rfl) [(0, true), (1, true), (2, true), (3, true), (4, true), (5, true), (6, true), (7, true), (8, true), (9, true), (11, true), (12, true), (13, true), (14, true), (15, true), (16, true), (10, false), (17, false), (18, false), (19, true)] (by kernel_rfl) rfl (by kernel_rfl) ?_)
          intro w2 hx2 _
          have hx := hx1.trans hx2
          have a2 := hx2.cell a2; have b2 := hx2.cell m2; have b3 := hx2.cell m3
          refine PL.q rfl rfl (OQ.move rfl) rfl ?_
          refine PL.q rfl rfl (OQ.move rfl) rfl ?_
          refine PL.q rfl rfl (OQ.move rfl) rfl ?_
          refine PL.q rfl rfl ((by first | exact OQ.nilp rfl | exact OQ.nily rfl | exact OQ.nilf rfl)) rfl ?_
          refine PL.q rfl rfl ((by first | exact OQ.field0 rfl | exact OQ.field rfl)) rfl ?_
          refine PL.q rfl rfl (OQ.loadX rfl (by assumption)) rfl ?_
          refine PL.q rfl rfl (OQ.move rfl) rfl ?_
          refine PL.q rfl rfl ((by first | exact OQ.nilp rfl | exact OQ.nily rfl | exact OQ.nilf rfl)) rfl ?_
          refine PL.q rfl rfl ((by first | exact OQ.field0 rfl | exact OQ.field rfl)) rfl ?_
          refine PL.q rfl rfl (OQ.loadX rfl (by assumption)) rfl ?_
          refine PL.q rfl rfl (OQ.move rfl) rfl ?_
          refine PL.q rfl rfl (OQ.move rfl) rfl ?_
          refine PL.q rfl rfl ((by first | exact OQ.nilp rfl | exact OQ.nily rfl | exact OQ.nilf rfl)) rfl ?_
          refine PL.q rfl rfl ((by first | exact OQ.field0 rfl | exact OQ.field rfl)) rfl ?_
          refine PL.q rfl rfl (OQ.loadX rfl (by assumption)) rfl ?_
          refine PL.q rfl rfl (OQ.move rfl) rfl ?_
          refine PL.call FW.wide rfl rfl rfl rfl (with_w bl lk lv pll pml ll ml _ (hx.cell g0) (hx.cell g1) (hll.ext hx) (hml.ext hx2) (by omega)) ?_
          rintro _ w3 hx3 ⟨p3, rfl, ht3⟩
          refine PL.call FW.wide rfl rfl rfl rfl (with_w b k v pmr pr mr r _ ((hx.trans hx3).cell h0) ((hx.trans hx3).cell h1) (hmr.ext (hx2.trans hx3)) (hr.ext (hx.trans hx3)) (by omega)) ?_
          rintro _ w4 hx4 ⟨p4, rfl, ht4⟩
          refine PL.call FW.wide rfl rfl rfl rfl (with_w bm mk mv p3 p4 (.node ll lk lv ml) (.node mr k v r) _ (((hx2.trans hx3).trans hx4).cell m0) (((hx2.trans hx3).trans hx4).cell m1) (ht3.ext hx4) ht4 (by simp only [Tr.size]; omega)) ?_
          rintro _ w5 hx5 ⟨p5, rfl, ht5⟩
          refine PL.q rfl rfl (OQ.assign rfl) rfl ?_
          exact PL.to (CD.ret (post1 rfl rfl ⟨_, rfl, ((hx.trans hx3).trans hx4).trans hx5, p5, rfl, by unfold Tr.over; rw [if_pos hc']; simp only; rw [if_pos hd']; exact ht5⟩))
      · have hd' : ¬ ll.height < lr.height := by omega
        refine CD.skip ?_
        refine CD.as .ext trivial FW.wide (by kernel_rfl) [(0, true), (1, true), (2, true), (3, true), (4, true), (5, true), (6, true), (7, true), (8, true), (9, true), (10, true), (11, false), (12, false), (13, true)] (by kernel_rfl) rfl (by kernel_rfl) ?_
        intro w2 hx2 _
        have hx := hx1.trans hx2
        have a2 := hx2.cell a2; have a3 := hx2.cell a3
        refine PL.q rfl rfl (OQ.move rfl) rfl ?_
        refine PL.q rfl rfl (OQ.move rfl) rfl ?_
        refine PL.q rfl rfl ((by first | exact OQ.nilp rfl | exact OQ.nily rfl | exact OQ.nilf rfl)) rfl ?_
        refine PL.q rfl rfl ((by first | exact OQ.field0 rfl | exact OQ.field rfl)) rfl ?_
        refine PL.q rfl rfl (OQ.loadX rfl (by assumption)) rfl ?_
        refine PL.q rfl rfl (OQ.move rfl) rfl ?_
        refine PL.q rfl rfl (OQ.move rfl) rfl ?_
        refine PL.q rfl rfl ((by first | exact OQ.nilp rfl | exact OQ.nily rfl | exact OQ.nilf rfl)) rfl ?_
        refine PL.q rfl rfl ((by first | exact OQ.field0 rfl | exact OQ.field rfl)) rfl ?_
        refine PL.q rfl rfl (OQ.loadX rfl (by assumption)) rfl ?_
        refine PL.q rfl rfl (OQ.move rfl) rfl ?_
        refine PL.call FW.wide rfl rfl rfl rfl (with_w b k v plr pr lr r _ (hx.cell h0) (hx.cell h1) (hlr.ext hx) (hr.ext hx) (by omega)) ?_
        rintro _ w3 hx3 ⟨p3, rfl, ht3⟩
        refine PL.call FW.wide rfl rfl rfl rfl (with_w bl lk lv pll p3 ll (.node lr k v r) _ ((hx.trans hx3).cell g0) ((hx.trans hx3).cell g1) (hll.ext (hx.trans hx3)) ht3 (by simp only [Tr.size]; omega)) ?_
        rintro _ w4 hx4 ⟨p4, rfl, ht4⟩
        refine PL.q rfl rfl (OQ.assign rfl) rfl ?_
        exact PL.to (CD.ret (post1 rfl rfl ⟨_, rfl, (hx.trans hx3).trans hx4, p4, rfl, by unfold Tr.over; rw [if_pos hc']; simp only; rw [if_neg hd']; exact ht4⟩))
  · have hc' : ¬ r.height + 1 < l.height := by omega
    refine CD.rs FW.wide rfl ?_
    refine PL.q rfl rfl (OQ.move rfl) rfl ?_
    refine PL.call FW.wide rfl rfl rfl rfl (high_w pr r _ hr) ?_
    rintro _ _ _ ⟨rfl, rfl⟩
    refine PL.q rfl rfl (OQ.move rfl) rfl ?_
    refine PL.call FW.wide rfl rfl rfl rfl (high_w pl l _ hl) ?_
    rintro _ _ _ ⟨rfl, rfl⟩
    refine PL.q rfl rfl (OQ.addW rfl rfl wl) rfl ?_
    refine PL.q rfl rfl (OQ.gtr rfl rfl) rfl ?_
    refine PL.q rfl rfl (OQ.assign rfl) rfl ?_
    refine PL.to (CD.condD rfl (fun hc2 => ?_) (fun hc2 => ?_))
    · have hc3 : l.height + 1 < r.height := by omega
      cases r with
      | leaf => simp [Tr.height] at hc3
      | node rl rk rv rr =>
        obtain ⟨br, prl, prr, rfl, g0, g1, g2, g3, hrl, hrr⟩ := at_node hr
        simp only [Tr.size] at hs
        refine CD.seq (CD.as .ext trivial FW.wide (by kernel_rfl) [(0, true), (1, true), (2, true), (3, true), (5, true), (6, true), (7, true), (8, true), (4, false), (9, false), (10, true)] (by kernel_rfl) rfl (by kernel_rfl) ?_)
        intro w1 hx1 _
        have a2 := hx1.cell g2; have a3 := hx1.cell g3
        refine PL.q rfl rfl (OQ.move rfl) rfl ?_
        refine PL.q rfl rfl ((by first | exact OQ.nilp rfl | exact OQ.nily rfl | exact OQ.nilf rfl)) rfl ?_
        refine PL.q rfl rfl ((by first | exact OQ.field0 rfl | exact OQ.field rfl)) rfl ?_
        refine PL.q rfl rfl (OQ.loadX rfl (by assumption)) rfl ?_
        refine PL.q rfl rfl (OQ.move rfl) rfl ?_
        refine PL.q rfl rfl ((by first | exact OQ.nilp rfl | exact OQ.nily rfl | exact OQ.nilf rfl)) rfl ?_
        refine PL.q rfl rfl ((by first | exact OQ.field0 rfl | exact OQ.field rfl)) rfl ?_
        refine PL.q rfl rfl (OQ.loadX rfl (by assumption)) rfl ?_
        refine PL.call FW.wide rfl rfl rfl rfl (high_w prr rr _ (hrr.ext hx1)) ?_
        rintro _ _ _ ⟨rfl, rfl⟩
        refine PL.call FW.wide rfl rfl rfl rfl (high_w prl rl _ (hrl.ext hx1)) ?_
        rintro _ _ _ ⟨rfl, rfl⟩
        refine PL.q rfl rfl (OQ.lss rfl rfl) rfl ?_
        refine PL.to (CD.condD rfl (fun hd => ?_) (fun hd => ?_))
        · have hd' : rr.height < rl.height := by omega
          cases rl with
          | leaf => simp [Tr.height] at hd'
          | node ml mk mv mr =>
            obtain ⟨bm, pml, pmr, rfl, m0, m1, m2, m3, hml, hmr⟩ := at_node (hrl.ext hx1)
            simp only [Tr.size] at hs
            refine CD.rs FW.wide rfl ?_
            refine PL.q rfl rfl (OQ.move rfl) rfl ?_
            refine PL.q rfl rfl ((by first | exact OQ.nilp rfl | exact OQ.nily rfl | exact OQ.nilf rfl)) rfl ?_
            refine PL.q rfl rfl ((by first | exact OQ.field0 rfl | exact OQ.field rfl)) rfl ?_
            refine PL.q rfl rfl (OQ.loadS rfl (by assumption)) rfl ?_
            refine PL.q rfl rfl (OQ.assign rfl) rfl ?_
            refine PL.to (CD.as .ext trivial FW.wide (by kernel_rfl) [(0, true), (1, true), (2, true), (3, true), (4, true), (5, true), (6, true), (8, true), (9, true), (10, true), (11, true), (12, true), (13, true), (14, true), (15, true), (16, true), (7, false), (17, false), (18, false), (19, true)] (by kernel_rfl) rfl (by kernel_rfl) ?_)
            intro w2 hx2 _
            have hx := hx1.trans hx2
            have a3 := hx2.cell a3; have b2 := hx2.cell m2; have b3 := hx2.cell m3
            refine PL.q rfl rfl (OQ.move rfl) rfl ?_
            refine PL.q rfl rfl (OQ.move rfl) rfl ?_
            refine PL.q rfl rfl (OQ.move rfl) rfl ?_
            refine PL.q rfl rfl (OQ.move rfl) rfl ?_
            refine PL.q rfl rfl ((by first | exact OQ.nilp rfl | exact OQ.nily rfl | exact OQ.nilf rfl)) rfl ?_
            refine PL.q rfl rfl ((by first | exact OQ.field0 rfl | exact OQ.field rfl)) rfl ?_
            refine PL.q rfl rfl (OQ.loadX rfl (by assumption)) rfl ?_
            refine PL.q rfl rfl (OQ.move rfl) rfl ?_
            refine PL.q rfl rfl (OQ.move rfl) rfl ?_
            refine PL.q rfl rfl ((by first | exact OQ.nilp rfl | exact OQ.nily rfl | exact OQ.nilf rfl)) rfl ?_
            refine PL.q rfl rfl ((by first | exact OQ.field0 rfl | exact OQ.field rfl)) rfl ?_
            refine PL.q rfl rfl (OQ.loadX rfl (by assumption)) rfl ?_
            refine PL.q rfl rfl (OQ.move rfl) rfl ?_
            refine PL.q rfl rfl ((by first | exact OQ.nilp rfl | exact OQ.nily rfl | exact OQ.nilf rfl)) rfl ?_
            refine PL.q rfl rfl ((by first | exact OQ.field0 rfl | exact OQ.field rfl)) rfl ?_
            refine PL.q rfl rfl (OQ.loadX rfl (by assumption)) rfl ?_
            refine PL.call FW.wide rfl rfl rfl rfl (with_w b k v pl pml l ml _ (hx.cell h0) (hx.cell h1) (hl.ext hx) (hml.ext hx2) (by omega)) ?_
            rintro _ w3 hx3 ⟨p3, rfl, ht3⟩
            refine PL.call FW.wide rfl rfl rfl rfl (with_w br rk rv pmr prr mr rr _ ((hx.trans hx3).cell g0) ((hx.trans hx3).cell g1) (hmr.ext (hx2.trans hx3)) (hrr.ext (hx.trans hx3)) (by omega)) ?_
            rintro _ w4 hx4 ⟨p4, rfl, ht4⟩
            refine PL.call FW.wide rfl rfl rfl rfl (with_w bm mk mv p3 p4 (.node l k v ml) (.node mr rk rv rr) _ (((hx2.trans hx3).trans hx4).cell m0) (((hx2.trans hx3).trans hx4).cell m1) (ht3.ext hx4) ht4 (by simp only [Tr.size]; omega)) ?_
            rintro _ w5 hx5 ⟨p5, rfl, ht5⟩
            refine PL.q rfl rfl (OQ.assign rfl) rfl ?_
            exact PL.to (CD.ret (post1 rfl rfl ⟨_, rfl, ((hx.trans hx3).trans hx4).trans hx5, p5, rfl, by unfold Tr.over; rw [if_neg hc', if_pos hc3]; simp only; rw [if_pos hd']; exact ht5⟩))
        · have hd' : ¬ rr.height < rl.height := by omega
          refine CD.skip ?_
          refine CD.as .ext trivial FW.wide (by kernel_rfl) [(0, true), (1, true), (2, true), (3, true), (4, true), (5, true), (6, true), (8, true), (9, true), (10, true), (11, true), (7, false), (12, false), (13, true)] (by kernel_rfl) rfl (by kernel_rfl) ?_
          intro w2 hx2 _
          have hx := hx1.trans hx2
          have a2 := hx2.cell a2; have a3 := hx2.cell a3
          refine PL.q rfl rfl (OQ.move rfl) rfl ?_
          refine PL.q rfl rfl (OQ.move rfl) rfl ?_
          refine PL.q rfl rfl (OQ.move rfl) rfl ?_
          refine PL.q rfl rfl (OQ.move rfl) rfl ?_
          refine PL.q rfl rfl ((by first | exact OQ.nilp rfl | exact OQ.nily rfl | exact OQ.nilf rfl)) rfl ?_
          refine PL.q rfl rfl ((by first | exact OQ.field0 rfl | exact OQ.field rfl)) rfl ?_
          refine PL.q rfl rfl (OQ.loadX rfl (by assumption)) rfl ?_
          refine PL.q rfl rfl (OQ.move rfl) rfl ?_
          refine PL.q rfl rfl ((by first | exact OQ.nilp rfl | exact OQ.nily rfl | exact OQ.nilf rfl)) rfl ?_
          refine PL.q rfl rfl ((by first | exact OQ.field0 rfl | exact OQ.field rfl)) rfl ?_
          refine PL.q rfl rfl (OQ.loadX rfl (by assumption)) rfl ?_
          refine PL.call FW.wide rfl rfl rfl rfl (with_w b k v pl prl l rl _ (hx.cell h0) (hx.cell h1) (hl.ext hx) (hrl.ext hx) (by omega)) ?_
          rintro _ w3 hx3 ⟨p3, rfl, ht3⟩
          refine PL.call FW.wide rfl rfl rfl rfl (with_w br rk rv p3 prr (.node l k v rl) rr _ ((hx.trans hx3).cell g0) ((hx.trans hx3).cell g1) ht3 (hrr.ext (hx.trans hx3)) (by simp only [Tr.size]; omega)) ?_
          rintro _ w4 hx4 ⟨p4, rfl, ht4⟩
          refine PL.q rfl rfl (OQ.assign rfl) rfl ?_
          exact PL.to (CD.ret (post1 rfl rfl ⟨_, rfl, (hx.trans hx3).trans hx4, p4, rfl, by unfold Tr.over; rw [if_neg hc', if_pos hc3]; simp only; rw [if_neg hd']; exact ht4⟩))
    · have hc3 : ¬ l.height + 1 < r.height := by omega
      refine CD.skip ?_
      refine CD.rs FW.wide rfl ?_
      refine PL.q rfl rfl (OQ.move rfl) rfl ?_
      refine PL.q rfl rfl (OQ.move rfl) rfl ?_
      refine PL.q rfl rfl (OQ.move rfl) rfl ?_
      refine PL.call FW.wide rfl rfl rfl rfl (with_w b k v pl pr l r _ h0 h1 hl hr hs) ?_
      rintro _ w3 hx3 ⟨p3, rfl, ht3⟩
      refine PL.q rfl rfl (OQ.assign rfl) rfl ?_
      exact PL.to (CD.ret (post1 rfl rfl ⟨_, rfl, hx3, p3, rfl, by unfold Tr.over; rw [if_neg hc', if_neg hc3]; exact ht3⟩))
end Go.Proofs.Ytdielcpjemkngaa.OI
