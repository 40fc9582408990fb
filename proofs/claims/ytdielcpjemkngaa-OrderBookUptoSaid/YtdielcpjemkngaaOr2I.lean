/-
  The walks of a sorted table's nodes and of the table: put, drop, toward, New, Put, Drop, Len, Get, At, Rank: keys: numbers.
-/
import Derived.Test.YtdielcpjemkngaaOr1I
namespace Go.Proofs.Ytdielcpjemkngaa.OI
open Go.RowKit

abbrev ne : Int → Int → Bool := fun a b => decide (a ≠ b)
abbrev le : Int → Int → Bool := fun a b => decide (a ≤ b)
abbrev eq : Int → Int → Bool := fun a b => decide (a = b)

theorem put_w (k : Int) (v : Int) (t : Tr Int) : ∀ (p : Option Addr) (w : World), Tt w p t → t.size < 4611686018427387904 →
    Rt Try.prog 50 [.pointer p, kv k, .int .i64 v] w fun x w' => ∃ q, x = .pointer q ∧ Tt w' q (t.put lt k v) := by
  induction t with
  | leaf =>
    intro p w h hs
    obtain rfl : p = none := h
    refine Rt.of Try.func50 rfl Try.ntmps50 (by rfl) ?_
    refine CD.rs FW.wide rfl ?_
    refine PL.q rfl rfl (OQ.assign rfl) rfl ?_
    refine PL.to (CD.seq (CD.block (CD.rs FW.wide rfl ?_)))
    refine PL.q rfl rfl (OQ.move rfl) rfl ?_
    refine PL.q rfl rfl ((by first | exact OQ.eqNN rfl rfl | exact OQ.eqNS rfl rfl | exact OQ.eqN rfl rfl)) rfl ?_
    refine PL.q rfl rfl (OQ.assign rfl) rfl ?_
    refine PL.to (CD.condT rfl (CD.rs FW.wide rfl ?_))
    refine PL.q rfl rfl (OQ.move rfl) rfl ?_
    refine PL.q rfl rfl (OQ.move rfl) rfl ?_
    refine PL.q rfl rfl ((by first | exact OQ.build1 rfl rfl | exact OQ.buildC rfl rfl)) rfl ?_
    refine PL.box FW.wide rfl rfl rfl rfl ?_
    intro b13 w13 new13
    refine PL.q rfl rfl (OQ.assign rfl) rfl ?_
    exact PL.to (CD.ret (post1 rfl rfl ⟨_, rfl, new13.ext, _, rfl, b13, none, none, rfl, new13.heap, rfl, rfl⟩))
  | node l k' v' r ihl ihr =>
    intro p w h hs
    obtain ⟨b, pl, pr, rfl, c0, c1, c2, c3, c4, c5, hl, hr⟩ := at_node6 h
    simp only [Tr.size] at hs
    refine Rt.of Try.func50 rfl Try.ntmps50 (by rfl) ?_
    refine CD.rs FW.wide rfl ?_
    refine PL.q rfl rfl (OQ.assign rfl) rfl ?_
    refine PL.to (CD.seq (CD.block (CD.rs FW.wide rfl ?_)))
    refine PL.q rfl rfl (OQ.move rfl) rfl ?_
    refine PL.q rfl rfl ((by first | exact OQ.eqNN rfl rfl | exact OQ.eqNS rfl rfl | exact OQ.eqN rfl rfl)) rfl ?_
    refine PL.q rfl rfl (OQ.assign rfl) rfl ?_
    refine PL.to (CD.condF rfl (CD.rs FW.wide rfl ?_))
    refine PL.q rfl rfl (OQ.move rfl) rfl ?_
    refine PL.q rfl rfl (OQ.move rfl) rfl ?_
    refine PL.q rfl rfl ((by first | exact OQ.nilp rfl | exact OQ.nily rfl | exact OQ.nilf rfl)) rfl ?_
    refine PL.q rfl rfl ((by first | exact OQ.field0 rfl | exact OQ.field rfl)) rfl ?_
    refine PL.q rfl rfl (OQ.loadS rfl (by assumption)) rfl ?_
    refine PL.q rfl rfl (OQ.lss rfl rfl) rfl ?_
    refine PL.q rfl rfl (OQ.assign rfl) rfl ?_
    refine PL.to (CD.cond (b := lt k k') rfl (fun h1 => ?_) (fun h1 => ?_))
    · refine CD.as .ext trivial FW.wide (by kernel_rfl) [(0, true), (1, true), (2, true), (3, true), (4, true), (5, true), (6, true), (8, true), (9, true), (10, true), (11, true), (7, false), (12, false), (13, true)] (by kernel_rfl) rfl (by kernel_rfl) ?_
      intro w1 hx1 _
      have g2 := hx1.cell c2; have g3 := hx1.cell c3
      refine PL.q rfl rfl (OQ.move rfl) rfl ?_
      refine PL.q rfl rfl (OQ.move rfl) rfl ?_
      refine PL.q rfl rfl ((by first | exact OQ.nilp rfl | exact OQ.nily rfl | exact OQ.nilf rfl)) rfl ?_
      refine PL.q rfl rfl ((by first | exact OQ.field0 rfl | exact OQ.field rfl)) rfl ?_
      refine PL.q rfl rfl (OQ.loadX rfl (by assumption)) rfl ?_
      refine PL.q rfl rfl (OQ.move rfl) rfl ?_
      refine PL.q rfl rfl (OQ.move rfl) rfl ?_
      refine PL.q rfl rfl (OQ.move rfl) rfl ?_
      refine PL.q rfl rfl ((by first | exact OQ.nilp rfl | exact OQ.nily rfl | exact OQ.nilf rfl)) rfl ?_
      refine PL.q rfl rfl ((by first | exact OQ.field0 rfl | exact OQ.field rfl)) rfl ?_
      refine PL.q rfl rfl (OQ.loadX rfl (by assumption)) rfl ?_
      refine PL.call FW.wide rfl rfl rfl rfl (ihl pl w1 (hl.ext hx1) (by omega)) ?_
      rintro _ w2 hx2 ⟨p2, rfl, ht2⟩
      have hx := hx1.trans hx2
      have hz := Tr.size_put lt k v l
      refine PL.call FW.wide rfl rfl rfl rfl (over_w b k' v' p2 pr _ r w2 (hx.cell c0) (hx.cell c1) ht2 (hr.ext hx) (by omega)) ?_
      rintro _ w3 hx3 ⟨p3, rfl, ht3⟩
      refine PL.q rfl rfl (OQ.assign rfl) rfl ?_
      exact PL.to (CD.ret (post1 rfl rfl ⟨_, rfl, hx.trans hx3, _, rfl, by simp only [Tr.put, h1, if_true]; exact ht3⟩))
    · refine CD.rs FW.wide rfl ?_
      refine PL.q rfl rfl (OQ.move rfl) rfl ?_
      refine PL.q rfl rfl ((by first | exact OQ.nilp rfl | exact OQ.nily rfl | exact OQ.nilf rfl)) rfl ?_
      refine PL.q rfl rfl ((by first | exact OQ.field0 rfl | exact OQ.field rfl)) rfl ?_
      refine PL.q rfl rfl (OQ.loadS rfl (by assumption)) rfl ?_
      refine PL.q rfl rfl (OQ.move rfl) rfl ?_
      refine PL.q rfl rfl (OQ.lss rfl rfl) rfl ?_
      refine PL.q rfl rfl (OQ.assign rfl) rfl ?_
      refine PL.to (CD.cond (b := lt k' k) rfl (fun h2 => ?_) (fun h2 => ?_))
      · refine CD.as .ext trivial FW.wide (by kernel_rfl) [(0, true), (1, true), (2, true), (3, true), (4, true), (5, true), (6, true), (7, true), (8, true), (9, true), (10, true), (11, false), (12, false), (13, true)] (by kernel_rfl) rfl (by kernel_rfl) ?_
        intro w1 hx1 _
        have g2 := hx1.cell c2; have g3 := hx1.cell c3
        refine PL.q rfl rfl (OQ.move rfl) rfl ?_
        refine PL.q rfl rfl (OQ.move rfl) rfl ?_
        refine PL.q rfl rfl ((by first | exact OQ.nilp rfl | exact OQ.nily rfl | exact OQ.nilf rfl)) rfl ?_
        refine PL.q rfl rfl ((by first | exact OQ.field0 rfl | exact OQ.field rfl)) rfl ?_
        refine PL.q rfl rfl (OQ.loadX rfl (by assumption)) rfl ?_
        refine PL.q rfl rfl (OQ.move rfl) rfl ?_
        refine PL.q rfl rfl ((by first | exact OQ.nilp rfl | exact OQ.nily rfl | exact OQ.nilf rfl)) rfl ?_
        refine PL.q rfl rfl ((by first | exact OQ.field0 rfl | exact OQ.field rfl)) rfl ?_
        refine PL.q rfl rfl (OQ.loadX rfl (by assumption)) rfl ?_
        refine PL.q rfl rfl (OQ.move rfl) rfl ?_
        refine PL.q rfl rfl (OQ.move rfl) rfl ?_
        refine PL.call FW.wide rfl rfl rfl rfl (ihr pr w1 (hr.ext hx1) (by omega)) ?_
        rintro _ w2 hx2 ⟨p2, rfl, ht2⟩
        have hx := hx1.trans hx2
        have hz := Tr.size_put lt k v r
        refine PL.call FW.wide rfl rfl rfl rfl (over_w b k' v' pl p2 l _ w2 (hx.cell c0) (hx.cell c1) (hl.ext hx) ht2 (by omega)) ?_
        rintro _ w3 hx3 ⟨p3, rfl, ht3⟩
        refine PL.q rfl rfl (OQ.assign rfl) rfl ?_
        exact PL.to (CD.ret (post1 rfl rfl ⟨_, rfl, hx.trans hx3, _, rfl, by simp only [Tr.put, h1, h2, if_true, if_false, Bool.false_eq_true]; exact ht3⟩))
      · refine CD.skip ?_
        refine CD.as .ext trivial FW.wide (by kernel_rfl) [(0, true), (1, true), (2, true), (3, true), (4, true), (5, true), (6, true), (7, true), (8, true), (9, true), (10, true), (11, true), (12, true), (13, true), (14, true), (15, true), (16, true), (17, true), (18, true), (19, false), (20, true)] (by kernel_rfl) rfl (by kernel_rfl) ?_
        intro w1 hx1 _
        have g2 := hx1.cell c2; have g3 := hx1.cell c3; have g4 := hx1.cell c4; have g5 := hx1.cell c5
        refine PL.q rfl rfl (OQ.move rfl) rfl ?_
        refine PL.q rfl rfl (OQ.move rfl) rfl ?_
        refine PL.q rfl rfl (OQ.move rfl) rfl ?_
        refine PL.q rfl rfl ((by first | exact OQ.nilp rfl | exact OQ.nily rfl | exact OQ.nilf rfl)) rfl ?_
        refine PL.q rfl rfl ((by first | exact OQ.field0 rfl | exact OQ.field rfl)) rfl ?_
        refine PL.q rfl rfl (OQ.loadX rfl (by assumption)) rfl ?_
        refine PL.q rfl rfl (OQ.move rfl) rfl ?_
        refine PL.q rfl rfl ((by first | exact OQ.nilp rfl | exact OQ.nily rfl | exact OQ.nilf rfl)) rfl ?_
        refine PL.q rfl rfl ((by first | exact OQ.field0 rfl | exact OQ.field rfl)) rfl ?_
        refine PL.q rfl rfl (OQ.loadX rfl (by assumption)) rfl ?_
        refine PL.q rfl rfl (OQ.move rfl) rfl ?_
        refine PL.q rfl rfl ((by first | exact OQ.nilp rfl | exact OQ.nily rfl | exact OQ.nilf rfl)) rfl ?_
        refine PL.q rfl rfl ((by first | exact OQ.field0 rfl | exact OQ.field rfl)) rfl ?_
        refine PL.q rfl rfl (OQ.loadX rfl (by assumption)) rfl ?_
        refine PL.q rfl rfl (OQ.move rfl) rfl ?_
        refine PL.q rfl rfl ((by first | exact OQ.nilp rfl | exact OQ.nily rfl | exact OQ.nilf rfl)) rfl ?_
        refine PL.q rfl rfl ((by first | exact OQ.field0 rfl | exact OQ.field rfl)) rfl ?_
        refine PL.q rfl rfl (OQ.loadX rfl (by assumption)) rfl ?_
        refine PL.q rfl rfl ((by first | exact OQ.build1 rfl rfl | exact OQ.buildC rfl rfl)) rfl ?_
        refine PL.box FW.wide rfl rfl rfl rfl ?_
        intro b73 w73 new73
        refine PL.q rfl rfl (OQ.assign rfl) rfl ?_
        have hx := hx1.trans new73.ext
        refine PL.to (CD.ret (post1 rfl rfl ⟨_, rfl, hx, _, rfl, ?_⟩))
        simp only [Tr.put, h1, h2, if_false, Bool.false_eq_true]
        exact ⟨b73, pl, pr, rfl, new73.heap, hl.ext hx, hr.ext hx⟩


theorem toward_w (k : Int) (l r : Tr Int) (k' : Int) (v' : Int) (b : Nat) (pl pr : Option Addr) (w : World) (c0 : w.cell? ⟨b, 0, none⟩ = some (kv k')) (c2 : w.cell? ⟨b, 2, none⟩ = some (.pointer pl)) (c3 : w.cell? ⟨b, 3, none⟩ = some (.pointer pr)) :
    Rt Try.prog 57 [.pointer (some ⟨b, 0, none⟩), kv k] w fun x w' => x = .pointer (bif lt k k' then pl else pr) ∧ w = w' := by
  refine Rt.of Try.func57 rfl Try.ntmps57 (by rfl) ?_
  refine CD.rs FW.wide rfl ?_
  refine PL.q rfl rfl (OQ.assign rfl) rfl ?_
  refine PL.to (CD.seq (CD.rs FW.wide rfl ?_))
  refine PL.q rfl rfl (OQ.move rfl) rfl ?_
  refine PL.q rfl rfl (OQ.move rfl) rfl ?_
  refine PL.q rfl rfl ((by first | exact OQ.nilp rfl | exact OQ.nily rfl | exact OQ.nilf rfl)) rfl ?_
  refine PL.q rfl rfl ((by first | exact OQ.field0 rfl | exact OQ.field rfl)) rfl ?_
  refine PL.q rfl rfl (OQ.loadS rfl (by assumption)) rfl ?_
  refine PL.q rfl rfl (OQ.lss rfl rfl) rfl ?_
  refine PL.to (CD.cond (b := lt k k') rfl (fun h1 => ?_) (fun h1 => ?_))
  · refine CD.rs FW.wide rfl ?_
    refine PL.q rfl rfl (OQ.move rfl) rfl ?_
    refine PL.q rfl rfl ((by first | exact OQ.nilp rfl | exact OQ.nily rfl | exact OQ.nilf rfl)) rfl ?_
    refine PL.q rfl rfl ((by first | exact OQ.field0 rfl | exact OQ.field rfl)) rfl ?_
    refine PL.q rfl rfl (OQ.loadS rfl (by assumption)) rfl ?_
    refine PL.q rfl rfl (OQ.assign rfl) rfl ?_
    exact PL.to (CD.ret (post1 rfl rfl ⟨_, rfl, Ext.refl _, by rw [h1]; rfl, rfl⟩))
  · refine CD.skip ?_
    refine CD.rs FW.wide rfl ?_
    refine PL.q rfl rfl (OQ.move rfl) rfl ?_
    refine PL.q rfl rfl ((by first | exact OQ.nilp rfl | exact OQ.nily rfl | exact OQ.nilf rfl)) rfl ?_
    refine PL.q rfl rfl ((by first | exact OQ.field0 rfl | exact OQ.field rfl)) rfl ?_
    refine PL.q rfl rfl (OQ.loadS rfl (by assumption)) rfl ?_
    refine PL.q rfl rfl (OQ.assign rfl) rfl ?_
    exact PL.to (CD.ret (post1 rfl rfl ⟨_, rfl, Ext.refl _, by rw [h1]; rfl, rfl⟩))

/-- the table at m has the entries of the tree t -/
def MapAt (w : World) (m : Nat) (t : Tr Int) : Prop := ∃ p, w.heap[m]? = some (.cells #[.pointer p] 77 (0, 0)) ∧ Tt w p t
theorem MapAt.ext {w w' : World} (hx : Ext w w') {m : Nat} {t : Tr Int} (h : MapAt w m t) : MapAt w' m t := let ⟨p, h1, h2⟩ := h; ⟨p, hx.heap h1, h2.ext hx⟩
abbrev ptr (m : Nat) : Value := .pointer (some ⟨m, 0, none⟩)

theorem New_w (w : World) : Rt Try.prog 43 [] w fun x w' => ∃ m, x = ptr m ∧ MapAt w' m .leaf := by
  refine Rt.of Try.func43 rfl Try.ntmps43 (by rfl) ?_
  refine CD.rs FW.wide rfl ?_
  refine PL.q rfl rfl (OQ.assign rfl) rfl ?_
  refine PL.to (CD.rs FW.wide rfl ?_)
  refine PL.q rfl rfl ((by first | exact OQ.build1 rfl rfl | exact OQ.buildC rfl rfl)) rfl ?_
  refine PL.box FW.wide rfl rfl rfl rfl ?_
  intro b2 w2 new2
  refine PL.q rfl rfl (OQ.assign rfl) rfl ?_
  exact PL.to (CD.ret (post1 rfl rfl ⟨_, rfl, new2.ext, _, rfl, none, new2.heap, rfl⟩))

theorem Put_w (m : Nat) (k : Int) (v : Int) (t : Tr Int) (w : World) (h : MapAt w m t) (hs : t.size < 4611686018427387904) : Rt Try.prog 24 [ptr m, kv k, .int .i64 v] w fun x w' => ∃ m', x = ptr m' ∧ MapAt w' m' (t.put lt k v) := by
  obtain ⟨p, hm, ht⟩ := h
  have c0 := cell_of_heap hm (j := 0) rfl
  refine Rt.of Try.func24 rfl Try.ntmps24 (by rfl) ?_
  refine CD.rs FW.wide rfl ?_
  refine PL.q rfl rfl (OQ.assign rfl) rfl ?_
  refine PL.to (CD.rs FW.wide rfl ?_)
  refine PL.q rfl rfl (OQ.move rfl) rfl ?_
  refine PL.q rfl rfl ((by first | exact OQ.nilp rfl | exact OQ.nily rfl | exact OQ.nilf rfl)) rfl ?_
  refine PL.q rfl rfl ((by first | exact OQ.field0 rfl | exact OQ.field rfl)) rfl ?_
  refine PL.q rfl rfl (OQ.loadS rfl (by assumption)) rfl ?_
  refine PL.q rfl rfl (OQ.move rfl) rfl ?_
  refine PL.q rfl rfl (OQ.move rfl) rfl ?_
  refine PL.call FW.wide rfl rfl rfl rfl (put_w k v t p w ht hs) ?_
  rintro _ w1 hx1 ⟨q, rfl, hq⟩
  refine PL.q rfl rfl ((by first | exact OQ.build1 rfl rfl | exact OQ.buildC rfl rfl)) rfl ?_
  refine PL.box FW.wide rfl rfl rfl rfl ?_
  intro b15 w15 new15
  refine PL.q rfl rfl (OQ.assign rfl) rfl ?_
  exact PL.to (CD.ret (post1 rfl rfl ⟨_, rfl, hx1.trans new15.ext, _, rfl, q, new15.heap, hq.ext new15.ext⟩))

theorem Len_w (m : Nat) (t : Tr Int) (w : World) (h : MapAt w m t) : Rt Try.prog 25 [ptr m] w fun x w' => x = .int .i64 (t.size : Nat) ∧ w = w' := by
  obtain ⟨p, hm, ht⟩ := h
  have c0 := cell_of_heap hm (j := 0) rfl
  refine Rt.of Try.func25 rfl Try.ntmps25 (by rfl) ?_
  refine CD.rs FW.wide rfl ?_
  refine PL.q rfl rfl (OQ.assign rfl) rfl ?_
  refine PL.to (CD.rs FW.wide rfl ?_)
  refine PL.q rfl rfl (OQ.move rfl) rfl ?_
  refine PL.q rfl rfl ((by first | exact OQ.nilp rfl | exact OQ.nily rfl | exact OQ.nilf rfl)) rfl ?_
  refine PL.q rfl rfl ((by first | exact OQ.field0 rfl | exact OQ.field rfl)) rfl ?_
  refine PL.q rfl rfl (OQ.loadS rfl (by assumption)) rfl ?_
  refine PL.call FW.wide rfl rfl rfl rfl (len_w p t w ht) ?_
  rintro _ _ _ ⟨rfl, rfl⟩
  refine PL.q rfl rfl (OQ.assign rfl) rfl ?_
  exact PL.to (CD.ret (post1 rfl rfl ⟨_, rfl, Ext.refl _, rfl, rfl⟩))

/-- the value at a key -/
def find (k : Int) : Tr Int → Option Int
  | .leaf => none
  | .node l k' v r => bif ne k' k then (bif lt k k' then find k l else find k r) else some v

theorem Get_w (m : Nat) (k : Int) (t : Tr Int) (w : World) (h : MapAt w m t) : Rt Try.prog 39 [ptr m, kv k] w fun x w' => x = .tuple #[.int .i64 ((find k t).getD 0), .bool (find k t).isSome] ∧ w = w' := by
  obtain ⟨p, hm, ht⟩ := h
  have c0 := cell_of_heap hm (j := 0) rfl
  refine Rt.of Try.func39 rfl Try.ntmps39 (by rfl) ?_
  refine CD.rs FW.wide rfl ?_
  refine PL.q rfl rfl (OQ.assign rfl) rfl ?_
  refine PL.q rfl rfl (OQ.assign rfl) rfl ?_
  refine PL.to (CD.rs FW.wide rfl ?_)
  refine PL.q rfl rfl (OQ.move rfl) rfl ?_
  refine PL.q rfl rfl ((by first | exact OQ.nilp rfl | exact OQ.nily rfl | exact OQ.nilf rfl)) rfl ?_
  refine PL.q rfl rfl ((by first | exact OQ.field0 rfl | exact OQ.field rfl)) rfl ?_
  refine PL.q rfl rfl (OQ.loadS rfl (by assumption)) rfl ?_
  refine PL.q rfl rfl (OQ.assign rfl) rfl ?_
  refine PL.to (CD.seq (CD.block ?_))
  refine CD.loop (α := Option Addr × Tr Int) (fun s => [(1, kv k), (6, .pointer s.1)]) (fun s w' => w = w' ∧ Tt w s.1 s.2 ∧ find k s.2 = find k t) (fun s => s.2.size) (p, t) ⟨rfl, rfl, trivial⟩ ⟨rfl, ht, rfl⟩ ?_
  rintro ⟨q, u⟩ _ ⟨rfl, hu, hf⟩
  refine CD.seq (CD.rs FW.wide rfl ?_)
  cases u with
  | leaf =>
    obtain rfl : q = none := hu
    refine PL.q rfl rfl (OQ.move rfl) rfl ?_
    refine PL.q rfl rfl ((by first | exact OQ.neNN rfl rfl | exact OQ.neNS rfl rfl | exact OQ.neN rfl rfl)) rfl ?_
    refine PL.q rfl rfl (OQ.move rfl) rfl ?_
    refine PL.skip rfl rfl rfl ?_
    refine PL.skip rfl rfl rfl ?_
    refine PL.skip rfl rfl rfl ?_
    refine PL.skip rfl rfl rfl ?_
    refine PL.skip rfl rfl rfl ?_
    refine PL.skip rfl rfl rfl ?_
    refine PL.q rfl rfl ((by first | exact OQ.pickT rfl rfl | exact OQ.pickF rfl rfl)) rfl ?_
    refine PL.to (CD.condF rfl (CD.exit ?_))
    refine CD.seq (CD.rs FW.wide rfl ?_)
    refine PL.q rfl rfl (OQ.move rfl) rfl ?_
    refine PL.q rfl rfl ((by first | exact OQ.eqNN rfl rfl | exact OQ.eqNS rfl rfl | exact OQ.eqN rfl rfl)) rfl ?_
    refine PL.to (CD.condT rfl (CD.rs FW.wide rfl ?_))
    refine PL.q rfl rfl (OQ.assign rfl) rfl ?_
    refine PL.to (CD.rs FW.wide rfl ?_)
    refine PL.q rfl rfl (OQ.move rfl) rfl ?_
    refine PL.q rfl rfl (OQ.assign rfl) rfl ?_
    refine PL.q rfl rfl (OQ.assign rfl) rfl ?_
    exact PL.to (CD.ret (post2 rfl rfl rfl ⟨_, rfl, Ext.refl _, by rw [← hf]; rfl, rfl⟩))
  | node l k' v' r =>
    obtain ⟨b, pl, pr, rfl, d0, d1, d2, d3, hl, hr⟩ := at_node hu
    refine PL.q rfl rfl (OQ.move rfl) rfl ?_
    refine PL.q rfl rfl ((by first | exact OQ.neNN rfl rfl | exact OQ.neNS rfl rfl | exact OQ.neN rfl rfl)) rfl ?_
    refine PL.q rfl rfl (OQ.move rfl) rfl ?_
    refine PL.q rfl rfl (OQ.move rfl) rfl ?_
    refine PL.q rfl rfl ((by first | exact OQ.nilp rfl | exact OQ.nily rfl | exact OQ.nilf rfl)) rfl ?_
    refine PL.q rfl rfl ((by first | exact OQ.field0 rfl | exact OQ.field rfl)) rfl ?_
    refine PL.q rfl rfl (OQ.loadS rfl (by assumption)) rfl ?_
    refine PL.q rfl rfl (OQ.move rfl) rfl ?_
    refine PL.q rfl rfl (OQ.neq rfl rfl) rfl ?_
    by_cases h1 : ne k' k = true
    · refine PL.q rfl rfl (OQ.pickT (v1 := .bool (ne k' k)) rfl rfl) rfl ?_
      refine PL.to (CD.cond (b := ne k' k) rfl (fun _ => ?_) (fun e => by rw [h1] at e; cases e))
      refine CD.skip ?_
      refine CD.block (CD.r FW.wide rfl ?_)
      refine PL.q rfl rfl (OQ.move rfl) rfl ?_
      refine PL.q rfl rfl (OQ.move rfl) rfl ?_
      refine PL.call FW.wide rfl rfl rfl rfl (toward_w k l r k' v' b pl pr _ d0 d2 d3) ?_
      rintro _ _ _ ⟨rfl, rfl⟩
      refine PL.q rfl rfl (OQ.assign rfl) rfl ?_
      refine PL.nil fun a ha => ?_
      cases h2 : lt k k' with
      | true => exact ⟨(pl, l), ha.sub ⟨rfl, by rw [h2]; rfl, trivial⟩, ⟨rfl, hl, by rw [← hf]; simp only [find, h1, h2, cond_true]⟩, by simp only [Tr.size]; omega⟩
      | false => exact ⟨(pr, r), ha.sub ⟨rfl, by rw [h2]; rfl, trivial⟩, ⟨rfl, hr, by rw [← hf]; simp only [find, h1, h2, cond_true, cond_false]⟩, by simp only [Tr.size]; omega⟩
    · have h1' : ne k' k = false := by simpa using h1
      refine PL.q rfl rfl (OQ.pickT (v1 := .bool (ne k' k)) rfl rfl) rfl ?_
      refine PL.to (CD.cond (b := ne k' k) rfl (fun e => absurd e h1) (fun _ => ?_))
      refine CD.exit ?_
      refine CD.seq (CD.rs FW.wide rfl ?_)
      refine PL.q rfl rfl (OQ.move rfl) rfl ?_
      refine PL.q rfl rfl ((by first | exact OQ.eqNN rfl rfl | exact OQ.eqNS rfl rfl | exact OQ.eqN rfl rfl)) rfl ?_
      refine PL.to (CD.condF rfl (CD.skip ?_))
      refine CD.rs FW.wide rfl ?_
      refine PL.q rfl rfl (OQ.move rfl) rfl ?_
      refine PL.q rfl rfl ((by first | exact OQ.nilp rfl | exact OQ.nily rfl | exact OQ.nilf rfl)) rfl ?_
      refine PL.q rfl rfl ((by first | exact OQ.field0 rfl | exact OQ.field rfl)) rfl ?_
      refine PL.q rfl rfl (OQ.loadS rfl (by assumption)) rfl ?_
      refine PL.q rfl rfl (OQ.assign rfl) rfl ?_
      refine PL.q rfl rfl (OQ.assign rfl) rfl ?_
      exact PL.to (CD.ret (post2 rfl rfl rfl ⟨_, rfl, Ext.refl _, by rw [← hf]; simp only [find, h1', cond_false]; rfl, rfl⟩))

/-- how many keys lie below a key, on the way down; is it there? -/
def rank (k : Int) : Tr Int → Nat → Nat × Bool
  | .leaf, n => (n, false)
  | .node l k' _ r, n => bif eq k' k then ((bif le k' k then n + l.size else n), true)
      else bif lt k k' then rank k l ((bif le k' k then n + l.size else n) + (bif lt k' k then 1 else 0)) else rank k r ((bif le k' k then n + l.size else n) + (bif lt k' k then 1 else 0))

theorem lt_le (a b : Int) (h : lt a b = true) : le b a = false ∧ lt b a = false := by
  simp only [lt, le, decide_eq_true_eq, decide_eq_false_iff_not] at *; omega
theorem rank_cases (k : Int) (l : Tr Int) (k' : Int) (v' : Int) (r : Tr Int) (n : Nat) : (bif le k' k then n + l.size else n) ≤ n + l.size ∧ (bif lt k' k then 1 else 0) ≤ 1 := by
  constructor
  · cases le k' k <;> simp
  · cases lt k' k <;> simp

theorem Rank_w (m : Nat) (k : Int) (t : Tr Int) (w : World) (h : MapAt w m t) (hs : t.size ≤ 4611686018427387904) : Rt Try.prog 34 [ptr m, kv k] w fun x w' => x = .tuple #[.int .i64 ((rank k t 0).1 : Nat), .bool (rank k t 0).2] ∧ w = w' := by
  obtain ⟨p, hm, ht⟩ := h
  have c0 := cell_of_heap hm (j := 0) rfl
  refine Rt.of Try.func34 rfl Try.ntmps34 (by rfl) ?_
  refine CD.rs FW.wide rfl ?_
  refine PL.q rfl rfl (OQ.assign rfl) rfl ?_
  refine PL.q rfl rfl (OQ.assign rfl) rfl ?_
  refine PL.to (CD.rs FW.wide rfl ?_)
  refine PL.q rfl rfl (OQ.assign rfl) rfl ?_
  refine PL.to (CD.seq (CD.rs FW.wide rfl ?_))
  refine PL.q rfl rfl (OQ.move rfl) rfl ?_
  refine PL.q rfl rfl ((by first | exact OQ.nilp rfl | exact OQ.nily rfl | exact OQ.nilf rfl)) rfl ?_
  refine PL.q rfl rfl ((by first | exact OQ.field0 rfl | exact OQ.field rfl)) rfl ?_
  refine PL.q rfl rfl (OQ.loadS rfl (by assumption)) rfl ?_
  refine PL.q rfl rfl (OQ.assign rfl) rfl ?_
  refine PL.to (CD.block ?_)
  refine CD.loop (α := Nat × Option Addr × Tr Int) (fun s => [(1, kv k), (6, .int .i64 (s.1 : Nat)), (7, .pointer s.2.1)]) (fun s w' => w = w' ∧ Tt w s.2.1 s.2.2 ∧ rank k s.2.2 s.1 = rank k t 0 ∧ s.1 + s.2.2.size ≤ t.size) (fun s => s.2.2.size) (0, p, t) ⟨rfl, rfl, rfl, trivial⟩ ⟨rfl, ht, rfl, by simp⟩ ?_
  rintro ⟨c, q, u⟩ _ ⟨rfl, hu, hf, hn⟩
  simp only at hu hf hn
  refine CD.seq (CD.rs FW.wide rfl ?_)
  cases u with
  | leaf =>
    obtain rfl : q = none := hu
    refine PL.q rfl rfl (OQ.move rfl) rfl ?_
    refine PL.q rfl rfl ((by first | exact OQ.neNN rfl rfl | exact OQ.neNS rfl rfl | exact OQ.neN rfl rfl)) rfl ?_
    refine PL.to (CD.condF rfl (CD.exit ?_))
    refine CD.rs FW.wide rfl ?_
    refine PL.q rfl rfl (OQ.move rfl) rfl ?_
    refine PL.q rfl rfl (OQ.assign rfl) rfl ?_
    refine PL.q rfl rfl (OQ.assign rfl) rfl ?_
    exact PL.to (CD.ret (post2 rfl rfl rfl ⟨_, rfl, Ext.refl _, by rw [← hf]; rfl, rfl⟩))
  | node l k' v' r =>
    obtain ⟨b, pl, pr, rfl, d0, d1, d2, d3, hl, hr⟩ := at_node hu
    simp only [Tr.size] at hn
    obtain ⟨hb1, hb2⟩ := rank_cases k l k' v' r c
    obtain ⟨n1, hn1⟩ : ∃ n1, n1 = (bif le k' k then c + l.size else c) := ⟨_, rfl⟩
    obtain ⟨n2, hn2⟩ : ∃ n2, n2 = n1 + (bif lt k' k then 1 else 0) := ⟨_, rfl⟩
    rw [← hn1] at hb1
    refine PL.q rfl rfl (OQ.move rfl) rfl ?_
    refine PL.q rfl rfl ((by first | exact OQ.neNN rfl rfl | exact OQ.neNS rfl rfl | exact OQ.neN rfl rfl)) rfl ?_
    refine PL.to (CD.condT rfl (CD.skip ?_))
    refine CD.cut (α := Unit) (fun _ => [(1, kv k), (6, .int .i64 (n2 : Nat)), (7, .pointer (some ⟨b, 0, none⟩))]) (fun _ w' => w = w' ∧ eq k' k = false) ?_ ?_
    · refine CD.block (CD.cut (α := Unit) (fun _ => [(1, kv k), (6, .int .i64 (n1 : Nat)), (7, .pointer (some ⟨b, 0, none⟩))]) (fun _ w' => w = w') ?_ ?_)
      · refine CD.rs FW.wide rfl ?_
        refine PL.q rfl rfl (OQ.move rfl) rfl ?_
        refine PL.q rfl rfl ((by first | exact OQ.nilp rfl | exact OQ.nily rfl | exact OQ.nilf rfl)) rfl ?_
        refine PL.q rfl rfl ((by first | exact OQ.field0 rfl | exact OQ.field rfl)) rfl ?_
        refine PL.q rfl rfl (OQ.loadS rfl (by assumption)) rfl ?_
        refine PL.q rfl rfl (OQ.move rfl) rfl ?_
        refine PL.q rfl rfl (OQ.leq rfl rfl) rfl ?_
        refine PL.to (CD.cond (b := le k' k) rfl (fun h1 => ?_) (fun h1 => ?_))
        · refine CD.r FW.wide rfl ?_
          refine PL.q rfl rfl (OQ.move rfl) rfl ?_
          refine PL.q rfl rfl (OQ.move rfl) rfl ?_
          refine PL.q rfl rfl ((by first | exact OQ.nilp rfl | exact OQ.nily rfl | exact OQ.nilf rfl)) rfl ?_
          refine PL.q rfl rfl ((by first | exact OQ.field0 rfl | exact OQ.field rfl)) rfl ?_
          refine PL.q rfl rfl (OQ.loadS rfl (by assumption)) rfl ?_
          refine PL.call FW.wide rfl rfl rfl rfl (len_w pl l _ hl) ?_
          rintro _ _ _ ⟨rfl, rfl⟩
          refine PL.q rfl rfl (OQ.addW (r := (n1 : Nat)) rfl rfl (by rw [hn1, h1]; rw [wrapI _ (by omega) (by omega)]; simp)) rfl ?_
          refine PL.q rfl rfl (OQ.assign rfl) rfl ?_
          exact PL.nil fun a ha => ⟨(), ha.sub ⟨rfl, rfl, rfl, trivial⟩, rfl⟩
        · refine CD.skip fun a ha => ⟨(), ha.sub ⟨rfl, ?_, rfl, trivial⟩, rfl⟩
          rw [hn1, h1]; rfl
      · rintro _ _ rfl
        refine CD.seq (CD.rs FW.wide rfl ?_)
        refine PL.q rfl rfl (OQ.move rfl) rfl ?_
        refine PL.q rfl rfl ((by first | exact OQ.nilp rfl | exact OQ.nily rfl | exact OQ.nilf rfl)) rfl ?_
        refine PL.q rfl rfl ((by first | exact OQ.field0 rfl | exact OQ.field rfl)) rfl ?_
        refine PL.q rfl rfl (OQ.loadS rfl (by assumption)) rfl ?_
        refine PL.q rfl rfl (OQ.move rfl) rfl ?_
        refine PL.q rfl rfl (OQ.eql rfl rfl) rfl ?_
        refine PL.to (CD.cond (b := eq k' k) rfl (fun h2 => ?_) (fun h2 => ?_))
        · refine CD.rs FW.wide rfl ?_
          refine PL.q rfl rfl (OQ.move rfl) rfl ?_
          refine PL.q rfl rfl (OQ.assign rfl) rfl ?_
          refine PL.q rfl rfl (OQ.assign rfl) rfl ?_
          exact PL.to (CD.ret (post2 rfl rfl rfl ⟨_, rfl, Ext.refl _, by rw [← hf]; simp only [rank, h2, cond_true, ← hn1], rfl⟩))
        · refine CD.skip ?_
          refine CD.rs FW.wide rfl ?_
          refine PL.q rfl rfl (OQ.move rfl) rfl ?_
          refine PL.q rfl rfl ((by first | exact OQ.nilp rfl | exact OQ.nily rfl | exact OQ.nilf rfl)) rfl ?_
          refine PL.q rfl rfl ((by first | exact OQ.field0 rfl | exact OQ.field rfl)) rfl ?_
          refine PL.q rfl rfl (OQ.loadS rfl (by assumption)) rfl ?_
          refine PL.q rfl rfl (OQ.move rfl) rfl ?_
          refine PL.q rfl rfl (OQ.lss rfl rfl) rfl ?_
          refine PL.to (CD.cond (b := lt k' k) rfl (fun h3 => ?_) (fun h3 => ?_))
          · refine CD.r FW.wide rfl ?_
            refine PL.q rfl rfl (OQ.move rfl) rfl ?_
            refine PL.q rfl rfl (OQ.addW (r := (n2 : Nat)) rfl rfl (by rw [hn2, h3]; rw [wrapI _ (by omega) (by omega)]; simp)) rfl ?_
            refine PL.q rfl rfl (OQ.assign rfl) rfl ?_
            exact PL.nil fun a ha => ⟨(), ha.sub ⟨rfl, rfl, rfl, trivial⟩, rfl, h2⟩
          · refine CD.skip fun a ha => ⟨(), ha.sub ⟨rfl, ?_, rfl, trivial⟩, rfl, h2⟩
            rw [hn2, h3]; rfl
    · rintro _ _ ⟨rfl, h2⟩
      refine CD.r FW.wide rfl ?_
      refine PL.q rfl rfl (OQ.move rfl) rfl ?_
      refine PL.q rfl rfl (OQ.move rfl) rfl ?_
      refine PL.call FW.wide rfl rfl rfl rfl (toward_w k l r k' v' b pl pr _ d0 d2 d3) ?_
      rintro _ _ _ ⟨rfl, rfl⟩
      refine PL.q rfl rfl (OQ.assign rfl) rfl ?_
      refine PL.nil fun a ha => ?_
      have hf' : rank k (.node l k' v' r) c = bif lt k k' then rank k l n2 else rank k r n2 := by simp only [rank, h2, cond_false, hn2, hn1]
      have hb3 : n2 ≤ c + l.size + 1 := by omega
      cases h4 : lt k k' with
      | true =>
        refine ⟨(n2, pl, l), ha.sub ⟨rfl, rfl, by rw [h4]; rfl, trivial⟩, ⟨rfl, hl, by rw [← hf, hf', h4]; rfl, ?_⟩, by simp only [Tr.size]; omega⟩
        obtain ⟨h5, h6⟩ := lt_le k k' h4
        rw [h5] at hn1; rw [h6] at hn2
        simp only [cond_false] at hn1 hn2 ⊢; omega
      | false => exact ⟨(n2, pr, r), ha.sub ⟨rfl, rfl, by rw [h4]; rfl, trivial⟩, ⟨rfl, hr, by rw [← hf, hf', h4]; rfl, by simp only; omega⟩, by simp only [Tr.size]; omega⟩
end Go.Proofs.Ytdielcpjemkngaa.OI
