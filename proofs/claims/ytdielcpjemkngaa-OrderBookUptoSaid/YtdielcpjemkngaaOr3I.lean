/-
  The walks of drop, Drop, At: keys: numbers.
-/
import Derived.Test.YtdielcpjemkngaaOr2I
namespace Go.Proofs.Ytdielcpjemkngaa.OI
open Go.RowKit

/-- the node at which a search for the first entry stands -/
structure Sd where
  b : Nat
  l : Tr Int
  k : Int
  v : Int
  r : Tr Int

theorem drop_w (t : Tr Int) : ∀ (k : Int) (p : Option Addr) (w : World), Tt w p t → t.size < 4611686018427387904 →
    Rt Try.prog 58 [.pointer p, kv k] w fun x w' => ∃ q, x = .pointer q ∧ Tt w' q (t.drop lt k) := by
  induction t with
  | leaf =>
    intro k p w h hs
    obtain rfl : p = none := h
    refine Rt.of Try.func58 rfl Try.ntmps58 (by rfl) ?_
    refine CD.rs FW.wide rfl ?_
    refine PL.q rfl rfl (OQ.assign rfl) rfl ?_
    refine PL.to (CD.seq (CD.block (CD.rs FW.wide rfl ?_)))
    refine PL.q rfl rfl (OQ.move rfl) rfl ?_
    refine PL.q rfl rfl ((by first | exact OQ.eqNN rfl rfl | exact OQ.eqNS rfl rfl | exact OQ.eqN rfl rfl)) rfl ?_
    refine PL.q rfl rfl (OQ.assign rfl) rfl ?_
    refine PL.to (CD.condT rfl (CD.rs FW.wide rfl ?_))
    refine PL.q rfl rfl (OQ.assign rfl) rfl ?_
    exact PL.to (CD.ret (post1 rfl rfl ⟨_, rfl, Ext.refl _, _, rfl, rfl⟩))
  | node l k' v' r ihl ihr =>
    intro k p w h hs
    obtain ⟨b, pl, pr, rfl, c0, c1, c2, c3, hl, hr⟩ := at_node h
    simp only [Tr.size] at hs
    refine Rt.of Try.func58 rfl Try.ntmps58 (by rfl) ?_
    refine CD.rs FW.wide rfl ?_
    refine PL.q rfl rfl (OQ.assign rfl) rfl ?_
    refine PL.to (CD.seq (CD.block (CD.rs FW.wide rfl ?_)))
    refine PL.q rfl rfl (OQ.move rfl) rfl ?_
    refine PL.q rfl rfl ((by first | exact OQ.eqNN rfl rfl | exact OQ.eqNS rfl rfl | exact OQ.eqN rfl rfl)) rfl ?_
    refine PL.q rfl rfl (OQ.assign rfl) rfl ?_
    refine PL.to (CD.condF rfl (CD.rs FW.wide rfl ?_))
    refine PL.q rfl rfl (OQ.move rfl) rfl ?_
    refine PL.q rfl rfl (OQ.move rfl) rfl ?_
    refine PL.q rfl rfl ((by first | exact OQ.nilp rfl | exact OQ.nily rfl | exact OQ.nilf rfl)) rfl ?_
    refine PL.q rfl rfl ((by first | exact OQ.field0 rfl | exact OQ.field rfl)) rfl ?_
    refine PL.q rfl rfl (OQ.loadS rfl (by assumption)) rfl ?_
    refine PL.q rfl rfl (OQ.lss rfl rfl) rfl ?_
    refine PL.q rfl rfl (OQ.assign rfl) rfl ?_
    refine PL.to (CD.cond (b := lt k k') rfl (fun h1 => ?_) (fun h1 => ?_))
    · refine CD.as .ext trivial FW.wide (by kernel_rfl) [(0, true), (1, true), (2, true), (3, true), (4, true), (5, true), (7, true), (8, true), (9, true), (10, true), (6, false), (11, false), (12, true)] (by kernel_rfl) rfl (by kernel_rfl) ?_
      intro w1 hx1 _
      have g2 := hx1.cell c2; have g3 := hx1.cell c3
      refine PL.q rfl rfl (OQ.move rfl) rfl ?_
      refine PL.q rfl rfl (OQ.move rfl) rfl ?_
      refine PL.q rfl rfl ((by first | exact OQ.nilp rfl | exact OQ.nily rfl | exact OQ.nilf rfl)) rfl ?_
      refine PL.q rfl rfl ((by first | exact OQ.field0 rfl | exact OQ.field rfl)) rfl ?_
      refine PL.q rfl rfl (OQ.loadX rfl (by assumption)) rfl ?_
      refine PL.q rfl rfl (OQ.move rfl) rfl ?_
      refine PL.q rfl rfl (OQ.move rfl) rfl ?_
      refine PL.q rfl rfl ((by first | exact OQ.nilp rfl | exact OQ.nily rfl | exact OQ.nilf rfl)) rfl ?_
      refine PL.q rfl rfl ((by first | exact OQ.field0 rfl | exact OQ.field rfl)) rfl ?_
      refine PL.q rfl rfl (OQ.loadX rfl (by assumption)) rfl ?_
      refine PL.call FW.wide rfl rfl rfl rfl (ihl k pl w1 (hl.ext hx1) (by omega)) ?_
      rintro _ w2 hx2 ⟨p2, rfl, ht2⟩
      have hx := hx1.trans hx2
      have hz := Tr.size_drop lt k l
      refine PL.call FW.wide rfl rfl rfl rfl (over_w b k' v' p2 pr _ r w2 (hx.cell c0) (hx.cell c1) ht2 (hr.ext hx) (by omega)) ?_
      rintro _ w3 hx3 ⟨p3, rfl, ht3⟩
      refine PL.q rfl rfl (OQ.assign rfl) rfl ?_
      exact PL.to (CD.ret (post1 rfl rfl ⟨_, rfl, hx.trans hx3, _, rfl, by rw [Tr.drop.eq_def]; simp only [h1, if_true]; exact ht3⟩))
    · refine CD.rs FW.wide rfl ?_
      refine PL.q rfl rfl (OQ.move rfl) rfl ?_
      refine PL.q rfl rfl ((by first | exact OQ.nilp rfl | exact OQ.nily rfl | exact OQ.nilf rfl)) rfl ?_
      refine PL.q rfl rfl ((by first | exact OQ.field0 rfl | exact OQ.field rfl)) rfl ?_
      refine PL.q rfl rfl (OQ.loadS rfl (by assumption)) rfl ?_
      refine PL.q rfl rfl (OQ.move rfl) rfl ?_
      refine PL.q rfl rfl (OQ.lss rfl rfl) rfl ?_
      refine PL.q rfl rfl (OQ.assign rfl) rfl ?_
      refine PL.to (CD.cond (b := lt k' k) rfl (fun h2 => ?_) (fun h2 => ?_))
      · refine CD.as .ext trivial FW.wide (by kernel_rfl) [(0, true), (1, true), (2, true), (3, true), (4, true), (5, true), (6, true), (7, true), (8, true), (9, true), (10, false), (11, false), (12, true)] (by kernel_rfl) rfl (by kernel_rfl) ?_
        intro w1 hx1 _
        have g2 := hx1.cell c2; have g3 := hx1.cell c3
        refine PL.q rfl rfl (OQ.move rfl) rfl ?_
        refine PL.q rfl rfl (OQ.move rfl) rfl ?_
        refine PL.q rfl rfl ((by first | exact OQ.nilp rfl | exact OQ.nily rfl | exact OQ.nilf rfl)) rfl ?_
        refine PL.q rfl rfl ((by first | exact OQ.field0 rfl | exact OQ.field rfl)) rfl ?_
        refine PL.q rfl rfl (OQ.loadX rfl (by assumption)) rfl ?_
        refine PL.q rfl rfl (OQ.move rfl) rfl ?_
        refine PL.q rfl rfl ((by first | exact OQ.nilp rfl | exact OQ.nily rfl | exact OQ.nilf rfl)) rfl ?_
        refine PL.q rfl rfl ((by first | exact OQ.field0 rfl | exact OQ.field rfl)) rfl ?_
        refine PL.q rfl rfl (OQ.loadX rfl (by assumption)) rfl ?_
        refine PL.q rfl rfl (OQ.move rfl) rfl ?_
        refine PL.call FW.wide rfl rfl rfl rfl (ihr k pr w1 (hr.ext hx1) (by omega)) ?_
        rintro _ w2 hx2 ⟨p2, rfl, ht2⟩
        have hx := hx1.trans hx2
        have hz := Tr.size_drop lt k r
        refine PL.call FW.wide rfl rfl rfl rfl (over_w b k' v' pl p2 l _ w2 (hx.cell c0) (hx.cell c1) (hl.ext hx) ht2 (by omega)) ?_
        rintro _ w3 hx3 ⟨p3, rfl, ht3⟩
        refine PL.q rfl rfl (OQ.assign rfl) rfl ?_
        exact PL.to (CD.ret (post1 rfl rfl ⟨_, rfl, hx.trans hx3, _, rfl, by rw [Tr.drop.eq_def]; simp only [h1, h2, if_true, if_false, Bool.false_eq_true]; exact ht3⟩))
      · refine CD.rs FW.wide rfl ?_
        cases r with
        | leaf =>
          obtain rfl : pr = none := hr
          refine PL.q rfl rfl (OQ.move rfl) rfl ?_
          refine PL.q rfl rfl ((by first | exact OQ.nilp rfl | exact OQ.nily rfl | exact OQ.nilf rfl)) rfl ?_
          refine PL.q rfl rfl ((by first | exact OQ.field0 rfl | exact OQ.field rfl)) rfl ?_
          refine PL.q rfl rfl (OQ.loadS rfl (by assumption)) rfl ?_
          refine PL.q rfl rfl ((by first | exact OQ.eqNN rfl rfl | exact OQ.eqNS rfl rfl | exact OQ.eqN rfl rfl)) rfl ?_
          refine PL.q rfl rfl (OQ.assign rfl) rfl ?_
          refine PL.to (CD.condT rfl (CD.rs FW.wide rfl ?_))
          refine PL.q rfl rfl (OQ.move rfl) rfl ?_
          refine PL.q rfl rfl ((by first | exact OQ.nilp rfl | exact OQ.nily rfl | exact OQ.nilf rfl)) rfl ?_
          refine PL.q rfl rfl ((by first | exact OQ.field0 rfl | exact OQ.field rfl)) rfl ?_
          refine PL.q rfl rfl (OQ.loadS rfl (by assumption)) rfl ?_
          refine PL.q rfl rfl (OQ.assign rfl) rfl ?_
          exact PL.to (CD.ret (post1 rfl rfl ⟨_, rfl, Ext.refl _, _, rfl, by rw [Tr.drop.eq_def]; simp only [h1, h2, if_false, Bool.false_eq_true]; exact hl⟩))
        | node rl rk rv rr =>
          obtain ⟨br, prl, prr, rfl, r0, r1, r2, r3, _, _⟩ := at_node hr
          refine PL.q rfl rfl (OQ.move rfl) rfl ?_
          refine PL.q rfl rfl ((by first | exact OQ.nilp rfl | exact OQ.nily rfl | exact OQ.nilf rfl)) rfl ?_
          refine PL.q rfl rfl ((by first | exact OQ.field0 rfl | exact OQ.field rfl)) rfl ?_
          refine PL.q rfl rfl (OQ.loadS rfl (by assumption)) rfl ?_
          refine PL.q rfl rfl ((by first | exact OQ.eqNN rfl rfl | exact OQ.eqNS rfl rfl | exact OQ.eqN rfl rfl)) rfl ?_
          refine PL.q rfl rfl (OQ.assign rfl) rfl ?_
          refine PL.to (CD.condF rfl (CD.skip ?_))
          refine CD.rs FW.wide rfl ?_
          refine PL.q rfl rfl (OQ.move rfl) rfl ?_
          refine PL.q rfl rfl ((by first | exact OQ.nilp rfl | exact OQ.nily rfl | exact OQ.nilf rfl)) rfl ?_
          refine PL.q rfl rfl ((by first | exact OQ.field0 rfl | exact OQ.field rfl)) rfl ?_
          refine PL.q rfl rfl (OQ.loadS rfl (by assumption)) rfl ?_
          refine PL.q rfl rfl (OQ.assign rfl) rfl ?_
          refine PL.to (CD.seq (CD.block ?_))
          refine CD.loop (α := Sd) (fun s => [(0, .pointer (some ⟨b, 0, none⟩)), (1, kv k), (5, .pointer (some ⟨s.b, 0, none⟩))])
            (fun s w' => w = w' ∧ Tt w (some ⟨s.b, 0, none⟩) (.node s.l s.k s.v s.r) ∧ s.l.first s.k s.v = rl.first rk rv) (fun s => s.l.size) ⟨br, rl, rk, rv, rr⟩ ⟨rfl, rfl, rfl, trivial⟩ ⟨rfl, hr, rfl⟩ ?_
          rintro ⟨b1, l1, k1, v1, r1'⟩ _ ⟨rfl, ht1, hf1⟩
          obtain ⟨_, p1, q1, e1, d0, d1, d2, d3, hl1, hr1⟩ := at_node ht1
          simp only [Option.some.injEq, Addr.mk.injEq, and_true] at e1
          subst e1
          refine CD.seq (CD.rs FW.wide rfl ?_)
          cases l1 with
          | leaf =>
            obtain rfl : p1 = none := hl1
            refine PL.q rfl rfl (OQ.move rfl) rfl ?_
            refine PL.q rfl rfl ((by first | exact OQ.nilp rfl | exact OQ.nily rfl | exact OQ.nilf rfl)) rfl ?_
            refine PL.q rfl rfl ((by first | exact OQ.field0 rfl | exact OQ.field rfl)) rfl ?_
            refine PL.q rfl rfl (OQ.loadS rfl (by assumption)) rfl ?_
            refine PL.q rfl rfl ((by first | exact OQ.neNN rfl rfl | exact OQ.neNS rfl rfl | exact OQ.neN rfl rfl)) rfl ?_
            refine PL.to (CD.condF rfl (CD.exit ?_))
            refine CD.as .ext trivial FW.wide (by kernel_rfl) [(0, true), (1, true), (2, true), (3, true), (4, true), (5, true), (6, true), (7, true), (8, true), (9, true), (10, true), (11, true), (12, true), (13, false), (14, false), (15, true)] (by kernel_rfl) rfl (by kernel_rfl) ?_
            intro w1 hx1 _
            have g2 := hx1.cell c2; have g3 := hx1.cell c3; have g0 := hx1.cell d0
            simp only [Tr.first] at hf1
            refine PL.q rfl rfl (OQ.move rfl) rfl ?_
            refine PL.q rfl rfl (OQ.move rfl) rfl ?_
            refine PL.q rfl rfl ((by first | exact OQ.nilp rfl | exact OQ.nily rfl | exact OQ.nilf rfl)) rfl ?_
            refine PL.q rfl rfl ((by first | exact OQ.field0 rfl | exact OQ.field rfl)) rfl ?_
            refine PL.q rfl rfl (OQ.loadX rfl (by assumption)) rfl ?_
            refine PL.q rfl rfl (OQ.move rfl) rfl ?_
            refine PL.q rfl rfl ((by first | exact OQ.nilp rfl | exact OQ.nily rfl | exact OQ.nilf rfl)) rfl ?_
            refine PL.q rfl rfl ((by first | exact OQ.field0 rfl | exact OQ.field rfl)) rfl ?_
            refine PL.q rfl rfl (OQ.loadX rfl (by assumption)) rfl ?_
            refine PL.q rfl rfl (OQ.move rfl) rfl ?_
            refine PL.q rfl rfl ((by first | exact OQ.nilp rfl | exact OQ.nily rfl | exact OQ.nilf rfl)) rfl ?_
            refine PL.q rfl rfl ((by first | exact OQ.field0 rfl | exact OQ.field rfl)) rfl ?_
            refine PL.q rfl rfl (OQ.loadX rfl (by assumption)) rfl ?_
            refine PL.call FW.wide rfl rfl rfl rfl (ihr k1 _ w1 (hr.ext hx1) (by omega)) ?_
            rintro _ w2 hx2 ⟨p2, rfl, ht2⟩
            have hx := hx1.trans hx2
            have hz := Tr.size_drop lt k1 (.node rl rk rv rr)
            refine PL.call FW.wide rfl rfl rfl rfl (over_w _ k1 v1 pl p2 l _ w2 (hx.cell d0) (hx.cell d1) (hl.ext hx) ht2 (by omega)) ?_
            rintro _ w3 hx3 ⟨p3, rfl, ht3⟩
            refine PL.q rfl rfl (OQ.assign rfl) rfl ?_
            exact PL.to (CD.ret (post1 rfl rfl ⟨_, rfl, hx.trans hx3, _, rfl, by rw [Tr.drop.eq_def]; simp only [h1, h2, if_false, Bool.false_eq_true, ← hf1]; exact ht3⟩))
          | node l2 k2 v2 r2' =>
            obtain ⟨b2, p2, q2, rfl, _, _, _, _, _, _⟩ := at_node hl1
            refine PL.q rfl rfl (OQ.move rfl) rfl ?_
            refine PL.q rfl rfl ((by first | exact OQ.nilp rfl | exact OQ.nily rfl | exact OQ.nilf rfl)) rfl ?_
            refine PL.q rfl rfl ((by first | exact OQ.field0 rfl | exact OQ.field rfl)) rfl ?_
            refine PL.q rfl rfl (OQ.loadS rfl (by assumption)) rfl ?_
            refine PL.q rfl rfl ((by first | exact OQ.neNN rfl rfl | exact OQ.neNS rfl rfl | exact OQ.neN rfl rfl)) rfl ?_
            refine PL.to (CD.condT rfl (CD.skip ?_))
            refine CD.block (CD.r FW.wide rfl ?_)
            refine PL.q rfl rfl (OQ.move rfl) rfl ?_
            refine PL.q rfl rfl ((by first | exact OQ.nilp rfl | exact OQ.nily rfl | exact OQ.nilf rfl)) rfl ?_
            refine PL.q rfl rfl ((by first | exact OQ.field0 rfl | exact OQ.field rfl)) rfl ?_
            refine PL.q rfl rfl (OQ.loadS rfl (by assumption)) rfl ?_
            refine PL.q rfl rfl (OQ.assign rfl) rfl ?_
            exact PL.nil fun a ha => ⟨⟨b2, l2, k2, v2, r2'⟩, ha.sub ⟨rfl, rfl, rfl, trivial⟩, ⟨rfl, hl1, hf1⟩, by simp only [Tr.size]; omega⟩

theorem Drop_w (m : Nat) (k : Int) (t : Tr Int) (w : World) (h : MapAt w m t) (hs : t.size < 4611686018427387904) : Rt Try.prog 35 [ptr m, kv k] w fun x w' => ∃ m', x = ptr m' ∧ MapAt w' m' (t.drop lt k) := by
  obtain ⟨p, hm, ht⟩ := h
  have c0 := cell_of_heap hm (j := 0) rfl
  refine Rt.of Try.func35 rfl Try.ntmps35 (by rfl) ?_
  refine CD.rs FW.wide rfl ?_
  refine PL.q rfl rfl (OQ.assign rfl) rfl ?_
  refine PL.to (CD.rs FW.wide rfl ?_)
  refine PL.q rfl rfl (OQ.move rfl) rfl ?_
  refine PL.q rfl rfl ((by first | exact OQ.nilp rfl | exact OQ.nily rfl | exact OQ.nilf rfl)) rfl ?_
  refine PL.q rfl rfl ((by first | exact OQ.field0 rfl | exact OQ.field rfl)) rfl ?_
  refine PL.q rfl rfl (OQ.loadS rfl (by assumption)) rfl ?_
  refine PL.q rfl rfl (OQ.move rfl) rfl ?_
  refine PL.call FW.wide rfl rfl rfl rfl (drop_w t k p w ht hs) ?_
  rintro _ w1 hx1 ⟨q, rfl, hq⟩
  refine PL.q rfl rfl ((by first | exact OQ.build1 rfl rfl | exact OQ.buildC rfl rfl)) rfl ?_
  refine PL.box FW.wide rfl rfl rfl rfl ?_
  intro b12 w12 new12
  refine PL.q rfl rfl (OQ.assign rfl) rfl ?_
  exact PL.to (CD.ret (post1 rfl rfl ⟨_, rfl, hx1.trans new12.ext, _, rfl, q, new12.heap, hq.ext new12.ext⟩))

/-- the entry at a place -/
def atT : Tr Int → Int → Option (Int × Int)
  | .leaf, _ => none
  | .node l k v r, i => if i < (l.size : Nat) then atT l i else if ((l.size : Nat) : Int) < i then atT r (i - (l.size : Nat) - 1) else some (k, v)
abbrev zk : Int := 0
def trip : Option (Int × Int) → Value
  | some (k, v) => .tuple #[kv k, .int .i64 v, .bool true]
  | none => .tuple #[kv zk, .int .i64 0, .bool false]

theorem At_w (m : Nat) (i : Int) (t : Tr Int) (w : World) (h : MapAt w m t) (hs : t.size ≤ 4611686018427387904) (h1 : -9223372036854775808 ≤ i) (h2 : i ≤ 9223372036854775807) :
    Rt Try.prog 52 [ptr m, .int .i64 i] w fun x _ => x = trip (atT t i) := by
  obtain ⟨p, hm, ht⟩ := h
  have c0 := cell_of_heap hm (j := 0) rfl
  refine Rt.of Try.func52 rfl Try.ntmps52 (by rfl) ?_
  refine CD.rs FW.wide rfl ?_
  refine PL.q rfl rfl (OQ.assign rfl) rfl ?_
  refine PL.q rfl rfl (OQ.assign rfl) rfl ?_
  refine PL.q rfl rfl (OQ.assign rfl) rfl ?_
  refine PL.to (CD.rs FW.wide rfl ?_)
  refine PL.q rfl rfl (OQ.move rfl) rfl ?_
  refine PL.q rfl rfl ((by first | exact OQ.nilp rfl | exact OQ.nily rfl | exact OQ.nilf rfl)) rfl ?_
  refine PL.q rfl rfl ((by first | exact OQ.field0 rfl | exact OQ.field rfl)) rfl ?_
  refine PL.q rfl rfl (OQ.loadS rfl (by assumption)) rfl ?_
  refine PL.q rfl rfl (OQ.assign rfl) rfl ?_
  refine PL.to (CD.seq (CD.block ?_))
  refine CD.loop (α := Int × Option Addr × Tr Int) (fun s => [(1, .int .i64 s.1), (7, .pointer s.2.1)]) (fun s w' => w = w' ∧ Tt w s.2.1 s.2.2 ∧ atT s.2.2 s.1 = atT t i ∧ -9223372036854775808 ≤ s.1 ∧ s.1 ≤ 9223372036854775807 ∧ s.2.2.size ≤ t.size) (fun s => s.2.2.size) (i, p, t) ⟨rfl, rfl, trivial⟩ ⟨rfl, ht, rfl, h1, h2, Nat.le_refl _⟩ ?_
  rintro ⟨j, q, u⟩ _ ⟨rfl, hu, hf, hj1, hj2, hz⟩
  simp only at hu hf hj1 hj2 hz
  refine CD.seq (CD.rs FW.wide rfl ?_)
  cases u with
  | leaf =>
    obtain rfl : q = none := hu
    refine PL.q rfl rfl (OQ.move rfl) rfl ?_
    refine PL.q rfl rfl ((by first | exact OQ.neNN rfl rfl | exact OQ.neNS rfl rfl | exact OQ.neN rfl rfl)) rfl ?_
    refine PL.to (CD.condF rfl (CD.exit ?_))
    refine CD.rs FW.wide rfl ?_
    refine PL.q rfl rfl (OQ.assign rfl) rfl ?_
    refine PL.to (CD.rs FW.wide rfl ?_)
    refine PL.q rfl rfl (OQ.assign rfl) rfl ?_
    refine PL.to (CD.rs FW.wide rfl ?_)
    refine PL.q rfl rfl (OQ.move rfl) rfl ?_
    refine PL.q rfl rfl (OQ.move rfl) rfl ?_
    refine PL.q rfl rfl (OQ.assign rfl) rfl ?_
    refine PL.q rfl rfl (OQ.assign rfl) rfl ?_
    refine PL.q rfl rfl (OQ.assign rfl) rfl ?_
    exact PL.to (CD.ret (post3 rfl rfl rfl rfl ⟨_, rfl, Ext.refl _, by rw [← hf]; rfl⟩))
  | node l k' v' r =>
    obtain ⟨b, pl, pr, rfl, d0, d1, d2, d3, hl, hr⟩ := at_node hu
    simp only [Tr.size] at hz
    simp only [atT] at hf
    refine PL.q rfl rfl (OQ.move rfl) rfl ?_
    refine PL.q rfl rfl ((by first | exact OQ.neNN rfl rfl | exact OQ.neNS rfl rfl | exact OQ.neN rfl rfl)) rfl ?_
    refine PL.to (CD.condT rfl (CD.skip ?_))
    refine CD.block (CD.rs FW.wide rfl ?_)
    refine PL.q rfl rfl (OQ.move rfl) rfl ?_
    refine PL.q rfl rfl ((by first | exact OQ.nilp rfl | exact OQ.nily rfl | exact OQ.nilf rfl)) rfl ?_
    refine PL.q rfl rfl ((by first | exact OQ.field0 rfl | exact OQ.field rfl)) rfl ?_
    refine PL.q rfl rfl (OQ.loadS rfl (by assumption)) rfl ?_
    refine PL.call FW.wide rfl rfl rfl rfl (len_w pl l _ hl) ?_
    rintro _ _ _ ⟨rfl, rfl⟩
    refine PL.q rfl rfl (OQ.assign rfl) rfl ?_
    refine PL.to (CD.block (CD.rs FW.wide rfl ?_))
    refine PL.q rfl rfl (OQ.move rfl) rfl ?_
    refine PL.q rfl rfl (OQ.move rfl) rfl ?_
    refine PL.q rfl rfl (OQ.lss rfl rfl) rfl ?_
    refine PL.q rfl rfl (OQ.assign rfl) rfl ?_
    refine PL.to (CD.condD rfl (fun c1 => ?_) (fun c1 => ?_))
    · refine CD.r FW.wide rfl ?_
      refine PL.q rfl rfl (OQ.move rfl) rfl ?_
      refine PL.q rfl rfl ((by first | exact OQ.nilp rfl | exact OQ.nily rfl | exact OQ.nilf rfl)) rfl ?_
      refine PL.q rfl rfl ((by first | exact OQ.field0 rfl | exact OQ.field rfl)) rfl ?_
      refine PL.q rfl rfl (OQ.loadS rfl (by assumption)) rfl ?_
      refine PL.q rfl rfl (OQ.assign rfl) rfl ?_
      rw [if_pos c1] at hf
      exact PL.nil fun a ha => ⟨(j, pl, l), ha.sub ⟨rfl, rfl, trivial⟩, ⟨rfl, hl, hf, hj1, hj2, by simp only; omega⟩, by simp only [Tr.size]; omega⟩
    · rw [if_neg c1] at hf
      refine CD.rs FW.wide rfl ?_
      refine PL.q rfl rfl (OQ.move rfl) rfl ?_
      refine PL.q rfl rfl (OQ.move rfl) rfl ?_
      refine PL.q rfl rfl (OQ.gtr rfl rfl) rfl ?_
      refine PL.q rfl rfl (OQ.assign rfl) rfl ?_
      refine PL.to (CD.condD rfl (fun c2 => ?_) (fun c2 => ?_))
      · rw [if_pos c2] at hf
        refine CD.r FW.wide rfl ?_
        refine PL.q rfl rfl (OQ.move rfl) rfl ?_
        refine PL.q rfl rfl ((by first | exact OQ.nilp rfl | exact OQ.nily rfl | exact OQ.nilf rfl)) rfl ?_
        refine PL.q rfl rfl ((by first | exact OQ.field0 rfl | exact OQ.field rfl)) rfl ?_
        refine PL.q rfl rfl (OQ.loadS rfl (by assumption)) rfl ?_
        refine PL.q rfl rfl (OQ.move rfl) rfl ?_
        refine PL.q rfl rfl (OQ.move rfl) rfl ?_
        refine PL.q rfl rfl (OQ.subW (r := j - (l.size : Nat)) rfl rfl (wrapI _ (by omega) (by omega))) rfl ?_
        refine PL.q rfl rfl (OQ.subW (r := j - (l.size : Nat) - 1) rfl rfl (wrapI _ (by omega) (by omega))) rfl ?_
        refine PL.q rfl rfl (OQ.assign rfl) rfl ?_
        refine PL.q rfl rfl (OQ.assign rfl) rfl ?_
        exact PL.nil fun a ha => ⟨(j - (l.size : Nat) - 1, pr, r), ha.sub ⟨rfl, rfl, trivial⟩, ⟨rfl, hr, hf, by simp only; omega, by simp only; omega, by simp only; omega⟩, by simp only [Tr.size]; omega⟩
      · rw [if_neg c2] at hf
        refine CD.as .ext trivial FW.wide (by kernel_rfl) [(0, true), (1, true), (2, true), (3, true), (4, true), (5, true), (6, true), (7, true), (8, true), (9, true), (10, true)] (by kernel_rfl) rfl (by kernel_rfl) ?_
        intro w1 hx1 _
        have g0 := hx1.cell d0; have g1 := hx1.cell d1
        refine PL.q rfl rfl (OQ.move rfl) rfl ?_
        refine PL.q rfl rfl ((by first | exact OQ.nilp rfl | exact OQ.nily rfl | exact OQ.nilf rfl)) rfl ?_
        refine PL.q rfl rfl ((by first | exact OQ.field0 rfl | exact OQ.field rfl)) rfl ?_
        refine PL.q rfl rfl (OQ.loadX rfl (by assumption)) rfl ?_
        refine PL.q rfl rfl (OQ.move rfl) rfl ?_
        refine PL.q rfl rfl ((by first | exact OQ.nilp rfl | exact OQ.nily rfl | exact OQ.nilf rfl)) rfl ?_
        refine PL.q rfl rfl ((by first | exact OQ.field0 rfl | exact OQ.field rfl)) rfl ?_
        refine PL.q rfl rfl (OQ.loadX rfl (by assumption)) rfl ?_
        refine PL.q rfl rfl (OQ.assign rfl) rfl ?_
        refine PL.q rfl rfl (OQ.assign rfl) rfl ?_
        refine PL.q rfl rfl (OQ.assign rfl) rfl ?_
        exact PL.to (CD.ret (post3 rfl rfl rfl rfl ⟨_, rfl, hx1, by rw [← hf]; rfl⟩))
end Go.Proofs.Ytdielcpjemkngaa.OI
