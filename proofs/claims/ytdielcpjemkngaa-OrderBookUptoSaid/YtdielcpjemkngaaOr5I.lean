/-
  The walks of a sorted table's sequence From: keys: numbers.
-/
import Derived.Test.YtdielcpjemkngaaOr4I
namespace Go.Proofs.Ytdielcpjemkngaa.OI
open Go.RowKit

/-- the entries from a key on -/
def fromL (k : Int) : Tr Int → List (Int × Int)
  | .leaf => []
  | .node l k' v r => bif lt k' k then fromL k r else fromL k l ++ (k', v) :: r.toL

theorem from_w (k : Int) (B : Nat → Prop) (j : Nat) (xs : List (Int × Int)) (J Jx : List (Int × Int) → World → Prop) (w0 : World) (hw0 : ∀ k, k < w0.heap.size → B k) (hJ : ∀ pre W W', Ext W W' → J pre W → J pre W') (hJx : ∀ pre W W', Ext W W' → Jx pre W → Jx pre W')
    (hY : Yd B j xs J Jx) (t : Tr Int) : ∀ (p : Option Addr) (pre : List (Int × Int)) (W : World), Tt w0 p t → pre ++ fromL k t <+: xs → J pre W → Ext w0 W → (∀ k, B k → k < W.heap.size) →
    Rg Try.prog 56 [.pointer p, kv k, yv j] W fun v W' => Bl B W W' ∧ ((v = .bool true ∧ J (pre ++ fromL k t) W') ∨ (v = .bool false ∧ ∃ q, q <+: xs ∧ Jx q W')) := by
  induction t with
  | leaf =>
    intro p pre W ht hp hj hb hB
    obtain rfl : p = none := ht
    refine Rg.of Try.func56 rfl Try.ntmps56 (by rfl) ?_
    refine CD.rs FW.wide rfl ?_
    refine PL.q rfl rfl (OQ.assign rfl) rfl ?_
    refine PL.to (CD.seq (CD.block (CD.rs FW.wide rfl ?_)))
    refine PL.q rfl rfl (OQ.move rfl) rfl ?_
    refine PL.q rfl rfl ((by first | exact OQ.eqNN rfl rfl | exact OQ.eqNS rfl rfl | exact OQ.eqN rfl rfl)) rfl ?_
    refine PL.q rfl rfl (OQ.assign rfl) rfl ?_
    refine PL.to (CD.condT rfl (CD.rs FW.wide rfl ?_))
    refine PL.q rfl rfl (OQ.assign rfl) rfl ?_
    exact PL.to (CD.ret (post1 rfl rfl ⟨_, rfl, Bl.refl _ _, .inl ⟨rfl, by simpa [fromL] using hj⟩⟩))
  | node l k' v r ihl ihr =>
    intro p pre W ht hp hj hb hB
    obtain ⟨b, pl, pr, rfl, c0, c1, c2, c3, hl, hr⟩ := at_node ht
    have hbB := lt_below hw0 c0
    have cells : ∀ {W' : World} {o : Nat} {u : Value}, Ext w0 W' → w0.cell? ⟨b, o, none⟩ = some u → W'.cell? ⟨b, o, none⟩ = some u := fun h e => h.cell e
    have d0 := cells hb c0; have d3 := cells hb c3
    refine Rg.of Try.func56 rfl Try.ntmps56 (by rfl) ?_
    refine CD.rs FW.wide rfl ?_
    refine PL.q rfl rfl (OQ.assign rfl) rfl ?_
    refine PL.to (CD.seq (CD.block (CD.rs FW.wide rfl ?_)))
    refine PL.q rfl rfl (OQ.move rfl) rfl ?_
    refine PL.q rfl rfl ((by first | exact OQ.eqNN rfl rfl | exact OQ.eqNS rfl rfl | exact OQ.eqN rfl rfl)) rfl ?_
    refine PL.q rfl rfl (OQ.assign rfl) rfl ?_
    refine PL.to (CD.condF rfl (CD.rs FW.wide rfl ?_))
    refine PL.q rfl rfl (OQ.move rfl) rfl ?_
    refine PL.q rfl rfl ((by first | exact OQ.nilp rfl | exact OQ.nily rfl | exact OQ.nilf rfl)) rfl ?_
    refine PL.q rfl rfl ((by first | exact OQ.field0 rfl | exact OQ.field rfl)) rfl ?_
    refine PL.q rfl rfl (OQ.loadS rfl (by assumption)) rfl ?_
    refine PL.q rfl rfl (OQ.move rfl) rfl ?_
    refine PL.q rfl rfl (OQ.lss rfl rfl) rfl ?_
    refine PL.q rfl rfl (OQ.assign rfl) rfl ?_
    refine PL.to (CD.cond (b := lt k' k) rfl (fun h1 => ?_) (fun h1 => ?_))
    · refine CD.rs FW.wide rfl ?_
      simp only [fromL, h1, cond_true] at hp ⊢
      refine PL.q rfl rfl (OQ.move rfl) rfl ?_
      refine PL.q rfl rfl ((by first | exact OQ.nilp rfl | exact OQ.nily rfl | exact OQ.nilf rfl)) rfl ?_
      refine PL.q rfl rfl ((by first | exact OQ.field0 rfl | exact OQ.field rfl)) rfl ?_
      refine PL.q rfl rfl (OQ.loadS rfl (by assumption)) rfl ?_
      refine PL.q rfl rfl (OQ.move rfl) rfl ?_
      refine PL.q rfl rfl (OQ.move rfl) rfl ?_
      refine PL.callG FW.wide rfl rfl rfl rfl (ihr pr pre W hr hp hj hb hB) (fun _ _ _ => trivial) ?_
      rintro v2 w2 ⟨hb2, h2⟩
      refine PL.q rfl rfl (OQ.assign rfl) rfl ?_
      exact PL.to (CD.ret (post1 rfl rfl ⟨_, rfl, hb2, h2⟩))
    · refine CD.skip ?_
      simp only [fromL, h1, cond_false] at hp ⊢
      refine CD.as (.below B) trivial FW.wide (by kernel_rfl) [(0, true), (1, true), (2, true), (3, true), (4, true), (5, true), (6, false), (7, true), (8, true), (9, true), (10, true), (11, true), (12, true), (13, true), (14, true), (15, true), (16, true), (17, false), (18, true), (19, true), (20, true), (21, true), (22, true), (23, true), (24, true), (25, false), (26, true), (27, true)] (by kernel_rfl) rfl (by kernel_rfl) ?_
      intro w1 hx1 _
      have hb1 : Ext w0 w1 := hb.trans hx1
      have xt : ∀ {V V' : World}, Ext w0 V → Bl B V V' → Ext w0 V' := fun h k => h.trans' k hw0
      have hB1 : ∀ k, B k → k < w1.heap.size := fun k hk => Nat.lt_of_lt_of_le (hB k hk) hx1.size
      have g2 := cells hb1 c2
      refine PL.q rfl rfl (OQ.move rfl) rfl ?_
      refine PL.q rfl rfl ((by first | exact OQ.nilp rfl | exact OQ.nily rfl | exact OQ.nilf rfl)) rfl ?_
      refine PL.q rfl rfl ((by first | exact OQ.field0 rfl | exact OQ.field rfl)) rfl ?_
      refine PL.q rfl rfl (OQ.load rfl (Md.cell (by first | assumption | omega | (simp only [Md.keeps]; omega)) (by assumption))) rfl ?_
      refine PL.q rfl rfl (OQ.move rfl) rfl ?_
      refine PL.q rfl rfl (OQ.move rfl) rfl ?_
      refine PL.callG FW.wide rfl rfl rfl rfl (ihl pl pre w1 hl ((List.prefix_append_right_inj _).2 (List.prefix_append _ _) |>.trans hp) (hJ _ _ _ hx1 hj) hb1 hB1) (fun _ _ h => h.1) ?_
      rintro _ w2 ⟨hb2, ⟨rfl, hj2⟩ | ⟨rfl, q, hq, hjx⟩⟩
      · have hb02 := xt hb1 hb2
        have hB2 : ∀ k, B k → k < w2.heap.size := fun k hk => Nat.lt_of_lt_of_le (hB1 k hk) hb2.size
        have g0 := cells hb02 c0; have g1 := cells hb02 c1
        refine PL.q rfl rfl (OQ.move rfl) rfl ?_
        refine PL.q rfl rfl (OQ.move rfl) rfl ?_
        refine PL.q rfl rfl (OQ.move rfl) rfl ?_
        refine PL.q rfl rfl ((by first | exact OQ.nilp rfl | exact OQ.nily rfl | exact OQ.nilf rfl)) rfl ?_
        refine PL.q rfl rfl ((by first | exact OQ.field0 rfl | exact OQ.field rfl)) rfl ?_
        refine PL.q rfl rfl (OQ.load rfl (Md.cell (by first | assumption | omega | (simp only [Md.keeps]; omega)) (by assumption))) rfl ?_
        refine PL.q rfl rfl (OQ.move rfl) rfl ?_
        refine PL.q rfl rfl ((by first | exact OQ.nilp rfl | exact OQ.nily rfl | exact OQ.nilf rfl)) rfl ?_
        refine PL.q rfl rfl ((by first | exact OQ.field0 rfl | exact OQ.field rfl)) rfl ?_
        refine PL.q rfl rfl (OQ.load rfl (Md.cell (by first | assumption | omega | (simp only [Md.keeps]; omega)) (by assumption))) rfl ?_
        have hp2 : (pre ++ fromL k l) ++ [(k', v)] <+: xs := by
          refine List.IsPrefix.trans ?_ hp
          rw [List.append_assoc]; exact (List.prefix_append_right_inj _).2 ((List.prefix_append_right_inj _).2 ⟨r.toL, rfl⟩)
        refine PL.yield FW.wide rfl rfl rfl rfl rfl (hY _ (k', v) w2 hp2 hj2) (fun _ _ h => h.1) ?_
        rintro _ w3 ⟨hb3, ⟨rfl, hj3⟩ | ⟨rfl, hjx⟩⟩
        · have hb03 := xt hb02 hb3
          have hB3 : ∀ k, B k → k < w3.heap.size := fun k hk => Nat.lt_of_lt_of_le (hB2 k hk) hb3.size
          have g3 := cells hb03 c3
          refine PL.q rfl rfl ((by first | exact OQ.pickT rfl rfl | exact OQ.pickF rfl rfl)) rfl ?_
          refine PL.q rfl rfl (OQ.move rfl) rfl ?_
          refine PL.q rfl rfl (OQ.move rfl) rfl ?_
          refine PL.q rfl rfl ((by first | exact OQ.nilp rfl | exact OQ.nily rfl | exact OQ.nilf rfl)) rfl ?_
          refine PL.q rfl rfl ((by first | exact OQ.field0 rfl | exact OQ.field rfl)) rfl ?_
          refine PL.q rfl rfl (OQ.load rfl (Md.cell (by first | assumption | omega | (simp only [Md.keeps]; omega)) (by assumption))) rfl ?_
          refine PL.q rfl rfl (OQ.move rfl) rfl ?_
          refine PL.callG FW.wide rfl rfl rfl rfl (each_w B j xs J Jx w0 hw0 hJ hJx hY r pr _ w3 hr (by simpa [List.append_assoc] using hp) hj3 hb03 hB3) (fun _ _ h => h.1) ?_
          rintro _ w4 ⟨hb4, ⟨rfl, hj4⟩ | ⟨rfl, q, hq, hjx⟩⟩
          · refine PL.q rfl rfl ((by first | exact OQ.pickT rfl rfl | exact OQ.pickF rfl rfl)) rfl ?_
            refine PL.q rfl rfl (OQ.assign rfl) rfl ?_
            exact PL.to (CD.ret (post1 rfl rfl ⟨_, rfl, ((hx1.bl hB).trans hb2).trans (hb3.trans hb4), .inl ⟨rfl, by simpa [List.append_assoc] using hj4⟩⟩))
          · refine PL.q rfl rfl ((by first | exact OQ.pickT rfl rfl | exact OQ.pickF rfl rfl)) rfl ?_
            refine PL.q rfl rfl (OQ.assign rfl) rfl ?_
            exact PL.to (CD.ret (post1 rfl rfl ⟨_, rfl, ((hx1.bl hB).trans hb2).trans (hb3.trans hb4), .inr ⟨rfl, q, hq, hjx⟩⟩))
        · refine PL.q rfl rfl ((by first | exact OQ.pickT rfl rfl | exact OQ.pickF rfl rfl)) rfl ?_
          refine PL.q rfl rfl (OQ.move rfl) rfl ?_
          refine PL.skip rfl rfl rfl ?_
          refine PL.skip rfl rfl rfl ?_
          refine PL.skip rfl rfl rfl ?_
          refine PL.skip rfl rfl rfl ?_
          refine PL.skip rfl rfl rfl ?_
          refine PL.skip rfl rfl rfl ?_
          refine PL.q rfl rfl ((by first | exact OQ.pickT rfl rfl | exact OQ.pickF rfl rfl)) rfl ?_
          refine PL.q rfl rfl (OQ.assign rfl) rfl ?_
          exact PL.to (CD.ret (post1 rfl rfl ⟨_, rfl, ((hx1.bl hB).trans hb2).trans hb3, .inr ⟨rfl, _, hp2, hjx⟩⟩))
      · refine PL.q rfl rfl (OQ.move rfl) rfl ?_
        refine PL.skip rfl rfl rfl ?_
        refine PL.skip rfl rfl rfl ?_
        refine PL.skip rfl rfl rfl ?_
        refine PL.skip rfl rfl rfl ?_
        refine PL.skip rfl rfl rfl ?_
        refine PL.skip rfl rfl rfl ?_
        refine PL.skip rfl rfl rfl ?_
        refine PL.skip rfl rfl rfl ?_
        refine PL.skip rfl rfl rfl ?_
        refine PL.skip rfl rfl rfl ?_
        refine PL.q rfl rfl ((by first | exact OQ.pickT rfl rfl | exact OQ.pickF rfl rfl)) rfl ?_
        refine PL.q rfl rfl (OQ.move rfl) rfl ?_
        refine PL.skip rfl rfl rfl ?_
        refine PL.skip rfl rfl rfl ?_
        refine PL.skip rfl rfl rfl ?_
        refine PL.skip rfl rfl rfl ?_
        refine PL.skip rfl rfl rfl ?_
        refine PL.skip rfl rfl rfl ?_
        refine PL.q rfl rfl ((by first | exact OQ.pickT rfl rfl | exact OQ.pickF rfl rfl)) rfl ?_
        refine PL.q rfl rfl (OQ.assign rfl) rfl ?_
        exact PL.to (CD.ret (post1 rfl rfl ⟨_, rfl, (hx1.bl hB).trans hb2, .inr ⟨rfl, q, hq, hjx⟩⟩))

/-- From answers a sequence; the receiver and the key lie in boxes -/
theorem From_w (m : Nat) (k : Int) (w : World) : Rt Try.prog 33 [ptr m, kv k] w fun x w' => ∃ b c, x = .func (.func 55) #[] #[.pointer (some ⟨b, 0, none⟩), .pointer (some ⟨c, 0, none⟩)] ∧
    b < w'.heap.size ∧ c < w'.heap.size ∧ w'.heap[b]? = some (.cells #[ptr m] 36 (0, 0)) ∧ w'.heap[c]? = some (.cells #[kv k] 3 (0, 0)) := by
  refine Rt.of Try.func33 rfl Try.ntmps33 (by rfl) ?_
  refine CD.rs FW.wide rfl ?_
  refine PL.box FW.wide rfl rfl rfl rfl ?_
  intro b2 w2 new2
  refine PL.box FW.wide rfl rfl rfl rfl ?_
  intro b3 w3 new3
  refine PL.q rfl rfl (OQ.assign rfl) rfl ?_
  refine PL.to (CD.rs FW.wide rfl ?_)
  refine PL.q rfl rfl (OQ.makeFunc rfl rfl) rfl ?_
  refine PL.q rfl rfl (OQ.assign rfl) rfl ?_
  exact PL.to (CD.ret (post1 rfl rfl ⟨_, rfl, new2.ext.trans new3.ext, _, _, rfl, Nat.lt_of_lt_of_le new2.lt new3.ext.size, new3.lt, new3.ext.heap new2.heap, new3.heap⟩))

theorem From_it (m b c : Nat) (k : Int) (t : Tr Int) (w0 w : World) (h : MapAt w0 m t) (hb : w.heap[b]? = some (.cells #[ptr m] 36 (0, 0))) (hc : w.heap[c]? = some (.cells #[kv k] 3 (0, 0)))
    (B : Nat → Prop) (hB0 : ∀ k, k < w0.heap.size → B k) (hBb : B b) (hBc : B c) (h0w : Ext w0 w) :
    It Try.prog 55 [.pointer (some ⟨b, 0, none⟩), .pointer (some ⟨c, 0, none⟩)] enc (fromL k t) B w := by
  intro j J Jx W hbW hBW hJ hJx hY h0
  obtain ⟨p, hm, ht⟩ := h
  have c0 := cell_of_heap hm (j := 0) rfl
  have h0W : Ext w0 W := h0w.trans' hbW hB0
  have g0 : W.cell? ⟨m, 0, none⟩ = some (.pointer p) := h0W.cell c0
  have gb : W.cell? ⟨b, 0, none⟩ = some (ptr m) := cell_of_heap (hbW.heap hBb hb) rfl
  have gc : W.cell? ⟨c, 0, none⟩ = some (kv k) := cell_of_heap (hbW.heap hBc hc) rfl
  refine Rg.of Try.func55 rfl Try.ntmps55 (by rfl) ?_
  refine CD.a (.below B) trivial FW.wide (by kernel_rfl) [(0, true), (1, true), (2, true), (3, true), (4, true), (5, true), (6, false)] (by kernel_rfl) rfl (by kernel_rfl) ?_
  intro w1 hx1 _
  have e0 := hx1.cell g0; have eb := hx1.cell gb; have ec := hx1.cell gc
  have lm := lt_below hB0 c0
  have hB1 : ∀ k, B k → k < w1.heap.size := fun k hk => Nat.lt_of_lt_of_le (hBW k hk) hx1.size
  refine PL.q rfl rfl (OQ.load rfl (Md.cell (by first | assumption | omega | (simp only [Md.keeps]; omega)) (by assumption))) rfl ?_
  refine PL.q rfl rfl ((by first | exact OQ.nilp rfl | exact OQ.nily rfl | exact OQ.nilf rfl)) rfl ?_
  refine PL.q rfl rfl ((by first | exact OQ.field0 rfl | exact OQ.field rfl)) rfl ?_
  refine PL.q rfl rfl (OQ.load rfl (Md.cell (by first | assumption | omega | (simp only [Md.keeps]; omega)) (by assumption))) rfl ?_
  refine PL.q rfl rfl (OQ.load rfl (Md.cell (by first | assumption | omega | (simp only [Md.keeps]; omega)) (by assumption))) rfl ?_
  refine PL.q rfl rfl (OQ.move rfl) rfl ?_
  refine PL.callG FW.wide rfl rfl rfl rfl (from_w k B j (fromL k t) (fun pre V => J pre V ∧ Bl B w V ∧ ∀ k, B k → k < V.heap.size) Jx w0 hB0 ?_ hJx ?_ t p [] w1 ht (by simp) ⟨hJ _ _ _ hx1 h0, hbW.trans (hx1.bl hBW), hB1⟩ (h0W.trans hx1) hB1) (fun _ _ h => h.1) ?_
  · rintro pre V V' hx ⟨h1, h2, h3⟩
    exact ⟨hJ _ _ _ hx h1, h2.trans (hx.bl h3), fun k hk => Nat.lt_of_lt_of_le (h3 k hk) hx.size⟩
  · rintro pre x V hp ⟨h1, h2, h3⟩
    obtain ⟨fn, tmps, assign, body, hy, hR⟩ := hY pre x V hp h1 h2 h3
    refine ⟨fn, tmps, assign, body, hy, hR.mono ?_⟩
    rintro e V' ⟨v, rfl, hb, ⟨rfl, hj⟩ | ⟨rfl, hj⟩⟩
    · exact ⟨_, rfl, hb, .inl ⟨rfl, hj, h2.trans hb, fun k hk => Nat.lt_of_lt_of_le (h3 k hk) hb.size⟩⟩
    · exact ⟨_, rfl, hb, .inr ⟨rfl, hj⟩⟩
  rintro _ w2 ⟨hb2, ⟨rfl, hj2⟩ | ⟨rfl, q, hq, hjx⟩⟩
  · exact PL.nil (post0n rfl ⟨_, rfl, (hx1.bl hBW).trans hb2, .inl (by simpa using hj2.1)⟩)
  · exact PL.nil (post0n rfl ⟨_, rfl, (hx1.bl hBW).trans hb2, .inr ⟨q, hq, hjx⟩⟩)
end Go.Proofs.Ytdielcpjemkngaa.OI
