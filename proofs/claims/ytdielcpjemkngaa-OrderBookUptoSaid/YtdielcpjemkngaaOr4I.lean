/-
  The walks of a sorted table's sequence All: keys: numbers.
-/
import Derived.Test.YtdielcpjemkngaaOr2I
import Derived.Test.YtdielcpjemkngaaFx7
namespace Go.Proofs.Ytdielcpjemkngaa.OI
open Go.RowKit

abbrev yv (j : Nat) : Value := .func (.yield j) #[] #[]
def enc (x : Int × Int) : List Value := [kv x.1, .int .i64 x.2]

/-- what is asked of yield -/
abbrev Yd (B : Nat → Prop) (j : Nat) (xs : List (Int × Int)) (J Jx : List (Int × Int) → World → Prop) : Prop :=
  ∀ pre x W, pre ++ [x] <+: xs → J pre W → YieldAt Fence.wide 0 Try.prog j (enc x).toArray W (RG fun v W' => Bl B W W' ∧ ((v = .bool true ∧ J (pre ++ [x]) W') ∨ (v = .bool false ∧ Jx (pre ++ [x]) W')))

/-- the blocks of a tree are of B -/
theorem lt_below {w : World} {b : Nat} {v : Value} {B : Nat → Prop} (hs : ∀ k, k < w.heap.size → B k) (h : w.cell? ⟨b, 0, none⟩ = some v) : B b := hs b (lt_of_cell h)

theorem each_w (B : Nat → Prop) (j : Nat) (xs : List (Int × Int)) (J Jx : List (Int × Int) → World → Prop) (w0 : World) (hw0 : ∀ k, k < w0.heap.size → B k) (hJ : ∀ pre W W', Ext W W' → J pre W → J pre W') (hJx : ∀ pre W W', Ext W W' → Jx pre W → Jx pre W')
    (hY : Yd B j xs J Jx) (t : Tr Int) : ∀ (p : Option Addr) (pre : List (Int × Int)) (W : World), Tt w0 p t → pre ++ t.toL <+: xs → J pre W → Ext w0 W → (∀ k, B k → k < W.heap.size) →
    Rg Try.prog 54 [.pointer p, yv j] W fun v W' => Bl B W W' ∧ ((v = .bool true ∧ J (pre ++ t.toL) W') ∨ (v = .bool false ∧ ∃ q, q <+: xs ∧ Jx q W')) := by
  induction t with
  | leaf =>
    intro p pre W ht hp hj hb hB
    obtain rfl : p = none := ht
    refine Rg.of Try.func54 rfl Try.ntmps54 (by rfl) ?_
    refine CD.rs FW.wide rfl ?_
    refine PL.q rfl rfl (OQ.assign rfl) rfl ?_
    refine PL.to (CD.as (.below B) trivial FW.wide (by kernel_rfl) [(0, true), (1, true), (2, true), (3, true), (4, true), (5, true), (6, true), (7, true), (8, false), (9, true), (10, true), (11, true), (12, true), (13, true), (14, true), (15, true), (16, true), (17, true), (18, true), (19, false), (20, true), (21, true), (22, true), (23, true), (24, true), (25, true), (26, true), (27, false), (28, true), (29, true), (30, true)] (by kernel_rfl) rfl (by kernel_rfl) ?_)
    intro w1 hx1 _
    refine PL.q rfl rfl (OQ.move rfl) rfl ?_
    refine PL.q rfl rfl ((by first | exact OQ.eqNN rfl rfl | exact OQ.eqNS rfl rfl | exact OQ.eqN rfl rfl)) rfl ?_
    refine PL.q rfl rfl (OQ.move rfl) rfl ?_
    refine PL.skip rfl rfl rfl ?_
    refine PL.skip rfl rfl rfl ?_
    refine PL.skip rfl rfl rfl ?_
    refine PL.skip rfl rfl rfl ?_
    refine PL.skip rfl rfl rfl ?_
    refine PL.skip rfl rfl rfl ?_
    refine PL.skip rfl rfl rfl ?_
    refine PL.skip rfl rfl rfl ?_
    refine PL.skip rfl rfl rfl ?_
    refine PL.skip rfl rfl rfl ?_
    refine PL.skip rfl rfl rfl ?_
    refine PL.skip rfl rfl rfl ?_
    refine PL.skip rfl rfl rfl ?_
    refine PL.skip rfl rfl rfl ?_
    refine PL.skip rfl rfl rfl ?_
    refine PL.skip rfl rfl rfl ?_
    refine PL.skip rfl rfl rfl ?_
    refine PL.skip rfl rfl rfl ?_
    refine PL.skip rfl rfl rfl ?_
    refine PL.skip rfl rfl rfl ?_
    refine PL.skip rfl rfl rfl ?_
    refine PL.skip rfl rfl rfl ?_
    refine PL.skip rfl rfl rfl ?_
    refine PL.skip rfl rfl rfl ?_
    refine PL.skip rfl rfl rfl ?_
    refine PL.skip rfl rfl rfl ?_
    refine PL.q rfl rfl ((by first | exact OQ.pickT rfl rfl | exact OQ.pickF rfl rfl)) rfl ?_
    refine PL.q rfl rfl (OQ.assign rfl) rfl ?_
    exact PL.to (CD.ret (post1 rfl rfl ⟨_, rfl, hx1.bl hB, .inl ⟨rfl, by simpa [Tr.toL] using hJ _ _ _ hx1 hj⟩⟩))
  | node l k v r ihl ihr =>
    intro p pre W ht hp hj hb hB
    obtain ⟨b, pl, pr, rfl, c0, c1, c2, c3, hl, hr⟩ := at_node ht
    have hbB := lt_below hw0 c0
    simp only [Tr.toL] at hp
    have cells : ∀ {W' : World} {o : Nat} {u : Value}, Ext w0 W' → w0.cell? ⟨b, o, none⟩ = some u → W'.cell? ⟨b, o, none⟩ = some u := fun h e => h.cell e
    refine Rg.of Try.func54 rfl Try.ntmps54 (by rfl) ?_
    refine CD.rs FW.wide rfl ?_
    refine PL.q rfl rfl (OQ.assign rfl) rfl ?_
    refine PL.to (CD.as (.below B) trivial FW.wide (by kernel_rfl) [(0, true), (1, true), (2, true), (3, true), (4, true), (5, true), (6, true), (7, true), (8, false), (9, true), (10, true), (11, true), (12, true), (13, true), (14, true), (15, true), (16, true), (17, true), (18, true), (19, false), (20, true), (21, true), (22, true), (23, true), (24, true), (25, true), (26, true), (27, false), (28, true), (29, true), (30, true)] (by kernel_rfl) rfl (by kernel_rfl) ?_)
    intro w1 hx1 _
    have hb1 : Ext w0 w1 := hb.trans hx1
    have xt : ∀ {V V' : World}, Ext w0 V → Bl B V V' → Ext w0 V' := fun h k => h.trans' k hw0
    have hB1 : ∀ k, B k → k < w1.heap.size := fun k hk => Nat.lt_of_lt_of_le (hB k hk) hx1.size
    have g2 := cells hb1 c2
    refine PL.q rfl rfl (OQ.move rfl) rfl ?_
    refine PL.q rfl rfl ((by first | exact OQ.eqNN rfl rfl | exact OQ.eqNS rfl rfl | exact OQ.eqN rfl rfl)) rfl ?_
    refine PL.q rfl rfl (OQ.move rfl) rfl ?_
    refine PL.q rfl rfl (OQ.move rfl) rfl ?_
    refine PL.q rfl rfl ((by first | exact OQ.nilp rfl | exact OQ.nily rfl | exact OQ.nilf rfl)) rfl ?_
    refine PL.q rfl rfl ((by first | exact OQ.field0 rfl | exact OQ.field rfl)) rfl ?_
    refine PL.q rfl rfl (OQ.load rfl (Md.cell (by first | assumption | omega | (simp only [Md.keeps]; omega)) (by assumption))) rfl ?_
    refine PL.q rfl rfl (OQ.move rfl) rfl ?_
    refine PL.callG FW.wide rfl rfl rfl rfl (ihl pl pre w1 hl ((List.prefix_append_right_inj _).2 (List.prefix_append _ _) |>.trans hp) (hJ _ _ _ hx1 hj) hb1 hB1) (fun _ _ h => h.1) ?_
    rintro _ w2 ⟨hb2, ⟨rfl, hj2⟩ | ⟨rfl, q, hq, hjx⟩⟩
    · have hb02 := xt hb1 hb2
      have hB2 : ∀ k, B k → k < w2.heap.size := fun k hk => Nat.lt_of_lt_of_le (hB1 k hk) hb2.size
      have g0 := cells hb02 c0; have g1 := cells hb02 c1
      refine PL.q rfl rfl (OQ.move rfl) rfl ?_
      refine PL.q rfl rfl (OQ.move rfl) rfl ?_
      refine PL.q rfl rfl (OQ.move rfl) rfl ?_
      refine PL.q rfl rfl ((by first | exact OQ.nilp rfl | exact OQ.nily rfl | exact OQ.nilf rfl)) rfl ?_
      refine PL.q rfl rfl ((by first | exact OQ.field0 rfl | exact OQ.field rfl)) rfl ?_
      refine PL.q rfl rfl (OQ.load rfl (Md.cell (by first | assumption | omega | (simp only [Md.keeps]; omega)) (by assumption))) rfl ?_
      refine PL.q rfl rfl (OQ.move rfl) rfl ?_
      refine PL.q rfl rfl ((by first | exact OQ.nilp rfl | exact OQ.nily rfl | exact OQ.nilf rfl)) rfl ?_
      refine PL.q rfl rfl ((by first | exact OQ.field0 rfl | exact OQ.field rfl)) rfl ?_
      refine PL.q rfl rfl (OQ.load rfl (Md.cell (by first | assumption | omega | (simp only [Md.keeps]; omega)) (by assumption))) rfl ?_
      have hp2 : (pre ++ l.toL) ++ [(k, v)] <+: xs := by
        refine List.IsPrefix.trans ?_ hp
        rw [List.append_assoc]; exact (List.prefix_append_right_inj _).2 ((List.prefix_append_right_inj _).2 ⟨r.toL, rfl⟩)
      refine PL.yield FW.wide rfl rfl rfl rfl rfl (hY _ (k, v) w2 hp2 hj2) (fun _ _ h => h.1) ?_
      rintro _ w3 ⟨hb3, ⟨rfl, hj3⟩ | ⟨rfl, hjx⟩⟩
      · have hb03 := xt hb02 hb3
        have hB3 : ∀ k, B k → k < w3.heap.size := fun k hk => Nat.lt_of_lt_of_le (hB2 k hk) hb3.size
        have g3 := cells hb03 c3
        refine PL.q rfl rfl ((by first | exact OQ.pickT rfl rfl | exact OQ.pickF rfl rfl)) rfl ?_
        refine PL.q rfl rfl (OQ.move rfl) rfl ?_
        refine PL.q rfl rfl (OQ.move rfl) rfl ?_
        refine PL.q rfl rfl ((by first | exact OQ.nilp rfl | exact OQ.nily rfl | exact OQ.nilf rfl)) rfl ?_
        refine PL.q rfl rfl ((by first | exact OQ.field0 rfl | exact OQ.field rfl)) rfl ?_
        refine PL.q rfl rfl (OQ.load rfl (Md.cell (by first | assumption | omega | (simp only [Md.keeps]; omega)) (by assumption))) rfl ?_
        refine PL.q rfl rfl (OQ.move rfl) rfl ?_
        refine PL.callG FW.wide rfl rfl rfl rfl (ihr pr _ w3 hr (by simpa [List.append_assoc] using hp) hj3 hb03 hB3) (fun _ _ h => h.1) ?_
        rintro _ w4 ⟨hb4, ⟨rfl, hj4⟩ | ⟨rfl, q, hq, hjx⟩⟩
        · refine PL.q rfl rfl ((by first | exact OQ.pickT rfl rfl | exact OQ.pickF rfl rfl)) rfl ?_
          refine PL.q rfl rfl ((by first | exact OQ.pickT rfl rfl | exact OQ.pickF rfl rfl)) rfl ?_
          refine PL.q rfl rfl (OQ.assign rfl) rfl ?_
          exact PL.to (CD.ret (post1 rfl rfl ⟨_, rfl, ((hx1.bl hB).trans hb2).trans (hb3.trans hb4), .inl ⟨rfl, by simpa [Tr.toL, List.append_assoc] using hj4⟩⟩))
        · refine PL.q rfl rfl ((by first | exact OQ.pickT rfl rfl | exact OQ.pickF rfl rfl)) rfl ?_
          refine PL.q rfl rfl ((by first | exact OQ.pickT rfl rfl | exact OQ.pickF rfl rfl)) rfl ?_
          refine PL.q rfl rfl (OQ.assign rfl) rfl ?_
          exact PL.to (CD.ret (post1 rfl rfl ⟨_, rfl, ((hx1.bl hB).trans hb2).trans (hb3.trans hb4), .inr ⟨rfl, q, hq, hjx⟩⟩))
      · refine PL.q rfl rfl ((by first | exact OQ.pickT rfl rfl | exact OQ.pickF rfl rfl)) rfl ?_
        refine PL.q rfl rfl (OQ.move rfl) rfl ?_
        refine PL.skip rfl rfl rfl ?_
        refine PL.skip rfl rfl rfl ?_
        refine PL.skip rfl rfl rfl ?_
        refine PL.skip rfl rfl rfl ?_
        refine PL.skip rfl rfl rfl ?_
        refine PL.skip rfl rfl rfl ?_
        refine PL.q rfl rfl ((by first | exact OQ.pickT rfl rfl | exact OQ.pickF rfl rfl)) rfl ?_
        refine PL.q rfl rfl ((by first | exact OQ.pickT rfl rfl | exact OQ.pickF rfl rfl)) rfl ?_
        refine PL.q rfl rfl (OQ.assign rfl) rfl ?_
        exact PL.to (CD.ret (post1 rfl rfl ⟨_, rfl, ((hx1.bl hB).trans hb2).trans hb3, .inr ⟨rfl, _, hp2, hjx⟩⟩))
    · refine PL.q rfl rfl (OQ.move rfl) rfl ?_
      refine PL.skip rfl rfl rfl ?_
      refine PL.skip rfl rfl rfl ?_
      refine PL.skip rfl rfl rfl ?_
      refine PL.skip rfl rfl rfl ?_
      refine PL.skip rfl rfl rfl ?_
      refine PL.skip rfl rfl rfl ?_
      refine PL.skip rfl rfl rfl ?_
      refine PL.skip rfl rfl rfl ?_
      refine PL.skip rfl rfl rfl ?_
      refine PL.skip rfl rfl rfl ?_
      refine PL.q rfl rfl ((by first | exact OQ.pickT rfl rfl | exact OQ.pickF rfl rfl)) rfl ?_
      refine PL.q rfl rfl (OQ.move rfl) rfl ?_
      refine PL.skip rfl rfl rfl ?_
      refine PL.skip rfl rfl rfl ?_
      refine PL.skip rfl rfl rfl ?_
      refine PL.skip rfl rfl rfl ?_
      refine PL.skip rfl rfl rfl ?_
      refine PL.skip rfl rfl rfl ?_
      refine PL.q rfl rfl ((by first | exact OQ.pickT rfl rfl | exact OQ.pickF rfl rfl)) rfl ?_
      refine PL.q rfl rfl ((by first | exact OQ.pickT rfl rfl | exact OQ.pickF rfl rfl)) rfl ?_
      refine PL.q rfl rfl (OQ.assign rfl) rfl ?_
      exact PL.to (CD.ret (post1 rfl rfl ⟨_, rfl, (hx1.bl hB).trans hb2, .inr ⟨rfl, q, hq, hjx⟩⟩))

/-- All answers a sequence; the receiver lies in a box -/
theorem All_w (m : Nat) (w : World) : Rt Try.prog 32 [ptr m] w fun x w' => ∃ b, x = .func (.func 53) #[] #[.pointer (some ⟨b, 0, none⟩)] ∧ w.heap.size ≤ b ∧ b < w'.heap.size ∧ w'.heap[b]? = some (.cells #[ptr m] 36 (0, 0)) := by
  refine Rt.of Try.func32 rfl Try.ntmps32 (by rfl) ?_
  refine CD.rs FW.wide rfl ?_
  refine PL.box FW.wide rfl rfl rfl rfl ?_
  intro b1 w1 new1
  refine PL.q rfl rfl (OQ.assign rfl) rfl ?_
  refine PL.to (CD.rs FW.wide rfl ?_)
  refine PL.q rfl rfl (OQ.makeFunc rfl rfl) rfl ?_
  refine PL.q rfl rfl (OQ.assign rfl) rfl ?_
  exact PL.to (CD.ret (post1 rfl rfl ⟨_, rfl, new1.ext, _, rfl, by rw [new1.idx]; exact Nat.le_refl _, new1.lt, new1.heap⟩))

/-- the sequence All: the entries, rising, of the table as it stood in w0; the box has been made since -/
theorem All_it (m b : Nat) (t : Tr Int) (w0 w : World) (h : MapAt w0 m t) (hb : w.heap[b]? = some (.cells #[ptr m] 36 (0, 0))) (B : Nat → Prop) (hB0 : ∀ k, k < w0.heap.size → B k) (hBb : B b) (h0w : Ext w0 w) :
    It Try.prog 53 [.pointer (some ⟨b, 0, none⟩)] enc t.toL B w := by
  intro j J Jx W hbW hBW hJ hJx hY h0
  obtain ⟨p, hm, ht⟩ := h
  have c0 := cell_of_heap hm (j := 0) rfl
  have h0W : Ext w0 W := h0w.trans' hbW hB0
  have g0 : W.cell? ⟨m, 0, none⟩ = some (.pointer p) := h0W.cell c0
  have gb : W.cell? ⟨b, 0, none⟩ = some (ptr m) := cell_of_heap (hbW.heap hBb hb) rfl
  refine Rg.of Try.func53 rfl Try.ntmps53 (by rfl) ?_
  refine CD.r FW.wide rfl ?_
  refine PL.q rfl rfl (OQ.loadS rfl (by assumption)) rfl ?_
  refine PL.q rfl rfl ((by first | exact OQ.nilp rfl | exact OQ.nily rfl | exact OQ.nilf rfl)) rfl ?_
  refine PL.q rfl rfl ((by first | exact OQ.field0 rfl | exact OQ.field rfl)) rfl ?_
  refine PL.q rfl rfl (OQ.loadS rfl (by assumption)) rfl ?_
  refine PL.q rfl rfl (OQ.move rfl) rfl ?_
  refine PL.callG FW.wide rfl rfl rfl rfl (each_w B j t.toL (fun pre V => J pre V ∧ Bl B w V ∧ ∀ k, B k → k < V.heap.size) Jx w0 hB0 ?_ hJx ?_ t p [] W ht (by simp) ⟨h0, hbW, hBW⟩ h0W hBW) (fun _ _ _ => trivial) ?_
  · rintro pre V V' hx ⟨h1, h2, h3⟩
    exact ⟨hJ _ _ _ hx h1, h2.trans (hx.bl h3), fun k hk => Nat.lt_of_lt_of_le (h3 k hk) hx.size⟩
  · rintro pre x V hp ⟨h1, h2, h3⟩
    obtain ⟨fn, tmps, assign, body, hy, hR⟩ := hY pre x V hp h1 h2 h3
    refine ⟨fn, tmps, assign, body, hy, hR.mono ?_⟩
    rintro e V' ⟨v, rfl, hb, ⟨rfl, hj⟩ | ⟨rfl, hj⟩⟩
    · exact ⟨_, rfl, hb, .inl ⟨rfl, hj, h2.trans hb, fun k hk => Nat.lt_of_lt_of_le (h3 k hk) hb.size⟩⟩
    · exact ⟨_, rfl, hb, .inr ⟨rfl, hj⟩⟩
  rintro _ w2 ⟨hb2, ⟨rfl, hj2⟩ | ⟨rfl, q, hq, hjx⟩⟩
  · exact PL.nil (post0n rfl ⟨_, rfl, hb2, .inl (by simpa using hj2.1)⟩)
  · exact PL.nil (post0n rfl ⟨_, rfl, hb2, .inr ⟨q, hq, hjx⟩⟩)
end Go.Proofs.Ytdielcpjemkngaa.OI
