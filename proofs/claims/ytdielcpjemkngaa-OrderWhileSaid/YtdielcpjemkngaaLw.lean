/-
  The walk of the law OrderWhile.
-/
import Derived.Test.YtdielcpjemkngaaOb3
import Derived.Test.YtdielcpjemkngaaOs
import Derived.Test.YtdielcpjemkngaaFx12
namespace Go.Proofs.Ytdielcpjemkngaa
open Go.RowKit OI
set_option linter.unusedVariables false

theorem srtMade (z : List Int) : Srt lt (madeT z).toL := by
  have key : ∀ (l : List (Int × Nat)) (t : Tr Int), Srt lt t.toL → Srt lt (l.foldl madeStep t).toL := by
    intro l
    induction l with
    | nil => intro t h; exact h
    | cons x r ih =>
      intro t h
      refine ih _ ?_
      rw [madeStep, toL_put x.1 x.2 t h]; exact srt_ins lo _ _ h
  exact key _ .leaf (by simp [Srt, Tr.toL])
theorem mapAt_cext {w w' : World} (hc : CExt w w') {m : Nat} {t : Tr Int} (h : MapAt w m t) : MapAt w' m t := let ⟨p, h1, h2⟩ := h; ⟨p, hc.cells _ _ _ _ h1, h2.keep fun _ _ _ e => hc.cells _ _ _ _ e⟩

/-- all blocks but those of S lie as they lay -/
structure Tw (S : List Nat) (w w' : World) : Prop where
  os : w'.os = w.os
  tape : w'.tape = w.tape
  output : w'.output = w.output
  size : w.heap.size ≤ w'.heap.size
  block : ∀ k, k < w.heap.size → k ∉ S → w'.heap[k]? = w.heap[k]?
theorem Ext.tw {w w' : World} (h : Ext w w') (S : List Nat) : Tw S w w' := ⟨h.os, h.tape, h.output, h.size, fun k hk _ => Below.block h k hk⟩
theorem Tw.trans {S : List Nat} {a b c : World} (h : Tw S a b) (k : Tw S b c) : Tw S a c := ⟨k.os.trans h.os, k.tape.trans h.tape, k.output.trans h.output, Nat.le_trans h.size k.size, fun i hi hn => (k.block i (Nat.lt_of_lt_of_le hi h.size) hn).trans (h.block i hi hn)⟩
theorem Wr.tw {w w' : World} {b : Nat} {o : Obj} (h : Wr w w' b o) {S : List Nat} (hb : b ∈ S) : Tw S w w' := ⟨h.os, h.tape, h.output, Nat.le_of_eq h.size.symm, fun k _ hn => h.other k (fun e => hn (e ▸ hb))⟩
theorem Tw.heap {S : List Nat} {w w' : World} (h : Tw S w w') {k : Nat} {o : Obj} (hn : k ∉ S) (e : w.heap[k]? = some o) : w'.heap[k]? = some o := (h.block k (Array.getElem?_eq_some_iff.1 e).1 hn).trans e
theorem Tw.kb {S : List Nat} {w w' : World} (h : Tw S w w') {B : Nat → Prop} (hB : ∀ k, B k → k < w.heap.size ∧ k ∉ S) (hS : ∀ k ∈ S, ∃ c t f, w.heap[k]? = some (.cells c t f)) : Kb B w w' :=
  ⟨⟨h.os, h.tape, h.output, h.size, fun k hk => h.block k (hB k hk).1 (hB k hk).2⟩, ⟨h.size, fun k o e ho => h.heap (fun hk => by
    obtain ⟨c, t, f, e'⟩ := hS k hk
    rw [e] at e'; cases e'; simp [Obj.isCells] at ho) e⟩⟩
theorem Tw.map {S : List Nat} {w w' : World} (h : Tw S w w') (hS : ∀ k ∈ S, ∃ c t f, w.heap[k]? = some (.cells c t f) ∧ t ≠ 77 ∧ t ≠ 86) {m : Nat} {t : Tr Int} (hm : MapAt w m t) : MapAt w' m t := by
  obtain ⟨p, h1, h2⟩ := hm
  refine ⟨p, h.heap (fun hk => ?_) h1, h2.keep fun k c f e => h.heap (fun hk => ?_) e⟩
  · obtain ⟨c, t', f, e, n1, n2⟩ := hS _ hk
    rw [h1] at e; cases e; exact n1 rfl
  · obtain ⟨c, t', f, e', n1, n2⟩ := hS _ hk
    rw [e] at e'; cases e'; exact n2 rfl

theorem prefix_at {α : Type} {pre l : List α} {x : α} (h : pre ++ [x] <+: l) : l[pre.length]? = some x := by
  obtain ⟨s, rfl⟩ := h
  simp

theorem From_w' (m : Nat) (k : Int) (w : World) : Rt Try.prog 33 [ptr m, kv k] w fun x w' => ∃ b c, x = .func (.func 55) #[] #[.pointer (some ⟨b, 0, none⟩), .pointer (some ⟨c, 0, none⟩)] ∧
    (w.heap.size ≤ b ∧ b < w'.heap.size) ∧ (w.heap.size ≤ c ∧ c < w'.heap.size) ∧ w'.heap[b]? = some (.cells #[ptr m] 36 (0, 0)) ∧ w'.heap[c]? = some (.cells #[kv k] 3 (0, 0)) := by
  refine Rt.of Try.func33 rfl Try.ntmps33 (by rfl) ?_
  refine CD.rs FW.wide rfl ?_
  refine PL.box FW.wide rfl rfl rfl rfl ?_
  intro b2 w2 new2
  refine PL.box FW.wide rfl rfl rfl rfl ?_
  intro b3 w3 new3
  refine PL.q rfl rfl (OQ.assign rfl) rfl ?_
  refine PL.to (CD.rs FW.wide rfl ?_)
  refine PL.q rfl rfl (OQ.makeFunc rfl rfl) rfl ?_
  refine PL.q rfl rfl (OQ.assign rfl) rfl ?_
  exact PL.to (CD.ret (post1 rfl rfl ⟨_, rfl, new2.ext.trans new3.ext, _, _, rfl, ⟨Nat.le_of_eq new2.idx.symm, Nat.lt_of_lt_of_le new2.lt new3.ext.size⟩, ⟨by have := new2.ext.size; have := new3.idx; omega, new3.lt⟩, new3.ext.heap new2.heap, new3.heap⟩))

theorem while_w (a a' : Option Addr) (c c' : Nat) (z : List Int) (ops : List Op6) (w : World) (h : IntsAt w .i64 a z) (h' : OpsAt w a' ops) (hz : z.length * 8 ≤ 140737488351232) (hs : ops.length ≤ 4611686018427387903) :
    Rt Try.prog 5 [.slice a z.length c, .slice a' ops.length c'] w fun v _ => v = .bool true := by
  refine Rt.ofM Try.func5 rfl Try.ntmps5 (by rfl) ?_
  refine CD.rs FW.wide rfl ?_
  refine PL.box FW.wide rfl rfl rfl rfl ?_
  intro b3 w3 new3
  refine PL.alloc FW.wide rfl rfl rfl ?_
  intro b4 w4 new4
  refine PL.to ?_
  refine CD.rs FW.wide rfl ?_
  refine PL.q rfl rfl (OQ.move rfl) rfl ?_
  have i3 := new3.idx; have l3 := new3.lt; have i4 := new4.idx; have l4 := new4.lt
  refine PL.call FW.wide rfl rfl rfl rfl (made_w a c z w4 (h.ext (new3.ext.trans new4.ext)) (by omega)) ?_
  rintro _ w22 hx22 ⟨m0, rfl, hm0⟩
  have s22 := hx22.size
  refine PL.alloc FW.wide rfl rfl rfl ?_
  intro b5 w5 new5
  have i5 := new5.idx; have l5 := new5.lt
  refine PL.put FW.wide rfl rfl rfl rfl rfl new5.heap rfl rfl rfl rfl (fun _ _ => .inl trivial) ?_
  intro w23 hw23
  have hxa : Ext w w5 := new3.ext.trans (new4.ext.trans (hx22.trans new5.ext))
  have hx223 : Ext w22 w23 := hw23.ext new5.ext (by omega)
  have hxb : Ext w w23 := hw23.ext hxa (by omega)
  have hh5 : w23.heap[b5]? = some (.cells #[ptr m0] 36 (0, 0)) := hw23.heap
  have c5 : w23.cell? ⟨b5, 0, none⟩ = some (ptr m0) := cell_of_heap hh5 rfl
  have s23 := hw23.size
  refine PL.to ?_
  refine CD.seq ?_
  refine CD.rs FW.wide rfl ?_
  refine PL.q rfl rfl (OQ.loadS rfl (by assumption)) rfl ?_
  refine PL.q rfl rfl ((by first | exact OQ.eqNN rfl rfl | exact OQ.eqNS rfl rfl | exact OQ.eqN rfl rfl)) rfl ?_
  refine PL.to ?_
  refine CD.condF rfl ?_
  refine CD.skip ?_
  refine CD.rs FW.wide rfl ?_
  refine PL.q rfl rfl (OQ.loadS rfl (by assumption)) rfl ?_
  have zM : (madeT z).size ≤ z.length := by
    have := size_made_le z.zipIdx .leaf
    simpa [Tr.size, madeT] using this
  have sM := srtMade z
  refine PL.call FW.wide rfl rfl rfl rfl (Put_w m0 3 3 (madeT z) w23 (hm0.ext hx223) (by omega)) ?_
  rintro _ w26 hx26 ⟨m1, rfl, hm1⟩
  have hh5' := hx26.heap hh5
  have s26 := hx26.size
  refine PL.put FW.wide rfl rfl rfl rfl rfl hh5' rfl rfl rfl rfl (fun _ _ => .inl trivial) ?_
  intro w27 hw27
  have hst : Srt lt ((madeT z).put lt 3 3).toL := by rw [toL_put 3 3 _ sM]; exact srt_ins lo _ _ sM
  have ht1 : 1 ≤ ((madeT z).put lt 3 3).size := by
    have : ((madeT z).put lt 3 3).toL ≠ [] := by rw [toL_put 3 3 _ sM]; exact ins_ne_nil _ _ _
    have := List.length_pos_iff.2 this
    rw [Tr.length_toL] at this; omega
  have ht2 : ((madeT z).put lt 3 3).size ≤ z.length + 1 := by
    have := Tr.size_put lt 3 3 (madeT z); omega
  generalize (madeT z).put lt 3 3 = t at *
  have hm27 : MapAt w27 m1 t := hm1.kt (hw27.kt hh5') (by decide) (by decide)
  have hxc : Ext w w27 := hw27.ext (hxb.trans hx26) (by omega)
  have hg5 : w27.heap[b5]? = some (.cells #[ptr m1] 36 (0, 0)) := hw27.heap
  have d5 : w27.cell? ⟨b5, 0, none⟩ = some (ptr m1) := cell_of_heap hg5 rfl
  have hg3 : w27.heap[b3]? = some (.cells #[.slice a' ops.length c'] 49 (0, 0)) :=
    hw27.ne (hx26.heap (hw23.ne ((new4.ext.trans (hx22.trans new5.ext)).heap new3.heap) (by omega))) (by omega)
  have hg4 : w27.heap[b4]? = some (.cells #[.bool false] 4 (0, 0)) :=
    hw27.ne (hx26.heap (hw23.ne ((hx22.trans new5.ext).heap new4.heap) (by omega))) (by omega)
  have s27 := hw27.size
  refine PL.to ?_
  refine CD.seq ?_
  refine CD.rs FW.wide rfl ?_
  refine PL.q rfl rfl (OQ.loadS rfl (by assumption)) rfl ?_
  refine PL.q rfl rfl ((by first | exact OQ.eqNN rfl rfl | exact OQ.eqNS rfl rfl | exact OQ.eqN rfl rfl)) rfl ?_
  refine PL.q rfl rfl (OQ.move rfl) rfl ?_
  refine PL.q rfl rfl (OQ.loadS rfl (by assumption)) rfl ?_
  refine PL.call FW.wide rfl rfl rfl rfl (Len_w m1 _ w27 hm27) ?_
  rintro _ _ _ ⟨rfl, rfl⟩
  refine PL.q rfl rfl (OQ.no (OQ.lss rfl rfl) (by simp only [decide_eq_false_iff_not]; omega)) rfl ?_
  refine PL.q rfl rfl ((by first | exact OQ.pickT rfl rfl | exact OQ.pickF rfl rfl)) rfl ?_
  refine PL.q rfl rfl (OQ.move rfl) rfl ?_
  refine PL.q rfl rfl (OQ.loadS rfl (by assumption)) rfl ?_
  refine PL.call FW.wide rfl rfl rfl rfl (goes_w m1 w27) ?_
  rintro _ w36 hx36 rfl
  refine PL.q rfl rfl (OQ.not rfl) rfl ?_
  refine PL.q rfl rfl ((by first | exact OQ.pickT rfl rfl | exact OQ.pickF rfl rfl)) rfl ?_
  refine PL.to ?_
  refine CD.condF rfl ?_
  refine CD.skip ?_
  refine CD.rs FW.wide rfl ?_
  have e5 := hx36.cell d5
  refine PL.q rfl rfl (OQ.loadS rfl (by assumption)) rfl ?_
  refine PL.call FW.wide rfl rfl rfl rfl (snap_w m1 t w36 (hm27.ext hx36) hst (by omega)) ?_
  rintro _ w41 hx41 ⟨ak, ck, av, cv, rfl, ok1, ok2⟩
  have s36 := hx36.size; have s41 := hx41.size
  refine PL.q rfl rfl (OQ.move rfl) rfl ?_
  refine PL.q rfl rfl (OQ.extract rfl rfl) rfl ?_
  refine PL.q rfl rfl (OQ.extract rfl rfl) rfl ?_
  refine PL.alloc FW.wide rfl rfl rfl ?_
  intro b6 w6 new6
  have i6 := new6.idx; have l6 := new6.lt
  refine PL.put FW.wide rfl rfl rfl rfl rfl new6.heap rfl rfl rfl rfl (fun _ _ => .inl trivial) ?_
  intro w43 hw43
  refine PL.q rfl rfl (OQ.assign rfl) rfl ?_
  obtain ⟨gk, rfl, hgk⟩ : ∃ gk, ak = some ⟨gk, 0, none⟩ ∧ gk < w41.heap.size := by
    rcases ok1.form with ⟨_, h0⟩ | ⟨g, cc, e, _, hl⟩
    · omega
    · simp only [Value.slice.injEq] at e; exact ⟨g, e.1, hl⟩
  obtain ⟨gv, rfl, hgv⟩ : ∃ gv, av = some ⟨gv, 0, none⟩ ∧ gv < w41.heap.size := by
    rcases ok2.form with ⟨_, h0⟩ | ⟨g, cc, e, _, hl⟩
    · omega
    · simp only [Value.slice.injEq] at e; exact ⟨g, e.1, hl⟩
  have hx4143 : Ext w41 w43 := hw43.ext new6.ext (by omega)
  have s43 := hx4143.size
  have hx2743 : Ext w27 w43 := (hx36.trans hx41).trans hx4143
  have k43 : IntsAt w43 .i64 (some ⟨gk, 0, none⟩) (keysL t) := (own_ints ok1).ext hx4143
  have v43 : IntsAt w43 .i64 (some ⟨gv, 0, none⟩) (valsL t) := (own_ints ok2).ext hx4143
  have hm43 := hm27.ext hx2743
  have hh6 : w43.heap[b6]? = some (.cells #[ptr m1, .slice (some ⟨gk, 0, none⟩) t.size ck, .slice (some ⟨gv, 0, none⟩) t.size cv] 41 (0, 0)) := hw43.heap
  have f5 := hx2743.cell d5
  refine PL.to ?_
  refine CD.rs FW.wide rfl ?_
  refine PL.q rfl rfl (OQ.loadS rfl (by assumption)) rfl ?_
  refine PL.call FW.wide rfl rfl rfl rfl (All_w m1 w43) ?_
  rintro _ w45 hx45 ⟨bA, rfl, hbA, hbA', hhA⟩
  have s45 := hx45.size
  refine PL.alloc FW.wide rfl rfl rfl ?_
  intro b8 w8 new8
  have i8 := new8.idx; have l8 := new8.lt
  refine PL.put FW.wide rfl rfl rfl rfl rfl new8.heap rfl rfl rfl rfl (fun _ _ => .inl trivial) ?_
  intro w0 hw0
  have hx450 : Ext w45 w0 := hw0.ext new8.ext (by omega)
  have s0 := hx450.size
  have hx270 : Ext w27 w0 := (hx2743.trans hx45).trans hx450
  have hx430 : Ext w43 w0 := hx45.trans hx450
  have hxw0 : Ext w w0 := hxc.trans hx270
  have hA0 : w0.heap[bA]? = some (.cells #[ptr m1] 36 (0, 0)) := hx450.heap hhA
  have q8 : w0.heap[b8]? = some (.cells #[.func (.func 53) #[] #[.pointer (some ⟨bA, 0, none⟩)]] 51 (0, 0)) := hw0.heap
  -- what stays
  have M0 : MapAt w0 m1 t := hm43.ext hx430
  have K0 := k43.ext hx430
  have V0 := v43.ext hx430
  have O0 : OpsAt w0 a' ops := h'.ext hxw0
  have st : ∀ V, Ext w0 V → V.cell? ⟨b3, 0, none⟩ = some (.slice a' ops.length c') ∧ V.cell? ⟨b5, 0, none⟩ = some (ptr m1) ∧ V.cell? ⟨b6, 1, none⟩ = some (.slice (some ⟨gk, 0, none⟩) t.size ck) ∧
      V.cell? ⟨b6, 2, none⟩ = some (.slice (some ⟨gv, 0, none⟩) t.size cv) ∧ V.cell? ⟨b8, 0, none⟩ = some (.func (.func 53) #[] #[.pointer (some ⟨bA, 0, none⟩)]) := fun V hV =>
    ⟨cell_of_heap (hV.heap (hx270.heap hg3)) rfl, cell_of_heap (hV.heap (hx270.heap hg5)) rfl, cell_of_heap (hV.heap (hx430.heap hh6)) rfl, cell_of_heap (hV.heap (hx430.heap hh6)) rfl, cell_of_heap (hV.heap q8) rfl⟩
  have stk : ∀ V, Ext w0 V → ∀ (j : Nat) (x : Int × Int), t.toL[j]? = some x → V.cell? ⟨gk, 0 + j * 1, none⟩ = some (.int .i64 x.1) ∧ V.cell? ⟨gv, 0 + j * 1, none⟩ = some (.int .i64 x.2) := fun V hV j x hj => by
    constructor
    · obtain ⟨b, o, e, hc⟩ := (K0.ext hV) j (.int .i64 x.1) (by simp [keysL, hj])
      cases e; exact hc
    · obtain ⟨b, o, e, hc⟩ := (V0.ext hV) j (.int .i64 x.2) (by simp [valsL, hj])
      cases e; exact hc
  obtain ⟨-, -, -, -, g8⟩ := st w0 (Ext.refl _)
  refine PL.to ?_
  refine CD.seq ?_
  refine CD.rs FW.wide rfl ?_
  refine PL.q rfl rfl (OQ.move rfl) rfl ?_
  refine PL.q rfl rfl (OQ.not rfl) rfl ?_
  refine PL.q rfl rfl (OQ.move rfl) rfl ?_
  refine PL.q rfl rfl (OQ.loadS rfl (by assumption)) rfl ?_
  refine PL.q rfl rfl (OQ.eqF rfl rfl) rfl ?_
  refine PL.q rfl rfl ((by first | exact OQ.pickT rfl rfl | exact OQ.pickF rfl rfl)) rfl ?_
  refine PL.to ?_
  refine CD.condF rfl ?_
  refine CD.skip ?_
  refine CD.rs FW.wide rfl ?_
  refine PL.alloc FW.wide rfl rfl rfl ?_
  intro b9 w9 new9
  have i9 := new9.idx; have l9 := new9.lt
  refine PL.put FW.wide rfl rfl rfl rfl rfl new9.heap rfl rfl rfl rfl (fun _ _ => .inl trivial) ?_
  intro wN hwN
  have hx0N : Ext w0 wN := hwN.ext new9.ext (by omega)
  have sN := hwN.size
  refine PL.to ?_
  refine CD.rs FW.wide rfl ?_
  obtain ⟨-, g5, -, -, -⟩ := st wN hx0N
  refine PL.q rfl rfl (OQ.loadS rfl (by assumption)) rfl ?_
  refine PL.alloc FW.wide rfl rfl rfl ?_
  intro b10 w10 new10
  have i10 := new10.idx; have l10 := new10.lt
  refine PL.put FW.wide rfl rfl rfl rfl rfl new10.heap rfl rfl rfl rfl (fun _ _ => .inl trivial) ?_
  intro wR hwR
  have hx0R : Ext w0 wR := hwR.ext (hx0N.trans new10.ext) (by omega)
  have sR := hwR.size
  have r9 : wR.heap[b9]? = some (.cells #[.int .i64 0] 3 (0, 0)) := hwR.ne (new10.ext.heap hwN.heap) (by omega)
  have r10 : wR.heap[b10]? = some (.cells #[ptr m1] 36 (0, 0)) := hwR.heap
  have rA : wR.heap[bA]? = some (.cells #[ptr m1] 36 (0, 0)) := hx0R.heap hA0
  obtain ⟨-, -, -, -, g8⟩ := st wR hx0R
  refine PL.to ?_
  refine CD.seq ?_
  refine CD.rs FW.wide rfl ?_
  refine PL.q rfl rfl (OQ.loadS rfl (by assumption)) rfl ?_
  refine PL.to (CD.block ?_)
  have hB0 : ∀ k, k < w0.heap.size → k < wR.heap.size ∧ k ≠ b9 ∧ k ≠ b10 := fun k hk => ⟨by omega, by omega, by omega⟩
  refine CD.rangeL (caps := [.pointer (some ⟨bA, 0, none⟩)]) (B := fun k => k < wR.heap.size ∧ k ≠ b9 ∧ k ≠ b10) rfl (All_it m1 bA t w0 wR M0 rA _ hB0 (hB0 _ (by omega)) hx0R) (fun _ h => h.1) (fun _ => rfl) rfl
    (fun pre W => ∃ mx tx, W.heap[b9]? = some (.cells #[.int .i64 (pre.length : Nat)] 3 (0, 0)) ∧ W.heap[b10]? = some (.cells #[ptr mx] 36 (0, 0)) ∧ MapAt W mx tx ∧ tx.size ≤ t.size + pre.length) (fun _ _ _ => False) ?_ (fun _ _ _ _ _ h => h)
    ⟨m1, t, r9, r10, M0.ext hx0R, by simp⟩
    (fun x => [(3, .pointer (some ⟨b3, 0, none⟩)), (5, .pointer (some ⟨b5, 0, none⟩)), (6, .pointer (some ⟨b6, 0, none⟩)), (8, .pointer (some ⟨b8, 0, none⟩)), (9, .pointer (some ⟨b9, 0, none⟩)), (10, .pointer (some ⟨b10, 0, none⟩)), (11, kv x.1), (12, .int .i64 x.2)]) ?_ ?_ ?_ (fun _ _ _ _ _ h => h.elim)
  · rintro pre W W' hc ⟨mx, tx, h1, h2, h3, h4⟩
    exact ⟨mx, tx, hc.cells _ _ _ _ h1, hc.cells _ _ _ _ h2, mapAt_cext hc h3, h4⟩
  · intro l x W
    refine CD.rs (FW.wide.inRound l) rfl ?_
    refine PL.q rfl rfl (OQ.assign rfl) rfl ?_
    refine PL.to (CD.r (FW.wide.inRound l) rfl ?_)
    refine PL.q rfl rfl (OQ.assign rfl) rfl ?_
    exact PL.nil fun a ha => ⟨rfl, ha.sub ⟨rfl, rfl, rfl, rfl, rfl, rfl, rfl, rfl, trivial⟩⟩
  · rintro l pre x W hp ⟨mx, tx, n9, n10, hmx, hsx⟩ hbW hszW ⟨rl, hlp⟩
    have hF := FW.wide.inRound l
    have h0W : Ext w0 W := hx0R.trans' hbW hB0
    have hat := prefix_at hp
    have hkt : pre.length < t.size := by
      have := (List.getElem?_eq_some_iff.1 hat).1; rwa [Tr.length_toL] at this
    obtain ⟨k, hk⟩ : ∃ k, pre.length = k := ⟨_, rfl⟩
    have hk2 : (pre ++ [x]).length = k + 1 := by simp [hk]
    rw [hk] at hat hkt n9 hsx
    obtain ⟨g3, g5, g61, g62, g8⟩ := st W h0W
    obtain ⟨gkk, gvk⟩ := stk W h0W k x hat
    have g9 : W.cell? ⟨b9, 0, none⟩ = some (.int .i64 (k : Nat)) := cell_of_heap n9 rfl
    refine CD.block ?_
    refine CD.seq ?_
    refine CD.rs hF rfl ?_
    refine PL.q rfl rfl (OQ.loadS rfl (by assumption)) rfl ?_
    refine PL.q rfl rfl ((by first | exact OQ.field0 rfl | exact OQ.field rfl)) rfl ?_
    refine PL.q rfl rfl (OQ.loadS rfl (by assumption)) rfl ?_
    refine PL.q rfl rfl (OQ.lenS rfl) rfl ?_
    refine PL.q rfl rfl (OQ.no (OQ.geq rfl rfl) (by simp only [decide_eq_false_iff_not]; omega)) rfl ?_
    refine PL.q rfl rfl (OQ.move rfl) rfl ?_
    refine PL.q rfl rfl (OQ.move rfl) rfl ?_
    refine PL.q rfl rfl ((by first | exact OQ.field0 rfl | exact OQ.field rfl)) rfl ?_
    refine PL.q rfl rfl (OQ.loadS rfl (by assumption)) rfl ?_
    refine PL.q rfl rfl (OQ.loadS rfl (by assumption)) rfl ?_
    refine PL.q rfl rfl (OQ.indexAddr rfl rfl (by first | assumption | omega)) rfl ?_
    refine PL.q rfl rfl (OQ.loadS rfl (by assumption)) rfl ?_
    refine PL.q rfl rfl (OQ.no (OQ.neq rfl rfl) (by simp)) rfl ?_
    refine PL.q rfl rfl ((by first | exact OQ.pickT rfl rfl | exact OQ.pickF rfl rfl)) rfl ?_
    refine PL.q rfl rfl (OQ.move rfl) rfl ?_
    refine PL.q rfl rfl (OQ.move rfl) rfl ?_
    refine PL.q rfl rfl ((by first | exact OQ.field0 rfl | exact OQ.field rfl)) rfl ?_
    refine PL.q rfl rfl (OQ.loadS rfl (by assumption)) rfl ?_
    refine PL.q rfl rfl (OQ.loadS rfl (by assumption)) rfl ?_
    refine PL.q rfl rfl (OQ.indexAddr rfl rfl (by first | assumption | omega)) rfl ?_
    refine PL.q rfl rfl (OQ.loadS rfl (by assumption)) rfl ?_
    refine PL.q rfl rfl (OQ.no (OQ.neq rfl rfl) (by simp)) rfl ?_
    refine PL.q rfl rfl ((by first | exact OQ.pickT rfl rfl | exact OQ.pickF rfl rfl)) rfl ?_
    refine PL.to ?_
    refine CD.condF rfl ?_
    refine CD.skip ?_
    refine CD.cut (α := Unit) (fun _ => [(3, .pointer (some ⟨b3, 0, none⟩)), (5, .pointer (some ⟨b5, 0, none⟩)), (6, .pointer (some ⟨b6, 0, none⟩)), (8, .pointer (some ⟨b8, 0, none⟩)), (9, .pointer (some ⟨b9, 0, none⟩)), (10, .pointer (some ⟨b10, 0, none⟩)), (11, kv x.1)])
      (fun _ W' => Ext W W') ?_ ?_
    · have hrem : IntKind.i64.wrap ((k : Int).tmod 7) = (k : Int).tmod 7 := by
        rw [show (7 : Int) = ((7 : Nat) : Int) from rfl, ← Int.ofNat_tmod]; exact wrapI _ (by omega) (by omega)
      refine CD.rs hF rfl ?_
      refine PL.q rfl rfl (OQ.loadS rfl (by assumption)) rfl ?_
      refine PL.q rfl rfl (OQ.rem rfl rfl (by decide) (by first | assumption | omega)) rfl ?_
      refine PL.q rfl rfl (OQ.eql rfl rfl) rfl ?_
      refine PL.to ?_
      refine CD.condD rfl (fun h18 => ?_) (fun h18 => ?_)
      · refine CD.rs hF rfl ?_
        refine PL.alloc hF rfl rfl rfl ?_
        intro b13 w13 new13
        have i13 := new13.idx; have l13 := new13.lt
        refine PL.put hF rfl rfl rfl rfl rfl new13.heap rfl rfl rfl rfl (fun _ _ => .inl trivial) ?_
        intro wc hwc
        have hxc : Ext W wc := hwc.ext new13.ext (by omega)
        have sc := hwc.size
        have h0c := h0W.trans hxc
        obtain ⟨-, -, -, -, g8c⟩ := st wc h0c
        refine PL.to ?_
        refine CD.seq ?_
        refine CD.rs hF rfl ?_
        refine PL.q rfl rfl (OQ.loadS rfl (by assumption)) rfl ?_
        refine PL.to (CD.block ?_)
        refine CD.rangeN (l₀ := l) (caps := [.pointer (some ⟨bA, 0, none⟩)]) (B := fun k => k < wc.heap.size ∧ k ≠ b13) (hxc.heap hlp) rfl (All_it m1 bA t w0 wc M0 (h0c.heap hA0) _ (fun k hk => ?_) ?_ h0c) (fun _ h => h.1) (fun _ => rfl) rfl
          (fun pre V => V.heap[b13]? = some (.cells #[.int .i64 (pre.length : Nat)] 3 (0, 0))) (fun _ _ _ => False) (fun _ _ _ hc h => hc.cells _ _ _ _ h) (fun _ _ _ _ _ h => h) hwc.heap
          (fun x => [(6, .pointer (some ⟨b6, 0, none⟩)), (13, .pointer (some ⟨b13, 0, none⟩)), (14, kv x.1), (15, .int .i64 x.2)]) ?_ ?_ ?_ (fun _ _ _ _ h => h.elim)
        · have := h0W.size; omega
        · have := h0W.size; have := hbA'; omega
        · intro l' x V
          refine CD.rs (FW.wide.inRound l') rfl ?_
          refine PL.q rfl rfl (OQ.assign rfl) rfl ?_
          refine PL.to (CD.r (FW.wide.inRound l') rfl ?_)
          refine PL.q rfl rfl (OQ.assign rfl) rfl ?_
          exact PL.nil fun a ha => ⟨rfl, ha.sub ⟨rfl, rfl, rfl, rfl, trivial⟩⟩
        · rintro l' pre' x' V hp' n13 hbV hszV -
          have hF' := FW.wide.inRound l'
          have h0V : Ext w0 V := h0c.trans' hbV (fun k hk => ⟨by have := h0c.size; omega, by have := h0W.size; omega⟩)
          have hat' := prefix_at hp'
          have hkt' : pre'.length < t.size := by
            have := (List.getElem?_eq_some_iff.1 hat').1; rwa [Tr.length_toL] at this
          obtain ⟨k', hk'⟩ : ∃ k, pre'.length = k := ⟨_, rfl⟩
          have hk2 : (pre' ++ [x']).length = k' + 1 := by simp [hk']
          rw [hk'] at hat' hkt' n13
          obtain ⟨-, -, v61, v62, -⟩ := st V h0V
          obtain ⟨vkk, vvk⟩ := stk V h0V k' x' hat'
          have v13 : V.cell? ⟨b13, 0, none⟩ = some (.int .i64 (k' : Nat)) := cell_of_heap n13 rfl
          refine CD.block ?_
          refine CD.seq ?_
          refine CD.rs hF' rfl ?_
          refine PL.q rfl rfl (OQ.loadS rfl (by assumption)) rfl ?_
          refine PL.q rfl rfl ((by first | exact OQ.field0 rfl | exact OQ.field rfl)) rfl ?_
          refine PL.q rfl rfl (OQ.loadS rfl (by assumption)) rfl ?_
          refine PL.q rfl rfl (OQ.lenS rfl) rfl ?_
          refine PL.q rfl rfl (OQ.no (OQ.geq rfl rfl) (by simp only [decide_eq_false_iff_not]; omega)) rfl ?_
          refine PL.q rfl rfl (OQ.move rfl) rfl ?_
          refine PL.q rfl rfl (OQ.move rfl) rfl ?_
          refine PL.q rfl rfl ((by first | exact OQ.field0 rfl | exact OQ.field rfl)) rfl ?_
          refine PL.q rfl rfl (OQ.loadS rfl (by assumption)) rfl ?_
          refine PL.q rfl rfl (OQ.loadS rfl (by assumption)) rfl ?_
          refine PL.q rfl rfl (OQ.indexAddr rfl rfl (by first | assumption | omega)) rfl ?_
          refine PL.q rfl rfl (OQ.loadS rfl (by assumption)) rfl ?_
          refine PL.q rfl rfl (OQ.no (OQ.neq rfl rfl) (by simp)) rfl ?_
          refine PL.q rfl rfl ((by first | exact OQ.pickT rfl rfl | exact OQ.pickF rfl rfl)) rfl ?_
          refine PL.q rfl rfl (OQ.move rfl) rfl ?_
          refine PL.q rfl rfl (OQ.move rfl) rfl ?_
          refine PL.q rfl rfl ((by first | exact OQ.field0 rfl | exact OQ.field rfl)) rfl ?_
          refine PL.q rfl rfl (OQ.loadS rfl (by assumption)) rfl ?_
          refine PL.q rfl rfl (OQ.loadS rfl (by assumption)) rfl ?_
          refine PL.q rfl rfl (OQ.indexAddr rfl rfl (by first | assumption | omega)) rfl ?_
          refine PL.q rfl rfl (OQ.loadS rfl (by assumption)) rfl ?_
          refine PL.q rfl rfl (OQ.no (OQ.neq rfl rfl) (by simp)) rfl ?_
          refine PL.q rfl rfl ((by first | exact OQ.pickT rfl rfl | exact OQ.pickF rfl rfl)) rfl ?_
          refine PL.to ?_
          refine CD.condF rfl ?_
          refine CD.skip ?_
          refine CD.r hF' rfl ?_
          refine PL.q rfl rfl (OQ.loadS rfl (by assumption)) rfl ?_
          refine PL.q rfl rfl (OQ.addW (r := ((k' + 1 : Nat) : Int)) rfl rfl (wrap_succ (by omega))) rfl ?_
          refine PL.put hF' rfl rfl rfl rfl rfl n13 rfl rfl rfl rfl (fun _ _ => .inl trivial) ?_
          intro V' hV'
          refine PL.nil fun a ha => ⟨hV'.kb n13 (fun h => h.2 rfl), by simp only [hk2]; exact hV'.heap⟩
        · rintro V n13 hbV
          rw [Tr.length_toL] at n13
          have h0V : Ext w0 V := h0c.trans' hbV (fun k hk => ⟨by have := h0c.size; omega, by have := h0W.size; omega⟩)
          obtain ⟨-, -, v61, v62, -⟩ := st V h0V
          have v13 : V.cell? ⟨b13, 0, none⟩ = some (.int .i64 (t.size : Nat)) := cell_of_heap n13 rfl
          refine CD.rs hF rfl ?_
          refine PL.q rfl rfl (OQ.loadS rfl (by assumption)) rfl ?_
          refine PL.q rfl rfl ((by first | exact OQ.field0 rfl | exact OQ.field rfl)) rfl ?_
          refine PL.q rfl rfl (OQ.loadS rfl (by assumption)) rfl ?_
          refine PL.q rfl rfl (OQ.lenS rfl) rfl ?_
          refine PL.q rfl rfl (OQ.no (OQ.neq rfl rfl) (by simp)) rfl ?_
          refine PL.to ?_
          refine CD.condF rfl ?_
          exact CD.skip fun a ha => ⟨(), ha.sub ⟨rfl, rfl, rfl, rfl, rfl, rfl, rfl, trivial⟩, hxc.trans' hbV (fun k hk => ⟨by have := hxc.size; omega, by omega⟩)⟩
      · exact CD.skip fun a ha => ⟨(), ha.sub ⟨rfl, rfl, rfl, rfl, rfl, rfl, rfl, trivial⟩, Ext.refl _⟩
    rintro - W2 hx2
    have h02 := h0W.trans hx2
    have m9 := hx2.heap n9; have m10 := hx2.heap n10; have hmx2 := hmx.ext hx2
    obtain ⟨g3, g5, g61, g62, g8⟩ := st W2 h02
    have g9 : W2.cell? ⟨b9, 0, none⟩ = some (.int .i64 (k : Nat)) := cell_of_heap m9 rfl
    have g10 : W2.cell? ⟨b10, 0, none⟩ = some (ptr mx) := cell_of_heap m10 rfl
    have sx2 := hx2.size
    refine CD.cut (α := Unit) (fun _ => [(3, .pointer (some ⟨b3, 0, none⟩)), (5, .pointer (some ⟨b5, 0, none⟩)), (6, .pointer (some ⟨b6, 0, none⟩)), (8, .pointer (some ⟨b8, 0, none⟩)), (9, .pointer (some ⟨b9, 0, none⟩)), (10, .pointer (some ⟨b10, 0, none⟩))])
      (fun _ W' => Tw [b10] W2 W' ∧ ∃ mx' tx', W'.heap[b10]? = some (.cells #[ptr mx'] 36 (0, 0)) ∧ MapAt W' mx' tx' ∧ tx'.size ≤ t.size + (k + 1)) ?_ ?_
    · refine CD.rs hF rfl ?_
      refine PL.q rfl rfl (OQ.loadS rfl (by assumption)) rfl ?_
      refine PL.q rfl rfl (OQ.loadS rfl (by assumption)) rfl ?_
      refine PL.q rfl rfl (OQ.lenS rfl) rfl ?_
      refine PL.q rfl rfl (OQ.lss rfl rfl) rfl ?_
      refine PL.to ?_
      refine CD.condD rfl (fun h28 => ?_) (fun h28 => ?_)
      · have hlt : k < ops.length := by omega
        obtain ⟨bo, oo, rfl, hco⟩ := (O0.ext h02) k hlt
        obtain ⟨op, hop⟩ : ∃ op, op = ops[k] := ⟨_, rfl⟩
        rw [← hop] at hco
        refine CD.rs hF rfl ?_
        refine PL.q rfl rfl (OQ.loadS rfl (by assumption)) rfl ?_
        refine PL.q rfl rfl (OQ.loadS rfl (by assumption)) rfl ?_
        refine PL.q rfl rfl (OQ.indexAddr rfl rfl (by first | assumption | omega)) rfl ?_
        refine PL.q rfl rfl (OQ.loadAS (cs := opC op) rfl rfl hco) rfl ?_
        refine PL.alloc hF rfl rfl rfl ?_
        intro b16 w16 new16
        have i16 := new16.idx; have l16 := new16.lt
        refine PL.put hF rfl rfl rfl rfl rfl new16.heap rfl rfl rfl rfl (fun _ _ => .inl trivial) ?_
        intro W3 hw3
        have hx3 : Ext W2 W3 := hw3.ext new16.ext (by omega)
        have sw3 := hw3.size
        have hh16 : W3.heap[b16]? = some (.cells #[.int .i64 op.kind, .int .i64 op.on, .int .i64 op.other, .int .i64 op.a, .int .i64 op.b, .string op.s] 54 (0, 0)) := hw3.heap
        refine PL.to ?_
        refine CD.rs hF rfl ?_
        refine PL.alloc hF rfl rfl rfl ?_
        intro b17 w17 new17
        have i17 := new17.idx; have l17 := new17.lt
        refine PL.put hF rfl rfl rfl rfl rfl new17.heap rfl rfl rfl rfl (fun _ _ => .inl trivial) ?_
        intro W4 hw4
        have hx34 : Ext W3 W4 := hw4.ext new17.ext (by omega)
        have hx4 := hx3.trans hx34
        have sw4 := hw4.size
        have h04 := h02.trans hx4
        obtain ⟨u3, u5, u61, u62, u8⟩ := st W4 h04
        have ua : W4.cell? ⟨b16, 3, none⟩ = some (.int .i64 op.a) := cell_of_heap (hx34.heap hh16) rfl
        refine PL.to ?_
        refine CD.rs hF rfl ?_
        refine PL.q rfl rfl (OQ.loadS rfl (by assumption)) rfl ?_
        refine PL.q rfl rfl ((by first | exact OQ.field0 rfl | exact OQ.field rfl)) rfl ?_
        refine PL.q rfl rfl (OQ.loadS rfl (by assumption)) rfl ?_
        refine PL.call hF rfl rfl rfl rfl (From_w' m1 op.a W4) ?_
        rintro _ W5 hx45 ⟨bF, cF, rfl, ⟨lF0, lF⟩, ⟨lcF0, lcF⟩, hbF, hcF⟩
        refine PL.q rfl rfl (OQ.assign rfl) rfl ?_
        have sw5 := hx45.size
        have hx5 := hx4.trans hx45
        have h05 := h02.trans hx5
        refine PL.to ?_
        refine CD.seq ?_
        refine CD.rs hF rfl ?_
        refine PL.q rfl rfl (OQ.move rfl) rfl ?_
        refine PL.q rfl rfl (OQ.eqF rfl rfl) rfl ?_
        refine PL.to ?_
        refine CD.condF rfl ?_
        refine CD.skip ?_
        refine CD.seq ?_
        refine CD.rs hF rfl ?_
        refine PL.q rfl rfl (OQ.move rfl) rfl ?_
        have n17 : W5.heap[b17]? = some (.cells #[.int .i64 0] 3 (0, 0)) := hx45.heap hw4.heap
        have hfl : (fromL op.a t).length = t.size - (lows lt op.a t.toL).length := by
          rw [fromL_eq _ _ hst, upto_drop lo hst, List.length_drop, Tr.length_toL]
        have hll : (lows lt op.a t.toL).length ≤ t.size := by
          have : (lows lt op.a t.toL).length ≤ t.toL.length := List.length_filter_le _ _
          rwa [Tr.length_toL] at this
        refine PL.to (CD.block ?_)
        have hB5 : ∀ k, k < w0.heap.size → k < W5.heap.size ∧ k ≠ b17 := fun k hk => ⟨by have := h05.size; omega, by have := h02.size; omega⟩
        refine CD.rangeN (l₀ := l) (caps := [.pointer (some ⟨bF, 0, none⟩), .pointer (some ⟨cF, 0, none⟩)]) (B := fun k => k < W5.heap.size ∧ k ≠ b17) (hx5.heap (hx2.heap hlp)) rfl (From_it m1 bF cF op.a t w0 W5 M0 hbF hcF _ hB5 ⟨lF, by omega⟩ ⟨lcF, by omega⟩ h05) (fun _ h => h.1) (fun _ => rfl) rfl
          (fun pre V => V.heap[b17]? = some (.cells #[.int .i64 (pre.length : Nat)] 3 (0, 0))) (fun _ _ _ => False) (fun _ _ _ hc h => hc.cells _ _ _ _ h) (fun _ _ _ _ _ h => h) n17
          (fun x => [(6, .pointer (some ⟨b6, 0, none⟩)), (17, .pointer (some ⟨b17, 0, none⟩))]) ?_ ?_ ?_ (fun _ _ _ _ h => h.elim)
        · intro l' x V
          exact CD.skip fun a ha => ⟨rfl, ha.sub ⟨rfl, rfl, trivial⟩⟩
        · rintro l' pre' x' V hp' n13 hbV hszV -
          have hF' := FW.wide.inRound l'
          have h0V : Ext w0 V := h05.trans' hbV hB5
          have hkt' : pre'.length < (fromL op.a t).length := by
            have := (List.getElem?_eq_some_iff.1 (prefix_at hp')).1; exact this
          obtain ⟨k', hk'⟩ : ∃ k, pre'.length = k := ⟨_, rfl⟩
          have hk2 : (pre' ++ [x']).length = k' + 1 := by simp [hk']
          rw [hk'] at hkt' n13
          obtain ⟨-, -, v61, v62, -⟩ := st V h0V
          have v17 : V.cell? ⟨b17, 0, none⟩ = some (.int .i64 (k' : Nat)) := cell_of_heap n13 rfl
          refine CD.block ?_
          refine CD.rs hF' rfl ?_
          refine PL.q rfl rfl (OQ.loadS rfl (by assumption)) rfl ?_
          refine PL.q rfl rfl (OQ.addW (r := ((k' + 1 : Nat) : Int)) rfl rfl (wrap_succ (by omega))) rfl ?_
          refine PL.put hF' rfl rfl rfl rfl rfl n13 rfl rfl rfl rfl (fun _ _ => .inl trivial) ?_
          intro V' hV'
          have hxV' : Ext w0 V' := hV'.ext h0V (by have := h02.size; omega)
          obtain ⟨-, -, v61, v62, -⟩ := st V' hxV'
          have v17 : V'.cell? ⟨b17, 0, none⟩ = some (.int .i64 (k' + 1 : Nat)) := cell_of_heap hV'.heap rfl
          refine PL.to ?_
          refine CD.rs hF' rfl ?_
          refine PL.q rfl rfl (OQ.loadS rfl (by assumption)) rfl ?_
          refine PL.q rfl rfl ((by first | exact OQ.field0 rfl | exact OQ.field rfl)) rfl ?_
          refine PL.q rfl rfl (OQ.loadS rfl (by assumption)) rfl ?_
          refine PL.q rfl rfl (OQ.lenS rfl) rfl ?_
          refine PL.q rfl rfl (OQ.no (OQ.gtr rfl rfl) (by simp only [decide_eq_false_iff_not]; omega)) rfl ?_
          refine PL.to ?_
          refine CD.condF rfl ?_
          exact CD.skip fun a ha => ⟨hV'.kb n13 (fun h => h.2 rfl), by simp only [hk2]; exact hV'.heap⟩
        rintro W6 n6 hbW6
        have h06 : Ext w0 W6 := h05.trans' hbW6 hB5
        have hx6 : Ext W2 W6 := hx5.trans' hbW6 (fun k hk => ⟨by have := hx5.size; omega, by omega⟩)
        obtain ⟨g3, g5, g61, g62, g8⟩ := st W6 h06
        have h16' : W6.heap[b16]? = some (.cells #[.int .i64 op.kind, .int .i64 op.on, .int .i64 op.other, .int .i64 op.a, .int .i64 op.b, .string op.s] 54 (0, 0)) :=
          hbW6.heap ⟨by omega, by omega⟩ (hx45.heap (hx34.heap hh16))
        have ua : W6.cell? ⟨b16, 3, none⟩ = some (.int .i64 op.a) := cell_of_heap h16' rfl
        have ub : W6.cell? ⟨b16, 4, none⟩ = some (.int .i64 op.b) := cell_of_heap h16' rfl
        have u17 : W6.cell? ⟨b17, 0, none⟩ = some (.int .i64 ((fromL op.a t).length : Nat)) := cell_of_heap n6 rfl
        refine CD.rs hF rfl ?_
        refine PL.q rfl rfl (OQ.loadS rfl (by assumption)) rfl ?_
        refine PL.q rfl rfl ((by first | exact OQ.field0 rfl | exact OQ.field rfl)) rfl ?_
        refine PL.q rfl rfl (OQ.loadS rfl (by assumption)) rfl ?_
        refine PL.call hF rfl rfl rfl rfl (Rank_w m1 op.a t W6 (M0.ext h06) (by omega)) ?_
        rintro _ _ _ ⟨rfl, rfl⟩
        rw [(rank_eq op.a t hst 0).1, Nat.zero_add]
        refine PL.q rfl rfl (OQ.move rfl) rfl ?_
        refine PL.q rfl rfl (OQ.extract rfl rfl) rfl ?_
        refine PL.q rfl rfl (OQ.extract rfl rfl) rfl ?_
        refine PL.q rfl rfl (OQ.assign rfl) rfl ?_
        refine PL.q rfl rfl (OQ.assign rfl) rfl ?_
        refine PL.to ?_
        refine CD.seq ?_
        refine CD.rs hF rfl ?_
        refine PL.q rfl rfl (OQ.loadS rfl (by assumption)) rfl ?_
        refine PL.q rfl rfl ((by first | exact OQ.field0 rfl | exact OQ.field rfl)) rfl ?_
        refine PL.q rfl rfl (OQ.loadS rfl (by assumption)) rfl ?_
        refine PL.q rfl rfl (OQ.lenS rfl) rfl ?_
        refine PL.q rfl rfl (OQ.move rfl) rfl ?_
        refine PL.q rfl rfl (OQ.subW (r := ((t.size - (lows lt op.a t.toL).length : Nat) : Int)) rfl rfl (by rw [wrapI _ (by omega) (by omega)]; omega)) rfl ?_
        refine PL.q rfl rfl (OQ.no (OQ.neq rfl rfl) (by simp only [decide_eq_false_iff_not]; omega)) rfl ?_
        refine PL.to ?_
        refine CD.condF rfl ?_
        refine CD.skip ?_
        have m10' := hx6.heap m10
        have g10' : W6.cell? ⟨b10, 0, none⟩ = some (ptr mx) := cell_of_heap m10' rfl
        refine CD.rs hF rfl ?_
        refine PL.q rfl rfl (OQ.loadS rfl (by assumption)) rfl ?_
        refine PL.q rfl rfl ((by first | exact OQ.field0 rfl | exact OQ.field rfl)) rfl ?_
        refine PL.q rfl rfl (OQ.loadS rfl (by assumption)) rfl ?_
        refine PL.q rfl rfl ((by first | exact OQ.field0 rfl | exact OQ.field rfl)) rfl ?_
        refine PL.q rfl rfl (OQ.loadS rfl (by assumption)) rfl ?_
        refine PL.call hF rfl rfl rfl rfl (Put_w mx op.a op.b tx W6 (hmx2.ext hx6) (by omega)) ?_
        rintro _ W7 hx7 ⟨my, rfl, hmy⟩
        have zy := Tr.size_put lt op.a op.b tx
        have n10b := hx7.heap m10'
        refine PL.put hF rfl rfl rfl rfl rfl n10b rfl rfl rfl rfl (fun _ _ => .inl trivial) ?_
        intro W8 hw8
        have k8 : W8.heap[b10]? = some (.cells #[ptr my] 36 (0, 0)) := hw8.heap
        have c8 : W8.cell? ⟨b10, 0, none⟩ = some (ptr my) := cell_of_heap k8 rfl
        have hmy8 : MapAt W8 my (tx.put lt op.a op.b) := hmy.kt (hw8.kt n10b) (by decide) (by decide)
        refine PL.to ?_
        refine CD.seq ?_
        refine CD.rs hF rfl ?_
        refine PL.q rfl rfl (OQ.loadS rfl (by assumption)) rfl ?_
        refine PL.q rfl rfl ((by first | exact OQ.eqNN rfl rfl | exact OQ.eqNS rfl rfl | exact OQ.eqN rfl rfl)) rfl ?_
        refine PL.to ?_
        refine CD.condF rfl ?_
        refine CD.skip ?_
        refine CD.rs hF rfl ?_
        refine PL.q rfl rfl (OQ.loadS rfl (by assumption)) rfl ?_
        refine PL.q rfl rfl (OQ.move rfl) rfl ?_
        refine PL.call hF rfl rfl rfl rfl (Drop_w my x.1 _ W8 hmy8 (by omega)) ?_
        rintro _ W9 hx9 ⟨md, rfl, hmd⟩
        have zd := Tr.size_drop lt x.1 (tx.put lt op.a op.b)
        have k9 := hx9.heap k8
        refine PL.put hF rfl rfl rfl rfl rfl k9 rfl rfl rfl rfl (fun _ _ => .inl trivial) ?_
        intro WX hwX
        have kX : WX.heap[b10]? = some (.cells #[ptr md] 36 (0, 0)) := hwX.heap
        have cX : WX.cell? ⟨b10, 0, none⟩ = some (ptr md) := cell_of_heap kX rfl
        refine PL.to ?_
        refine CD.rs hF rfl ?_
        refine PL.q rfl rfl (OQ.loadS rfl (by assumption)) rfl ?_
        refine PL.q rfl rfl ((by first | exact OQ.eqNN rfl rfl | exact OQ.eqNS rfl rfl | exact OQ.eqN rfl rfl)) rfl ?_
        refine PL.to ?_
        refine CD.condF rfl ?_
        refine CD.skip fun a ha => ⟨(), ha.sub ⟨rfl, rfl, rfl, rfl, rfl, rfl, trivial⟩, ?_, md, _, kX, hmd.kt (hwX.kt k9) (by decide) (by decide), by omega⟩
        exact ((((hx6.trans hx7).tw [b10]).trans (hw8.tw (by simp))).trans (hx9.tw _)).trans (hwX.tw (by simp))
      · exact CD.skip fun a ha => ⟨(), ha.sub ⟨rfl, rfl, rfl, rfl, rfl, rfl, trivial⟩, (Ext.refl W2).tw _, mx, tx, m10, hmx2, by omega⟩
    rintro - W6 ⟨tw6, mx', tx', k10, hmx6, hsx6⟩
    have k9 := tw6.heap (by simp; omega) m9
    have g9 : W6.cell? ⟨b9, 0, none⟩ = some (.int .i64 (k : Nat)) := cell_of_heap k9 rfl
    refine CD.r hF rfl ?_
    refine PL.q rfl rfl (OQ.loadS rfl (by assumption)) rfl ?_
    refine PL.q rfl rfl (OQ.addW (r := ((k + 1 : Nat) : Int)) rfl rfl (wrap_succ (by omega))) rfl ?_
    refine PL.put hF rfl rfl rfl rfl rfl k9 rfl rfl rfl rfl (fun _ _ => .inl trivial) ?_
    intro W7 hw7
    have tw7 : Tw [b9, b10] W W7 := ((hx2.tw _).trans (⟨tw6.os, tw6.tape, tw6.output, tw6.size, fun k hk hn => tw6.block k hk (fun e => hn (by simp at e ⊢; omega))⟩ : Tw [b9, b10] W2 W6)).trans (hw7.tw (by simp))
    refine PL.nil fun a ha => ⟨tw7.kb (fun k hk => ⟨by have := hbW.size; omega, by simp; exact hk.2⟩) (fun k hk => ?_), mx', tx', ?_, hw7.ne k10 (by omega), ?_, ?_⟩
    · simp only [List.mem_cons, List.not_mem_nil, or_false] at hk
      rcases hk with rfl | rfl
      · exact ⟨_, _, _, n9⟩
      · exact ⟨_, _, _, n10⟩
    · simp only [hk2]; exact hw7.heap
    · exact (hw7.tw (S := [b9]) (by simp)).map (fun k hk => by
        simp only [List.mem_cons, List.not_mem_nil, or_false] at hk
        subst hk; exact ⟨_, _, _, k9, by decide, by decide⟩) hmx6
    · simp only [hk2]; exact hsx6
  · rintro M W ⟨mx, tx, n9, n10, hmx, hsx⟩ hbW hM hdef
    rw [Tr.length_toL] at n9
    have h0W : Ext w0 W := hx0R.trans' hbW hB0
    obtain ⟨g3, g5, g61, g62, g8⟩ := st W h0W
    have g9 : W.cell? ⟨b9, 0, none⟩ = some (.int .i64 (t.size : Nat)) := cell_of_heap n9 rfl
    refine CD.rs FW.wide rfl ?_
    refine PL.q rfl rfl (OQ.loadS rfl (by assumption)) rfl ?_
    refine PL.q rfl rfl ((by first | exact OQ.field0 rfl | exact OQ.field rfl)) rfl ?_
    refine PL.q rfl rfl (OQ.loadS rfl (by assumption)) rfl ?_
    refine PL.q rfl rfl (OQ.lenS rfl) rfl ?_
    refine PL.q rfl rfl (OQ.yes (OQ.eql rfl rfl) (by simp)) rfl ?_
    refine PL.q rfl rfl (OQ.move rfl) rfl ?_
    refine PL.q rfl rfl (OQ.loadH (cs := [ptr m1, .slice (some ⟨gk, 0, none⟩) t.size ck, .slice (some ⟨gv, 0, none⟩) t.size cv]) rfl rfl trivial (h0W.heap (hx430.heap hh6))) rfl ?_
    refine PL.call FW.wide rfl rfl rfl rfl (still_w m1 t (some ⟨gk, 0, none⟩) ck (some ⟨gv, 0, none⟩) cv W (M0.ext h0W) hst (by omega) (K0.ext h0W) (V0.ext h0W)) ?_
    rintro _ W2 hx2 rfl
    refine PL.q rfl rfl ((by first | exact OQ.pickT rfl rfl | exact OQ.pickF rfl rfl)) rfl ?_
    have q4 := hx2.heap (h0W.heap (hx270.heap hg4))
    refine PL.put FW.wide rfl rfl rfl rfl rfl q4 rfl rfl rfl rfl (fun _ _ => .inl trivial) ?_
    intro W3 hw3
    have sz0 := hxw0.size; have szW := h0W.size
    have hxW3 : Ext w W3 := hw3.ext ((hxw0.trans h0W).trans hx2) (by omega)
    have c4 : W3.cell? ⟨b4, 0, none⟩ = some (.bool true) := cell_of_heap hw3.heap rfl
    refine PL.to (CD.ret (postMC (Ms := [M]) (B := (· < w.heap.size)) rfl rfl c4 ?_ (by simp) ?_))
    · intro M' hM'
      obtain rfl : M' = M := by simpa using hM'
      exact ⟨by have := hx0R.size; omega, hw3.ne (hx2.heap hdef) (by have := hx0R.size; have := hx270.size; omega)⟩
    · intro w' hc hbl
      exact ⟨_, rfl, hxW3.trans' hbl (fun _ h => h), rfl⟩
end Go.Proofs.Ytdielcpjemkngaa
