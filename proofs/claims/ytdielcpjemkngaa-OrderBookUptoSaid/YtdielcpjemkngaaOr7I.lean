/-
  The walks of a sorted table's Join, only, Only, Without: keys: numbers.
-/
import Derived.Test.YtdielcpjemkngaaOr3I
import Derived.Test.YtdielcpjemkngaaOr4I
namespace Go.Proofs.Ytdielcpjemkngaa.OI
open Go.RowKit

def joinT (t : Tr Int) (l : List (Int × Int)) : Tr Int := l.foldl (fun a x => a.put lt x.1 x.2) t
theorem joinT_snoc (t : Tr Int) (l : List (Int × Int)) (x : Int × Int) : joinT t (l ++ [x]) = (joinT t l).put lt x.1 x.2 := by simp [joinT]
theorem size_joinT (l : List (Int × Int)) : ∀ t : Tr Int, (joinT t l).size ≤ t.size + l.length := by
  induction l with
  | nil => intro t; simp [joinT]
  | cons x r ih =>
    intro t
    have h1 := ih (t.put lt x.1 x.2); have h2 := Tr.size_put lt x.1 x.2 t
    simp only [joinT, List.foldl_cons, List.length_cons] at h1 ⊢
    omega

theorem Join_w (m o : Nat) (t u : Tr Int) (w : World) (h : MapAt w m t) (ho : MapAt w o u) (hs : t.size + u.size < 4611686018427387904) : Rt Try.prog 36 [ptr m, ptr o] w fun x w' => ∃ m', x = ptr m' ∧ MapAt w' m' (joinT t u.toL) := by
  obtain ⟨p, hm, ht⟩ := h
  have c0 : w.cell? ⟨m, 0, none⟩ = some (.pointer p) := cell_of_heap hm rfl
  refine Rt.ofM Try.func36 rfl Try.ntmps36 (by rfl) ?_
  refine CD.rs FW.wide rfl ?_
  refine PL.q rfl rfl (OQ.assign rfl) rfl ?_
  refine PL.to (CD.rs FW.wide rfl ?_)
  refine PL.q rfl rfl (OQ.move rfl) rfl ?_
  refine PL.q rfl rfl ((by first | exact OQ.nilp rfl | exact OQ.nily rfl | exact OQ.nilf rfl)) rfl ?_
  refine PL.q rfl rfl ((by first | exact OQ.field0 rfl | exact OQ.field rfl)) rfl ?_
  refine PL.q rfl rfl (OQ.loadS rfl (by assumption)) rfl ?_
  refine PL.alloc FW.wide rfl rfl rfl ?_
  intro b5 w5 new5
  refine PL.store FW.wide rfl rfl rfl rfl rfl rfl (new5.cell rfl) (frozen_of_heap new5.heap 0) trivial ?_
  have hb5 : w.heap.size ≤ b5 := by rw [new5.idx]; exact Nat.le_refl _
  have hx4 : Ext w (w5.setCell ⟨b5, 0, none⟩ (.pointer p)) := new5.ext.trans' (Bl.setCell w5 _ (S := (· < w.heap.size)) (by simp; omega)) (fun _ h => h)
  have hh4 : (w5.setCell ⟨b5, 0, none⟩ (.pointer p)).heap[b5]? = some (.cells #[.pointer p] 75 (0, 0)) := heap_setCell_one new5.heap _
  refine PL.to (CD.seq (CD.rs FW.wide rfl ?_))
  generalize w5.setCell ⟨b5, 0, none⟩ (.pointer p) = w4 at *
  refine PL.q rfl rfl (OQ.move rfl) rfl ?_
  refine PL.call FW.wide rfl rfl rfl rfl (All_w o w4) ?_
  rintro _ w6 hx6 ⟨bA, rfl, hbA, hbA', hhA⟩
  have hb54 : b5 < w4.heap.size := (Array.getElem?_eq_some_iff.1 hh4).1
  refine PL.to (CD.block ?_)
  refine CD.range (caps := [.pointer (some ⟨bA, 0, none⟩)]) (B := fun k => k < w.heap.size ∨ k = bA) rfl (All_it o bA u w w6 ho hhA _ (fun _ h => .inl h) (.inr rfl) (hx4.trans hx6)) ?_ (fun _ => rfl) rfl
    (fun pre W => ∃ q, W.heap[b5]? = some (.cells #[.pointer q] 75 (0, 0)) ∧ Tt W q (joinT t pre)) (fun _ _ _ => False) ?_ (fun _ _ _ _ _ h => h) ?_
    (fun x => [(5, .pointer (some ⟨b5, 0, none⟩)), (6, kv x.1), (7, .int .i64 x.2)]) ?_ ?_ ?_ (fun _ _ _ _ _ h => h.elim)
  · rintro k (hk | rfl)
    · exact Nat.lt_of_lt_of_le hk (hx4.trans hx6).size
    · exact hbA'
  · rintro pre W W' hc ⟨q, h1, h2⟩
    exact ⟨q, hc.cells _ _ _ _ h1, h2.keep fun _ _ _ e => hc.cells _ _ _ _ e⟩
  · exact ⟨p, hx6.heap hh4, ht.ext (hx4.trans hx6)⟩
  · intro l x W
    refine CD.rs (FW.wide.inRound l) rfl ?_
    refine PL.q rfl rfl (OQ.assign rfl) rfl ?_
    refine PL.to (CD.r (FW.wide.inRound l) rfl ?_)
    refine PL.q rfl rfl (OQ.assign rfl) rfl ?_
    exact PL.nil fun a ha => ⟨rfl, ha.sub ⟨rfl, rfl, rfl, trivial⟩⟩
  · rintro l pre x W hp ⟨q, h1, h2⟩ hbW hsz
    have hlen : pre.length + 1 ≤ u.size := by
      have := hp.length_le; rw [Tr.length_toL] at this; simpa using this
    have hz := size_joinT pre t
    refine CD.block (CD.r (FW.wide.inRound l) rfl ?_)
    have c3 : W.cell? ⟨b5, 0, none⟩ = some (.pointer q) := cell_of_heap h1 rfl
    have hBW : ∀ k, (k < w.heap.size ∨ k = bA) → k < W.heap.size := by
      rintro k (hk | rfl)
      · have := hbW.size; have := (hx4.trans hx6).size; omega
      · have := hbW.size; omega
    refine PL.q rfl rfl (OQ.loadS rfl (by assumption)) rfl ?_
    refine PL.q rfl rfl (OQ.move rfl) rfl ?_
    refine PL.q rfl rfl (OQ.move rfl) rfl ?_
    refine PL.call (FW.wide.inRound l) rfl rfl rfl rfl (put_w x.1 x.2 (joinT t pre) q W h2 (by omega)) ?_
    rintro _ w7 hx7 ⟨q', rfl, hq'⟩
    have hh7 := hx7.heap h1
    refine PL.store (FW.wide.inRound l) rfl rfl rfl rfl rfl rfl (cell_of_heap hh7 rfl) (frozen_of_heap hh7 0) trivial ?_
    refine PL.nil fun a ha => ⟨(hx7.kb hBW).trans (Kb.setCell w7 _ ?_), q', heap_setCell_one hh7 _, ?_⟩
    · rintro (hk | e)
      · simp at hk; omega
      · simp at e; omega
    · rw [joinT_snoc]; exact hq'.setCell hh7 (by decide) _
  · rintro M W ⟨q, h1, h2⟩ hbW hM hdef
    have c3 : W.cell? ⟨b5, 0, none⟩ = some (.pointer q) := cell_of_heap h1 rfl
    refine CD.rs FW.wide rfl ?_
    refine PL.q rfl rfl (OQ.loadS rfl (by assumption)) rfl ?_
    refine PL.q rfl rfl ((by first | exact OQ.build1 rfl rfl | exact OQ.buildC rfl rfl)) rfl ?_
    refine PL.box FW.wide rfl rfl rfl rfl ?_
    intro b22 w22 new22
    refine PL.q rfl rfl (OQ.assign rfl) rfl ?_
    refine PL.to (CD.ret (postM1 (Ms := [M]) (B := (· < w.heap.size)) rfl rfl ?_ (by simp) ?_))
    · intro M' hM'
      obtain rfl : M' = M := by simpa using hM'
      exact ⟨by have := (hx4.trans hx6).size; omega, new22.ext.heap hdef⟩
    · intro w' hc hbl
      have hx : Ext w w22 := ((hx4.trans hx6).trans' (hbW.mono (fun k hk => .inl hk)) (fun _ h => h)).trans new22.ext
      exact ⟨_, rfl, hx.trans' hbl (fun _ h => h), b22, rfl, q, hc.cells _ _ _ _ new22.heap, (h2.ext new22.ext).keep fun _ _ _ e => hc.cells _ _ _ _ e⟩

def siftT (u : Tr Int) (there : Bool) (t : Tr Int) (l : List (Int × Int)) : Tr Int := l.foldl (fun a x => bif (find x.1 u).isSome != there then a.drop lt x.1 else a) t
theorem siftT_snoc (u : Tr Int) (there : Bool) (t : Tr Int) (l : List (Int × Int)) (x : Int × Int) : siftT u there t (l ++ [x]) = bif (find x.1 u).isSome != there then (siftT u there t l).drop lt x.1 else siftT u there t l := by simp [siftT]
theorem size_siftT (u : Tr Int) (there : Bool) (l : List (Int × Int)) : ∀ t : Tr Int, (siftT u there t l).size ≤ t.size := by
  induction l with
  | nil => intro t; simp [siftT]
  | cons x r ih =>
    intro t
    have h2 := Tr.size_drop lt x.1 t
    simp only [siftT, List.foldl_cons]
    refine Nat.le_trans (ih _) ?_
    cases (find x.1 u).isSome != there
    · exact Nat.le_refl _
    · exact h2

theorem only_w (m o : Nat) (there : Bool) (t u : Tr Int) (w : World) (h : MapAt w m t) (ho : MapAt w o u) (hs : t.size < 4611686018427387904) : Rt Try.prog 59 [ptr m, ptr o, .bool there] w fun x w' => ∃ m', x = ptr m' ∧ MapAt w' m' (siftT u there t t.toL) := by
  have hm0 := h
  obtain ⟨p, hm, ht⟩ := h
  refine Rt.ofM Try.func59 rfl Try.ntmps59 (by rfl) ?_
  refine CD.rs FW.wide rfl ?_
  refine PL.box FW.wide rfl rfl rfl rfl ?_
  intro b4 w4 new4
  refine PL.box FW.wide rfl rfl rfl rfl ?_
  intro b5 w5 new5
  refine PL.q rfl rfl (OQ.assign rfl) rfl ?_
  have hx05 := new4.ext.trans new5.ext
  have c0 : w5.cell? ⟨m, 0, none⟩ = some (.pointer p) := cell_of_heap (hx05.heap hm) rfl
  refine PL.to (CD.rs FW.wide rfl ?_)
  refine PL.q rfl rfl (OQ.move rfl) rfl ?_
  refine PL.q rfl rfl ((by first | exact OQ.nilp rfl | exact OQ.nily rfl | exact OQ.nilf rfl)) rfl ?_
  refine PL.q rfl rfl ((by first | exact OQ.field0 rfl | exact OQ.field rfl)) rfl ?_
  refine PL.q rfl rfl (OQ.loadS rfl (by assumption)) rfl ?_
  refine PL.alloc FW.wide rfl rfl rfl ?_
  intro b7 w7 new7
  refine PL.store FW.wide rfl rfl rfl rfl rfl rfl (new7.cell rfl) (frozen_of_heap new7.heap 0) trivial ?_
  have hb4 : w.heap.size ≤ b4 := by rw [new4.idx]; exact Nat.le_refl _
  have hb4' : b4 < w4.heap.size := new4.lt
  have hb5 : w4.heap.size ≤ b5 := by rw [new5.idx]; exact Nat.le_refl _
  have hb5' : b5 < w5.heap.size := new5.lt
  have hb7 : w5.heap.size ≤ b7 := by rw [new7.idx]; exact Nat.le_refl _
  have s4 := new4.ext.size; have s5 := new5.ext.size
  have hset : Bl (· < w5.heap.size) w7 (w7.setCell ⟨b7, 0, none⟩ (.pointer p)) := Bl.setCell w7 _ (by simp; omega)
  have hx5s : Ext w5 (w7.setCell ⟨b7, 0, none⟩ (.pointer p)) := new7.ext.trans' hset (fun _ h => h)
  have hx4 : Ext w (w7.setCell ⟨b7, 0, none⟩ (.pointer p)) := hx05.trans hx5s
  have hh7 : (w7.setCell ⟨b7, 0, none⟩ (.pointer p)).heap[b7]? = some (.cells #[.pointer p] 75 (0, 0)) := heap_setCell_one new7.heap _
  have hh5 := hx5s.heap new5.heap
  have hh4 := hx5s.heap (new5.ext.heap new4.heap)
  refine PL.to (CD.seq (CD.rs FW.wide rfl ?_))
  generalize w7.setCell ⟨b7, 0, none⟩ (.pointer p) = w8 at *
  refine PL.q rfl rfl (OQ.move rfl) rfl ?_
  refine PL.call FW.wide rfl rfl rfl rfl (All_w m w8) ?_
  rintro _ w6 hx6 ⟨bA, rfl, hbA, hbA', hhA⟩
  have hb78 : b7 < w8.heap.size := (Array.getElem?_eq_some_iff.1 hh7).1
  have s8 := hx5s.size
  refine PL.to (CD.block ?_)
  refine CD.range (caps := [.pointer (some ⟨bA, 0, none⟩)]) (B := fun k => k < w.heap.size ∨ k = bA ∨ k = b4 ∨ k = b5) rfl (All_it m bA t w w6 hm0 hhA _ (fun _ h => .inl h) (.inr (.inl rfl)) (hx4.trans hx6)) ?_ (fun _ => rfl) rfl
    (fun pre W => ∃ q, W.heap[b7]? = some (.cells #[.pointer q] 75 (0, 0)) ∧ Tt W q (siftT u there t pre)) (fun _ _ _ => False) ?_ (fun _ _ _ _ _ h => h) ?_
    (fun x => [(4, .pointer (some ⟨b4, 0, none⟩)), (5, .pointer (some ⟨b5, 0, none⟩)), (7, .pointer (some ⟨b7, 0, none⟩)), (8, kv x.1)]) ?_ ?_ ?_ (fun _ _ _ _ _ h => h.elim)
  · have := hx6.size
    rintro k (hk | rfl | rfl | rfl)
    · exact Nat.lt_of_lt_of_le hk (hx4.trans hx6).size
    · exact hbA'
    · omega
    · omega
  · rintro pre W W' hc ⟨q, h1, h2⟩
    exact ⟨q, hc.cells _ _ _ _ h1, h2.keep fun _ _ _ e => hc.cells _ _ _ _ e⟩
  · exact ⟨p, hx6.heap hh7, ht.ext (hx4.trans hx6)⟩
  · intro l x W
    refine CD.r (FW.wide.inRound l) rfl ?_
    refine PL.q rfl rfl (OQ.assign rfl) rfl ?_
    exact PL.nil fun a ha => ⟨rfl, ha.sub ⟨rfl, rfl, rfl, rfl, trivial⟩⟩
  · rintro l pre x W hp ⟨q, h1, h2⟩ hbW hsz
    have hz := size_siftT u there pre t
    have g4 := cell_of_heap (hbW.heap (.inr (.inr (.inl rfl))) (hx6.heap hh4)) (j := 0) rfl
    have g5 := cell_of_heap (hbW.heap (.inr (.inr (.inr rfl))) (hx6.heap hh5)) (j := 0) rfl
    have hoW : MapAt W o u := ho.ext ((hx4.trans hx6).trans' hbW (fun _ h => .inl h))
    refine CD.block (CD.rs (FW.wide.inRound l) rfl ?_)
    have c3 : W.cell? ⟨b7, 0, none⟩ = some (.pointer q) := cell_of_heap h1 rfl
    have hBW : ∀ k, (k < w.heap.size ∨ k = bA ∨ k = b4 ∨ k = b5) → k < W.heap.size := by
      have := hbW.size; have := (hx4.trans hx6).size; have := hx6.size
      rintro k (hk | rfl | rfl | rfl) <;> omega
    refine PL.q rfl rfl (OQ.loadS rfl (by assumption)) rfl ?_
    refine PL.q rfl rfl (OQ.move rfl) rfl ?_
    refine PL.call (FW.wide.inRound l) rfl rfl rfl rfl (Get_w o x.1 u W hoW) ?_
    rintro _ _ _ ⟨rfl, rfl⟩
    refine PL.q rfl rfl (OQ.move rfl) rfl ?_
    refine PL.q rfl rfl (OQ.extract rfl rfl) rfl ?_
    refine PL.q rfl rfl (OQ.extract rfl rfl) rfl ?_
    refine PL.q rfl rfl (OQ.assign rfl) rfl ?_
    refine PL.q rfl rfl (OQ.assign rfl) rfl ?_
    refine PL.to (CD.rs (FW.wide.inRound l) rfl ?_)
    refine PL.q rfl rfl (OQ.move rfl) rfl ?_
    refine PL.q rfl rfl (OQ.loadS rfl (by assumption)) rfl ?_
    refine PL.q rfl rfl (OQ.bne rfl rfl) rfl ?_
    refine PL.to (CD.cond (b := (find x.1 u).isSome != there) rfl (fun hc => ?_) (fun hc => ?_))
    · refine CD.r (FW.wide.inRound l) rfl ?_
      refine PL.q rfl rfl (OQ.loadS rfl (by assumption)) rfl ?_
      refine PL.q rfl rfl (OQ.move rfl) rfl ?_
      refine PL.call (FW.wide.inRound l) rfl rfl rfl rfl (drop_w (siftT u there t pre) x.1 q _ h2 (by omega)) ?_
      rintro _ w9 hx9 ⟨q', rfl, hq'⟩
      have hh9 := hx9.heap h1
      refine PL.store (FW.wide.inRound l) rfl rfl rfl rfl rfl rfl (cell_of_heap hh9 rfl) (frozen_of_heap hh9 0) trivial ?_
      refine PL.nil fun a ha => ⟨(hx9.kb hBW).trans (Kb.setCell w9 _ ?_), q', heap_setCell_one hh9 _, ?_⟩
      · have := hx6.size
        rintro (hk | e | e | e)
        · simp at hk; omega
        · simp at e; omega
        · simp at e; omega
        · simp at e; omega
      · rw [siftT_snoc, hc]; exact hq'.setCell hh9 (by decide) _
    · refine CD.skip fun a ha => ⟨Kb.refl _ _, q, h1, ?_⟩
      rw [siftT_snoc, hc]; exact h2
  · rintro M W ⟨q, h1, h2⟩ hbW hM hdef
    have c3 : W.cell? ⟨b7, 0, none⟩ = some (.pointer q) := cell_of_heap h1 rfl
    refine CD.rs FW.wide rfl ?_
    refine PL.q rfl rfl (OQ.loadS rfl (by assumption)) rfl ?_
    refine PL.q rfl rfl ((by first | exact OQ.build1 rfl rfl | exact OQ.buildC rfl rfl)) rfl ?_
    refine PL.box FW.wide rfl rfl rfl rfl ?_
    intro b33 w33 new33
    refine PL.q rfl rfl (OQ.assign rfl) rfl ?_
    refine PL.to (CD.ret (postM1 (Ms := [M]) (B := (· < w.heap.size)) rfl rfl ?_ (by simp) ?_))
    · intro M' hM'
      obtain rfl : M' = M := by simpa using hM'
      exact ⟨by have := (hx4.trans hx6).size; omega, new33.ext.heap hdef⟩
    · intro w' hc hbl
      have hx : Ext w w33 := ((hx4.trans hx6).trans' (hbW.mono (fun k hk => .inl hk)) (fun _ h => h)).trans new33.ext
      exact ⟨_, rfl, hx.trans' hbl (fun _ h => h), b33, rfl, q, hc.cells _ _ _ _ new33.heap, (h2.ext new33.ext).keep fun _ _ _ e => hc.cells _ _ _ _ e⟩

theorem Only_w (m o : Nat) (t u : Tr Int) (w : World) (h : MapAt w m t) (ho : MapAt w o u) (hs : t.size < 4611686018427387904) : Rt Try.prog 37 [ptr m, ptr o] w fun x w' => ∃ m', x = ptr m' ∧ MapAt w' m' (siftT u true t t.toL) := by
  refine Rt.of Try.func37 rfl Try.ntmps37 (by rfl) ?_
  refine CD.rs FW.wide rfl ?_
  refine PL.q rfl rfl (OQ.assign rfl) rfl ?_
  refine PL.to (CD.rs FW.wide rfl ?_)
  refine PL.q rfl rfl (OQ.move rfl) rfl ?_
  refine PL.q rfl rfl (OQ.move rfl) rfl ?_
  refine PL.call FW.wide rfl rfl rfl rfl (only_w m o true t u w h ho hs) ?_
  rintro _ w1 hx1 hm1
  refine PL.q rfl rfl (OQ.assign rfl) rfl ?_
  exact PL.to (CD.ret (post1 rfl rfl ⟨_, rfl, hx1, hm1⟩))
theorem Without_w (m o : Nat) (t u : Tr Int) (w : World) (h : MapAt w m t) (ho : MapAt w o u) (hs : t.size < 4611686018427387904) : Rt Try.prog 38 [ptr m, ptr o] w fun x w' => ∃ m', x = ptr m' ∧ MapAt w' m' (siftT u false t t.toL) := by
  refine Rt.of Try.func38 rfl Try.ntmps38 (by rfl) ?_
  refine CD.rs FW.wide rfl ?_
  refine PL.q rfl rfl (OQ.assign rfl) rfl ?_
  refine PL.to (CD.rs FW.wide rfl ?_)
  refine PL.q rfl rfl (OQ.move rfl) rfl ?_
  refine PL.q rfl rfl (OQ.move rfl) rfl ?_
  refine PL.call FW.wide rfl rfl rfl rfl (only_w m o false t u w h ho hs) ?_
  rintro _ w1 hx1 hm1
  refine PL.q rfl rfl (OQ.assign rfl) rfl ?_
  exact PL.to (CD.ret (post1 rfl rfl ⟨_, rfl, hx1, hm1⟩))
end Go.Proofs.Ytdielcpjemkngaa.OI
