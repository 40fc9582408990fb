/-
  The walk of a sorted table's Keys: keys: numbers.
-/
import Derived.Test.YtdielcpjemkngaaOr4I
namespace Go.Proofs.Ytdielcpjemkngaa.OI
open Go.RowKit

def keysV (l : List (Int × Int)) : List Value := l.map fun x => kv x.1
theorem oneV_kv (k : Int) : oneV (kv k) = true := rfl

theorem Keys_w (m : Nat) (t : Tr Int) (w : World) (h : MapAt w m t) (hs : t.size * 8 ≤ 140737488355328) : Rt Try.prog 28 [ptr m] w fun x w' => Own w' w.heap.size 3 1 x t.size (keysV t.toL) := by
  refine Rt.ofM Try.func28 rfl Try.ntmps28 (by rfl) ?_
  refine CD.rs FW.wide rfl ?_
  refine PL.q rfl rfl (OQ.assign rfl) rfl ?_
  refine PL.to (CD.rs FW.wide rfl ?_)
  refine PL.q rfl rfl (OQ.move rfl) rfl ?_
  refine PL.call FW.wide rfl rfl rfl rfl (Len_w m t w h) ?_
  rintro _ _ _ ⟨rfl, rfl⟩
  refine PL.make0 (c := t.size) w.heap.size FW.wide rfl rfl rfl rfl rfl (by omega) (by omega) (Nat.le_refl _) ?_
  rintro w1 v0 own0 hx1 hne _ _
  refine PL.alloc FW.wide rfl rfl rfl ?_
  intro b3 w3 new3
  have ow1 : oneV v0 = true := by rcases own0.form with ⟨rfl, _⟩ | ⟨b, c, rfl, _⟩ <;> rfl
  refine PL.store FW.wide rfl rfl rfl rfl ow1 rfl (new3.cell rfl) (frozen_of_heap new3.heap 0) trivial ?_
  have hb3 : w.heap.size ≤ b3 := by rw [new3.idx]; exact hx1.size
  have hx4 : Ext w (w3.setCell ⟨b3, 0, none⟩ v0) := (hx1.trans new3.ext).trans' (Bl.setCell w3 v0 (S := (· < w.heap.size)) (by simp; omega)) (fun _ h => h)
  have hh4 : (w3.setCell ⟨b3, 0, none⟩ v0).heap[b3]? = some (.cells #[v0] 22 (0, 0)) := heap_setCell_one new3.heap v0
  have own4 : Own (w3.setCell ⟨b3, 0, none⟩ v0) w.heap.size 3 1 v0 0 [] := (own0.cext new3.ext.cext).keep fun b hb => heap_setCell_ne _ (fun e => own_ne (own0.cext new3.ext.cext) new3.heap (by decide) (by rw [hb, e]))
  refine PL.to (CD.seq (CD.rs FW.wide rfl ?_))
  generalize w3.setCell ⟨b3, 0, none⟩ v0 = w4 at *
  refine PL.q rfl rfl (OQ.move rfl) rfl ?_
  refine PL.call FW.wide rfl rfl rfl rfl (All_w m w4) ?_
  rintro _ w5 hx5 ⟨bA, rfl, hbA, hbA', hhA⟩
  have hb34 : b3 < w4.heap.size := (Array.getElem?_eq_some_iff.1 hh4).1
  refine PL.to (CD.block ?_)
  refine CD.range (caps := [.pointer (some ⟨bA, 0, none⟩)]) (B := fun k => k < w.heap.size ∨ k = bA) rfl (All_it m bA t w w5 h hhA _ (fun _ h => .inl h) (.inr rfl) (hx4.trans hx5)) ?_ (fun _ => rfl) rfl
    (fun pre W => ∃ v, W.heap[b3]? = some (.cells #[v] 22 (0, 0)) ∧ Own W w.heap.size 3 1 v pre.length (keysV pre)) (fun _ _ _ => False) ?_ (fun _ _ _ _ _ h => h) ?_
    (fun x => [(3, .pointer (some ⟨b3, 0, none⟩)), (4, kv x.1)]) ?_ ?_ ?_ (fun _ _ _ _ _ h => h.elim)
  · rintro k (hk | rfl)
    · exact Nat.lt_of_lt_of_le hk (hx4.trans hx5).size
    · exact hbA'
  · rintro pre W W' hc ⟨v, h1, h2⟩
    exact ⟨v, hc.cells _ _ _ _ h1, h2.cext hc⟩
  · exact ⟨v0, hx5.heap hh4, own4.cext hx5.cext⟩
  · intro l x W
    refine CD.r (FW.wide.inRound l) rfl ?_
    refine PL.q rfl rfl (OQ.assign rfl) rfl ?_
    exact PL.nil fun a ha => ⟨rfl, ha.sub ⟨rfl, rfl, trivial⟩⟩
  · rintro l pre x W hp ⟨v, h1, h2⟩ hbW hsz
    have hlen : pre.length + 1 ≤ t.size := by
      have := hp.length_le; rw [Tr.length_toL] at this; simpa using this
    refine CD.block (CD.r (FW.wide.inRound l) rfl ?_)
    have c3 := cell_of_heap h1 (j := 0) rfl
    refine PL.q rfl rfl (OQ.loadS rfl (by assumption)) rfl ?_
    refine PL.q rfl rfl (OQ.move rfl) rfl ?_
    refine PL.slice1 (FW.wide.inRound l) rfl rfl rfl rfl rfl rfl ?_
    intro b14 w14 new14
    have own14 := h2.cext new14.ext.cext
    have hh14 := new14.ext.heap h1
    have hBW : ∀ k, (k < w.heap.size ∨ k = bA) → k < W.heap.size := by
      rintro k (hk | rfl)
      · have := hbW.size; have := (hx4.trans hx5).size; omega
      · have := hbW.size; omega
    refine PL.append (news := [kv x.1]) (o := 0) (FW.wide.inRound l) rfl rfl rfl own14 rfl rfl rfl ?_ (by simp [oneV]) (by decide) (by omega) (by omega) ?_ (fun _ _ => trivial) ?_
    · intro j u hj
      cases j with
      | zero => simp only [List.getElem?_cons_zero, Option.some.injEq] at hj; subst hj; exact new14.cell rfl
      | succ j => simp at hj
    · have := hbW.size; have := (hx4.trans hx5).size; have := new14.ext.size; omega
    intro v' w15 own15 hg15 _
    have nown := own_ne own14 hh14 (t := 22) (by decide)
    have hh15 : w15.heap[b3]? = some (.cells #[v] 22 (0, 0)) := by
      rw [hg15.block b3 (Array.getElem?_eq_some_iff.1 hh14).1 (fun e => nown e.symm)]; exact hh14
    have ow1 : oneV v' = true := by rcases own15.form with ⟨rfl, _⟩ | ⟨b, c, rfl, _⟩ <;> rfl
    refine PL.store (FW.wide.inRound l) rfl rfl rfl rfl ow1 rfl (cell_of_heap hh15 rfl) (frozen_of_heap hh15 0) trivial ?_
    have hkb : Kb (fun k => k < w.heap.size ∨ k = bA) W (w15.setCell ⟨b3, 0, none⟩ v') := by
      refine ((new14.ext.kb hBW).trans (own_grown_kb own14 ?_ (fun k hk => Nat.lt_of_lt_of_le (hBW k hk) new14.ext.size) hg15)).trans (Kb.setCell w15 v' ?_)
      · rintro b hb (hk | rfl)
        · have := (World.ownsRow.lt own14 b hb).1; omega
        · exact own_ne own14 (new14.ext.heap (hbW.heap (.inr rfl) hhA)) (by decide) hb
      · rintro (hk | e)
        · simp at hk; omega
        · simp at e; omega
    refine PL.nil fun a ha => ⟨hkb, v', heap_setCell_one hh15 v', ?_⟩
    have hk := own15.keep (w' := w15.setCell ⟨b3, 0, none⟩ v') fun b hb => heap_setCell_ne _ (fun e => own_ne own15 hh15 (t := 22) (by decide) (by rw [hb, e]))
    simpa [keysV] using hk
  · rintro M W ⟨v, h1, h2⟩ hbW hM hdef
    have c3 := cell_of_heap h1 (j := 0) rfl
    refine CD.rs FW.wide rfl ?_
    refine PL.q rfl rfl (OQ.loadS rfl (by assumption)) rfl ?_
    refine PL.q rfl rfl (OQ.assign rfl) rfl ?_
    refine PL.to (CD.ret (postM1 (Ms := [M]) (B := (· < w.heap.size)) rfl rfl ?_ (by simp) ?_))
    · intro M' hM'
      obtain rfl : M' = M := by simpa using hM'
      exact ⟨by have := (hx4.trans hx5).size; omega, hdef⟩
    · intro w' hc hbl
      refine ⟨_, rfl, ?_, ?_⟩
      · exact ((hx4.trans hx5).trans' (hbW.mono (fun k hk => .inl hk)) (fun _ h => h)).trans' hbl (fun _ h => h)
      · have := h2.cext hc
        rw [Tr.length_toL] at this
        exact this
end Go.Proofs.Ytdielcpjemkngaa.OI
