/-
  The walks of the document's tables (lists): Put, Join: keys: texts.
-/
import Derived.Test.YtdielcpjemkngaaRf2S
namespace Go.Proofs.Ytdielcpjemkngaa.OS
open Go.RowKit
set_option linter.unusedVariables false

def outP (k : ByteArray) (v : Int) (l : Ents ByteArray) (done : Bool) : Ents ByteArray := lows lt k l ++ (if done then (k, v) :: highs lt k l else [])
theorem outP_len (k : ByteArray) (v : Int) (l : Ents ByteArray) (done : Bool) : (outP k v l done).length ≤ 2 * l.length + 1 := by
  have h1 := List.length_filter_le (fun e => lt e.1 k) l
  have h2 := List.length_filter_le (fun e => lt k e.1) l
  cases done <;> simp [outP, lows, highs] at * <;> omega

theorem fPut_w (a : Option Addr) (c : Nat) (l : Ents ByteArray) (k : ByteArray) (v : Int) (w : World) (h : PA w a l) (hs : Srt lt l) (hn : l.length ≤ 1000000) :
    Rt Try.prog 105 [.slice a l.length c, kv k, .int .i64 v] w fun x w' => OA w' w.heap.size x (ins lt k v l) := by
  refine Rt.of Try.func105 rfl Try.ntmps105 (by rfl) ?_
  refine CD.rs FW.wide rfl ?_
  refine PL.q rfl rfl (OQ.assign rfl) rfl ?_
  refine PL.to ?_
  refine CD.rs FW.wide rfl ?_
  refine PL.q rfl rfl (OQ.assign rfl) rfl ?_
  refine PL.to ?_
  refine CD.rs FW.wide rfl ?_
  refine PL.q rfl rfl (OQ.assign rfl) rfl ?_
  refine PL.to ?_
  refine CD.seq ?_
  refine CD.rs FW.wide rfl ?_
  refine PL.q rfl rfl (OQ.assign rfl) rfl ?_
  refine PL.to ?_
  refine CD.block ?_
  refine CD.loop (α := Nat × Value × Bool) (fun s => [(0, .slice a l.length c), (1, kv k), (2, .int .i64 v), (7, s.2.1), (8, .bool s.2.2), (9, .int .i64 s.1)])
    (fun s w' => Ext w w' ∧ s.1 ≤ l.length ∧ OA w' w.heap.size s.2.1 (outP k v (l.take s.1) s.2.2) ∧ (s.2.2 = false → ∀ e ∈ l.take s.1, lt e.1 k = true) ∧ (s.2.2 = true → ∃ e ∈ l.take s.1, lt e.1 k = false)) (fun s => l.length - s.1) (0, .slice none 0 0, false) ⟨rfl, rfl, rfl, rfl, rfl, rfl, trivial⟩ ⟨Ext.refl _, by simp, OA.nil _ _, by simp, by simp⟩ ?_
  rintro ⟨i, vo, done⟩ w1 ⟨hx1, hi, ho, hd0, hd1⟩
  simp only at hi ho hd0 hd1
  refine CD.seq ?_
  refine CD.rs FW.wide rfl ?_
  refine PL.q rfl rfl (OQ.move rfl) rfl ?_
  refine PL.q rfl rfl (OQ.move rfl) rfl ?_
  refine PL.q rfl rfl (OQ.lenS rfl) rfl ?_
  refine PL.q rfl rfl (OQ.lss rfl rfl) rfl ?_
  refine PL.to ?_
  refine CD.condD rfl (fun h3 => ?_) (fun h3 => ?_)
  · have hlt : i < l.length := by omega
    obtain ⟨b, o, rfl, hc, hbt⟩ := (h.ext hx1) i hlt
    have c0 : w1.cell? ⟨b, o + i * 2 + 0, none⟩ = some (kv l[i].1) := hc 0 _ rfl
    have hol := outP_len k v (l.take i) done
    simp only [List.length_take] at hol
    refine CD.skip ?_
    refine CD.seq ?_
    refine CD.block ?_
    refine CD.cut (α := Value × Bool) (fun s => [(0, .slice (some ⟨b, o, none⟩) l.length c), (1, kv k), (2, .int .i64 v), (7, s.1), (8, .bool s.2), (9, .int .i64 i)])
      (fun s w' => Ext w w' ∧ CellsAt w' b (o + i * 2) (pC l[i]) ∧ OA w' w.heap.size s.1 (outP k v (l.take i) s.2) ∧ s.2 = (done || !lt l[i].1 k)) ?_ ?_
    · refine CD.rs FW.wide rfl ?_
      cases done with
      | true =>
        refine PL.q rfl rfl (OQ.move rfl) rfl ?_
        refine PL.q rfl rfl (OQ.not rfl) rfl ?_
        refine PL.q rfl rfl (OQ.move rfl) rfl ?_
        refine PL.skip rfl rfl rfl ?_
        refine PL.skip rfl rfl rfl ?_
        refine PL.skip rfl rfl rfl ?_
        refine PL.skip rfl rfl rfl ?_
        refine PL.skip rfl rfl rfl ?_
        refine PL.skip rfl rfl rfl ?_
        refine PL.skip rfl rfl rfl ?_
        refine PL.q rfl rfl ((by first | exact OQ.pickT rfl rfl | exact OQ.pickF rfl rfl)) rfl ?_
        refine PL.to ?_
        refine CD.condF rfl ?_
        exact CD.skip fun a ha => ⟨(vo, true), ha.sub ⟨rfl, rfl, rfl, rfl, rfl, rfl, trivial⟩, hx1, hc, ho, rfl⟩
      | false =>
        refine PL.q rfl rfl (OQ.move rfl) rfl ?_
        refine PL.q rfl rfl (OQ.not rfl) rfl ?_
        refine PL.q rfl rfl (OQ.move rfl) rfl ?_
        refine PL.q rfl rfl (OQ.move rfl) rfl ?_
        refine PL.q rfl rfl (OQ.move rfl) rfl ?_
        refine PL.q rfl rfl (OQ.indexAddr rfl rfl (by first | assumption | omega)) rfl ?_
        refine PL.q rfl rfl (OQ.field rfl) rfl ?_
        refine PL.q rfl rfl (OQ.loadS rfl (by assumption)) rfl ?_
        refine PL.q rfl rfl (OQ.move rfl) rfl ?_
        refine PL.q rfl rfl (OQ.sgeq rfl rfl) rfl ?_
        refine PL.q rfl rfl ((by first | exact OQ.pickT rfl rfl | exact OQ.pickF rfl rfl)) rfl ?_
        refine PL.to ?_
        refine CD.cond (b := ge l[i].1 k) rfl (fun h5 => ?_) (fun h5 => ?_)
        · rw [ge_eq] at h5
          refine CD.rs FW.wide rfl ?_
          refine PL.q rfl rfl (OQ.move rfl) rfl ?_
          refine PL.q rfl rfl (OQ.move rfl) rfl ?_
          refine PL.q rfl rfl (OQ.move rfl) rfl ?_
          refine PL.q rfl rfl ((by first | exact OQ.build1 rfl rfl | exact OQ.buildC rfl rfl)) rfl ?_
          refine PL.slice1 FW.wide rfl rfl rfl rfl rfl rfl ?_
          intro b5 w5 new5
          have hs1 := hx1.size
          have hs5 := new5.ext.size
          refine PL.app (pC (k, v)) FW.wide rfl rfl rfl rfl rfl (ho.cext new5.ext.cext) (CellsAt.of_heap new5.heap) rfl rfl (by decide) (by omega) (by omega) (by omega) (fun _ _ => .inl trivial) ?_
          intro v' w7 ho7 hg7 _
          refine PL.q rfl rfl (OQ.assign rfl) rfl ?_
          refine PL.to ?_
          refine CD.r FW.wide rfl ?_
          refine PL.q rfl rfl (OQ.assign rfl) rfl ?_
          have hx7 : Ext w w7 := (hx1.trans new5.ext).trans' (S := (· < w.heap.size)) (grown_bl hg7 fun k hk => ⟨by omega, fun e => by have := (World.ownsRow.lt ho k e).1; omega⟩) (fun _ h => h)
          have hc7 : CellsAt w7 b (o + i * 2) (pC l[i]) := by
            obtain ⟨b', o', e', hc', _⟩ := (h.ext hx7) i hlt
            obtain ⟨rfl, rfl⟩ : b = b' ∧ o = o' := by simpa using e'
            exact hc'
          have eh : highs lt k (l.take i) = [] := highs_none fun e he => lo.asy (hd0 rfl e he)
          have eo : outP k v (l.take i) true = outP k v (l.take i) false ++ [(k, v)] := by simp [outP, eh]
          exact PL.nil fun a ha => ⟨(v', true), ha.sub ⟨rfl, rfl, rfl, rfl, rfl, rfl, trivial⟩, hx7, hc7, by rw [eo]; exact OA.snoc ho7, by rw [h5]; rfl⟩
        · rw [ge_eq] at h5
          exact CD.skip fun a ha => ⟨(vo, false), ha.sub ⟨rfl, rfl, rfl, rfl, rfl, rfl, trivial⟩, hx1, hc, ho, by rw [h5]; rfl⟩
    rintro ⟨v2, d2⟩ w2 ⟨hx2, hc2, ho2, hd2⟩
    simp only at hc2 ho2 hd2
    have c02 : w2.cell? ⟨b, o + i * 2 + 0, none⟩ = some (kv l[i].1) := hc2 0 _ rfl
    have el : lows lt k (l.take (i + 1)) = lows lt k (l.take i) ++ (if lt l[i].1 k then [l[i]] else []) := by
      rw [List.take_succ_eq_append_getElem hlt, lows, lows, List.filter_append, List.filter_cons]; rfl
    have eh : highs lt k (l.take (i + 1)) = highs lt k (l.take i) ++ (if lt k l[i].1 then [l[i]] else []) := by
      rw [List.take_succ_eq_append_getElem hlt, highs, highs, List.filter_append, List.filter_cons]; rfl
    have etk := List.take_succ_eq_append_getElem hlt
    have hmem : l[i] ∈ l.take (i + 1) := by rw [etk]; exact List.mem_append_right _ (List.mem_singleton.2 rfl)
    have hsub : ∀ e ∈ l.take i, e ∈ l.take (i + 1) := fun e he => by rw [etk]; exact List.mem_append_left _ he
    have hdone : lt l[i].1 k = true → done = false := fun hl => by
      cases hd : done with
      | false => rfl
      | true =>
        obtain ⟨e, he, hek⟩ := hd1 hd
        obtain ⟨j, hj, rfl⟩ := List.getElem_of_mem he
        simp only [List.length_take] at hj
        have hr := List.pairwise_iff_getElem.1 hs j i (by omega) hlt (by omega)
        rw [List.getElem_take] at hek
        rw [lo.tr _ _ _ hr hl] at hek
        cases hek
    have hol2 := outP_len k v (l.take i) d2
    simp only [List.length_take] at hol2
    have inv0 : d2 = false → ∀ e ∈ l.take (i + 1), lt e.1 k = true := fun hd e he => by
      rw [hd] at hd2
      rw [eq_comm, Bool.or_eq_false_iff] at hd2
      rw [List.take_succ_eq_append_getElem hlt] at he
      rcases List.mem_append.1 he with he | he
      · exact hd0 hd2.1 e he
      · obtain rfl : e = l[i] := by simpa using he
        simpa using hd2.2
    have inv1 : d2 = true → ∃ e ∈ l.take (i + 1), lt e.1 k = false := fun hd => by
      rw [hd] at hd2
      rw [eq_comm, Bool.or_eq_true] at hd2
      rcases hd2 with hd2 | hd2
      · obtain ⟨e, he, hek⟩ := hd1 hd2; exact ⟨e, hsub e he, hek⟩
      · exact ⟨l[i], hmem, by simpa using hd2⟩
    refine CD.rs FW.wide rfl ?_
    refine PL.q rfl rfl (OQ.move rfl) rfl ?_
    refine PL.q rfl rfl (OQ.move rfl) rfl ?_
    refine PL.q rfl rfl (OQ.indexAddr rfl rfl (by first | assumption | omega)) rfl ?_
    refine PL.q rfl rfl (OQ.field rfl) rfl ?_
    refine PL.q rfl rfl (OQ.loadS rfl (by assumption)) rfl ?_
    refine PL.q rfl rfl (OQ.move rfl) rfl ?_
    refine PL.q rfl rfl (OQ.sneq rfl rfl) rfl ?_
    refine PL.to ?_
    refine CD.cond (b := ne l[i].1 k) rfl (fun h5 => ?_) (fun h5 => ?_)
    · rw [ne_eq] at h5
      have eo : outP k v (l.take (i + 1)) d2 = outP k v (l.take i) d2 ++ [l[i]] := by
        rw [outP, outP, el, eh]
        cases c1 : lt l[i].1 k with
        | true =>
          have := hdone c1
          rw [this, c1] at hd2
          obtain rfl : d2 = false := hd2
          simp
        | false =>
          rw [c1, Bool.false_or] at h5
          rw [c1] at hd2
          obtain rfl : d2 = true := by rw [hd2]; simp
          simp [h5]
      refine CD.r FW.wide rfl ?_
      refine PL.q rfl rfl (OQ.move rfl) rfl ?_
      refine PL.q rfl rfl (OQ.move rfl) rfl ?_
      refine PL.q rfl rfl (OQ.move rfl) rfl ?_
      refine PL.q rfl rfl (OQ.indexAddr rfl rfl (by first | assumption | omega)) rfl ?_
      refine PL.q rfl rfl (OQ.loadAS (cs := pC l[i]) rfl rfl hc2) rfl ?_
      refine PL.slice1 FW.wide rfl rfl rfl rfl rfl rfl ?_
      intro b5 w5 new5
      have hs1 := hx2.size
      have hs5 := new5.ext.size
      refine PL.app (pC l[i]) FW.wide rfl rfl rfl rfl rfl (ho2.cext new5.ext.cext) (CellsAt.of_heap new5.heap) rfl rfl (by decide) (by omega) (by omega) (by omega) (fun _ _ => .inl trivial) ?_
      intro v' w7 ho7 hg7 _
      refine PL.q rfl rfl (OQ.assign rfl) rfl ?_
      refine PL.nil ?_
      refine CD.r FW.wide rfl ?_
      refine PL.q rfl rfl (OQ.move rfl) rfl ?_
      refine PL.q rfl rfl (OQ.addW (r := ((i + 1 : Nat) : Int)) rfl rfl (wrap_succ (by omega))) rfl ?_
      refine PL.q rfl rfl (OQ.assign rfl) rfl ?_
      refine PL.nil ?_
      have hx7 : Ext w w7 := (hx2.trans new5.ext).trans' (S := (· < w.heap.size)) (grown_bl hg7 fun k hk => ⟨by omega, fun e => by have := (World.ownsRow.lt ho2 k e).1; omega⟩) (fun _ h => h)
      exact fun a ha => ⟨(i + 1, v', d2), ha.sub ⟨rfl, rfl, rfl, rfl, rfl, rfl, trivial⟩, ⟨hx7, by simp only; omega, by simp only; rw [eo]; exact OA.snoc ho7, inv0, inv1⟩, by simp only; omega⟩
    · rw [ne_eq, Bool.or_eq_false_iff] at h5
      have eo : outP k v (l.take (i + 1)) d2 = outP k v (l.take i) d2 := by
        rw [outP, outP, el, eh, h5.1, h5.2]; simp
      refine CD.skip ?_
      refine CD.r FW.wide rfl ?_
      refine PL.q rfl rfl (OQ.move rfl) rfl ?_
      refine PL.q rfl rfl (OQ.addW (r := ((i + 1 : Nat) : Int)) rfl rfl (wrap_succ (by omega))) rfl ?_
      refine PL.q rfl rfl (OQ.assign rfl) rfl ?_
      refine PL.nil ?_
      exact fun a ha => ⟨(i + 1, v2, d2), ha.sub ⟨rfl, rfl, rfl, rfl, rfl, rfl, trivial⟩, ⟨hx2, by simp only; omega, by simp only; rw [eo]; exact ho2, inv0, inv1⟩, by simp only; omega⟩
  · refine CD.exit ?_
    obtain rfl : i = l.length := by omega
    rw [List.take_length] at ho hd0
    have hol := outP_len k v l done
    refine CD.seq ?_
    refine CD.rs FW.wide rfl ?_
    refine PL.q rfl rfl (OQ.move rfl) rfl ?_
    refine PL.q rfl rfl (OQ.not rfl) rfl ?_
    refine PL.to ?_
    refine CD.cond (b := !done) rfl (fun h5 => ?_) (fun h5 => ?_)
    · obtain rfl : done = false := by simpa using h5
      have eh : highs lt k l = [] := highs_none fun e he => lo.asy (hd0 rfl e he)
      have eo : ins lt k v l = outP k v l false ++ [(k, v)] := by simp [outP, ins, eh]
      refine CD.r FW.wide rfl ?_
      refine PL.q rfl rfl (OQ.move rfl) rfl ?_
      refine PL.q rfl rfl (OQ.move rfl) rfl ?_
      refine PL.q rfl rfl (OQ.move rfl) rfl ?_
      refine PL.q rfl rfl ((by first | exact OQ.build1 rfl rfl | exact OQ.buildC rfl rfl)) rfl ?_
      refine PL.slice1 FW.wide rfl rfl rfl rfl rfl rfl ?_
      intro b5 w5 new5
      have hs1 := hx1.size
      have hs5 := new5.ext.size
      refine PL.app (pC (k, v)) FW.wide rfl rfl rfl rfl rfl (ho.cext new5.ext.cext) (CellsAt.of_heap new5.heap) rfl rfl (by decide) (by omega) (by omega) (by omega) (fun _ _ => .inl trivial) ?_
      intro v' w7 ho7 hg7 _
      refine PL.q rfl rfl (OQ.assign rfl) rfl ?_
      refine PL.nil ?_
      have hx7 : Ext w w7 := (hx1.trans new5.ext).trans' (S := (· < w.heap.size)) (grown_bl hg7 fun k hk => ⟨by omega, fun e => by have := (World.ownsRow.lt ho k e).1; omega⟩) (fun _ h => h)
      refine CD.rs FW.wide rfl ?_
      refine PL.q rfl rfl (OQ.move rfl) rfl ?_
      refine PL.q rfl rfl (OQ.assign rfl) rfl ?_
      refine PL.to ?_
      exact CD.ret (post1 rfl rfl ⟨_, rfl, hx7, by rw [eo]; exact OA.snoc ho7⟩)
    · obtain rfl : done = true := by simpa using h5
      refine CD.skip ?_
      refine CD.rs FW.wide rfl ?_
      refine PL.q rfl rfl (OQ.move rfl) rfl ?_
      refine PL.q rfl rfl (OQ.assign rfl) rfl ?_
      refine PL.to ?_
      exact CD.ret (post1 rfl rfl ⟨_, rfl, hx1, ho⟩)

def joinL (l l2 : Ents ByteArray) : Ents ByteArray := l2.foldl (fun a x => ins lt x.1 x.2 a) l
theorem fJoin_w (a a2 : Option Addr) (c c2 : Nat) (l l2 : Ents ByteArray) (w : World) (h : PA w a l) (hc : l.length ≤ c) (h2 : PA w a2 l2) (hs : Srt lt l) (hn : l.length + l2.length ≤ 1000000) :
    Rt Try.prog 109 [.slice a l.length c, .slice a2 l2.length c2] w fun x w' => ∃ a' c', x = .slice a' (joinL l l2).length c' ∧ PA w' a' (joinL l l2) ∧ (joinL l l2).length ≤ c' := by
  refine Rt.of Try.func109 rfl Try.ntmps109 (by rfl) ?_
  refine CD.rs FW.wide rfl ?_
  refine PL.q rfl rfl (OQ.assign rfl) rfl ?_
  refine PL.to ?_
  refine CD.rs FW.wide rfl ?_
  refine PL.q rfl rfl (OQ.move rfl) rfl ?_
  refine PL.q rfl rfl (OQ.assign rfl) rfl ?_
  refine PL.to ?_
  refine CD.seq ?_
  refine CD.rs FW.wide rfl ?_
  refine PL.q rfl rfl (OQ.assign rfl) rfl ?_
  refine PL.to ?_
  refine CD.block ?_
  refine CD.loop (α := Nat × Option Addr × Nat) (fun s => [(1, .slice a2 l2.length c2), (5, .slice s.2.1 (joinL l (l2.take s.1)).length s.2.2), (6, .int .i64 s.1)])
    (fun s w' => Ext w w' ∧ s.1 ≤ l2.length ∧ PA w' s.2.1 (joinL l (l2.take s.1)) ∧ (joinL l (l2.take s.1)).length ≤ s.2.2 ∧ (joinL l (l2.take s.1)).length ≤ l.length + s.1 ∧ Srt lt (joinL l (l2.take s.1))) (fun s => l2.length - s.1) (0, a, c) ⟨rfl, rfl, rfl, trivial⟩ ⟨Ext.refl _, by simp, h, hc, by simp [joinL], hs⟩ ?_
  rintro ⟨i, ai, ci⟩ w1 ⟨hx1, hi, hp, hpc, hpn, hps⟩
  simp only at hi hp hpc hpn hps
  refine CD.seq ?_
  refine CD.rs FW.wide rfl ?_
  refine PL.q rfl rfl (OQ.move rfl) rfl ?_
  refine PL.q rfl rfl (OQ.move rfl) rfl ?_
  refine PL.q rfl rfl (OQ.lenS rfl) rfl ?_
  refine PL.q rfl rfl (OQ.lss rfl rfl) rfl ?_
  refine PL.to ?_
  refine CD.condD rfl (fun h3 => ?_) (fun h3 => ?_)
  · have hlt : i < l2.length := by omega
    have et : joinL l (l2.take (i + 1)) = ins lt l2[i].1 l2[i].2 (joinL l (l2.take i)) := by
      rw [List.take_succ_eq_append_getElem hlt, joinL, List.foldl_append]; rfl
    refine CD.skip ?_
    refine CD.seq ?_
    refine CD.block ?_
    refine CD.a .ext trivial FW.wide (by kernel_rfl) [(0, true), (1, true), (2, true), (3, true), (4, true), (5, true), (6, true), (7, true), (8, true), (9, true), (10, true), (11, false), (12, true)] (by kernel_rfl) rfl (by kernel_rfl) ?_
    intro w2 hx2 _
    obtain ⟨b, o, rfl, hcl, _⟩ := (h2.ext (hx1.trans hx2)) i hlt
    have c0 : w2.cell? ⟨b, o + i * 2 + 0, none⟩ = some (kv l2[i].1) := hcl 0 _ rfl
    have c1 : w2.cell? ⟨b, o + i * 2 + 1, none⟩ = some (.int .i64 l2[i].2) := hcl 1 _ rfl
    refine PL.q rfl rfl (OQ.move rfl) rfl ?_
    refine PL.q rfl rfl (OQ.move rfl) rfl ?_
    refine PL.q rfl rfl (OQ.move rfl) rfl ?_
    refine PL.q rfl rfl (OQ.indexAddr rfl rfl (by first | assumption | omega)) rfl ?_
    refine PL.q rfl rfl (OQ.field rfl) rfl ?_
    refine PL.q rfl rfl (OQ.loadX rfl (by assumption)) rfl ?_
    refine PL.q rfl rfl (OQ.move rfl) rfl ?_
    refine PL.q rfl rfl (OQ.move rfl) rfl ?_
    refine PL.q rfl rfl (OQ.indexAddr rfl rfl (by first | assumption | omega)) rfl ?_
    refine PL.q rfl rfl (OQ.field rfl) rfl ?_
    refine PL.q rfl rfl (OQ.loadX rfl (by assumption)) rfl ?_
    refine PL.call FW.wide rfl rfl rfl rfl (fPut_w ai ci (joinL l (l2.take i)) l2[i].1 l2[i].2 w2 (hp.ext hx2) hps (by omega)) ?_
    rintro _ w3 hx3 hoa
    obtain ⟨a', c', rfl, hp', hc'⟩ := OA.out hoa
    refine PL.q rfl rfl (OQ.assign rfl) rfl ?_
    refine PL.nil ?_
    refine CD.r FW.wide rfl ?_
    refine PL.q rfl rfl (OQ.move rfl) rfl ?_
    refine PL.q rfl rfl (OQ.addW (r := ((i + 1 : Nat) : Int)) rfl rfl (wrap_succ (by omega))) rfl ?_
    refine PL.q rfl rfl (OQ.assign rfl) rfl ?_
    refine PL.nil ?_
    have hli := length_ins lo l2[i].1 l2[i].2 (joinL l (l2.take i))
    have hsi := srt_ins lo l2[i].1 l2[i].2 hps
    rw [← et] at hp' hc' hli hsi
    refine fun a ha => ⟨(i + 1, a', c'), ha.sub ⟨rfl, by rw [← et]; rfl, rfl, trivial⟩, ⟨(hx1.trans hx2).trans hx3, by simp only; omega, hp', hc', by simp only; omega, hsi⟩, by simp only; omega⟩
  · refine CD.exit ?_
    obtain rfl : i = l2.length := by omega
    rw [List.take_length] at hp hpc
    refine CD.rs FW.wide rfl ?_
    refine PL.q rfl rfl (OQ.move rfl) rfl ?_
    refine PL.q rfl rfl (OQ.assign rfl) rfl ?_
    refine PL.to ?_
    exact CD.ret (post1 rfl rfl ⟨_, rfl, hx1, ai, ci, by rw [List.take_length], hp, hpc⟩)
end Go.Proofs.Ytdielcpjemkngaa.OS
