/-
  The walk of the law OrderBook.
-/
import Derived.Test.YtdielcpjemkngaaLo
import Derived.Test.YtdielcpjemkngaaLal
namespace Go.Proofs.Ytdielcpjemkngaa
open Go.RowKit OI
set_option linter.unusedVariables false

def offB (k : Nat) : Nat := if k = 0 then 0 else if k = 1 then 1 else if k = 2 then 2 else if k = 3 then 3 else 96
def mkB (r : Nat) : Int := -1000 - (r : Int)
theorem replicate_range (k : Nat) (x : Int) : (List.range k).map (fun _ => Value.int .i64 x) = List.replicate k (.int .i64 x) := by
  apply List.ext_getElem
  · simp
  · intro i h1 h2; simp
theorem Own.ne_of_base {w : World} {B k sz : Nat} {e : TypeId} {v : Value} {xs : List Value} (h : Own w B e sz v k xs) {g : Nat} (hg : g < B) : v.ownBlock ≠ some g := fun e => by
  have := (World.ownsRow.lt h g e).1; omega

theorem book_w (a a' : Option Addr) (c c' : Nat) (z z' : List Int) (w : World) (h : IntsAt w .i64 a z) (h' : IntsAt w .i64 a' z') (hz : z.length + z'.length ≤ 1048576) :
    Rt Try.prog 4 [.slice a z.length c, .slice a' z'.length c'] w fun v _ => v = .bool true := by
  refine Rt.of Try.func4 rfl Try.ntmps4 (by rfl) ?_
  refine CD.rs FW.wide rfl ?_
  refine PL.q rfl rfl (OQ.assign rfl) rfl ?_
  refine PL.to ?_
  refine CD.rs FW.wide rfl ?_
  refine PL.q rfl rfl (OQ.move rfl) rfl ?_
  refine PL.call FW.wide rfl rfl rfl rfl (made_w a c z w h (by omega)) ?_
  rintro _ w18 hx18 ⟨m0, rfl, hm0⟩
  refine PL.q rfl rfl (OQ.assign rfl) rfl ?_
  refine PL.to ?_
  refine CD.seq ?_
  refine CD.rs FW.wide rfl ?_
  refine PL.q rfl rfl (OQ.move rfl) rfl ?_
  refine PL.q rfl rfl ((by first | exact OQ.eqNN rfl rfl | exact OQ.eqNS rfl rfl | exact OQ.eqN rfl rfl)) rfl ?_
  refine PL.to ?_
  refine CD.condF rfl ?_
  refine CD.skip ?_
  refine CD.rs FW.wide rfl ?_
  refine PL.q rfl rfl (OQ.move rfl) rfl ?_
  have zM := made_size z
  have sM := made_srt z
  refine PL.call FW.wide rfl rfl rfl rfl (Put_w m0 9 9 (madeT z) w18 hm0 (by omega)) ?_
  rintro _ w22 hx22 ⟨m, rfl, hm⟩
  have hst : Srt lt ((madeT z).put lt 9 9).toL := by rw [toL_put 9 9 _ sM]; exact srt_ins lo _ _ sM
  have ht1 : 1 ≤ ((madeT z).put lt 9 9).size := by
    have : ((madeT z).put lt 9 9).toL ≠ [] := by rw [toL_put 9 9 _ sM]; exact ins_ne_nil _ _ _
    have := List.length_pos_iff.2 this
    rw [Tr.length_toL] at this; omega
  have ht2 : ((madeT z).put lt 9 9).size ≤ 1048577 := by
    have := Tr.size_put lt 9 9 (madeT z); omega
  generalize (madeT z).put lt 9 9 = t at *
  obtain ⟨n, hn⟩ : ∃ n, t.size = n := ⟨_, rfl⟩
  have hkl : (keysL t).length = n := by rw [length_keysL, hn]
  refine PL.q rfl rfl (OQ.assign rfl) rfl ?_
  refine PL.to ?_
  refine CD.seq ?_
  refine CD.rs FW.wide rfl ?_
  refine PL.q rfl rfl (OQ.move rfl) rfl ?_
  refine PL.q rfl rfl ((by first | exact OQ.eqNN rfl rfl | exact OQ.eqNS rfl rfl | exact OQ.eqN rfl rfl)) rfl ?_
  refine PL.q rfl rfl (OQ.move rfl) rfl ?_
  refine PL.q rfl rfl (OQ.move rfl) rfl ?_
  refine PL.call FW.wide rfl rfl rfl rfl (Len_w m _ w22 hm) ?_
  rintro _ _ _ ⟨rfl, rfl⟩
  refine PL.q rfl rfl (OQ.no (OQ.lss rfl rfl) (by simp only [decide_eq_false_iff_not]; omega)) rfl ?_
  refine PL.q rfl rfl ((by first | exact OQ.pickT rfl rfl | exact OQ.pickF rfl rfl)) rfl ?_
  refine PL.q rfl rfl (OQ.move rfl) rfl ?_
  refine PL.q rfl rfl (OQ.move rfl) rfl ?_
  refine PL.call FW.wide rfl rfl rfl rfl (goes_w m w22) ?_
  rintro _ w32 hx32 rfl
  refine PL.q rfl rfl (OQ.not rfl) rfl ?_
  refine PL.q rfl rfl ((by first | exact OQ.pickT rfl rfl | exact OQ.pickF rfl rfl)) rfl ?_
  refine PL.to ?_
  refine CD.condF rfl ?_
  refine CD.skip ?_
  refine CD.rs FW.wide rfl ?_
  refine PL.q rfl rfl (OQ.move rfl) rfl ?_
  refine PL.call FW.wide rfl rfl rfl rfl (snap_w m t w32 (hm.ext hx32) hst (by omega)) ?_
  rintro _ w37 hx37 ⟨ak, ck, av, cv, rfl, ok1, ok2⟩
  rw [hn]
  refine PL.q rfl rfl (OQ.move rfl) rfl ?_
  refine PL.q rfl rfl (OQ.extract rfl rfl) rfl ?_
  refine PL.q rfl rfl (OQ.extract rfl rfl) rfl ?_
  refine PL.alloc FW.wide rfl rfl rfl ?_
  intro b6 w6 new6
  have i6 := new6.idx; have l6 := new6.lt
  refine PL.put FW.wide rfl rfl rfl rfl rfl new6.heap rfl rfl rfl rfl (fun _ _ => .inl trivial) ?_
  intro w0 hw0
  refine PL.q rfl rfl (OQ.assign rfl) rfl ?_
  have hx370 : Ext w37 w0 := hw0.ext new6.ext (by omega)
  have hxw0 : Ext w w0 := ((hx18.trans hx22).trans hx32).trans (hx37.trans hx370)
  have hm0 : MapAt w0 m t := (hm.ext hx32).ext (hx37.trans hx370)
  have hk0 : IntsAt w0 .i64 ak (keysL t) := (own_ints ok1).ext hx370
  have hv0 : IntsAt w0 .i64 av (valsL t) := (own_ints ok2).ext hx370
  have h06 : w0.heap[b6]? = some (.cells #[ptr m, .slice ak n ck, .slice av n cv] 41 (0, 0)) := hw0.heap
  have st : ∀ V, Ext w0 V → V.cell? ⟨b6, 1, none⟩ = some (.slice ak n ck) := fun V hV => cell_of_heap (hV.heap h06) rfl
  refine PL.to ?_
  refine CD.seq ?_
  refine CD.rs FW.wide rfl ?_
  refine PL.q rfl rfl (OQ.move rfl) rfl ?_
  refine PL.q rfl rfl (OQ.not rfl) rfl ?_
  refine PL.to ?_
  refine CD.condF rfl ?_
  refine CD.skip ?_
  refine CD.rs FW.wide rfl ?_
  refine PL.q rfl rfl (OQ.assign rfl) rfl ?_
  refine PL.to ?_
  refine CD.rs FW.wide rfl ?_
  refine PL.q rfl rfl (OQ.assign rfl) rfl ?_
  refine PL.to ?_
  refine CD.seq ?_
  refine CD.rs FW.wide rfl ?_
  refine PL.q rfl rfl (OQ.assign rfl) rfl ?_
  refine PL.to ?_
  refine CD.block ?_
  refine CD.loop (α := Nat × Option Addr × Nat × (Nat → Value) × Option Addr × Nat) (fun s => [(1, .slice a' z'.length c'), (5, ptr m), (6, .pointer (some ⟨b6, 0, none⟩)), (8, .slice s.2.1 (5 * s.1) s.2.2.1), (9, .slice s.2.2.2.2.1 s.1 s.2.2.2.2.2), (10, .int .i64 (s.1 : Nat))])
    (fun s W => Ext w0 W ∧ s.1 ≤ z'.length ∧ Own W w0.heap.size 22 1 (.slice s.2.1 (5 * s.1) s.2.2.1) (5 * s.1) ((List.range (5 * s.1)).map s.2.2.2.1) ∧ Own W w0.heap.size 3 1 (.slice s.2.2.2.2.1 s.1 s.2.2.2.2.2) s.1 ((List.range s.1).map fun q => .int .i64 (mkB q)) ∧
      ∀ k, k < 5 * s.1 → ∃ g, w0.heap.size ≤ g ∧ Row W g (s.2.2.2.1 k) (n + offB (k % 5)) (fun _ => mkB (k / 5)) ∧ (Value.slice s.2.2.2.2.1 s.1 s.2.2.2.2.2).ownBlock ≠ some g)
    (fun s => z'.length - s.1) (0, none, 0, fun _ => undef, none, 0) ⟨rfl, rfl, rfl, rfl, rfl, rfl, trivial⟩ ⟨Ext.refl _, by simp, ⟨rfl, .inl ⟨rfl, rfl⟩⟩, ⟨rfl, .inl ⟨rfl, rfl⟩⟩, fun j hj => absurd hj (by simp)⟩ ?_
  rintro ⟨r, a8, c8, vs, a9, c9⟩ W ⟨hx, hr, own8, own9, rows⟩
  simp only at hr own8 own9 rows
  refine CD.seq ?_
  refine CD.rs FW.wide rfl ?_
  refine PL.q rfl rfl (OQ.move rfl) rfl ?_
  refine PL.q rfl rfl (OQ.move rfl) rfl ?_
  refine PL.q rfl rfl (OQ.lenS rfl) rfl ?_
  refine PL.q rfl rfl (OQ.lss rfl rfl) rfl ?_
  refine PL.to ?_
  refine CD.condD rfl (fun h13 => ?_) (fun h13 => ?_)
  · refine CD.skip ?_
    refine CD.seq ?_
    refine CD.block ?_
    refine CD.rs FW.wide rfl ?_
    refine PL.q rfl rfl (OQ.move rfl) rfl ?_
    refine PL.call FW.wide rfl rfl rfl rfl (Keys_w m t W (hm0.ext hx) (by omega)) ?_
    rintro _ W1 hx1 own1
    rw [hn, keysV_eq] at own1
    obtain ⟨gl, hgl, row1⟩ := Row.of_own own1 (by omega)
    obtain ⟨cl, rfl⟩ := row1.form
    refine PL.q rfl rfl (OQ.assign rfl) rfl ?_
    have s1 := st W1 (hx.trans hx1)
    refine PL.to ?_
    refine CD.seq ?_
    refine CD.rs FW.wide rfl ?_
    refine PL.q rfl rfl (OQ.move rfl) rfl ?_
    refine PL.q rfl rfl ((by first | exact OQ.field0 rfl | exact OQ.field rfl)) rfl ?_
    refine PL.q rfl rfl (OQ.loadS rfl (by assumption)) rfl ?_
    have hcall := sameInts_w (some ⟨gl, 0, none⟩) ak cl ck (keysL t) (keysL t) W1 (own_ints own1) (hk0.ext (hx.trans hx1)) (by omega)
    rw [hkl] at hcall
    refine PL.call FW.wide rfl rfl rfl rfl hcall ?_
    rintro _ W2 hx2 rfl
    refine PL.q rfl rfl (OQ.no (OQ.not rfl) (by simp)) rfl ?_
    refine PL.to ?_
    refine CD.condF rfl ?_
    refine CD.skip ?_
    refine CD.rs FW.wide rfl ?_
    refine PL.q rfl rfl (OQ.move rfl) rfl ?_
    refine PL.q rfl rfl (OQ.subW (r := mkB r) rfl rfl (by rw [i64W _ (by omega) (by omega)]; rfl)) rfl ?_
    refine PL.q rfl rfl (OQ.assign rfl) rfl ?_
    refine PL.to ?_
    refine CD.seq ?_
    refine CD.rs FW.wide rfl ?_
    refine PL.q rfl rfl (OQ.assign rfl) rfl ?_
    refine PL.to ?_
    refine CD.block ?_
    have hx02 := (hx.trans hx1).trans hx2
    have hxW2 := hx1.trans hx2
    obtain ⟨BW, hBW⟩ : ∃ BW, W.heap.size = BW := ⟨_, rfl⟩
    have hglW : BW ≤ gl := by omega
    have B0W : w0.heap.size ≤ BW := by have := hx.size; omega
    refine CD.loop (α := Nat) (fun s => [(1, .slice a' z'.length c'), (5, ptr m), (6, .pointer (some ⟨b6, 0, none⟩)), (8, .slice a8 (5 * r) c8), (9, .slice a9 r c9), (10, .int .i64 (r : Nat)), (11, .slice (some ⟨gl, 0, none⟩) n cl), (12, .int .i64 (mkB r)), (13, .int .i64 (s : Nat))])
      (fun s U => Bl (· < BW) W U ∧ s ≤ n ∧ Row U gl (.slice (some ⟨gl, 0, none⟩) n cl) n (fun q => if q < s then mkB r else (keysL t).getD q 0))
      (fun s => n - s) 0 ⟨rfl, rfl, rfl, rfl, rfl, rfl, rfl, rfl, rfl, trivial⟩ ⟨hxW2.bl (fun k hk => by omega), by simp, (row1.ext hx2).congr fun q _ => by simp⟩ ?_
    rintro q U ⟨hbU, hq, rowU⟩
    refine CD.seq ?_
    refine CD.rs FW.wide rfl ?_
    refine PL.q rfl rfl (OQ.move rfl) rfl ?_
    refine PL.q rfl rfl (OQ.move rfl) rfl ?_
    refine PL.q rfl rfl (OQ.lenS rfl) rfl ?_
    refine PL.q rfl rfl (OQ.lss rfl rfl) rfl ?_
    refine PL.to ?_
    refine CD.condD rfl (fun h20 => ?_) (fun h20 => ?_)
    · refine CD.skip ?_
      refine CD.seq ?_
      refine CD.block ?_
      refine CD.r FW.wide rfl ?_
      refine PL.q rfl rfl (OQ.move rfl) rfl ?_
      refine PL.q rfl rfl (OQ.move rfl) rfl ?_
      refine PL.q rfl rfl (OQ.move rfl) rfl ?_
      refine PL.q rfl rfl (OQ.indexAddr rfl rfl (by first | assumption | omega)) rfl ?_
      refine PL.setR FW.wide rfl rfl rfl rfl rfl rowU (by omega) (fun _ _ => .inl trivial) ?_
      intro U' rowU' hbU' hkU' hsU'
      refine PL.nil ?_
      refine CD.r FW.wide rfl ?_
      refine PL.q rfl rfl (OQ.move rfl) rfl ?_
      refine PL.q rfl rfl (OQ.addW (r := ((q + 1 : Nat) : Int)) rfl rfl (wrap_succ (by omega))) rfl ?_
      refine PL.q rfl rfl (OQ.assign rfl) rfl ?_
      refine PL.nil ?_
      refine fun a ha => ⟨q + 1, ha.sub ⟨rfl, rfl, rfl, rfl, rfl, rfl, rfl, rfl, rfl, trivial⟩, ⟨hbU.trans (hbU'.mono fun k hk => by omega), by omega, rowU'.congr fun p hp => ?_⟩, by omega⟩
      by_cases e : p = q
      · subst e; simp
      · simp only [if_neg e]
        by_cases e2 : p < q
        · rw [if_pos e2, if_pos (by omega)]
        · rw [if_neg e2, if_neg (by omega)]
    refine CD.exit ?_
    obtain rfl : n = q := by omega
    have rowl : Row U gl (.slice (some ⟨gl, 0, none⟩) n cl) n (fun _ => mkB r) := rowU.congr fun p hp => by rw [if_pos hp]
    clear rowU
    refine CD.rs FW.wide rfl ?_
    refine PL.q rfl rfl (OQ.assign rfl) rfl ?_
    refine PL.to ?_
    refine CD.seq ?_
    refine CD.block ?_
    obtain ⟨Bm, hBm⟩ : ∃ Bm, U.heap.size = Bm := ⟨_, rfl⟩
    have hglm : gl < Bm := by have := rowl.lt; omega
    refine CD.loop (α := Nat × Option Addr × Nat) (fun s => [(1, .slice a' z'.length c'), (5, ptr m), (6, .pointer (some ⟨b6, 0, none⟩)), (8, .slice a8 (5 * r) c8), (9, .slice a9 r c9), (10, .int .i64 (r : Nat)), (11, .slice (some ⟨gl, 0, none⟩) n cl), (12, .int .i64 (mkB r)), (14, .slice s.2.1 s.1 s.2.2)])
      (fun s X => Bl (· < BW) W X ∧ s.1 ≤ 96 ∧ Bm ≤ X.heap.size ∧ Row X gl (.slice (some ⟨gl, 0, none⟩) n cl) n (fun _ => mkB r) ∧ Own X Bm 3 1 (.slice s.2.1 s.1 s.2.2) s.1 ((List.range s.1).map fun _ => .int .i64 (mkB r)))
      (fun s => 96 - s.1) (0, none, 0) ⟨rfl, rfl, rfl, rfl, rfl, rfl, rfl, rfl, rfl, trivial⟩ ⟨hbU, by simp, by omega, rowl, ⟨rfl, .inl ⟨rfl, rfl⟩⟩⟩ ?_
    rintro ⟨j, am, cm⟩ X ⟨hbX, hj, hBX, rowX, ownX⟩
    simp only at hj ownX
    refine CD.seq ?_
    refine CD.rs FW.wide rfl ?_
    refine PL.q rfl rfl (OQ.move rfl) rfl ?_
    refine PL.q rfl rfl (OQ.lenS rfl) rfl ?_
    refine PL.q rfl rfl (OQ.lss rfl rfl) rfl ?_
    refine PL.to ?_
    refine CD.condD rfl (fun h24 => ?_) (fun h24 => ?_)
    · refine CD.skip ?_
      refine CD.block ?_
      refine CD.rs FW.wide rfl ?_
      refine PL.q rfl rfl (OQ.move rfl) rfl ?_
      refine PL.q rfl rfl (OQ.move rfl) rfl ?_
      refine PL.slice1 FW.wide rfl rfl rfl rfl rfl rfl ?_
      intro b72 X1 new72
      have hx1' := new72.ext
      have ownX1 := ownX.cext hx1'.cext
      have sX1 := hx1'.size
      refine PL.app [.int .i64 (mkB r)] FW.wide rfl rfl rfl rfl rfl ownX1 (CellsAt.of_heap new72.heap) rfl rfl (by decide) (by omega) (by omega) (by omega) (fun _ _ => .inl trivial) ?_
      intro v' X2 ownX2 hg2 _
      have nb := ownX1.ne_of_base hglm
      have rowX2 : Row X2 gl (.slice (some ⟨gl, 0, none⟩) n cl) n (fun _ => mkB r) := (rowX.ext hx1').keep (hg2.block gl (by have := rowX.lt; omega) (fun e => nb e.symm))
      have hbX2 : Bl (· < BW) W X2 := (hbX.trans (hx1'.bl fun k hk => by have := rowX.lt; omega)).trans (grown_bl hg2 fun k hk => ⟨by have := rowX.lt; omega, ownX1.ne_of_base (by omega)⟩)
      have eR : (List.range (j + 1)).map (fun _ => Value.int .i64 (mkB r)) = (List.range j).map (fun _ => Value.int .i64 (mkB r)) ++ [.int .i64 (mkB r)] := by rw [List.range_succ, List.map_append]; rfl
      rw [← eR] at ownX2
      obtain ⟨gm, cm', rfl, hgm, hgm2⟩ : ∃ b c, v' = .slice (some ⟨b, 0, none⟩) (j + 1) c ∧ Bm ≤ b ∧ b < X2.heap.size := by
        rcases ownX2.form with ⟨_, h0⟩ | h
        · omega
        · exact h
      refine PL.q rfl rfl (OQ.assign rfl) rfl ?_
      have sX2 := hg2.size
      refine PL.to ?_
      refine CD.rs FW.wide rfl ?_
      refine PL.q rfl rfl (OQ.move rfl) rfl ?_
      refine PL.q rfl rfl (OQ.move rfl) rfl ?_
      have cm2 : CellsAt X2 gm 0 ((List.range (j + 1)).map fun _ => .int .i64 (mkB r)) := fun p u hp => by
        rw [Nat.zero_add, ownX2.cell (by have := (List.getElem?_eq_some_iff.1 hp).1; simp at this; omega)]; exact hp
      refine PL.appR (fun _ => mkB r) FW.wide rfl rfl rfl rfl rfl rowX2 (by omega) cm2 (by omega) (fun _ _ => trivial) ?_
      intro v3 X3 g3 row3 gr3 hg3
      obtain ⟨c3, rfl⟩ := row3.form
      refine PL.q rfl rfl (OQ.lenS rfl) rfl ?_
      refine PL.q rfl rfl (OQ.move rfl) rfl ?_
      refine PL.q rfl rfl (OQ.lenS rfl) rfl ?_
      refine PL.q rfl rfl (OQ.move rfl) rfl ?_
      refine PL.q rfl rfl (OQ.lenS rfl) rfl ?_
      refine PL.q rfl rfl (OQ.addW (r := ((n + (j + 1) : Nat) : Int)) rfl rfl (by rw [i64W _ (by omega) (by omega)]; omega)) rfl ?_
      refine PL.q rfl rfl (OQ.no (OQ.neq rfl rfl) (by simp)) rfl ?_
      refine PL.to ?_
      refine CD.condF rfl ?_
      refine CD.skip ?_
      refine fun a ha => ⟨(j + 1, some ⟨gm, 0, none⟩, cm'), ha.sub ⟨rfl, rfl, rfl, rfl, rfl, rfl, rfl, rfl, rfl, trivial⟩, ⟨hbX2.trans (gr3.bl fun k hk => ⟨by have := rowX.lt; omega, by omega⟩), by simp only; omega, by have := gr3.size; omega, gr3.same _ _ _ rowX2 (fun _ _ _ _ => rfl), ownX2.keep fun b hb => gr3.block b (World.ownsRow.lt ownX2 b hb).2 (fun e => by have := (World.ownsRow.lt ownX2 b hb).1; omega)⟩, by simp only; omega⟩
    refine CD.exit ?_
    obtain rfl : j = 96 := by omega
    obtain ⟨gm, rfl, hgm, hgm2⟩ : ∃ b, am = some ⟨b, 0, none⟩ ∧ Bm ≤ b ∧ b < X.heap.size := by
      rcases ownX.form with ⟨_, h0⟩ | ⟨b, cc, e, h1, h2⟩
      · omega
      · simp only [Value.slice.injEq] at e; exact ⟨b, e.1, h1, h2⟩
    have rowM : Row X gm (.slice (some ⟨gm, 0, none⟩) 96 cm) 96 (fun _ => mkB r) := by
      obtain ⟨g, _, hr⟩ := Row.of_own (z := (List.range 96).map fun _ => mkB r) (by rw [List.map_map]; exact ownX) (by omega)
      obtain ⟨cc, ec⟩ := hr.form
      simp only [Value.slice.injEq, Option.some.injEq, Addr.mk.injEq] at ec
      obtain ⟨⟨rfl, _⟩, _⟩ := ec
      exact hr.congr fun p hp => by simp [hp]
    clear ownX
    refine CD.rs FW.wide rfl ?_
    refine PL.q rfl rfl (OQ.move rfl) rfl ?_
    refine PL.q rfl rfl (OQ.move rfl) rfl ?_
    refine PL.q rfl rfl (OQ.move rfl) rfl ?_
    refine PL.q rfl rfl (OQ.move rfl) rfl ?_
    refine PL.slice1 FW.wide rfl rfl rfl rfl rfl rfl ?_
    intro b88 X1 new88
    have e1 := new88.ext
    have n9 : ∀ k, k < 5 * r → True := fun _ _ => trivial
    have ltX : ∀ {g2 : Nat} {u : Value} {n2 : Nat} {h2 : Nat → Int}, Row X g2 u n2 h2 → g2 < X.heap.size := fun h => h.lt
    have r0 := rowX.ext e1; have rM1 := rowM.ext e1
    have sz1 := e1.size
    refine PL.appR (fun _ => mkB r) FW.wide rfl rfl rfl rfl rfl r0 (by omega) (CellsAt.of_heap new88.heap) (by omega) (fun _ _ => trivial) ?_
    intro va X2 ga rowA gr2 hga
    replace rowA := rowA.congr (f' := fun _ => mkB r) fun p hp => by simp
    obtain ⟨ca, rfl⟩ := rowA.form
    have r0 := gr2.mark r0; have rM1 := gr2.mark rM1
    have sz2 := gr2.size
    refine PL.q rfl rfl (OQ.move rfl) rfl ?_
    refine PL.q rfl rfl (OQ.move rfl) rfl ?_
    refine PL.q rfl rfl (OQ.move rfl) rfl ?_
    refine PL.sliceN [.int .i64 (mkB r), .int .i64 (mkB r)] FW.wide rfl rfl rfl rfl rfl rfl ?_
    intro b93 X3 new93
    have e3 := new93.ext
    have r0 := r0.ext e3; have rM1 := rM1.ext e3; have rA := rowA.ext e3
    have sz3 := e3.size
    refine PL.appR (fun _ => mkB r) FW.wide rfl rfl rfl rfl rfl r0 (by omega) (CellsAt.of_heap new93.heap) (by omega) (fun _ _ => trivial) ?_
    intro vb X4 gb rowB gr4 hgb
    replace rowB := rowB.congr (f' := fun _ => mkB r) fun p hp => by simp
    obtain ⟨cb, rfl⟩ := rowB.form
    have r0 := gr4.mark r0; have rM1 := gr4.mark rM1; have rA := gr4.mark rA
    have sz4 := gr4.size
    refine PL.q rfl rfl (OQ.move rfl) rfl ?_
    refine PL.q rfl rfl (OQ.move rfl) rfl ?_
    refine PL.q rfl rfl (OQ.move rfl) rfl ?_
    refine PL.q rfl rfl (OQ.move rfl) rfl ?_
    refine PL.sliceN [.int .i64 (mkB r), .int .i64 (mkB r), .int .i64 (mkB r)] FW.wide rfl rfl rfl rfl rfl rfl ?_
    intro b99 X5 new99
    have e5 := new99.ext
    have r0 := r0.ext e5; have rM1 := rM1.ext e5; have rA := rA.ext e5; have rB := rowB.ext e5
    have sz5 := e5.size
    refine PL.appR (fun _ => mkB r) FW.wide rfl rfl rfl rfl rfl r0 (by omega) (CellsAt.of_heap new99.heap) (by omega) (fun _ _ => trivial) ?_
    intro vc X6 gc rowC gr6 hgc
    replace rowC := rowC.congr (f' := fun _ => mkB r) fun p hp => by simp
    obtain ⟨cc, rfl⟩ := rowC.form
    have r0 := gr6.mark r0; have rM1 := gr6.mark rM1; have rA := gr6.mark rA; have rB := gr6.mark rB
    have sz6 := gr6.size
    refine PL.q rfl rfl (OQ.move rfl) rfl ?_
    refine PL.q rfl rfl (OQ.move rfl) rfl ?_
    refine PL.appR (fun _ => mkB r) FW.wide rfl rfl rfl rfl rfl r0 (by omega) rM1.cells (by omega) (fun _ _ => trivial) ?_
    intro vd X7 gd rowD gr7 hgd
    replace rowD := rowD.congr (f' := fun _ => mkB r) fun p hp => by simp
    obtain ⟨cd, rfl⟩ := rowD.form
    have r0 := gr7.mark r0; have rA := gr7.mark rA; have rB := gr7.mark rB; have rC := gr7.mark rowC
    have sz7 := gr7.size
    have bX7 : Bl (· < BW) W X7 := by
      have q := fun (k : Nat) (hk : k < BW) => (by omega : k < gl)
      have lX := rowX.lt
      exact ((((((hbX.trans (e1.bl fun k hk => by omega)).trans (gr2.bl fun k hk => ⟨by omega, by omega⟩)).trans (e3.bl fun k hk => by omega)).trans (gr4.bl fun k hk => ⟨by omega, by omega⟩)).trans (e5.bl fun k hk => by omega)).trans (gr6.bl fun k hk => ⟨by omega, by omega⟩)).trans (gr7.bl fun k hk => ⟨by omega, by omega⟩)
    have lX := rowX.lt
    have gaB : BW ≤ ga := by omega
    have gbB : BW ≤ gb := by omega
    have gcB : BW ≤ gc := by omega
    have gdB : BW ≤ gd := by omega
    refine PL.sliceN [.slice (some ⟨gl, 0, none⟩) n cl, .slice (some ⟨ga, 0, none⟩) (n + 1) ca, .slice (some ⟨gb, 0, none⟩) (n + 2) cb, .slice (some ⟨gc, 0, none⟩) (n + 3) cc, .slice (some ⟨gd, 0, none⟩) (n + 96) cd] FW.wide rfl rfl rfl rfl rfl rfl ?_
    intro b104 X8 new104
    have e8 := new104.ext
    have bX8 := bX7.trans (e8.bl fun k hk => by omega)
    have own8' : Own X8 w0.heap.size 22 1 (.slice a8 (5 * r) c8) (5 * r) ((List.range (5 * r)).map vs) := own8.keep fun b hb => bX8.block b (by have := (World.ownsRow.lt own8 b hb).2; omega)
    have own9' : Own X8 w0.heap.size 3 1 (.slice a9 r c9) r ((List.range r).map fun q => .int .i64 (mkB q)) := own9.keep fun b hb => bX8.block b (by have := (World.ownsRow.lt own9 b hb).2; omega)
    have sz8 := e8.size
    refine PL.app [.slice (some ⟨gl, 0, none⟩) n cl, .slice (some ⟨ga, 0, none⟩) (n + 1) ca, .slice (some ⟨gb, 0, none⟩) (n + 2) cb, .slice (some ⟨gc, 0, none⟩) (n + 3) cc, .slice (some ⟨gd, 0, none⟩) (n + 96) cd] FW.wide rfl rfl rfl rfl rfl own8' (CellsAt.of_heap new104.heap) rfl rfl (by decide) (by omega) (by omega) (by omega) (fun _ _ => .inl trivial) ?_
    intro v8 X9 own8n hg9 _
    have hk9 : KT 22 X8 X9 := grown_kt own8' hg9
    have sz9 := hg9.size
    obtain ⟨a8', c8', rfl⟩ := own8n.asSlice
    refine PL.q rfl rfl (OQ.assign rfl) rfl ?_
    obtain ⟨ws, hws⟩ : ∃ ws : Nat → Value, ws = fun k => if k < 5 * r then vs k else if k = 5 * r then .slice (some ⟨gl, 0, none⟩) n cl else if k = 5 * r + 1 then .slice (some ⟨ga, 0, none⟩) (n + 1) ca else if k = 5 * r + 2 then .slice (some ⟨gb, 0, none⟩) (n + 2) cb else if k = 5 * r + 3 then .slice (some ⟨gc, 0, none⟩) (n + 3) cc else .slice (some ⟨gd, 0, none⟩) (n + 96) cd := ⟨_, rfl⟩
    have eM : (List.range (5 * (r + 1))).map ws = (List.range (5 * r)).map vs ++ [.slice (some ⟨gl, 0, none⟩) n cl, .slice (some ⟨ga, 0, none⟩) (n + 1) ca, .slice (some ⟨gb, 0, none⟩) (n + 2) cb, .slice (some ⟨gc, 0, none⟩) (n + 3) cc, .slice (some ⟨gd, 0, none⟩) (n + 96) cd] := by
      rw [show 5 * (r + 1) = 5 * r + 1 + 1 + 1 + 1 + 1 by omega, List.range_succ, List.range_succ, List.range_succ, List.range_succ, List.range_succ]
      simp only [List.map_append, List.append_assoc, List.map_cons, List.map_nil, List.cons_append, List.nil_append]
      congr 1
      · exact List.map_congr_left fun j hj => by rw [hws]; simp only; rw [if_pos (List.mem_range.1 hj)]
      · have e5 : ∀ (x0 x1 x2 x3 x4 y0 y1 y2 y3 y4 : Value), x0 = y0 → x1 = y1 → x2 = y2 → x3 = y3 → x4 = y4 → [x0, x1, x2, x3, x4] = [y0, y1, y2, y3, y4] := by intros; simp_all
        rw [hws]
        refine e5 _ _ _ _ _ _ _ _ _ _ ?_ ?_ ?_ ?_ ?_
        · simp only; rw [if_neg (by omega), if_pos trivial]
        · simp only; rw [if_neg (by omega), if_neg (by omega), if_pos trivial]
        · simp only; rw [if_neg (by omega), if_neg (by omega), if_neg (by omega), if_pos trivial]
        · simp only; rw [if_neg (by omega), if_neg (by omega), if_neg (by omega), if_neg (by omega), if_pos trivial]
        · simp only; rw [if_neg (by omega), if_neg (by omega), if_neg (by omega), if_neg (by omega), if_neg (by omega)]
    have rows9 : ∀ k, k < 5 * (r + 1) → ∃ g, w0.heap.size ≤ g ∧ Row X9 g (ws k) (n + offB (k % 5)) (fun _ => mkB (k / 5)) ∧ (Value.slice a9 r c9).ownBlock ≠ some g := fun k hk => by
      have nb9 : ∀ g, BW ≤ g → (Value.slice a9 r c9).ownBlock ≠ some g := fun g hg e => by have := (World.ownsRow.lt own9 g e).2; omega
      have up : ∀ {g : Nat} {u : Value} {n2 : Nat} {h2 : Nat → Int}, Row X7 g u n2 h2 → Row X9 g u n2 h2 := fun h => (h.ext e8).kt hk9 (by decide)
      by_cases h0 : k < 5 * r
      · obtain ⟨g, q1, q2, q3⟩ := rows k h0
        refine ⟨g, q1, ?_, q3⟩
        rw [hws]; simp only; rw [if_pos h0]
        exact (q2.keep (bX8.block g (by have := q2.lt; omega))).kt hk9 (by decide)
      · have hd : k / 5 = r := by omega
        rw [hd, hws]
        simp only
        rw [if_neg h0]
        rcases (by omega : k = 5 * r ∨ k = 5 * r + 1 ∨ k = 5 * r + 2 ∨ k = 5 * r + 3 ∨ k = 5 * r + 4) with rfl | rfl | rfl | rfl | rfl
        · rw [if_pos rfl, show 5 * r % 5 = 0 by omega]; exact ⟨gl, by omega, up r0, nb9 gl hglW⟩
        · rw [if_neg (by omega), if_pos rfl, show (5 * r + 1) % 5 = 1 by omega]; exact ⟨ga, by omega, up rA, nb9 ga gaB⟩
        · rw [if_neg (by omega), if_neg (by omega), if_pos rfl, show (5 * r + 2) % 5 = 2 by omega]; exact ⟨gb, by omega, up rB, nb9 gb gbB⟩
        · rw [if_neg (by omega), if_neg (by omega), if_neg (by omega), if_pos rfl, show (5 * r + 3) % 5 = 3 by omega]; exact ⟨gc, by omega, up rC, nb9 gc gcB⟩
        · rw [if_neg (by omega), if_neg (by omega), if_neg (by omega), if_neg (by omega), show (5 * r + 4) % 5 = 4 by omega]; exact ⟨gd, by omega, up rowD, nb9 gd gdB⟩
    rw [show 5 * r + 5 = 5 * (r + 1) by omega, ← eM] at own8n
    have own9n : Own X9 w0.heap.size 3 1 (.slice a9 r c9) r ((List.range r).map fun q => .int .i64 (mkB q)) := Own.kt hk9 own9' (by decide)
    have hx09 : Ext w0 X9 := (hx.trans' bX8 (fun k hk => by omega)).trans' (S := (· < w0.heap.size)) (grown_bl hg9 fun k hk => ⟨by omega, own8'.ne_of_base hk⟩) (fun _ h => h)
    refine PL.to ?_
    refine CD.rs FW.wide rfl ?_
    refine PL.q rfl rfl (OQ.move rfl) rfl ?_
    refine PL.q rfl rfl (OQ.move rfl) rfl ?_
    refine PL.slice1 FW.wide rfl rfl rfl rfl rfl rfl ?_
    intro b108 Y1 new108
    have f1 := new108.ext
    have own9Y := own9n.cext f1.cext
    have szY1 := f1.size
    refine PL.app [.int .i64 (mkB r)] FW.wide rfl rfl rfl rfl rfl own9Y (CellsAt.of_heap new108.heap) rfl rfl (by decide) (by omega) (by omega) (by have := hx09.size; omega) (fun _ _ => .inl trivial) ?_
    intro v9 Y2 own9n2 hgY hat
    obtain ⟨a9', c9', rfl⟩ := own9n2.asSlice
    have szY2 := hgY.size
    have eR : (List.range (r + 1)).map (fun q => Value.int .i64 (mkB q)) = (List.range r).map (fun q => Value.int .i64 (mkB q)) ++ [.int .i64 (mkB r)] := by rw [List.range_succ, List.map_append]; rfl
    rw [← eR] at own9n2
    have hx0Y2 : Ext w0 Y2 := (hx09.trans f1).trans' (S := (· < w0.heap.size)) (grown_bl hgY fun k hk => ⟨by have := hx09.size; omega, own9Y.ne_of_base hk⟩) (fun _ h => h)
    have own8Y : Own Y2 w0.heap.size 22 1 (.slice a8' (5 * (r + 1)) c8') (5 * (r + 1)) ((List.range (5 * (r + 1))).map ws) := Own.kt (grown_kt own9Y hgY) (own8n.cext f1.cext) (by decide)
    have rowsY : ∀ k, k < 5 * (r + 1) → ∃ g, w0.heap.size ≤ g ∧ Row Y2 g (ws k) (n + offB (k % 5)) (fun _ => mkB (k / 5)) ∧ (Value.slice a9' (r + 1) c9').ownBlock ≠ some g := fun k hk => by
      obtain ⟨g, q1, q2, q3⟩ := rows9 k hk
      have lt1 := q2.lt
      refine ⟨g, q1, (q2.ext f1).keep (hgY.block g (by omega) (fun e => q3 e.symm)), fun e => ?_⟩
      rcases hat with h | h
      · rw [h] at e; exact q3 e
      · rw [h] at e; simp at e; omega
    refine PL.q rfl rfl (OQ.assign rfl) rfl ?_
    clear rows9 own9n own8n hat rows
    refine PL.to ?_
    refine CD.rs FW.wide rfl ?_
    refine PL.q rfl rfl (OQ.assign rfl) rfl ?_
    refine PL.to ?_
    refine CD.block ?_
    refine CD.loop (α := Nat) (fun s => [(1, .slice a' z'.length c'), (5, ptr m), (6, .pointer (some ⟨b6, 0, none⟩)), (8, .slice a8' (5 * (r + 1)) c8'), (9, .slice a9' (r + 1) c9'), (10, .int .i64 (r : Nat)), (15, .int .i64 (s : Nat))])
      (fun s Z => Ext Y2 Z ∧ s ≤ 5 * (r + 1)) (fun s => 5 * (r + 1) - s) 0 ⟨rfl, rfl, rfl, rfl, rfl, rfl, rfl, trivial⟩ ⟨Ext.refl _, by simp⟩ ?_
    rintro k Z ⟨hxZ, hk⟩
    have hx0Z := hx0Y2.trans hxZ
    refine CD.seq ?_
    refine CD.rs FW.wide rfl ?_
    refine PL.q rfl rfl (OQ.move rfl) rfl ?_
    refine PL.q rfl rfl (OQ.move rfl) rfl ?_
    refine PL.q rfl rfl (OQ.lenS rfl) rfl ?_
    refine PL.q rfl rfl (OQ.lss rfl rfl) rfl ?_
    refine PL.to ?_
    refine CD.condD rfl (fun h31 => ?_) (fun h31 => ?_)
    · have hk5 : k < 5 * (r + 1) := by omega
      obtain ⟨gk, _, rowk, -⟩ := rowsY k hk5
      obtain ⟨ck', hck⟩ := rowk.form
      obtain ⟨g8, rfl, cell8⟩ := (own8Y.cext hxZ.cext).elem k hk5
      rw [hck] at cell8 rowk
      have st6 := st Z hx0Z
      obtain ⟨g9, rfl, cell9⟩ : ∃ g, a9' = some ⟨g, 0, none⟩ ∧ ∀ j, j < r + 1 → Z.cell? ⟨g, 0 + j * 1, none⟩ = some (.int .i64 (mkB j)) := by
        have own9Z := own9n2.cext hxZ.cext
        rcases own9Z.form with ⟨_, h0⟩ | ⟨g, cc2, e, _, _⟩
        · omega
        · simp only [Value.slice.injEq] at e
          obtain ⟨rfl, _, rfl⟩ := e
          refine ⟨g, rfl, fun j hj => ?_⟩
          rw [Nat.zero_add, Nat.mul_one, own9Z.cell (by omega)]; simp [hj]
      refine CD.skip ?_
      refine CD.seq ?_
      refine CD.block ?_
      refine CD.seq ?_
      refine CD.as .ext trivial FW.wide (by kernel_rfl) [(0, true), (1, true), (2, true), (3, true), (4, true), (5, true), (6, true), (7, true), (9, true), (10, true), (8, false), (11, true), (12, true), (13, true), (14, true)] (by kernel_rfl) rfl (by kernel_rfl) ?_
      intro Z1 hxd _
      have cell8d := hxd.cell cell8
      have st6d := hxd.cell st6
      have hrem : ((k : Int)).tmod 5 = ((k % 5 : Nat) : Int) := by rw [show (5 : Int) = ((5 : Nat) : Int) from rfl, ← Int.ofNat_tmod]
      refine PL.q rfl rfl (OQ.move rfl) rfl ?_
      refine PL.q rfl rfl (OQ.move rfl) rfl ?_
      refine PL.q rfl rfl (OQ.indexAddr rfl rfl (by first | assumption | omega)) rfl ?_
      refine PL.q rfl rfl (OQ.loadX rfl (by assumption)) rfl ?_
      refine PL.q rfl rfl (OQ.lenS rfl) rfl ?_
      refine PL.q rfl rfl ((by first | exact OQ.field0 rfl | exact OQ.field rfl)) rfl ?_
      refine PL.q rfl rfl (OQ.loadX rfl (by assumption)) rfl ?_
      refine PL.q rfl rfl (OQ.lenS rfl) rfl ?_
      refine PL.q rfl rfl (OQ.move rfl) rfl ?_
      refine PL.q rfl rfl (OQ.cast (OQ.rem rfl rfl (by decide) (by rw [hrem]; exact i64W _ (by omega) (by omega))) (by rw [hrem])) rfl ?_
      refine PL.sliceN [.int .i64 0, .int .i64 1, .int .i64 2, .int .i64 3, .int .i64 96] FW.wide rfl rfl rfl rfl rfl rfl ?_
      intro b124 Z2 new124
      have cOff : Z2.cell? ⟨b124, 0 + (k % 5) * 1, none⟩ = some (.int .i64 (offB (k % 5) : Nat)) := by
        rw [Nat.zero_add, Nat.mul_one]
        have hlt : k % 5 < 5 := Nat.mod_lt _ (by omega)
        generalize k % 5 = e at *
        match e, hlt with
        | 0, _ => exact cell_of_heap new124.heap rfl
        | 1, _ => exact cell_of_heap new124.heap rfl
        | 2, _ => exact cell_of_heap new124.heap rfl
        | 3, _ => exact cell_of_heap new124.heap rfl
        | 4, _ => exact cell_of_heap new124.heap rfl
      have offle : offB (k % 5) ≤ 96 := by unfold offB; split <;> (try omega); split <;> (try omega); split <;> (try omega); split <;> omega
      have hlt5 : k % 5 < 5 := Nat.mod_lt _ (by omega)
      refine PL.q rfl rfl (OQ.indexAddr rfl rfl (by first | assumption | omega)) rfl ?_
      refine PL.q rfl rfl (OQ.loadX rfl (by assumption)) rfl ?_
      refine PL.q rfl rfl (OQ.addW (r := ((n + offB (k % 5) : Nat) : Int)) rfl rfl (by rw [i64W _ (by omega) (by omega)]; omega)) rfl ?_
      refine PL.q rfl rfl (OQ.no (OQ.neq rfl rfl) (by simp)) rfl ?_
      have hxZ2 := (hxZ.trans hxd).trans new124.ext
      refine PL.to ?_
      refine CD.condF rfl ?_
      refine CD.skip ?_
      refine CD.rs FW.wide rfl ?_
      refine PL.q rfl rfl (OQ.assign rfl) rfl ?_
      refine PL.to ?_
      refine CD.block ?_
      refine CD.loop (α := Nat) (fun s => [(1, .slice a' z'.length c'), (5, ptr m), (6, .pointer (some ⟨b6, 0, none⟩)), (8, .slice (some ⟨g8, 0, none⟩) (5 * (r + 1)) c8'), (9, .slice (some ⟨g9, 0, none⟩) (r + 1) c9'), (10, .int .i64 (r : Nat)), (15, .int .i64 (k : Nat)), (16, .int .i64 (s : Nat))])
        (fun s V => Ext Z V ∧ s ≤ n + offB (k % 5)) (fun s => n + offB (k % 5) - s) 0 ⟨rfl, rfl, rfl, rfl, rfl, rfl, rfl, rfl, trivial⟩ ⟨hxd.trans new124.ext, by simp⟩ ?_
      rintro i V ⟨hxV, hi⟩
      have cell8V := hxV.cell cell8
      refine CD.seq ?_
      refine CD.rs FW.wide rfl ?_
      refine PL.q rfl rfl (OQ.move rfl) rfl ?_
      refine PL.q rfl rfl (OQ.move rfl) rfl ?_
      refine PL.q rfl rfl (OQ.move rfl) rfl ?_
      refine PL.q rfl rfl (OQ.indexAddr rfl rfl (by first | assumption | omega)) rfl ?_
      refine PL.q rfl rfl (OQ.loadS rfl (by assumption)) rfl ?_
      refine PL.q rfl rfl (OQ.lenS rfl) rfl ?_
      refine PL.q rfl rfl (OQ.lss rfl rfl) rfl ?_
      refine PL.to ?_
      refine CD.condD rfl (fun h36 => ?_) (fun h36 => ?_)
      · have hii : i < n + offB (k % 5) := by omega
        refine CD.skip ?_
        refine CD.seq ?_
        refine CD.block ?_
        refine CD.as .ext trivial FW.wide (by kernel_rfl) [(0, true), (1, true), (2, true), (3, true), (4, true), (5, true), (6, true), (7, true), (8, true), (9, true), (10, true), (11, true), (12, true)] (by kernel_rfl) rfl (by kernel_rfl) ?_
        intro V1 hxd1 _
        have cell8e := hxd1.cell cell8V
        obtain ⟨_, _, ce⟩ := rowk.cell i hii
        have ce := (((hxZ.trans hxV).trans hxd1)).cell ce
        have c9e := (hxV.trans hxd1).cell (cell9 (k / 5) (by omega))
        have hquo : ((k : Int)).tdiv 5 = ((k / 5 : Nat) : Int) := by rw [show (5 : Int) = ((5 : Nat) : Int) from rfl, ← Int.ofNat_tdiv]
        refine PL.q rfl rfl (OQ.move rfl) rfl ?_
        refine PL.q rfl rfl (OQ.move rfl) rfl ?_
        refine PL.q rfl rfl (OQ.indexAddr rfl rfl (by first | assumption | omega)) rfl ?_
        refine PL.q rfl rfl (OQ.loadX rfl (by assumption)) rfl ?_
        refine PL.q rfl rfl (OQ.move rfl) rfl ?_
        refine PL.q rfl rfl (OQ.indexAddr rfl rfl (by first | assumption | omega)) rfl ?_
        refine PL.q rfl rfl (OQ.loadX rfl (by assumption)) rfl ?_
        refine PL.q rfl rfl (OQ.move rfl) rfl ?_
        refine PL.q rfl rfl (OQ.move rfl) rfl ?_
        refine PL.q rfl rfl (OQ.cast (OQ.quo rfl rfl (by decide)) (by rw [hquo, i64W _ (by omega) (by omega)])) rfl ?_
        refine PL.q rfl rfl (OQ.indexAddr rfl rfl (by first | assumption | omega)) rfl ?_
        refine PL.q rfl rfl (OQ.loadX rfl (by assumption)) rfl ?_
        refine PL.q rfl rfl (OQ.no (OQ.neq rfl rfl) (by simp)) rfl ?_
        refine PL.to ?_
        refine CD.condF rfl ?_
        refine CD.skip ?_
        refine CD.r FW.wide rfl ?_
        refine PL.q rfl rfl (OQ.move rfl) rfl ?_
        refine PL.q rfl rfl (OQ.addW (r := ((i + 1 : Nat) : Int)) rfl rfl (wrap_succ (by omega))) rfl ?_
        refine PL.q rfl rfl (OQ.assign rfl) rfl ?_
        refine PL.nil ?_
        exact fun a ha => ⟨i + 1, ha.sub ⟨rfl, rfl, rfl, rfl, rfl, rfl, rfl, rfl, trivial⟩, ⟨hxV.trans hxd1, by omega⟩, by omega⟩
      · refine CD.exit ?_
        refine CD.r FW.wide rfl ?_
        refine PL.q rfl rfl (OQ.move rfl) rfl ?_
        refine PL.q rfl rfl (OQ.addW (r := ((k + 1 : Nat) : Int)) rfl rfl (wrap_succ (by omega))) rfl ?_
        refine PL.q rfl rfl (OQ.assign rfl) rfl ?_
        refine PL.nil ?_
        exact fun a ha => ⟨k + 1, ha.sub ⟨rfl, rfl, rfl, rfl, rfl, rfl, rfl, trivial⟩, ⟨hxZ.trans hxV, by omega⟩, by omega⟩
    · refine CD.exit ?_
      refine CD.r FW.wide rfl ?_
      refine PL.q rfl rfl (OQ.move rfl) rfl ?_
      refine PL.q rfl rfl (OQ.addW (r := ((r + 1 : Nat) : Int)) rfl rfl (wrap_succ (by omega))) rfl ?_
      refine PL.q rfl rfl (OQ.assign rfl) rfl ?_
      refine PL.nil ?_
      refine fun a ha => ⟨(r + 1, a8', c8', ws, a9', c9'), ha.sub ⟨rfl, rfl, rfl, rfl, rfl, rfl, trivial⟩, ⟨hx0Z, by simp only; omega, own8Y.cext hxZ.cext, own9n2.cext hxZ.cext, fun j hj => ?_⟩, by simp only; omega⟩
      obtain ⟨g, q1, q2, q3⟩ := rowsY j hj
      exact ⟨g, q1, q2.ext hxZ, q3⟩
  · refine CD.exit ?_
    refine CD.rs FW.wide rfl ?_
    refine PL.q rfl rfl (OQ.loadH (cs := [ptr m, .slice ak n ck, .slice av n cv]) rfl rfl trivial (hx.heap h06)) rfl ?_
    have hcall := still_w m t ak ck av cv W (hm0.ext hx) hst (by omega) (hk0.ext hx) (hv0.ext hx)
    rw [hn] at hcall
    refine PL.call FW.wide rfl rfl rfl rfl hcall ?_
    rintro _ W2 hx2 rfl
    have hx02 := hx.trans hx2
    refine PL.q rfl rfl (OQ.move rfl) rfl ?_
    refine PL.q rfl rfl (OQ.move rfl) rfl ?_
    refine PL.q rfl rfl (OQ.loadH (cs := [ptr m, .slice ak n ck, .slice av n cv]) rfl rfl trivial (hx02.heap h06)) rfl ?_
    have hcall2 := owned_w m t ak ck av cv W2 (hm0.ext hx02) hst (by omega) (by omega) (hk0.ext hx02)
    rw [hn] at hcall2
    refine PL.call FW.wide rfl rfl rfl rfl hcall2 ?_
    rintro _ W3 hx3 rfl
    refine PL.q rfl rfl ((by first | exact OQ.pickT rfl rfl | exact OQ.pickF rfl rfl)) rfl ?_
    refine PL.q rfl rfl (OQ.assign rfl) rfl ?_
    refine PL.to ?_
    exact CD.ret (post1 rfl rfl ⟨_, rfl, hxw0.trans (hx02.trans hx3), rfl⟩)
end Go.Proofs.Ytdielcpjemkngaa
