/-
  The walk of the helper owned of the law OrderBook.
-/
import Derived.Test.YtdielcpjemkngaaOb3
import Derived.Test.YtdielcpjemkngaaFx13
namespace Go.Proofs.Ytdielcpjemkngaa
open Go.RowKit OI
set_option linter.unusedVariables false

theorem keysV_eq (t : Tr Int) : keysV t.toL = i64s (keysL t) := by simp [keysV, keysL]
theorem range_getD (z : List Int) : (List.range z.length).map (fun i => z.getD i 0) = z := by
  apply List.ext_getElem
  · simp
  · intro i h1 h2; simp [h2]
/-- an element of an owned slice of slices -/
theorem Own.elem {w : World} {B k c : Nat} {a : Option Addr} {vs : Nat → Value} (h : Own w B 22 1 (.slice a k c) k ((List.range k).map vs)) (i : Nat) (hi : i < k) : ∃ g, a = some ⟨g, 0, none⟩ ∧ w.cell? ⟨g, 0 + i * 1, none⟩ = some (vs i) := by
  rcases h.form with ⟨e, h0⟩ | ⟨g, cc, e, _, _⟩
  · omega
  · simp only [Value.slice.injEq] at e
    obtain ⟨rfl, _, rfl⟩ := e
    refine ⟨g, rfl, ?_⟩
    rw [Nat.zero_add, Nat.mul_one, h.cell (by omega)]
    simp [hi]
theorem Own.asSlice {w : World} {B k sz : Nat} {e : TypeId} {v : Value} {xs : List Value} (h : Own w B e sz v k xs) : ∃ a c, v = .slice a k c := by
  rcases h.form with ⟨rfl, rfl⟩ | ⟨g, c, rfl, _, _⟩
  · exact ⟨_, _, rfl⟩
  · exact ⟨_, _, rfl⟩
theorem upd_map (k : Nat) (vs : Nat → Value) (v : Value) : (List.range (k + 1)).map (fun j => if j = k then v else vs j) = (List.range k).map vs ++ [v] := by
  rw [List.range_succ, List.map_append]
  congr 1
  · exact List.map_congr_left fun j hj => by rw [if_neg (by have := List.mem_range.1 hj; omega)]
  · simp
/-- within the words of an int -/
theorem i64W (x : Int) (h1 : -9223372036854775808 ≤ x) (h2 : x ≤ 9223372036854775807) : IntKind.i64.wrap x = x := wrapI x h1 h2

theorem owned_w (m : Nat) (t : Tr Int) (ak : Option Addr) (ck : Nat) (av : Option Addr) (cv : Nat) (w : World) (hm : MapAt w m t) (hs : Srt lt t.toL) (h1 : 1 ≤ t.size) (hsz : (t.size + 96) * 8 ≤ 140737488355328) (hk : IntsAt w .i64 ak (keysL t)) :
    Rt Try.prog 31 [ptr m, .agg #[ptr m, .slice ak t.size ck, .slice av t.size cv]] w fun v _ => v = .bool true := by
  obtain ⟨n, hn⟩ : ∃ n, t.size = n := ⟨_, rfl⟩
  have hkl : (keysL t).length = n := by rw [length_keysL, hn]
  have hkn : ∀ (g : Nat) (v : Value) (W : World), Row W g v n (fun i => (keysL t).getD i 0) → IntsAt W .i64 (some ⟨g, 0, none⟩) (keysL t) := fun g v W hr => by
    have := hr.ints; rw [← hkl, range_getD] at this; exact this
  obtain ⟨F, hF⟩ : ∃ F : Nat → Int, F = fun i => (keysL t).getD i 0 := ⟨_, rfl⟩
  rw [← hF] at hkn
  rw [hn]
  refine Rt.of Try.func31 rfl Try.ntmps31 (by rfl) ?_
  refine CD.rs FW.wide rfl ?_
  refine PL.box FW.wide rfl rfl rfl rfl ?_
  intro b3 w3 new3
  refine PL.q rfl rfl (OQ.assign rfl) rfl ?_
  have i3 := new3.idx; have l3 := new3.lt
  have h03 : w3.heap[b3]? = some (.cells #[ptr m, .slice ak n ck, .slice av n cv] 41 (0, 0)) := new3.heap
  have hx03 := new3.ext
  have hm3 := hm.ext hx03
  have hk3 := hk.ext hx03
  have st : ∀ V, Ext w3 V → V.cell? ⟨b3, 1, none⟩ = some (.slice ak n ck) := fun V hV => cell_of_heap (hV.heap h03) rfl
  generalize w3 = w0 at *
  refine PL.to ?_
  refine CD.rs FW.wide rfl ?_
  refine PL.q rfl rfl (OQ.assign rfl) rfl ?_
  refine PL.to ?_
  refine CD.seq ?_
  refine CD.rs FW.wide rfl ?_
  refine PL.q rfl rfl (OQ.assign rfl) rfl ?_
  refine PL.to ?_
  refine CD.block ?_
  refine CD.loop (α := Nat × Option Addr × Nat × (Nat → Value) × (Nat → Nat)) (fun s => [(0, ptr m), (3, .pointer (some ⟨b3, 0, none⟩)), (5, .slice s.2.1 s.1 s.2.2.1), (6, .int .i64 (s.1 : Nat))])
    (fun s W => Ext w0 W ∧ s.1 ≤ 5 ∧ Own W w0.heap.size 22 1 (.slice s.2.1 s.1 s.2.2.1) s.1 ((List.range s.1).map s.2.2.2.1) ∧ (∀ j, j < s.1 → w0.heap.size ≤ s.2.2.2.2 j ∧ Row W (s.2.2.2.2 j) (s.2.2.2.1 j) n F) ∧ ∀ j j', j < s.1 → j' < s.1 → s.2.2.2.2 j = s.2.2.2.2 j' → j = j')
    (fun s => 5 - s.1) (0, none, 0, fun _ => undef, fun _ => 0) ⟨rfl, rfl, rfl, rfl, trivial⟩ ⟨Ext.refl _, by simp, ⟨rfl, .inl ⟨rfl, rfl⟩⟩, fun j hj => absurd hj (by simp), fun j j' hj => absurd hj (by simp)⟩ ?_
  rintro ⟨i, a5, c5, vs, gs⟩ W ⟨hx, hi, hown, hrow, hdis⟩
  simp only at hi hown hrow hdis
  refine CD.seq ?_
  refine CD.rs FW.wide rfl ?_
  refine PL.q rfl rfl (OQ.move rfl) rfl ?_
  refine PL.q rfl rfl (OQ.lss rfl rfl) rfl ?_
  refine PL.to ?_
  refine CD.condD rfl (fun h3 => ?_) (fun h3 => ?_)
  · refine CD.skip ?_
    refine CD.seq ?_
    refine CD.block ?_
    refine CD.rs FW.wide rfl ?_
    refine PL.q rfl rfl (OQ.move rfl) rfl ?_
    refine PL.call FW.wide rfl rfl rfl rfl (Keys_w m t W (hm3.ext hx) (by omega)) ?_
    rintro _ W1 hx1 own1
    rw [hn, keysV_eq] at own1
    obtain ⟨gl, hgl, row1⟩ := Row.of_own own1 (by omega)
    obtain ⟨cl, rfl⟩ := row1.form
    refine PL.q rfl rfl (OQ.assign rfl) rfl ?_
    rw [← hF] at row1
    have s1 := st W1 (hx.trans hx1)
    refine PL.to ?_
    refine CD.seq ?_
    refine CD.rs FW.wide rfl ?_
    refine PL.q rfl rfl (OQ.move rfl) rfl ?_
    refine PL.q rfl rfl ((by first | exact OQ.field0 rfl | exact OQ.field rfl)) rfl ?_
    refine PL.q rfl rfl (OQ.loadS rfl (by assumption)) rfl ?_
    have hcall := sameInts_w (some ⟨gl, 0, none⟩) ak cl ck (keysL t) (keysL t) W1 (hkn _ _ _ row1) (hk3.ext (hx.trans hx1)) (by omega)
    rw [hkl] at hcall
    refine PL.call FW.wide rfl rfl rfl rfl hcall ?_
    rintro _ W2 hx2 rfl
    refine PL.q rfl rfl (OQ.no (OQ.not rfl) (by simp)) rfl ?_
    refine PL.to ?_
    refine CD.condF rfl ?_
    refine CD.skip ?_
    refine CD.r FW.wide rfl ?_
    refine PL.q rfl rfl (OQ.move rfl) rfl ?_
    refine PL.q rfl rfl (OQ.move rfl) rfl ?_
    refine PL.slice1 FW.wide rfl rfl rfl rfl rfl rfl ?_
    intro b32 W3 new32
    have hx13 := hx2.trans new32.ext
    have hxW3 := hx1.trans hx13
    have hsW := (hx.trans hxW3).size
    have own3 := hown.cext hxW3.cext
    refine PL.app [.slice (some ⟨gl, 0, none⟩) n cl] FW.wide rfl rfl rfl rfl rfl own3 (CellsAt.of_heap new32.heap) rfl rfl (by decide) (by omega) (by omega) hsW (fun _ _ => .inl trivial) ?_
    intro v' W4 hown4 hg4 _
    have hk4 : KT 22 W3 W4 := grown_kt own3 hg4
    obtain ⟨a', c', rfl⟩ := hown4.asSlice
    refine PL.q rfl rfl (OQ.assign rfl) rfl ?_
    refine PL.nil ?_
    refine CD.r FW.wide rfl ?_
    refine PL.q rfl rfl (OQ.move rfl) rfl ?_
    refine PL.q rfl rfl (OQ.addW (r := ((i + 1 : Nat) : Int)) rfl rfl (wrap_succ (by omega))) rfl ?_
    refine PL.q rfl rfl (OQ.assign rfl) rfl ?_
    refine PL.nil ?_
    have hx04 : Ext w0 W4 := (hx.trans hxW3).trans' (S := (· < w0.heap.size)) (grown_bl hg4 fun k hk => ⟨by omega, fun e => by have := (World.ownsRow.lt own3 k e).1; omega⟩) (fun _ h => h)
    refine fun a ha => ⟨(i + 1, a', c', (fun j => if j = i then .slice (some ⟨gl, 0, none⟩) n cl else vs j), (fun j => if j = i then gl else gs j)), ha.sub ⟨rfl, rfl, rfl, rfl, trivial⟩, ⟨hx04, by simp only; omega, ?_, ?_, ?_⟩, by simp only; omega⟩
    · simp only [upd_map]; exact hown4
    · intro j hj
      simp only at hj ⊢
      by_cases e : j = i
      · rw [if_pos e, if_pos e]; exact ⟨by have := hx.size; omega, (row1.ext hx13).kt hk4 (by decide)⟩
      · rw [if_neg e, if_neg e]
        obtain ⟨q1, q2⟩ := hrow j (by omega)
        exact ⟨q1, (q2.ext hxW3).kt hk4 (by decide)⟩
    · intro j j' hj hj'
      simp only at hj hj' ⊢
      by_cases e : j = i <;> by_cases e' : j' = i
      · intro _; omega
      · rw [if_pos e, if_neg e']; intro ee; have := (hrow j' (by omega)).2.lt; omega
      · rw [if_neg e, if_pos e']; intro ee; have := (hrow j (by omega)).2.lt; omega
      · rw [if_neg e, if_neg e']; exact hdis j j' (by omega) (by omega)
  refine CD.exit ?_
  obtain rfl : i = 5 := by omega
  -- the last list
  refine CD.rs FW.wide rfl ?_
  refine PL.q rfl rfl (OQ.move rfl) rfl ?_
  refine PL.call FW.wide rfl rfl rfl rfl (Keys_w m t W (hm3.ext hx) (by omega)) ?_
  rintro _ W1 hx1 own1
  rw [hn, keysV_eq] at own1
  obtain ⟨g8, hg8, row8⟩ := Row.of_own own1 (by omega)
  obtain ⟨c8, rfl⟩ := row8.form
  rw [← hF] at row8
  refine PL.q rfl rfl (OQ.assign rfl) rfl ?_
  obtain ⟨g5, rfl, -⟩ := hown.elem 0 (by omega)
  have own5 := hown.cext hx1.cext
  have hx01 := hx.trans hx1
  have rows : ∀ j, j < 5 → w0.heap.size ≤ gs j ∧ gs j < g8 ∧ Row W1 (gs j) (vs j) n F := fun j hj => let ⟨q1, q2⟩ := hrow j hj; ⟨q1, by have := q2.lt; omega, q2.ext hx1⟩
  have hg80 : w0.heap.size ≤ g8 := by have := hx.size; omega
  have hval : ∀ j, j < 5 → ∃ c, vs j = .slice (some ⟨gs j, 0, none⟩) n c := fun j hj => (rows j hj).2.2.form
  refine PL.to ?_
  refine CD.seq ?_
  refine CD.rs FW.wide rfl ?_
  refine PL.q rfl rfl (OQ.assign rfl) rfl ?_
  refine PL.to ?_
  refine CD.block ?_
  have wr : ∀ (i q : Nat), i < 5 → q < n → IntKind.i64.wrap (100000 * (i : Int)) = 100000 * (i : Int) ∧ IntKind.i64.wrap (100000 * (i : Int) + (q : Int)) = 100000 * (i : Int) + (q : Int) := fun i q hi hq => ⟨i64W _ (by omega) (by omega), i64W _ (by omega) (by omega)⟩
  refine CD.loop (α := Nat) (fun s => [(0, ptr m), (3, .pointer (some ⟨b3, 0, none⟩)), (5, .slice (some ⟨g5, 0, none⟩) 5 c5), (8, .slice (some ⟨g8, 0, none⟩) n c8), (9, .int .i64 (s : Nat))])
    (fun s V => Ext w0 V ∧ s ≤ 5 ∧ Own V w0.heap.size 22 1 (.slice (some ⟨g5, 0, none⟩) 5 c5) 5 ((List.range 5).map vs) ∧ Row V g8 (.slice (some ⟨g8, 0, none⟩) n c8) n F ∧ (∀ j, j < s → Row V (gs j) (vs j) n (fun q => 100000 * j + q)) ∧ ∀ j, s ≤ j → j < 5 → Row V (gs j) (vs j) n F)
    (fun s => 5 - s) 0 ⟨rfl, rfl, rfl, rfl, rfl, trivial⟩ ⟨hx01, by simp, own5, row8, fun j hj => absurd hj (by simp), fun j _ hj => (rows j hj).2.2⟩ ?_
  rintro i V ⟨hxV, hi, ownV, rowV8, lowV, highV⟩
  refine CD.seq ?_
  refine CD.rs FW.wide rfl ?_
  refine PL.q rfl rfl (OQ.move rfl) rfl ?_
  refine PL.q rfl rfl (OQ.move rfl) rfl ?_
  refine PL.q rfl rfl (OQ.lenS rfl) rfl ?_
  refine PL.q rfl rfl (OQ.lss rfl rfl) rfl ?_
  refine PL.to ?_
  refine CD.condD rfl (fun h11 => ?_) (fun h11 => ?_)
  · have hi5 : i < 5 := by omega
    refine CD.skip ?_
    refine CD.seq ?_
    refine CD.block ?_
    refine CD.rs FW.wide rfl ?_
    refine PL.q rfl rfl (OQ.assign rfl) rfl ?_
    refine PL.to ?_
    refine CD.block ?_
    obtain ⟨ci, hci⟩ := hval i hi5
    refine CD.loop (α := Nat) (fun s => [(0, ptr m), (3, .pointer (some ⟨b3, 0, none⟩)), (5, .slice (some ⟨g5, 0, none⟩) 5 c5), (8, .slice (some ⟨g8, 0, none⟩) n c8), (9, .int .i64 (i : Nat)), (10, .int .i64 (s : Nat))])
      (fun s U => Ext w0 U ∧ s ≤ n ∧ Own U w0.heap.size 22 1 (.slice (some ⟨g5, 0, none⟩) 5 c5) 5 ((List.range 5).map vs) ∧ Row U g8 (.slice (some ⟨g8, 0, none⟩) n c8) n F ∧ (∀ j, j < i → Row U (gs j) (vs j) n (fun q => 100000 * j + q)) ∧ (∀ j, i < j → j < 5 → Row U (gs j) (vs j) n F) ∧
        Row U (gs i) (vs i) n (fun q => if q < s then 100000 * i + q else F q))
      (fun s => n - s) 0 ⟨rfl, rfl, rfl, rfl, rfl, rfl, trivial⟩ ⟨hxV, by simp, ownV, rowV8, lowV, fun j hj hj5 => highV j (by omega) hj5, (highV i (Nat.le_refl _) hi5).congr fun q _ => by simp⟩ ?_
    rintro q U ⟨hxU, hq, ownU, rowU8, lowU, highU, rowU⟩
    obtain ⟨g5', e5, cell5⟩ := ownU.elem i hi5
    obtain rfl : g5 = g5' := by simpa using e5
    rw [hci] at cell5 rowU
    refine CD.seq ?_
    refine CD.rs FW.wide rfl ?_
    refine PL.q rfl rfl (OQ.move rfl) rfl ?_
    refine PL.q rfl rfl (OQ.move rfl) rfl ?_
    refine PL.q rfl rfl (OQ.move rfl) rfl ?_
    refine PL.q rfl rfl (OQ.indexAddr rfl rfl (by first | assumption | omega)) rfl ?_
    refine PL.q rfl rfl (OQ.loadS rfl (by assumption)) rfl ?_
    refine PL.q rfl rfl (OQ.lenS rfl) rfl ?_
    refine PL.q rfl rfl (OQ.lss rfl rfl) rfl ?_
    refine PL.to ?_
    refine CD.condD rfl (fun h14 => ?_) (fun h14 => ?_)
    · have hqn : q < n := by omega
      obtain ⟨wr1, wr2⟩ := wr i q hi5 hqn
      refine CD.skip ?_
      refine CD.seq ?_
      refine CD.block ?_
      refine CD.r FW.wide rfl ?_
      refine PL.q rfl rfl (OQ.move rfl) rfl ?_
      refine PL.q rfl rfl (OQ.move rfl) rfl ?_
      refine PL.q rfl rfl (OQ.indexAddr rfl rfl (by first | assumption | omega)) rfl ?_
      refine PL.q rfl rfl (OQ.loadS rfl (by assumption)) rfl ?_
      refine PL.q rfl rfl (OQ.move rfl) rfl ?_
      refine PL.q rfl rfl (OQ.move rfl) rfl ?_
      refine PL.q rfl rfl (OQ.mulW rfl rfl wr1) rfl ?_
      refine PL.q rfl rfl (OQ.move rfl) rfl ?_
      refine PL.q rfl rfl (OQ.addW rfl rfl wr2) rfl ?_
      refine PL.q rfl rfl (OQ.indexAddr rfl rfl (by first | assumption | omega)) rfl ?_
      refine PL.setR FW.wide rfl rfl rfl rfl rfl rowU hqn (fun _ _ => .inl trivial) ?_
      intro U' rowU' hbU' hkU' hsU'
      have hkeep : ∀ {g2 : Nat} {u : Value} {h2 : Nat → Int}, Row U g2 u n h2 → g2 ≠ gs i → Row U' g2 u n h2 := fun hr hne => hr.keep (hbU'.block _ hne)
      refine PL.nil ?_
      refine CD.r FW.wide rfl ?_
      refine PL.q rfl rfl (OQ.move rfl) rfl ?_
      refine PL.q rfl rfl (OQ.addW (r := ((q + 1 : Nat) : Int)) rfl rfl (wrap_succ (by omega))) rfl ?_
      refine PL.q rfl rfl (OQ.assign rfl) rfl ?_
      refine PL.nil ?_
      have hgi := (rows i hi5)
      refine fun a ha => ⟨q + 1, ha.sub ⟨rfl, rfl, rfl, rfl, rfl, rfl, trivial⟩, ⟨hxU.trans' hbU' (fun k hk => by omega), by omega, Own.kt hkU' ownU (by decide), hkeep rowU8 (by omega), ?_, ?_, ?_⟩, by omega⟩
      · exact fun j hj => hkeep (lowU j hj) (fun e => by have := hdis j i (by omega) hi5 e; omega)
      · exact fun j hj hj5 => hkeep (highU j hj hj5) (fun e => by have := hdis j i (by omega) hi5 e; omega)
      · rw [hci]
        refine rowU'.congr fun p hp => ?_
        by_cases e : p = q
        · subst e; simp
        · simp only [if_neg e]
          by_cases e2 : p < q
          · rw [if_pos e2, if_pos (by omega)]
          · rw [if_neg e2, if_neg (by omega)]
    · refine CD.exit ?_
      refine CD.r FW.wide rfl ?_
      refine PL.q rfl rfl (OQ.move rfl) rfl ?_
      refine PL.q rfl rfl (OQ.addW (r := ((i + 1 : Nat) : Int)) rfl rfl (wrap_succ (by omega))) rfl ?_
      refine PL.q rfl rfl (OQ.assign rfl) rfl ?_
      refine PL.nil ?_
      refine fun a ha => ⟨i + 1, ha.sub ⟨rfl, rfl, rfl, rfl, rfl, trivial⟩, ⟨hxU, by omega, ownU, rowU8, ?_, fun j hj hj5 => highU j (by omega) hj5⟩, by omega⟩
      intro j hj
      by_cases e : j = i
      · subst e
        rw [hci]
        exact rowU.congr fun p hp => by rw [if_pos (by omega)]
      · exact lowU j (by omega)
  refine CD.exit ?_
  obtain rfl : i = 5 := by omega
  -- appended to, one by one
  obtain ⟨B2, hB2⟩ : ∃ B2, V.heap.size = B2 := ⟨_, rfl⟩
  have gsB : ∀ j, j < 5 → gs j < B2 := fun j hj => by have := (lowV j hj).lt; omega
  have g8B : g8 < B2 := by have := rowV8.lt; omega
  refine CD.rs FW.wide rfl ?_
  refine PL.q rfl rfl (OQ.assign rfl) rfl ?_
  refine PL.to ?_
  refine CD.seq ?_
  refine CD.rs FW.wide rfl ?_
  refine PL.q rfl rfl (OQ.assign rfl) rfl ?_
  refine PL.to ?_
  refine CD.block ?_
  have wm : ∀ (i q : Nat), i < 5 → q < 96 → IntKind.i64.wrap (100 * (i : Int)) = 100 * (i : Int) ∧ IntKind.i64.wrap (-1 - 100 * (i : Int)) = -1 - 100 * (i : Int) ∧ IntKind.i64.wrap (-1 - 100 * (i : Int) - (q : Int)) = -1 - 100 * (i : Int) - (q : Int) := fun i q hi hq =>
    ⟨i64W _ (by omega) (by omega), i64W _ (by omega) (by omega), i64W _ (by omega) (by omega)⟩
  obtain ⟨G, hG⟩ : ∃ G : Nat → Nat → Int, G = fun (i q : Nat) => if q < n then 100000 * (i : Int) + (q : Int) else -1 - 100 * (i : Int) - ((q - n : Nat) : Int) := ⟨_, rfl⟩
  refine CD.loop (α := Nat × Option Addr × Nat × (Nat → Value) × (Nat → Nat)) (fun s => [(0, ptr m), (3, .pointer (some ⟨b3, 0, none⟩)), (5, .slice (some ⟨g5, 0, none⟩) 5 c5), (8, .slice (some ⟨g8, 0, none⟩) n c8), (11, .slice s.2.1 s.1 s.2.2.1), (12, .int .i64 (s.1 : Nat))])
    (fun s X => Ext w0 X ∧ B2 ≤ X.heap.size ∧ s.1 ≤ 5 ∧ Own X w0.heap.size 22 1 (.slice (some ⟨g5, 0, none⟩) 5 c5) 5 ((List.range 5).map vs) ∧ Row X g8 (.slice (some ⟨g8, 0, none⟩) n c8) n F ∧ (∀ j, j < 5 → Row X (gs j) (vs j) n (fun q => 100000 * j + q)) ∧
      Own X B2 22 1 (.slice s.2.1 s.1 s.2.2.1) s.1 ((List.range s.1).map s.2.2.2.1) ∧ ∀ j, j < s.1 → (s.2.2.2.2 j = gs j ∨ B2 ≤ s.2.2.2.2 j) ∧ Row X (s.2.2.2.2 j) (s.2.2.2.1 j) (n + 96) (G j))
    (fun s => 5 - s.1) (0, none, 0, fun _ => undef, fun _ => 0) ⟨rfl, rfl, rfl, rfl, rfl, rfl, trivial⟩ ⟨hxV, by omega, by simp, ownV, rowV8, lowV, ⟨rfl, .inl ⟨rfl, rfl⟩⟩, fun j hj => absurd hj (by simp)⟩ ?_
  rintro ⟨i, a11, c11, us, hs'⟩ X ⟨hxX, hBX, hi, ownX, rowX8, rowX, ownM, rowM⟩
  simp only at hi ownM rowM
  refine CD.seq ?_
  refine CD.rs FW.wide rfl ?_
  refine PL.q rfl rfl (OQ.move rfl) rfl ?_
  refine PL.q rfl rfl (OQ.move rfl) rfl ?_
  refine PL.q rfl rfl (OQ.lenS rfl) rfl ?_
  refine PL.q rfl rfl (OQ.lss rfl rfl) rfl ?_
  refine PL.to ?_
  refine CD.condD rfl (fun h19 => ?_) (fun h19 => ?_)
  · have hi5 : i < 5 := by omega
    obtain ⟨ci, hci⟩ := hval i hi5
    obtain ⟨g5', e5, cell5⟩ := ownX.elem i hi5
    obtain rfl : g5 = g5' := by simpa using e5
    rw [hci] at cell5
    refine CD.skip ?_
    refine CD.seq ?_
    refine CD.block ?_
    refine CD.rs FW.wide rfl ?_
    refine PL.q rfl rfl (OQ.move rfl) rfl ?_
    refine PL.q rfl rfl (OQ.move rfl) rfl ?_
    refine PL.q rfl rfl (OQ.indexAddr rfl rfl (by first | assumption | omega)) rfl ?_
    refine PL.q rfl rfl (OQ.loadS rfl (by assumption)) rfl ?_
    refine PL.q rfl rfl (OQ.assign rfl) rfl ?_
    refine PL.to ?_
    refine CD.seq ?_
    refine CD.rs FW.wide rfl ?_
    refine PL.q rfl rfl (OQ.assign rfl) rfl ?_
    refine PL.to ?_
    refine CD.block ?_
    have rowi := rowX i hi5
    rw [hci] at rowi
    obtain ⟨BX, hBXe⟩ : ∃ BX, X.heap.size = BX := ⟨_, rfl⟩
    refine CD.loop (α := Nat × Nat × Nat) (fun s => [(0, ptr m), (3, .pointer (some ⟨b3, 0, none⟩)), (5, .slice (some ⟨g5, 0, none⟩) 5 c5), (8, .slice (some ⟨g8, 0, none⟩) n c8), (11, .slice a11 i c11), (12, .int .i64 (i : Nat)), (13, .slice (some ⟨s.2.1, 0, none⟩) (n + s.1) s.2.2), (14, .int .i64 (s.1 : Nat))])
      (fun s Y => Ext w0 Y ∧ BX ≤ Y.heap.size ∧ s.1 ≤ 96 ∧ Own Y w0.heap.size 22 1 (.slice (some ⟨g5, 0, none⟩) 5 c5) 5 ((List.range 5).map vs) ∧ Row Y g8 (.slice (some ⟨g8, 0, none⟩) n c8) n F ∧ (∀ j, j < 5 → Row Y (gs j) (vs j) n (fun q => 100000 * j + q)) ∧
        Own Y B2 22 1 (.slice a11 i c11) i ((List.range i).map us) ∧ (∀ j, j < i → hs' j < BX ∧ Row Y (hs' j) (us j) (n + 96) (G j)) ∧ (s.2.1 = gs i ∨ BX ≤ s.2.1) ∧ Row Y s.2.1 (.slice (some ⟨s.2.1, 0, none⟩) (n + s.1) s.2.2) (n + s.1) (G i))
      (fun s => 96 - s.1) (0, gs i, ci) ⟨rfl, rfl, rfl, rfl, rfl, rfl, rfl, rfl, trivial⟩ ⟨hxX, by omega, by simp, ownX, rowX8, rowX, ownM, fun j hj => ⟨by have := (rowM j hj).2.lt; omega, (rowM j hj).2⟩, .inl rfl, rowi.congr fun q hq => by rw [hG]; simp only; rw [if_pos (by omega)]⟩ ?_
    rintro ⟨q, gq, cq⟩ Y ⟨hxY, hBY, hq, ownY, rowY8, rowY, ownMY, rowMY, hgq, rowq⟩
    simp only at hq hgq rowq
    refine CD.seq ?_
    refine CD.rs FW.wide rfl ?_
    refine PL.q rfl rfl (OQ.move rfl) rfl ?_
    refine PL.q rfl rfl (OQ.lss rfl rfl) rfl ?_
    refine PL.to ?_
    refine CD.condD rfl (fun h23 => ?_) (fun h23 => ?_)
    · have hq96 : q < 96 := by omega
      obtain ⟨wm1, wm2, wm3⟩ := wm i q hi5 hq96
      refine CD.skip ?_
      refine CD.seq ?_
      refine CD.block ?_
      refine CD.r FW.wide rfl ?_
      refine PL.q rfl rfl (OQ.move rfl) rfl ?_
      refine PL.q rfl rfl (OQ.move rfl) rfl ?_
      refine PL.q rfl rfl (OQ.mulW rfl rfl wm1) rfl ?_
      refine PL.q rfl rfl (OQ.subW rfl rfl wm2) rfl ?_
      refine PL.q rfl rfl (OQ.move rfl) rfl ?_
      refine PL.q rfl rfl (OQ.subW rfl rfl wm3) rfl ?_
      refine PL.slice1 FW.wide rfl rfl rfl rfl rfl rfl ?_
      intro b81 Y1 new81
      have hx1 := new81.ext
      refine PL.appR (fun _ => -1 - 100 * (i : Int) - (q : Int)) FW.wide rfl rfl rfl rfl rfl (rowq.ext hx1) (by omega) (CellsAt.of_heap new81.heap) (by omega) (fun _ _ => trivial) ?_
      intro v' Y2 g' row2 gr hg'
      obtain ⟨c', rfl⟩ := row2.form
      refine PL.q rfl rfl (OQ.assign rfl) rfl ?_
      refine PL.nil ?_
      refine CD.r FW.wide rfl ?_
      refine PL.q rfl rfl (OQ.move rfl) rfl ?_
      refine PL.q rfl rfl (OQ.addW (r := ((q + 1 : Nat) : Int)) rfl rfl (wrap_succ (by omega))) rfl ?_
      refine PL.q rfl rfl (OQ.assign rfl) rfl ?_
      refine PL.nil ?_
      have hgq0 : w0.heap.size ≤ gq := by
        have := (rows i hi5).1; have := hxX.size; omega
      have hxY1 := hxY.trans hx1
      have sY1 := hx1.size
      have oth : ∀ {g2 : Nat} {u : Value} {n2 : Nat} {h2 : Nat → Int}, Row Y g2 u n2 h2 → g2 ≠ gq → Row Y2 g2 u n2 h2 := fun hr hne => gr.other (hr.ext hx1) hne
      refine fun a ha => ⟨(q + 1, g', c'), ha.sub ⟨rfl, rfl, rfl, rfl, rfl, rfl, rfl, rfl, trivial⟩, ⟨hxY1.trans' (gr.bl (S := (· < w0.heap.size)) fun k hk => ⟨by have := hxY1.size; omega, by omega⟩) (fun _ h => h), by have := gr.size; omega, by simp only; omega, Own.kt gr.kt (ownY.cext hx1.cext) (by decide), oth rowY8 ?_, fun j hj => ?_, Own.kt gr.kt (ownMY.cext hx1.cext) (by decide), fun j hj => ⟨(rowMY j hj).1, oth (rowMY j hj).2 ?_⟩, ?_, ?_⟩, by simp only; omega⟩
      · have := (rows i hi5).2.1; omega
      · by_cases e : gs j = gq
        · have hr := (rowY j hj).ext hx1
          rw [e] at hr ⊢
          exact gr.same _ _ _ hr fun p hp hp2 _ => by omega
        · exact oth (rowY j hj) e
      · have h1 := (rowM j hj).1
        have h2 := (rowMY j hj).1
        have h3 := gsB i hi5
        rcases hgq with e | e
        · rcases h1 with e1 | e1
          · intro ee
            have := hdis j i (by omega) hi5 (by omega); omega
          · omega
        · omega
      · rcases hg' with e | e
        · rw [e]; exact hgq
        · right; simp only; omega
      · simp only
        rw [← Nat.add_assoc]
        refine row2.congr fun p hp => ?_
        by_cases e : p < n + q
        · rw [if_pos e]
        · rw [if_neg e, hG]; simp only
          rw [if_neg (by omega)]; omega
    · refine CD.exit ?_
      obtain rfl : q = 96 := by omega
      refine CD.r FW.wide rfl ?_
      refine PL.q rfl rfl (OQ.move rfl) rfl ?_
      refine PL.q rfl rfl (OQ.move rfl) rfl ?_
      refine PL.slice1 FW.wide rfl rfl rfl rfl rfl rfl ?_
      intro b85 Y3 new85
      have hx3 := new85.ext
      have own3 := ownMY.cext hx3.cext
      have sY := hx3.size
      refine PL.app [.slice (some ⟨gq, 0, none⟩) (n + 96) cq] FW.wide rfl rfl rfl rfl rfl own3 (CellsAt.of_heap new85.heap) rfl rfl (by decide) (by omega) (by omega) (by omega) (fun _ _ => .inl trivial) ?_
      intro v' Y4 hown4 hg4 _
      have hk4 : KT 22 Y3 Y4 := grown_kt own3 hg4
      obtain ⟨a', c', rfl⟩ := hown4.asSlice
      refine PL.q rfl rfl (OQ.assign rfl) rfl ?_
      refine PL.nil ?_
      refine CD.r FW.wide rfl ?_
      refine PL.q rfl rfl (OQ.move rfl) rfl ?_
      refine PL.q rfl rfl (OQ.addW (r := ((i + 1 : Nat) : Int)) rfl rfl (wrap_succ (by omega))) rfl ?_
      refine PL.q rfl rfl (OQ.assign rfl) rfl ?_
      refine PL.nil ?_
      have keep : ∀ {g2 : Nat} {u : Value} {n2 : Nat} {h2 : Nat → Int}, Row Y g2 u n2 h2 → Row Y4 g2 u n2 h2 := fun hr => (hr.ext hx3).kt hk4 (by decide)
      have nb : ∀ k, k < B2 → (Value.slice a11 i c11).ownBlock ≠ some k := fun k hk e => by have := (World.ownsRow.lt own3 k e).1; omega
      refine fun a ha => ⟨(i + 1, a', c', (fun j => if j = i then .slice (some ⟨gq, 0, none⟩) (n + 96) cq else us j), (fun j => if j = i then gq else hs' j)), ha.sub ⟨rfl, rfl, rfl, rfl, rfl, rfl, trivial⟩, ⟨?_, by have := hg4.size; omega, by simp only; omega, ?_, keep rowY8, fun j hj => keep (rowY j hj), ?_, ?_⟩, by simp only; omega⟩
      · exact (hxY.trans hx3).trans' (S := (· < w0.heap.size)) (grown_bl hg4 fun k hk => ⟨by have := (hxY.trans hx3).size; omega, nb k (by have := hxV.size; omega)⟩) (fun _ h => h)
      · exact (ownY.cext hx3.cext).keep fun b hb => hg4.block b (by have := (World.ownsRow.lt (ownY.cext hx3.cext) b hb).2; exact this) (fun e => nb b (by
          have h1 := World.ownsRow.lt ownV b hb; omega) e.symm)
      · simp only [upd_map]; exact hown4
      · intro j hj
        simp only at hj ⊢
        by_cases e : j = i
        · subst e; rw [if_pos rfl, if_pos rfl]
          exact ⟨by omega, keep rowq⟩
        · rw [if_neg e, if_neg e]
          exact ⟨(rowM j (by omega)).1, keep (rowMY j (by omega)).2⟩
  refine CD.exit ?_
  obtain rfl : i = 5 := by omega
  -- all is looked at
  obtain ⟨g11, rfl, -⟩ := ownM.elem 0 (by omega)
  refine CD.seq ?_
  refine CD.rs FW.wide rfl ?_
  refine PL.q rfl rfl (OQ.assign rfl) rfl ?_
  refine PL.to ?_
  refine CD.block ?_
  refine CD.loop (α := Nat) (fun s => [(0, ptr m), (3, .pointer (some ⟨b3, 0, none⟩)), (5, .slice (some ⟨g5, 0, none⟩) 5 c5), (8, .slice (some ⟨g8, 0, none⟩) n c8), (11, .slice (some ⟨g11, 0, none⟩) 5 c11), (15, .int .i64 (s : Nat))])
    (fun s Y => X = Y ∧ s ≤ 5) (fun s => 5 - s) 0 ⟨rfl, rfl, rfl, rfl, rfl, rfl, trivial⟩ ⟨rfl, by simp⟩ ?_
  rintro i _ ⟨rfl, hi⟩
  refine CD.seq ?_
  refine CD.rs FW.wide rfl ?_
  refine PL.q rfl rfl (OQ.move rfl) rfl ?_
  refine PL.q rfl rfl (OQ.move rfl) rfl ?_
  refine PL.q rfl rfl (OQ.lenS rfl) rfl ?_
  refine PL.q rfl rfl (OQ.lss rfl rfl) rfl ?_
  refine PL.to ?_
  refine CD.condD rfl (fun h28 => ?_) (fun h28 => ?_)
  · have hi5 : i < 5 := by omega
    obtain ⟨ci, hci⟩ := hval i hi5
    obtain ⟨g5', e5, cell5⟩ := ownX.elem i hi5
    obtain rfl : g5 = g5' := by simpa using e5
    rw [hci] at cell5
    obtain ⟨g11', e11, cell11⟩ := ownM.elem i hi5
    obtain rfl : g11 = g11' := by simpa using e11
    have rowi := rowX i hi5
    rw [hci] at rowi
    have rowm := (rowM i hi5).2
    obtain ⟨cm, hcm⟩ := rowm.form
    rw [hcm] at cell11 rowm
    generalize hs' i = gm at *
    refine CD.skip ?_
    refine CD.seq ?_
    refine CD.block ?_
    refine CD.rs FW.wide rfl ?_
    refine PL.q rfl rfl (OQ.move rfl) rfl ?_
    refine PL.q rfl rfl (OQ.move rfl) rfl ?_
    refine PL.q rfl rfl (OQ.indexAddr rfl rfl (by first | assumption | omega)) rfl ?_
    refine PL.q rfl rfl (OQ.loadS rfl (by assumption)) rfl ?_
    refine PL.q rfl rfl (OQ.lenS rfl) rfl ?_
    refine PL.q rfl rfl (OQ.assign rfl) rfl ?_
    refine PL.to ?_
    refine CD.seq ?_
    refine CD.rs FW.wide rfl ?_
    refine PL.q rfl rfl (OQ.assign rfl) rfl ?_
    refine PL.to ?_
    refine CD.block ?_
    refine CD.loop (α := Nat) (fun s => [(0, ptr m), (3, .pointer (some ⟨b3, 0, none⟩)), (5, .slice (some ⟨g5, 0, none⟩) 5 c5), (8, .slice (some ⟨g8, 0, none⟩) n c8), (11, .slice (some ⟨g11, 0, none⟩) 5 c11), (15, .int .i64 (i : Nat)), (16, .int .i64 (n : Nat)), (17, .int .i64 (s : Nat))])
      (fun s Y => X = Y ∧ s ≤ n) (fun s => n - s) 0 ⟨rfl, rfl, rfl, rfl, rfl, rfl, rfl, rfl, trivial⟩ ⟨rfl, by simp⟩ ?_
    rintro q _ ⟨rfl, hq⟩
    refine CD.seq ?_
    refine CD.rs FW.wide rfl ?_
    refine PL.q rfl rfl (OQ.move rfl) rfl ?_
    refine PL.q rfl rfl (OQ.move rfl) rfl ?_
    refine PL.q rfl rfl (OQ.lss rfl rfl) rfl ?_
    refine PL.to ?_
    refine CD.condD rfl (fun h32 => ?_) (fun h32 => ?_)
    · have hqn : q < n := by omega
      obtain ⟨wr1, wr2⟩ := wr i q hi5 hqn
      obtain ⟨_, _, d1⟩ := rowi.cell q hqn
      obtain ⟨_, _, d2⟩ := rowm.cell q (by omega)
      have eG : G i q = 100000 * (i : Int) + (q : Int) := by rw [hG]; simp only; rw [if_pos hqn]
      rw [eG] at d2
      refine CD.skip ?_
      refine CD.seq ?_
      refine CD.block ?_
      refine CD.rs FW.wide rfl ?_
      refine PL.q rfl rfl (OQ.move rfl) rfl ?_
      refine PL.q rfl rfl (OQ.move rfl) rfl ?_
      refine PL.q rfl rfl (OQ.indexAddr rfl rfl (by first | assumption | omega)) rfl ?_
      refine PL.q rfl rfl (OQ.loadS rfl (by assumption)) rfl ?_
      refine PL.q rfl rfl (OQ.move rfl) rfl ?_
      refine PL.q rfl rfl (OQ.indexAddr rfl rfl (by first | assumption | omega)) rfl ?_
      refine PL.q rfl rfl (OQ.loadS rfl (by assumption)) rfl ?_
      refine PL.q rfl rfl (OQ.move rfl) rfl ?_
      refine PL.q rfl rfl (OQ.mulW rfl rfl wr1) rfl ?_
      refine PL.q rfl rfl (OQ.move rfl) rfl ?_
      refine PL.q rfl rfl (OQ.addW rfl rfl wr2) rfl ?_
      refine PL.q rfl rfl (OQ.no (OQ.neq rfl rfl) (by simp)) rfl ?_
      refine PL.q rfl rfl (OQ.move rfl) rfl ?_
      refine PL.q rfl rfl (OQ.move rfl) rfl ?_
      refine PL.q rfl rfl (OQ.move rfl) rfl ?_
      refine PL.q rfl rfl (OQ.indexAddr rfl rfl (by first | assumption | omega)) rfl ?_
      refine PL.q rfl rfl (OQ.loadS rfl (by assumption)) rfl ?_
      refine PL.q rfl rfl (OQ.move rfl) rfl ?_
      refine PL.q rfl rfl (OQ.indexAddr rfl rfl (by first | assumption | omega)) rfl ?_
      refine PL.q rfl rfl (OQ.loadS rfl (by assumption)) rfl ?_
      refine PL.q rfl rfl (OQ.move rfl) rfl ?_
      refine PL.q rfl rfl (OQ.mulW rfl rfl wr1) rfl ?_
      refine PL.q rfl rfl (OQ.move rfl) rfl ?_
      refine PL.q rfl rfl (OQ.addW rfl rfl wr2) rfl ?_
      refine PL.q rfl rfl (OQ.no (OQ.neq rfl rfl) (by simp)) rfl ?_
      refine PL.q rfl rfl ((by first | exact OQ.pickT rfl rfl | exact OQ.pickF rfl rfl)) rfl ?_
      refine PL.to ?_
      refine CD.condF rfl ?_
      refine CD.skip ?_
      refine CD.r FW.wide rfl ?_
      refine PL.q rfl rfl (OQ.move rfl) rfl ?_
      refine PL.q rfl rfl (OQ.addW (r := ((q + 1 : Nat) : Int)) rfl rfl (wrap_succ (by omega))) rfl ?_
      refine PL.q rfl rfl (OQ.assign rfl) rfl ?_
      refine PL.nil ?_
      exact fun a ha => ⟨q + 1, ha.sub ⟨rfl, rfl, rfl, rfl, rfl, rfl, rfl, rfl, trivial⟩, ⟨rfl, by omega⟩, by omega⟩
    refine CD.exit ?_
    refine CD.rs FW.wide rfl ?_
    refine PL.q rfl rfl (OQ.assign rfl) rfl ?_
    refine PL.to ?_
    refine CD.block ?_
    refine CD.loop (α := Nat) (fun s => [(0, ptr m), (3, .pointer (some ⟨b3, 0, none⟩)), (5, .slice (some ⟨g5, 0, none⟩) 5 c5), (8, .slice (some ⟨g8, 0, none⟩) n c8), (11, .slice (some ⟨g11, 0, none⟩) 5 c11), (15, .int .i64 (i : Nat)), (16, .int .i64 (n : Nat)), (18, .int .i64 (s : Nat))])
      (fun s Y => X = Y ∧ s ≤ 96) (fun s => 96 - s) 0 ⟨rfl, rfl, rfl, rfl, rfl, rfl, rfl, rfl, trivial⟩ ⟨rfl, by simp⟩ ?_
    rintro q _ ⟨rfl, hq⟩
    refine CD.seq ?_
    refine CD.rs FW.wide rfl ?_
    refine PL.q rfl rfl (OQ.move rfl) rfl ?_
    refine PL.q rfl rfl (OQ.lss rfl rfl) rfl ?_
    refine PL.to ?_
    refine CD.condD rfl (fun h37 => ?_) (fun h37 => ?_)
    · have hqn : q < 96 := by omega
      obtain ⟨wm1, wm2, wm3⟩ := wm i q hi5 hqn
      obtain ⟨_, _, d2⟩ := rowm.cell (n + q) (by omega)
      have eG : G i (n + q) = -1 - 100 * (i : Int) - (q : Int) := by
        rw [hG]; simp only; rw [if_neg (by omega), show n + q - n = q by omega]
      rw [eG] at d2
      refine CD.skip ?_
      refine CD.seq ?_
      refine CD.block ?_
      refine CD.rs FW.wide rfl ?_
      refine PL.q rfl rfl (OQ.move rfl) rfl ?_
      refine PL.q rfl rfl (OQ.move rfl) rfl ?_
      refine PL.q rfl rfl (OQ.indexAddr rfl rfl (by first | assumption | omega)) rfl ?_
      refine PL.q rfl rfl (OQ.loadS rfl (by assumption)) rfl ?_
      refine PL.q rfl rfl (OQ.move rfl) rfl ?_
      refine PL.q rfl rfl (OQ.move rfl) rfl ?_
      refine PL.q rfl rfl (OQ.addW (r := ((n + q : Nat) : Int)) rfl rfl (by rw [i64W _ (by omega) (by omega)]; omega)) rfl ?_
      refine PL.q rfl rfl (OQ.indexAddr rfl rfl (by first | assumption | omega)) rfl ?_
      refine PL.q rfl rfl (OQ.loadS rfl (by assumption)) rfl ?_
      refine PL.q rfl rfl (OQ.move rfl) rfl ?_
      refine PL.q rfl rfl (OQ.mulW rfl rfl wm1) rfl ?_
      refine PL.q rfl rfl (OQ.subW rfl rfl wm2) rfl ?_
      refine PL.q rfl rfl (OQ.move rfl) rfl ?_
      refine PL.q rfl rfl (OQ.subW rfl rfl wm3) rfl ?_
      refine PL.q rfl rfl (OQ.no (OQ.neq rfl rfl) (by simp)) rfl ?_
      refine PL.to ?_
      refine CD.condF rfl ?_
      refine CD.skip ?_
      refine CD.r FW.wide rfl ?_
      refine PL.q rfl rfl (OQ.move rfl) rfl ?_
      refine PL.q rfl rfl (OQ.addW (r := ((q + 1 : Nat) : Int)) rfl rfl (wrap_succ (by omega))) rfl ?_
      refine PL.q rfl rfl (OQ.assign rfl) rfl ?_
      refine PL.nil ?_
      exact fun a ha => ⟨q + 1, ha.sub ⟨rfl, rfl, rfl, rfl, rfl, rfl, rfl, rfl, trivial⟩, ⟨rfl, by omega⟩, by omega⟩
    · refine CD.exit ?_
      refine CD.r FW.wide rfl ?_
      refine PL.q rfl rfl (OQ.move rfl) rfl ?_
      refine PL.q rfl rfl (OQ.addW (r := ((i + 1 : Nat) : Int)) rfl rfl (wrap_succ (by omega))) rfl ?_
      refine PL.q rfl rfl (OQ.assign rfl) rfl ?_
      refine PL.nil ?_
      exact fun a ha => ⟨i + 1, ha.sub ⟨rfl, rfl, rfl, rfl, rfl, rfl, trivial⟩, ⟨rfl, by omega⟩, by omega⟩
  refine CD.exit ?_
  refine CD.as .ext trivial FW.wide (by kernel_rfl) [(0, true), (1, true), (2, true), (3, false), (4, true), (5, true), (7, true), (8, true), (6, false), (9, false), (10, true), (11, true)] (by kernel_rfl) rfl (by kernel_rfl) ?_
  intro w1 hxd _
  have hxE := hxX.trans hxd
  have s1 := st w1 hxE
  have row8e := rowX8.ext hxd
  refine PL.q rfl rfl (OQ.move rfl) rfl ?_
  refine PL.q rfl rfl ((by first | exact OQ.field0 rfl | exact OQ.field rfl)) rfl ?_
  refine PL.q rfl rfl (OQ.loadX rfl (by assumption)) rfl ?_
  have hcall := sameInts_w (some ⟨g8, 0, none⟩) ak c8 ck (keysL t) (keysL t) w1 (hkn _ _ _ row8e) (hk3.ext hxE) (by omega)
  rw [hkl] at hcall
  refine PL.call FW.wide rfl rfl rfl rfl hcall ?_
  rintro _ w2 hx2 rfl
  simp only [decide_true]
  have hxE2 := hxE.trans hx2
  have s2 := st w2 hxE2
  refine PL.q rfl rfl (OQ.move rfl) rfl ?_
  refine PL.q rfl rfl (OQ.move rfl) rfl ?_
  refine PL.q rfl rfl ((by first | exact OQ.field0 rfl | exact OQ.field rfl)) rfl ?_
  refine PL.q rfl rfl (OQ.loadX rfl (by assumption)) rfl ?_
  refine PL.call FW.wide rfl rfl rfl rfl (Keys_w m t w2 (hm3.ext hxE2) (by omega)) ?_
  rintro _ w4 hx4 own4
  rw [hn, keysV_eq] at own4
  obtain ⟨gl, hgl, row4⟩ := Row.of_own own4 (by omega)
  obtain ⟨cl, rfl⟩ := row4.form
  rw [← hF] at row4
  have hcall2 := sameInts_w (some ⟨gl, 0, none⟩) ak cl ck (keysL t) (keysL t) w4 (hkn _ _ _ row4) (hk3.ext (hxE2.trans hx4)) (by omega)
  rw [hkl] at hcall2
  refine PL.call FW.wide rfl rfl rfl rfl hcall2 ?_
  rintro _ w5 hx5 rfl
  simp only [decide_true]
  refine PL.q rfl rfl ((by first | exact OQ.pickT rfl rfl | exact OQ.pickF rfl rfl)) rfl ?_
  refine PL.q rfl rfl (OQ.assign rfl) rfl ?_
  refine PL.to ?_
  exact CD.ret (post1 rfl rfl ⟨_, rfl, hx03.trans ((hxE2.trans hx4).trans hx5), rfl⟩)
end Go.Proofs.Ytdielcpjemkngaa
