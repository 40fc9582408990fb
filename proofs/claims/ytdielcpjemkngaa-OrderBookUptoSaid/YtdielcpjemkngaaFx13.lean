/-
  Framework, part 13: rows of whole numbers that several slices share. Generic but for the types 3 (int) and 22 ([]int) of this cut.
-/
import Derived.Test.YtdielcpjemkngaaFx11
namespace Go.Proofs.Ytdielcpjemkngaa
open Go.RowKit
set_option linter.unusedVariables false

/-- v: a slice of n numbers f 0, f 1, .. that begins with block g -/
def Row (w : World) (g : Nat) (v : Value) (n : Nat) (f : Nat → Int) : Prop :=
  ∃ cap cur, v = .slice (some ⟨g, 0, none⟩) n cap ∧ w.heap[g]? = some (.cells cur 3 (0, 0)) ∧ n ≤ cap ∧ cap ≤ maxLen ∧ cur.size = cap ∧ ∀ i, i < n → cur[i]? = some (.int .i64 (f i))
theorem Row.lt {w : World} {g : Nat} {v : Value} {n : Nat} {f : Nat → Int} (h : Row w g v n f) : g < w.heap.size := by
  obtain ⟨cap, cur, _, h, _⟩ := h
  exact (Array.getElem?_eq_some_iff.1 h).1
theorem Row.congr {w : World} {g : Nat} {v : Value} {n : Nat} {f f' : Nat → Int} (h : Row w g v n f) (e : ∀ i, i < n → f i = f' i) : Row w g v n f' := by
  obtain ⟨cap, cur, h1, h2, h3, h4, h5, h6⟩ := h
  exact ⟨cap, cur, h1, h2, h3, h4, h5, fun i hi => by rw [← e i hi]; exact h6 i hi⟩
theorem Row.keep {w w' : World} {g : Nat} {v : Value} {n : Nat} {f : Nat → Int} (h : Row w g v n f) (e : w'.heap[g]? = w.heap[g]?) : Row w' g v n f := by
  obtain ⟨cap, cur, h1, h2, h3⟩ := h
  exact ⟨cap, cur, h1, e.trans h2, h3⟩
theorem Row.kt {w w' : World} {t : TypeId} (hk : KT t w w') (ht : t ≠ 3) {g : Nat} {v : Value} {n : Nat} {f : Nat → Int} (h : Row w g v n f) : Row w' g v n f := by
  obtain ⟨cap, cur, h1, h2, h3⟩ := h
  exact ⟨cap, cur, h1, hk.out _ _ _ _ (fun e => ht e.symm) h2, h3⟩
theorem Row.ext {w w' : World} (hx : Ext w w') {g : Nat} {v : Value} {n : Nat} {f : Nat → Int} (h : Row w g v n f) : Row w' g v n f := h.keep (Below.block hx _ h.lt)
theorem Row.cell {w : World} {g : Nat} {v : Value} {n : Nat} {f : Nat → Int} (h : Row w g v n f) (i : Nat) (hi : i < n) : ∃ c, v = .slice (some ⟨g, 0, none⟩) n c ∧ w.cell? ⟨g, 0 + i * 1, none⟩ = some (.int .i64 (f i)) := by
  obtain ⟨cap, cur, h1, h2, h3, h4, h5, h6⟩ := h
  exact ⟨cap, h1, by rw [Nat.zero_add, Nat.mul_one]; exact cell_of_heap h2 (h6 i hi)⟩
theorem Row.form {w : World} {g : Nat} {v : Value} {n : Nat} {f : Nat → Int} (h : Row w g v n f) : ∃ c, v = .slice (some ⟨g, 0, none⟩) n c := let ⟨cap, _, h1, _⟩ := h; ⟨cap, h1⟩
theorem Row.of_own {w : World} {B : Nat} {v : Value} {n : Nat} {z : List Int} (h : Own w B 3 1 v n (z.map fun x => .int .i64 x)) (hn : 1 ≤ n) : ∃ g, B ≤ g ∧ Row w g v n (fun i => z.getD i 0) := by
  rcases h.2 with ⟨_, h0⟩ | ⟨g, cap, cur, rfl, hb, hgg, h1, h2, h3, h4⟩
  · omega
  · refine ⟨g, hb, cap, cur, rfl, hgg, h1, h2, by omega, fun i hi => ?_⟩
    have e : cur.toList[i]? = some (.int .i64 (z.getD i 0)) := by
      rw [Nat.mul_one] at h4
      have hl := h.1
      rw [List.length_map, Nat.mul_one] at hl
      have : (cur.toList.take n)[i]? = some (.int .i64 (z.getD i 0)) := by
        rw [h4, List.getElem?_map]
        simp [show i < z.length by omega]
      rwa [List.getElem?_take_of_lt hi] at this
    simpa using e
/-- all cells of a slice of numbers -/
theorem Row.cells {w : World} {g : Nat} {v : Value} {n : Nat} {f : Nat → Int} (h : Row w g v n f) : CellsAt w g 0 ((List.range n).map fun i => .int .i64 (f i)) := fun j u hj => by
  have hjn : j < n := by have := (List.getElem?_eq_some_iff.1 hj).1; simpa using this
  obtain ⟨c, _, hc⟩ := h.cell j hjn
  rw [Nat.mul_one] at hc
  rw [hc]
  simp [hjn] at hj
  rw [hj]
theorem Row.ints {w : World} {g : Nat} {v : Value} {n : Nat} {f : Nat → Int} (h : Row w g v n f) : IntsAt w .i64 (some ⟨g, 0, none⟩) ((List.range n).map f) := fun i u hu => by
  have hi : i < n := by have := (List.getElem?_eq_some_iff.1 hu).1; simpa using this
  obtain ⟨c, _, hc⟩ := h.cell i hi
  exact ⟨g, 0, rfl, by rw [hc]; simp [hi] at hu; rw [hu]⟩

/-- what an append onto the row g leaves -/
structure Grew (w w' : World) (g n m : Nat) (f' : Nat → Int) : Prop where
  os : w'.os = w.os
  tape : w'.tape = w.tape
  output : w'.output = w.output
  size : w.heap.size ≤ w'.heap.size
  block : ∀ k, k < w.heap.size → k ≠ g → w'.heap[k]? = w.heap[k]?
  kt : KT 3 w w'
  same : ∀ u n2 h, Row w g u n2 h → (∀ i, n ≤ i → i < n2 → i < n + m → h i = f' (i - n)) → Row w' g u n2 h
theorem Grew.bl {w w' : World} {g n m : Nat} {f' : Nat → Int} (h : Grew w w' g n m f') {S : Nat → Prop} (hS : ∀ k, S k → k < w.heap.size ∧ k ≠ g) : Bl S w w' := ⟨h.os, h.tape, h.output, h.size, fun k hk => h.block k (hS k hk).1 (hS k hk).2⟩
theorem Grew.other {w w' : World} {g n m : Nat} {f' : Nat → Int} (h : Grew w w' g n m f') {g2 : Nat} {u : Value} {n2 : Nat} {h2 : Nat → Int} (hr : Row w g2 u n2 h2) (hne : g2 ≠ g) : Row w' g2 u n2 h2 := hr.keep (h.block _ hr.lt hne)
/-- where all is one mark -/
theorem Grew.mark {w w' : World} {g n m : Nat} {k : Int} (h : Grew w w' g n m (fun _ => k)) {g2 : Nat} {u : Value} {n2 : Nat} (hr : Row w g2 u n2 (fun _ => k)) : Row w' g2 u n2 (fun _ => k) := by
  by_cases e : g2 = g
  · subst e; exact h.same _ _ _ hr fun _ _ _ _ => rfl
  · exact h.other hr e

theorem fill_ones : ∀ (vs : List Value) (k : Nat) (arr : Array Value), vs.all oneV = true → arr.size = k + vs.length → Instr.fill (fun i => some (i * 1, 1)) arr ((vs.zipIdx k).map fun p => (p.2, p.1)) = some (arr.toList.take k ++ vs).toArray
  | [], k, arr, _, h => by
    simp only [List.length_nil, Nat.add_zero] at h
    simp only [List.zipIdx_nil, List.map_nil, Instr.fill, List.append_nil]
    rw [List.take_of_length_le (by simp [h])]
  | v :: r, k, arr, h1, h => by
    simp only [List.all_cons, Bool.and_eq_true] at h1
    simp only [List.length_cons] at h
    have hc : v.cells = #[v] := cells_one h1.1
    simp only [List.zipIdx_cons, List.map_cons, Instr.fill, hc]
    rw [if_neg (by simp; omega)]
    have e : (#[v].zipIdx.foldl (fun cs (x : Value × Nat) => cs.setIfInBounds (k * 1 + x.2) x.1) arr) = arr.setIfInBounds k v := by simp
    have ih := fill_ones r (k + 1) (arr.setIfInBounds k v) h1.2 (by simp; omega)
    refine Eq.trans ?_ (ih.trans ?_)
    · simp
    · rw [Array.toList_setIfInBounds, take_set_succ _ _ _ (by simp; omega)]; simp

section
variable {P : Program} {F : Fence} {n N : Nat} {D : List Deferred} {l : List Oper} {m : Md} {K : Act → World → Prop} {L : List (Nat × Value)} {w : World}
variable {t u t' : TypeId} {pos : String} {af : Array Edge} {g : Option (Nat × Bool)} {dst : Option Tmp} {x y z : Operand} {i : Nat} {q : Bool} {rest : List (Nat × Bool)} {v : Value}

theorem run_append_row {zv : Value} [h : Se P 22 3 zv 1 8] {ty : TypeId} {gr ns : Nat} {sv : Value} {f : Nat → Int} {k c o b : Nat} {f' : Nat → Int} (hr : Row w gr sv ns f) (hk : 1 ≤ k) (hn : CellsAt w b o ((List.range k).map fun i => .int .i64 (f' i)))
    (hb : (ns + k) * 8 ≤ 140737488355328) : ∃ v' w' g', (Builtin.append_ #[22, 22] ty #[sv, .slice (some ⟨b, o, none⟩) k c]).run P w = .ok v' w' ∧
      Row w' g' v' (ns + k) (fun i => if i < ns then f i else f' (i - ns)) ∧ Grew w w' gr ns k f' ∧ (g' = gr ∨ g' = w.heap.size) := by
  obtain ⟨h1', inf, h2, h3, h4, h5, h6⟩ := h.out
  obtain ⟨cap, cur, rfl, hg, hnc, hcm, hcs, hcell⟩ := hr
  have hltg := (Array.getElem?_eq_some_iff.1 hg).1
  have hl : ((List.range k).map fun i => Value.int .i64 (f' i)).length = k * inf.size := by simp [h4]
  have hn' : ∀ j u, ((List.range k).map fun i => Value.int .i64 (f' i))[j]? = some u → w.cell? (Addr.add ⟨b, o, none⟩ j) = some u := fun j u hj => by rw [Addr.add_z]; exact hn j u hj
  have hone : ∀ u ∈ ((List.range k).map fun i => Value.int .i64 (f' i)), u.oneCell' = true := fun u hu => by
    obtain ⟨i, _, rfl⟩ := List.mem_map.1 hu; rfl
  have hnew : ∀ (a : Array Value), (∀ i, i < ns → a[i]? = cur[i]?) → (∀ i, i < k → a[ns + i]? = some (.int .i64 (f' i))) → ∀ i, i < ns + k → a[i]? = some (.int .i64 (if i < ns then f i else f' (i - ns))) := fun a ha hb i hi => by
    split
    · rename_i hlt; rw [ha i hlt, hcell i hlt]
    · rename_i hge
      have := hb (i - ns) (by omega)
      rwa [show ns + (i - ns) = i by omega] at this
  by_cases hroom : ns + k ≤ cap
  · have hrun := run_append_room (P := P) w 22 ty 3 inf h1' h2 gr ns cap cur hg ⟨b, o, none⟩ k c _ hl hn' hone hroom (by rw [hl, h4]; omega)
    rw [h4, Nat.mul_one, List.length_map, List.length_range] at hrun
    have hset := setRow_heap w gr cur (cur.toList.take ns ++ ((List.range k).map fun i => Value.int .i64 (f' i)) ++ cur.toList.drop (ns + k)).toArray 3 (0, 0) hg
    have hA : ∀ i, i < ns → (cur.toList.take ns ++ ((List.range k).map fun i => Value.int .i64 (f' i)) ++ cur.toList.drop (ns + k)).toArray[i]? = cur[i]? := fun i hi => by
      rw [List.getElem?_toArray, List.getElem?_append_left (by simp; omega), List.getElem?_append_left (by simp; omega), List.getElem?_take_of_lt hi]; simp
    have hBn : ∀ i, i < k → (cur.toList.take ns ++ ((List.range k).map fun i => Value.int .i64 (f' i)) ++ cur.toList.drop (ns + k)).toArray[ns + i]? = some (.int .i64 (f' i)) := fun i hi => by
      rw [List.getElem?_toArray, List.getElem?_append_left (by simp; omega), List.getElem?_append_right (by simp; omega)]
      simp only [List.length_take, Array.length_toList, List.getElem?_map]
      rw [show ns + i - min ns cur.size = i by omega]
      simp [hi]
    have hC : ∀ i, ns + k ≤ i → (cur.toList.take ns ++ ((List.range k).map fun i => Value.int .i64 (f' i)) ++ cur.toList.drop (ns + k)).toArray[i]? = cur[i]? := fun i hi => by
      rw [List.getElem?_toArray, List.getElem?_append_right (by simp; omega), List.getElem?_drop]
      simp only [List.length_append, List.length_take, Array.length_toList, List.length_map, List.length_range]
      rw [show ns + k + (i - (min ns cur.size + k)) = i by omega]; simp
    have hsz : (cur.toList.take ns ++ ((List.range k).map fun i => Value.int .i64 (f' i)) ++ cur.toList.drop (ns + k)).toArray.size = cur.size := by simp; omega
    generalize (cur.toList.take ns ++ ((List.range k).map fun i => Value.int .i64 (f' i)) ++ cur.toList.drop (ns + k)).toArray = a at *
    refine ⟨_, _, gr, hrun, ⟨cap, a, rfl, hset, hroom, hcm, by omega, hnew a hA hBn⟩, ⟨rfl, rfl, rfl, by simp, fun j _ hj => setRow_other w gr j _ hj, ⟨fun j cc tt ff htt hj => ?_⟩, ?_⟩, .inl rfl⟩
    · have hne : j ≠ gr := fun e => by subst e; rw [hg] at hj; cases hj; exact htt rfl
      rw [setRow_other w gr j _ hne]; exact hj
    · rintro u n2 hh ⟨cap2, cur2, rfl, hg2, hn2, hcm2, hcs2, hc2⟩ hag
      rw [hg] at hg2; cases hg2
      refine ⟨cap2, a, rfl, hset, hn2, hcm2, by omega, fun i hi => ?_⟩
      by_cases h1 : i < ns
      · rw [hA i h1]; exact hc2 i hi
      · by_cases h2 : i < ns + k
        · have := hBn (i - ns) (by omega)
          rw [show ns + (i - ns) = i by omega] at this
          rw [this, hag i (by omega) hi h2]
        · rw [hC i (by omega)]; exact hc2 i hi
  · have holds : ∀ j v, (cur.toList.take ns)[j]? = some v → w.cell? (Addr.add ⟨gr, 0, none⟩ j) = some v := fun j v hj => by
      rw [Addr.add_z, Nat.zero_add]
      have hjn : j < ns := by have := (List.getElem?_eq_some_iff.1 hj).1; simp at this; omega
      rw [List.getElem?_take_of_lt hjn] at hj
      exact cell_of_heap hg (by simpa using hj)
    have hrun := run_append_grow (P := P) w 22 ty 3 inf zv h1' h2 h3 ⟨gr, 0, none⟩ ns cap (cur.toList.take ns) (by simp [h4]; omega) holds ⟨b, o, none⟩ k c _ hl hn' (by omega) (by omega)
      (growslice_fits (by omega) (by rw [h5]; exact hb))
    have hx : Ext w (w.drew.alloc (.cells ((cur.toList.take ns).toArray ++ ((List.range k).map fun i => Value.int .i64 (f' i)).toArray ++ Builtin.zeroCells zv.cells (grownCap w (ns + k) cap 3 - (ns + k))) 3)) := (Ext.drew w).trans (Ext.alloc _ _)
    have hge := grownCap_ge w (ns + k) cap 3
    refine ⟨_, _, w.heap.size, hrun, ⟨_, _, rfl, heap_alloc_new w.drew _, hge, grownCap_le_maxLen w (ns + k) cap 3 (by simp only [maxLen]; omega), ?_, ?_⟩, ⟨rfl, rfl, rfl, hx.size, fun j hj _ => Below.block hx j hj, hx.kt, fun u n2 hh hr _ => hr.ext hx⟩, .inr rfl⟩
    · simp [size_zeroCells, h6]; omega
    · refine hnew _ (fun i hi => ?_) (fun i hi => ?_)
      · rw [Array.getElem?_append_left (by simp; omega), Array.getElem?_append_left (by simp; omega), List.getElem?_toArray, List.getElem?_take_of_lt hi]; simp
      · rw [Array.getElem?_append_left (by simp; omega), Array.getElem?_append_right (by simp; omega), List.getElem?_toArray]
        simp only [List.size_toArray, List.length_take, Array.length_toList, List.getElem?_map]
        rw [show ns + i - min ns cur.size = i by omega]
        simp [hi]

/-- []T{x, y, ..} of elements of one cell -/
theorem PL.sliceN [hm : ME m] {e : TypeId} {zv : Value} {byt : Nat} [h : Se P t e zv 1 byt] {ps : Array (Nat × Operand)} (vs : List Value) {k : Nat} (hF : FW F)
    (ho : l[i]? = some ⟨dst, .buildSlice t k ps, t', pos, af, g⟩) (hw : wantL l L ⟨dst, .buildSlice t k ps, t', pos, af, g⟩ = some true)
    (hk : vs.length = k) (hv : evp L ps.toList = some (vs.zipIdx.map fun p => (p.2, p.1))) (h1 : (vs.all oneV && Nat.ble vs.length 16777216 && Nat.blt 0 vs.length) = true) (hin : inT N dst = true)
    (hh : ∀ b w', New w w' b (.cells vs.toArray e) → PL P F n N D l m K rest (putL dst (.slice (some ⟨b, 0, none⟩) k k) L) w') : PL P F n N D l m K ((i, false) :: rest) L w := by
  subst hk
  simp only [Bool.and_eq_true] at h1
  have h2 := Nat.le_of_ble_eq_true h1.1.2
  have h3 : 0 < vs.length := by have := h1.2; simp [Nat.blt] at this; omega
  exact PL.buildSlice (cs := vs.toArray) hF ho hw hv (by omega) (by omega) (by
    have := fill_ones vs 0 (madeCells zv.cells (vs.length * 1)) h1.1.1 (by simp [size_madeCells])
    simpa using this) hin hh

/-- append(s, ys...) of whole numbers -/
theorem PL.appR {zv : Value} [h : Se P 22 3 zv 1 8] {gr ns : Nat} {sv : Value} {f : Nat → Int} {k c o b : Nat} (f' : Nat → Int) (hF : FW F)
    (ho : l[i]? = some ⟨dst, .call ⟨.builtin .append, #[x, y], #[22, 22]⟩, t', pos, af, g⟩) (hw : wantL l L ⟨dst, .call ⟨.builtin .append, #[x, y], #[22, 22]⟩, t', pos, af, g⟩ = some true)
    (hx : ev L x = some sv) (hy : ev L y = some (.slice (some ⟨b, o, none⟩) k c)) (hin : inT N dst = true)
    (hr : Row w gr sv ns f) (hk : 1 ≤ k) (hn : CellsAt w b o ((List.range k).map fun i => .int .i64 (f' i))) (hb : (ns + k) * 8 ≤ 140737488355328) (hE : ∀ w', Grew w w' gr ns k f' → m.E w w')
    (hh : ∀ v' w' g', Row w' g' v' (ns + k) (fun i => if i < ns then f i else f' (i - ns)) → Grew w w' gr ns k f' → (g' = gr ∨ g' = w.heap.size) → PL P F n N D l m K rest (putL dst v' L) w') : PL P F n N D l m K ((i, false) :: rest) L w := by
  obtain ⟨v', w', g', hrun, h1, h2, h3⟩ := run_append_row (P := P) (ty := t') (c := c) hr hk hn hb
  refine PL.val (v := v') (w' := w') ho hw (fun _ e => by cases e) hF hin (fun a ha => ?_) (hE w' h2) (hh v' w' g' h1 h2 h3)
  have e1 := ha.eval hx; have e2 := ha.eval hy
  simp only [execOp, resolve, List.map_toArray, List.map_cons, List.map_nil, e1, e2, Sem.run_bind, Sem.run_pure, Result.andThen, invoke, builtin]
  simp only [hrun]

/-- s[j] = x -/
theorem PL.setR [hs : SzN P 3 1] {gr ns j : Nat} {sv : Value} {f : Nat → Int} {k : Int} (hF : FW F) (ho : l[i]? = some ⟨dst, .store 3 x y, t', pos, af, g⟩) (hw : wantL l L ⟨dst, .store 3 x y, t', pos, af, g⟩ = some true)
    (hx : ev L x = some (.pointer (some ⟨gr, 0 + j * 1, none⟩))) (hy : ev L y = some (.int .i64 k)) (hin : inT N dst = true) (hr : Row w gr sv ns f) (hj : j < ns) (hE : ∀ w', Bl (fun b => b ≠ gr) w w' → m.E w w' ∨ Last l i = true)
    (h : ∀ w', Row w' gr sv ns (fun i => if i = j then k else f i) → Bl (fun b => b ≠ gr) w w' → KT 3 w w' → w'.heap.size = w.heap.size → PL P F n N D l m K rest (putL dst undef L) w') : PL P F n N D l m K ((i, false) :: rest) L w := by
  obtain ⟨cap, cur, rfl, hg, hnc, hcm, hcs, hcell⟩ := hr
  refine PL.put (cs := cur) (vs := [.int .i64 k]) hF ho hw hx hy hin hg rfl rfl rfl (Nat.ble_eq_true_of_le (by simp only [List.length_cons, List.length_nil]; omega)) (fun w' hw' => hE w' (hw'.bl (by simp))) fun w' hw' => h w' ⟨cap, _, rfl, hw'.heap, hnc, hcm, ?_, fun i hi => ?_⟩ (hw'.bl (by simp)) (hw'.kt hg) hw'.size
  · simp [putAt, setAt_eq]; omega
  · rw [List.getElem?_toArray]
    simp only [putAt, setAt_eq, Nat.zero_add, Nat.mul_one, List.getElem?_set]
    by_cases e : j = i
    · subst e; simp [show j < cur.size by omega]
    · rw [if_neg e, if_neg (fun e' => e e'.symm)]
      have := hcell i hi
      simpa using this
end
end Go.Proofs.Ytdielcpjemkngaa
