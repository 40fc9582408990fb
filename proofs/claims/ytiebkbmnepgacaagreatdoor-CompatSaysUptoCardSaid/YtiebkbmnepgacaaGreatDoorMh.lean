import Derived.Test.YtiebkbmnepgacaaGreatDoorMa
/-
  Small helpers of the walks of compat.
-/
namespace Go.Proofs.YtiebkbmnepgacaaGreatDoor
open Go.RowKit
set_option linter.unusedVariables false

theorem wrapI (x : Int) (h1 : -9223372036854775808 ≤ x) (h2 : x ≤ 9223372036854775807) : IntKind.i64.wrap x = x := IntWalk.i64_in x ⟨h1, h2⟩
theorem wrap_succ {a : Nat} (ha : a ≤ 4611686018427387904) : IntKind.i64.wrap ((a : Int) + 1) = ((a + 1 : Nat) : Int) := by
  rw [wrapI _ (by omega) (by omega)]; omega
theorem fill_ones : ∀ (vs : List Value) (k : Nat) (arr : Array Value), vs.all oneV = true → arr.size = k + vs.length → Instr.fill (fun i => some (i * 1, 1)) arr ((vs.zipIdx k).map fun p => (p.2, p.1)) = some (arr.toList.take k ++ vs).toArray
  | [], k, arr, _, h => by
    simp only [List.length_nil, Nat.add_zero] at h
    simp only [List.zipIdx_nil, List.map_nil, Instr.fill, List.append_nil]
    rw [List.take_of_length_le (by simp [h])]
  | v :: r, k, arr, h1, h => by
    simp only [List.all_cons, Bool.and_eq_true] at h1
    simp only [List.length_cons] at h
    have hc : v.cells = #[v] := cells_one h1.1
    simp only [List.zipIdx_cons, List.map_cons, Instr.fill, hc]
    rw [if_neg (by simp; omega)]
    have e : (#[v].zipIdx.foldl (fun cs (x : Value × Nat) => cs.setIfInBounds (k * 1 + x.2) x.1) arr) = arr.setIfInBounds k v := by simp
    have ih := fill_ones r (k + 1) (arr.setIfInBounds k v) h1.2 (by simp; omega)
    refine Eq.trans ?_ (ih.trans ?_)
    · simp
    · rw [Array.toList_setIfInBounds, take_set_succ _ _ _ (by simp; omega)]; simp
section
variable {P : Program} {F : Fence} {n N : Nat} {D : List Deferred} {l : List Oper} {m : Md} {K : Act → World → Prop} {L : List (Nat × Value)} {w : World}
variable {t u t' : TypeId} {pos : String} {af : Array Edge} {g : Option (Nat × Bool)} {dst : Option Tmp} {x y z : Operand} {i : Nat} {q : Bool} {rest : List (Nat × Bool)} {v : Value}
theorem PL.sliceN [hm : ME m] {e : TypeId} {zv : Value} {byt : Nat} [h : Se P t e zv 1 byt] {ps : Array (Nat × Operand)} (vs : List Value) {k : Nat} (hF : FW F)
    (ho : l[i]? = some ⟨dst, .buildSlice t k ps, t', pos, af, g⟩) (hw : wantL l L ⟨dst, .buildSlice t k ps, t', pos, af, g⟩ = some true)
    (hk : vs.length = k) (hv : evp L ps.toList = some (vs.zipIdx.map fun p => (p.2, p.1))) (h1 : (vs.all oneV && Nat.ble vs.length 16777216 && Nat.blt 0 vs.length) = true) (hin : inT N dst = true)
    (hh : ∀ b w', New w w' b (.cells vs.toArray e) → PL P F n N D l m K rest (putL dst (.slice (some ⟨b, 0, none⟩) k k) L) w') : PL P F n N D l m K ((i, false) :: rest) L w := by
  subst hk
  simp only [Bool.and_eq_true] at h1
  have h2 := Nat.le_of_ble_eq_true h1.1.2
  have h3 : 0 < vs.length := by have := h1.2; simp [Nat.blt] at this; omega
  exact PL.buildSlice (cs := vs.toArray) hF ho hw hv (by omega) (by omega) (by
    have := fill_ones vs 0 (madeCells zv.cells (vs.length * 1)) h1.1.1 (by simp [size_madeCells])
    simpa using this) hin hh
end
end Go.Proofs.YtiebkbmnepgacaaGreatDoor
/-
  The walks of compat's helpers: single, Index, Contains, wider, keeps.
-/
namespace Go.Proofs.YtiebkbmnepgacaaGreatDoor
open Go.RowKit
set_option linter.unusedVariables false
set_option maxRecDepth 100000

def ints (l : List Int) : List Value := l.map fun x => .int .i64 x
def single (c : Int) : Bool := decide (c = 1) || decide (c = 2)
theorem single_w (c : Int) (w : World) : Rt Tryz.prog 40 [.int .i64 c] w fun v _ => v = .bool (single c) := by
  refine Rt.of Tryz.func40 rfl Tryz.ntmps40 (by rfl) ?_
  refine CD.rs FW.wide rfl ?_
  refine PL.q rfl rfl (OQ.assign rfl) rfl ?_
  refine PL.to ?_
  refine CD.rs FW.wide rfl ?_
  refine PL.q rfl rfl (OQ.move rfl) rfl ?_
  by_cases h1 : c = 1
  · refine PL.q rfl rfl (OQ.yes (OQ.eql rfl rfl) (decide_eq_true h1)) rfl ?_
    refine PL.q rfl rfl (OQ.move rfl) rfl ?_
    refine PL.skip rfl rfl rfl ?_
    refine PL.skip rfl rfl rfl ?_
    refine PL.q rfl rfl ((by first | exact OQ.pickT rfl rfl | exact OQ.pickF rfl rfl)) rfl ?_
    refine PL.q rfl rfl (OQ.assign rfl) rfl ?_
    refine PL.to ?_
    exact CD.ret (post1 rfl rfl ⟨_, rfl, Ext.refl _, by simp [single, h1]⟩)
  · refine PL.q rfl rfl (OQ.no (OQ.eql rfl rfl) (decide_eq_false h1)) rfl ?_
    refine PL.q rfl rfl (OQ.move rfl) rfl ?_
    refine PL.q rfl rfl (OQ.move rfl) rfl ?_
    refine PL.q rfl rfl (OQ.eql rfl rfl) rfl ?_
    refine PL.q rfl rfl ((by first | exact OQ.pickT rfl rfl | exact OQ.pickF rfl rfl)) rfl ?_
    refine PL.q rfl rfl (OQ.assign rfl) rfl ?_
    refine PL.to ?_
    exact CD.ret (post1 rfl rfl ⟨_, rfl, Ext.refl _, by simp [single, h1]⟩)

theorem Index_w (a : Option Addr) (c : Nat) (l : List Int) (x : Int) (w : World) (h : Cells w a (ints l)) (hl : l.length ≤ 1000) :
    Rt Tryz.prog 167 [.slice a l.length c, .int .i64 x] w fun v _ => ∃ r : Int, v = .int .i64 r ∧ decide (0 ≤ r) = l.contains x := by
  refine Rt.of Tryz.func167 rfl Tryz.ntmps167 (by rfl) ?_
  refine CD.rs FW.wide rfl ?_
  refine PL.q rfl rfl (OQ.assign rfl) rfl ?_
  refine PL.to ?_
  refine CD.seq ?_
  refine CD.rs FW.wide rfl ?_
  refine PL.q rfl rfl (OQ.move rfl) rfl ?_
  refine PL.q rfl rfl (OQ.lenS rfl) rfl ?_
  refine PL.q rfl rfl (OQ.move rfl) rfl ?_
  refine PL.to ?_
  refine CD.block ?_
  refine CD.loop (α := Nat) (fun s => [(0, .slice a l.length c), (1, .int .i64 x), (7, .int .i64 l.length), (8, .int .i64 s)]) (fun s w' => w' = w ∧ s ≤ l.length ∧ ∀ k, k < s → l[k]? ≠ some x) (fun s => l.length - s) 0 ⟨rfl, rfl, rfl, rfl, trivial⟩ ⟨rfl, by simp, fun k hk => by omega⟩ ?_
  rintro i _ ⟨rfl, hi, he⟩
  refine CD.rs FW.wide rfl ?_
  refine PL.q rfl rfl (OQ.lss rfl rfl) rfl ?_
  refine PL.to ?_
  refine CD.seq ?_
  refine CD.condD rfl (fun h2 => ?_) (fun h2 => ?_)
  · have hi1 : i < l.length := by omega
    obtain ⟨b, o, rfl, hc⟩ := h i (.int .i64 l[i]) (by simp [ints, hi1])
    refine CD.skip ?_
    refine CD.seq ?_
    refine CD.block ?_
    refine CD.rs FW.wide rfl ?_
    refine PL.q rfl rfl (OQ.move rfl) rfl ?_
    refine PL.q rfl rfl (OQ.assign rfl) rfl ?_
    refine PL.to ?_
    refine CD.rs FW.wide rfl ?_
    refine PL.q rfl rfl (OQ.move rfl) rfl ?_
    refine PL.q rfl rfl (OQ.move rfl) rfl ?_
    refine PL.q rfl rfl (OQ.move rfl) rfl ?_
    refine PL.q rfl rfl (OQ.indexAddr rfl rfl (by first | assumption | omega)) rfl ?_
    refine PL.q rfl rfl (OQ.loadS rfl (by assumption)) rfl ?_
    refine PL.q rfl rfl (OQ.eql rfl rfl) rfl ?_
    refine PL.to ?_
    refine CD.condD rfl (fun h4 => ?_) (fun h4 => ?_)
    · refine CD.rs FW.wide rfl ?_
      refine PL.q rfl rfl (OQ.move rfl) rfl ?_
      refine PL.q rfl rfl (OQ.assign rfl) rfl ?_
      refine PL.to ?_
      refine CD.ret (post1 rfl rfl ⟨_, rfl, Ext.refl _, i, rfl, ?_⟩)
      have : x ∈ l := h4 ▸ List.getElem_mem hi1
      simp [this]
    · refine CD.skip ?_
      refine CD.r FW.wide rfl ?_
      refine PL.q rfl rfl (OQ.addW (r := ((i + 1 : Nat) : Int)) rfl rfl (wrap_succ (by omega))) rfl ?_
      refine PL.q rfl rfl (OQ.move rfl) rfl ?_
      refine PL.nil ?_
      refine fun a ha => ⟨i + 1, ha.sub ⟨rfl, rfl, rfl, rfl, trivial⟩, ⟨rfl, by omega, fun k hk => ?_⟩, by omega⟩
      rcases Nat.lt_succ_iff_lt_or_eq.1 hk with hk | rfl
      · exact he k hk
      · rw [List.getElem?_eq_getElem hi1]; intro e; exact h4 (Option.some.inj e).symm
  · refine CD.exit ?_
    refine CD.rs FW.wide rfl ?_
    refine PL.q rfl rfl (OQ.assign rfl) rfl ?_
    refine PL.to ?_
    refine CD.ret (post1 rfl rfl ⟨_, rfl, Ext.refl _, -1, rfl, ?_⟩)
    have : x ∉ l := fun hm => by
      obtain ⟨k, hk, e⟩ := List.getElem_of_mem hm
      exact he k (by omega) (by rw [List.getElem?_eq_getElem hk, e])
    simp [this]

theorem Contains_w (a : Option Addr) (c : Nat) (l : List Int) (x : Int) (w : World) (h : Cells w a (ints l)) (hl : l.length ≤ 1000) :
    Rt Tryz.prog 100 [.slice a l.length c, .int .i64 x] w fun v _ => v = .bool (l.contains x) := by
  refine Rt.of Tryz.func100 rfl Tryz.ntmps100 (by rfl) ?_
  refine CD.rs FW.wide rfl ?_
  refine PL.q rfl rfl (OQ.assign rfl) rfl ?_
  refine PL.to ?_
  refine CD.rs FW.wide rfl ?_
  refine PL.q rfl rfl (OQ.move rfl) rfl ?_
  refine PL.q rfl rfl (OQ.move rfl) rfl ?_
  refine PL.call FW.wide rfl rfl rfl rfl (Index_w a c l x w h hl) ?_
  rintro _ w7 hx7 ⟨r, rfl, hr⟩
  refine PL.q rfl rfl (OQ.cast (OQ.geq rfl rfl) (congrArg Value.bool hr)) rfl ?_
  refine PL.q rfl rfl (OQ.assign rfl) rfl ?_
  refine PL.to ?_
  exact CD.ret (post1 rfl rfl ⟨_, rfl, hx7, rfl⟩)

def wkey : Nat → List Int
  | 3 => [4]
  | 5 => [6]
  | 7 => [8]
  | 13 => [3, 4, 5, 6]
  | _ => []
def wmore : Nat → List Int
  | 3 => [16]
  | 16 => [3, 4]
  | 14 => [15]
  | _ => []
/-- the table of wider, laid at block b -/
def WAt (w : World) (b : Nat) : Prop := ∀ i, i < 17 → ∃ a1 c1 a2 c2, CellsAt w b (0 + i * 2) [.slice a1 (wkey i).length c1, .slice a2 (wmore i).length c2] ∧ Cells w a1 (ints (wkey i)) ∧ Cells w a2 (ints (wmore i))
theorem New.cells {w w' w2 : World} {b : Nat} {vs : List Value} {t : TypeId} (h : New w w' b (.cells vs.toArray t)) (hx : Ext w' w2) : Cells w2 (some ⟨b, 0, none⟩) vs := fun i u hu => ⟨b, 0, rfl, hx.cell (h.cell (by simpa using hu))⟩
theorem cellsAt2 {w : World} {b o : Nat} {x y : Value} (h1 : w.cell? ⟨b, o, none⟩ = some x) (h2 : w.cell? ⟨b, o + 1, none⟩ = some y) : CellsAt w b o [x, y] := fun j u hj => by
  match j, hj with
  | 0, hj => simp only [List.getElem?_cons_zero, Option.some.injEq] at hj; subst hj; exact h1
  | 1, hj => simp only [List.getElem?_cons_succ, List.getElem?_cons_zero, Option.some.injEq] at hj; subst hj; exact h2
theorem made34 : madeCells (Value.agg #[Value.slice none 0 0, Value.slice none 0 0]).cells (17 * 2) = #[.slice none 0 0, .slice none 0 0, .slice none 0 0, .slice none 0 0, .slice none 0 0, .slice none 0 0, .slice none 0 0, .slice none 0 0, .slice none 0 0, .slice none 0 0, .slice none 0 0, .slice none 0 0, .slice none 0 0, .slice none 0 0, .slice none 0 0, .slice none 0 0, .slice none 0 0, .slice none 0 0, .slice none 0 0, .slice none 0 0, .slice none 0 0, .slice none 0 0, .slice none 0 0, .slice none 0 0, .slice none 0 0, .slice none 0 0, .slice none 0 0, .slice none 0 0, .slice none 0 0, .slice none 0 0, .slice none 0 0, .slice none 0 0, .slice none 0 0, .slice none 0 0] := by kernel_rfl
theorem wider_w (w : World) : Rt Tryz.prog 99 [] w fun v w' => ∃ b, v = .slice (some ⟨b, 0, none⟩) 17 17 ∧ WAt w' b := by
  refine Rt.of Tryz.func99 rfl Tryz.ntmps99 (by rfl) ?_
  refine CD.rs FW.wide rfl ?_
  refine PL.q rfl rfl (OQ.assign rfl) rfl ?_
  refine PL.to ?_
  refine CD.rs FW.wide rfl ?_
  refine PL.sliceN [.int .i64 4] FW.wide rfl rfl rfl rfl rfl rfl ?_
  intro b1 w1 new1
  refine PL.sliceN [.int .i64 16] FW.wide rfl rfl rfl rfl rfl rfl ?_
  intro b2 w2 new2
  refine PL.q rfl rfl ((by first | exact OQ.build1 rfl rfl | exact OQ.buildC rfl rfl)) rfl ?_
  refine PL.sliceN [.int .i64 6] FW.wide rfl rfl rfl rfl rfl rfl ?_
  intro b4 w4 new4
  refine PL.q rfl rfl ((by first | exact OQ.build1 rfl rfl | exact OQ.buildC rfl rfl)) rfl ?_
  refine PL.sliceN [.int .i64 8] FW.wide rfl rfl rfl rfl rfl rfl ?_
  intro b6 w6 new6
  refine PL.q rfl rfl ((by first | exact OQ.build1 rfl rfl | exact OQ.buildC rfl rfl)) rfl ?_
  refine PL.sliceN [.int .i64 3, .int .i64 4, .int .i64 5, .int .i64 6] FW.wide rfl rfl rfl rfl rfl rfl ?_
  intro b8 w8 new8
  refine PL.q rfl rfl ((by first | exact OQ.build1 rfl rfl | exact OQ.buildC rfl rfl)) rfl ?_
  refine PL.sliceN [.int .i64 3, .int .i64 4] FW.wide rfl rfl rfl rfl rfl rfl ?_
  intro b10 w10 new10
  refine PL.q rfl rfl ((by first | exact OQ.build1 rfl rfl | exact OQ.buildC rfl rfl)) rfl ?_
  refine PL.sliceN [.int .i64 15] FW.wide rfl rfl rfl rfl rfl rfl ?_
  intro b12 w12 new12
  refine PL.q rfl rfl ((by first | exact OQ.build1 rfl rfl | exact OQ.buildC rfl rfl)) rfl ?_
  refine PL.buildSlice (cs := #[.slice none 0 0, .slice none 0 0, .slice none 0 0, .slice none 0 0, .slice none 0 0, .slice none 0 0, .slice (some ⟨b1, 0, none⟩) 1 1, .slice (some ⟨b2, 0, none⟩) 1 1, .slice none 0 0, .slice none 0 0, .slice (some ⟨b4, 0, none⟩) 1 1, .slice none 0 0, .slice none 0 0, .slice none 0 0, .slice (some ⟨b6, 0, none⟩) 1 1, .slice none 0 0, .slice none 0 0, .slice none 0 0, .slice none 0 0, .slice none 0 0, .slice none 0 0, .slice none 0 0, .slice none 0 0, .slice none 0 0, .slice none 0 0, .slice none 0 0, .slice (some ⟨b8, 0, none⟩) 4 4, .slice none 0 0, .slice none 0 0, .slice (some ⟨b12, 0, none⟩) 1 1, .slice none 0 0, .slice none 0 0, .slice none 0 0, .slice (some ⟨b10, 0, none⟩) 2 2]) FW.wide rfl rfl rfl (by decide) (by decide) (by rw [made34]; simp [Instr.fill, Value.cells, sets, setAt]) rfl ?_
  intro b14 w14 new14
  refine PL.q rfl rfl (OQ.assign rfl) rfl ?_
  refine PL.to ?_
  have x14 := new14.ext
  have x12 := new12.ext.trans x14
  have x10 := new10.ext.trans x12
  have x8 := new8.ext.trans x10
  have x6 := new6.ext.trans x8
  have x4 := new4.ext.trans x6
  have x2 := new2.ext.trans x4
  have x1 := new1.ext.trans x2
  refine CD.ret (post1 rfl rfl ⟨_, rfl, x1, b14, rfl, fun i hi => ?_⟩)
  have hz : ∀ i, i < 17 → wkey i = [] → wmore i = [] → w14.cell? ⟨b14, 0 + i * 2, none⟩ = some (.slice none 0 0) → w14.cell? ⟨b14, 0 + i * 2 + 1, none⟩ = some (.slice none 0 0) → ∃ a1 c1 a2 c2, CellsAt w14 b14 (0 + i * 2) [.slice a1 (wkey i).length c1, .slice a2 (wmore i).length c2] ∧ Cells w14 a1 (ints (wkey i)) ∧ Cells w14 a2 (ints (wmore i)) := fun i _ h1 h2 h3 h4 => by
    rw [h1, h2]
    exact ⟨none, 0, none, 0, cellsAt2 h3 h4, Cells.nil _ _, Cells.nil _ _⟩
  match i, hi with
  | 0, h => exact hz 0 h rfl rfl (new14.cell rfl) (new14.cell rfl)
  | 1, h => exact hz 1 h rfl rfl (new14.cell rfl) (new14.cell rfl)
  | 2, h => exact hz 2 h rfl rfl (new14.cell rfl) (new14.cell rfl)
  | 3, h => exact ⟨_, _, _, _, cellsAt2 (new14.cell rfl) (new14.cell rfl), new1.cells x2, new2.cells x4⟩
  | 4, h => exact hz 4 h rfl rfl (new14.cell rfl) (new14.cell rfl)
  | 5, h => exact ⟨_, _, none, 0, cellsAt2 (new14.cell rfl) (new14.cell rfl), new4.cells x6, Cells.nil _ _⟩
  | 6, h => exact hz 6 h rfl rfl (new14.cell rfl) (new14.cell rfl)
  | 7, h => exact ⟨_, _, none, 0, cellsAt2 (new14.cell rfl) (new14.cell rfl), new6.cells x8, Cells.nil _ _⟩
  | 8, h => exact hz 8 h rfl rfl (new14.cell rfl) (new14.cell rfl)
  | 9, h => exact hz 9 h rfl rfl (new14.cell rfl) (new14.cell rfl)
  | 10, h => exact hz 10 h rfl rfl (new14.cell rfl) (new14.cell rfl)
  | 11, h => exact hz 11 h rfl rfl (new14.cell rfl) (new14.cell rfl)
  | 12, h => exact hz 12 h rfl rfl (new14.cell rfl) (new14.cell rfl)
  | 13, h => exact ⟨_, _, none, 0, cellsAt2 (new14.cell rfl) (new14.cell rfl), new8.cells x10, Cells.nil _ _⟩
  | 14, h => exact ⟨none, 0, _, _, cellsAt2 (new14.cell rfl) (new14.cell rfl), Cells.nil _ _, new12.cells x14⟩
  | 15, h => exact hz 15 h rfl rfl (new14.cell rfl) (new14.cell rfl)
  | 16, h => exact ⟨none, 0, _, _, cellsAt2 (new14.cell rfl) (new14.cell rfl), Cells.nil _ _, new10.cells x12⟩
  | n + 17, h => exact absurd h (by omega)

def keeps (old now : Int) (key : Bool) : Bool := decide (old = now) || (decide (0 ≤ old) && decide (old < 17) && ((wkey old.toNat).contains now || !key && (wmore old.toNat).contains now))
theorem keeps_lo {old now : Int} {key : Bool} (h1 : ¬ old = now) (h2 : old < 0) : keeps old now key = false := by
  have : ¬ 0 ≤ old := by omega
  simp [keeps, h1, this]
theorem keeps_hi {old now : Int} {key : Bool} (h1 : ¬ old = now) (h2 : 17 ≤ old) : keeps old now key = false := by
  have : ¬ old < 17 := by omega
  simp [keeps, h1, this]
theorem wlen (i : Nat) : (wkey i).length ≤ 1000 ∧ (wmore i).length ≤ 1000 := by
  unfold wkey wmore
  constructor <;> (split <;> decide)
theorem keeps_w (old now : Int) (key : Bool) (w : World) : Rt Tryz.prog 42 [.int .i64 old, .int .i64 now, .bool key] w fun v _ => v = .bool (keeps old now key) := by
  refine Rt.of Tryz.func42 rfl Tryz.ntmps42 (by rfl) ?_
  refine CD.rs FW.wide rfl ?_
  refine PL.q rfl rfl (OQ.assign rfl) rfl ?_
  refine PL.to ?_
  refine CD.seq ?_
  refine CD.rs FW.wide rfl ?_
  refine PL.q rfl rfl (OQ.move rfl) rfl ?_
  refine PL.q rfl rfl (OQ.move rfl) rfl ?_
  refine PL.q rfl rfl (OQ.eql rfl rfl) rfl ?_
  refine PL.to ?_
  refine CD.condD rfl (fun h1 => ?_) (fun h1 => ?_)
  · refine CD.rs FW.wide rfl ?_
    refine PL.q rfl rfl (OQ.assign rfl) rfl ?_
    refine PL.to ?_
    exact CD.ret (post1 rfl rfl ⟨_, rfl, Ext.refl _, by simp [keeps, h1]⟩)
  refine CD.skip ?_
  refine CD.rs FW.wide rfl ?_
  refine PL.call FW.wide rfl rfl rfl rfl (wider_w w) ?_
  rintro _ w12 hx12 ⟨b, rfl, hb⟩
  refine PL.q rfl rfl (OQ.assign rfl) rfl ?_
  refine PL.to ?_
  refine CD.seq ?_
  refine CD.rs FW.wide rfl ?_
  refine PL.q rfl rfl (OQ.move rfl) rfl ?_
  by_cases h2 : old < 0
  · refine PL.q rfl rfl (OQ.yes (OQ.lss rfl rfl) (decide_eq_true h2)) rfl ?_
    refine PL.q rfl rfl (OQ.move rfl) rfl ?_
    refine PL.skip rfl rfl rfl ?_
    refine PL.skip rfl rfl rfl ?_
    refine PL.skip rfl rfl rfl ?_
    refine PL.skip rfl rfl rfl ?_
    refine PL.q rfl rfl ((by first | exact OQ.pickT rfl rfl | exact OQ.pickF rfl rfl)) rfl ?_
    refine PL.to ?_
    refine CD.condT rfl ?_
    refine CD.rs FW.wide rfl ?_
    refine PL.q rfl rfl (OQ.assign rfl) rfl ?_
    refine PL.to ?_
    exact CD.ret (post1 rfl rfl ⟨_, rfl, hx12, by rw [keeps_lo h1 h2]⟩)
  refine PL.q rfl rfl (OQ.no (OQ.lss rfl rfl) (decide_eq_false h2)) rfl ?_
  refine PL.q rfl rfl (OQ.move rfl) rfl ?_
  refine PL.q rfl rfl (OQ.move rfl) rfl ?_
  refine PL.q rfl rfl (OQ.move rfl) rfl ?_
  refine PL.q rfl rfl (OQ.lenS rfl) rfl ?_
  refine PL.q rfl rfl (OQ.geq rfl rfl) rfl ?_
  refine PL.q rfl rfl ((by first | exact OQ.pickT rfl rfl | exact OQ.pickF rfl rfl)) rfl ?_
  refine PL.to ?_
  refine CD.condD rfl (fun h3 => ?_) (fun h3 => ?_)
  · refine CD.rs FW.wide rfl ?_
    refine PL.q rfl rfl (OQ.assign rfl) rfl ?_
    refine PL.to ?_
    exact CD.ret (post1 rfl rfl ⟨_, rfl, hx12, by rw [keeps_hi h1 (by omega)]⟩)
  obtain ⟨o, rfl⟩ : ∃ o : Nat, old = o := ⟨old.toNat, by omega⟩
  have ho : o < 17 := by omega
  obtain ⟨a1, c1, a2, c2, hc, hk, hm⟩ := hb o ho
  refine CD.skip ?_
  refine CD.rs FW.wide rfl ?_
  refine PL.q rfl rfl (OQ.move rfl) rfl ?_
  refine PL.q rfl rfl (OQ.move rfl) rfl ?_
  refine PL.q rfl rfl (OQ.indexAddr rfl rfl (by first | assumption | omega)) rfl ?_
  refine PL.q rfl rfl (OQ.loadAS (cs := [.slice a1 (wkey o).length c1, .slice a2 (wmore o).length c2]) rfl rfl hc) rfl ?_
  refine PL.alloc FW.wide rfl rfl rfl ?_
  intro b8 w8 new8
  refine PL.put FW.wide rfl rfl rfl rfl rfl new8.heap rfl rfl rfl rfl (fun _ _ => .inl trivial) ?_
  intro w65 hw65
  have x65 : Ext w12 w65 := hw65.ext new8.ext (by rw [new8.idx]; exact Nat.le_refl _)
  refine PL.to ?_
  refine CD.rs FW.wide rfl ?_
  have p0 : w65.cell? ⟨b8, 0, none⟩ = some (.slice a1 (wkey o).length c1) := cell_of_heap hw65.heap rfl
  refine PL.q rfl rfl ((by first | exact OQ.field0 rfl | exact OQ.field rfl)) rfl ?_
  refine PL.q rfl rfl (OQ.loadS rfl (by assumption)) rfl ?_
  refine PL.q rfl rfl (OQ.move rfl) rfl ?_
  refine PL.call FW.wide rfl rfl rfl rfl (Contains_w a1 c1 _ now w65 (hk.ext x65) (wlen o).1) ?_
  rintro _ w28 hx28 rfl
  have hke : keeps o now key = ((wkey o).contains now || !key && (wmore o).contains now) := by
    have e1 : (o : Int) < 17 := by omega
    simp [keeps, h1, e1]
  cases hin : (wkey o).contains now with
  | true =>
    refine PL.q rfl rfl (OQ.move rfl) rfl ?_
    refine PL.skip rfl rfl rfl ?_
    refine PL.skip rfl rfl rfl ?_
    refine PL.skip rfl rfl rfl ?_
    refine PL.skip rfl rfl rfl ?_
    refine PL.skip rfl rfl rfl ?_
    refine PL.skip rfl rfl rfl ?_
    refine PL.skip rfl rfl rfl ?_
    refine PL.skip rfl rfl rfl ?_
    refine PL.q rfl rfl ((by first | exact OQ.pickT rfl rfl | exact OQ.pickF rfl rfl)) rfl ?_
    refine PL.q rfl rfl (OQ.assign rfl) rfl ?_
    refine PL.to ?_
    exact CD.ret (post1 rfl rfl ⟨_, rfl, (hx12.trans x65).trans hx28, by rw [hke, hin]; rfl⟩)
  | false =>
    rw [hin] at hke
    refine PL.q rfl rfl (OQ.move rfl) rfl ?_
    refine PL.q rfl rfl (OQ.move rfl) rfl ?_
    cases key with
    | true =>
      refine PL.q rfl rfl (OQ.not rfl) rfl ?_
      refine PL.q rfl rfl (OQ.move rfl) rfl ?_
      refine PL.skip rfl rfl rfl ?_
      refine PL.skip rfl rfl rfl ?_
      refine PL.skip rfl rfl rfl ?_
      refine PL.skip rfl rfl rfl ?_
      refine PL.q rfl rfl ((by first | exact OQ.pickT rfl rfl | exact OQ.pickF rfl rfl)) rfl ?_
      refine PL.q rfl rfl ((by first | exact OQ.pickT rfl rfl | exact OQ.pickF rfl rfl)) rfl ?_
      refine PL.q rfl rfl (OQ.assign rfl) rfl ?_
      refine PL.to ?_
      exact CD.ret (post1 rfl rfl ⟨_, rfl, (hx12.trans x65).trans hx28, by rw [hke]; rfl⟩)
    | false =>
      have p1 : w28.cell? ⟨b8, 1, none⟩ = some (.slice a2 (wmore o).length c2) := hx28.cell (cell_of_heap hw65.heap rfl)
      refine PL.q rfl rfl (OQ.not rfl) rfl ?_
      refine PL.q rfl rfl (OQ.move rfl) rfl ?_
      refine PL.q rfl rfl ((by first | exact OQ.field0 rfl | exact OQ.field rfl)) rfl ?_
      refine PL.q rfl rfl (OQ.loadS rfl (by assumption)) rfl ?_
      refine PL.q rfl rfl (OQ.move rfl) rfl ?_
      refine PL.call FW.wide rfl rfl rfl rfl (Contains_w a2 c2 _ now w28 ((hm.ext x65).ext hx28) (wlen o).2) ?_
      rintro _ w36 hx36 rfl
      refine PL.q rfl rfl ((by first | exact OQ.pickT rfl rfl | exact OQ.pickF rfl rfl)) rfl ?_
      refine PL.q rfl rfl ((by first | exact OQ.pickT rfl rfl | exact OQ.pickF rfl rfl)) rfl ?_
      refine PL.q rfl rfl (OQ.assign rfl) rfl ?_
      refine PL.to ?_
      exact CD.ret (post1 rfl rfl ⟨_, rfl, ((hx12.trans x65).trans hx28).trans hx36, by rw [hke]; rfl⟩)
end Go.Proofs.YtiebkbmnepgacaaGreatDoor
/-
  The walks of compat's rules and Widens.
-/
namespace Go.Proofs.YtiebkbmnepgacaaGreatDoor
open Go.RowKit
set_option linter.unusedVariables false
set_option maxRecDepth 100000

structure Fd where
  num : Int
  name : ByteArray
  json : ByteArray
  card : Int
  ty : Int
  of' : ByteArray
  key : Int
  oneof : Int
def fdC (f : Fd) : List Value := [.int .i64 f.num, .string f.name, .string f.json, .int .i64 f.card, .int .i64 f.ty, .string f.of', .int .i64 f.key, .int .i64 f.oneof]
abbrev fdV (f : Fd) : Value := .agg (fdC f).toArray
def rule1 (f g : Fd) : Bool := decide (f.card ≠ g.card) && !(single f.card && (single g.card || decide (g.card = 3)))
def rule2 (f g : Fd) : Bool := decide (f.card = 4) && decide (g.card = 4) && !keeps f.key g.key true
def rule3 (f g : Fd) : Bool := decide (f.ty = 17) != decide (g.ty = 17)
def rule4 (f g : Fd) : Bool := !keeps f.ty g.ty false
def widens (f g : Fd) : Int := if rule1 f g then 3 else if rule2 f g then 4 else if rule3 f g then 6 else if rule4 f g then 2 else 0

theorem rule1_w (f g : Fd) (w : World) : Rt Tryz.prog 39 [fdV f, fdV g] w fun v _ => v = .bool (rule1 f g) := by
  refine Rt.of Tryz.func39 rfl Tryz.ntmps39 (by rfl) ?_
  refine CD.rs FW.wide rfl ?_
  refine PL.box FW.wide rfl rfl rfl rfl ?_
  intro b2 w2 new2
  refine PL.box FW.wide rfl rfl rfl rfl ?_
  intro b3 w3 new3
  refine PL.q rfl rfl (OQ.assign rfl) rfl ?_
  refine PL.to ?_
  refine CD.rs FW.wide rfl ?_
  have x3 : Ext w w3 := new2.ext.trans new3.ext
  have p2 : w3.cell? ⟨b2, 3, none⟩ = some (.int .i64 f.card) := new3.ext.cell (new2.cell rfl)
  have p3 : w3.cell? ⟨b3, 3, none⟩ = some (.int .i64 g.card) := new3.cell rfl
  refine PL.q rfl rfl ((by first | exact OQ.field0 rfl | exact OQ.field rfl)) rfl ?_
  refine PL.q rfl rfl (OQ.loadS rfl (by assumption)) rfl ?_
  refine PL.q rfl rfl ((by first | exact OQ.field0 rfl | exact OQ.field rfl)) rfl ?_
  refine PL.q rfl rfl (OQ.loadS rfl (by assumption)) rfl ?_
  by_cases h1 : f.card = g.card
  · refine PL.q rfl rfl (OQ.no (OQ.neq rfl rfl) (decide_eq_false (fun h => h h1))) rfl ?_
    refine PL.q rfl rfl (OQ.move rfl) rfl ?_
    refine PL.skip rfl rfl rfl ?_
    refine PL.skip rfl rfl rfl ?_
    refine PL.skip rfl rfl rfl ?_
    refine PL.skip rfl rfl rfl ?_
    refine PL.skip rfl rfl rfl ?_
    refine PL.skip rfl rfl rfl ?_
    refine PL.skip rfl rfl rfl ?_
    refine PL.skip rfl rfl rfl ?_
    refine PL.skip rfl rfl rfl ?_
    refine PL.skip rfl rfl rfl ?_
    refine PL.skip rfl rfl rfl ?_
    refine PL.skip rfl rfl rfl ?_
    refine PL.skip rfl rfl rfl ?_
    refine PL.skip rfl rfl rfl ?_
    refine PL.q rfl rfl ((by first | exact OQ.pickT rfl rfl | exact OQ.pickF rfl rfl)) rfl ?_
    refine PL.q rfl rfl (OQ.assign rfl) rfl ?_
    refine PL.to ?_
    exact CD.ret (post1 rfl rfl ⟨_, rfl, x3, by simp [rule1, h1]⟩)
  have hr : rule1 f g = !(single f.card && (single g.card || decide (g.card = 3))) := by simp [rule1, h1]
  refine PL.q rfl rfl (OQ.yes (OQ.neq rfl rfl) (decide_eq_true h1)) rfl ?_
  refine PL.q rfl rfl (OQ.move rfl) rfl ?_
  refine PL.q rfl rfl ((by first | exact OQ.field0 rfl | exact OQ.field rfl)) rfl ?_
  refine PL.q rfl rfl (OQ.loadS rfl (by assumption)) rfl ?_
  refine PL.call FW.wide rfl rfl rfl rfl (single_w _ _) ?_
  rintro _ w13 hx13 rfl
  cases h2 : single f.card with
  | false =>
    rw [h2] at hr
    refine PL.q rfl rfl (OQ.move rfl) rfl ?_
    refine PL.skip rfl rfl rfl ?_
    refine PL.skip rfl rfl rfl ?_
    refine PL.skip rfl rfl rfl ?_
    refine PL.skip rfl rfl rfl ?_
    refine PL.skip rfl rfl rfl ?_
    refine PL.skip rfl rfl rfl ?_
    refine PL.skip rfl rfl rfl ?_
    refine PL.skip rfl rfl rfl ?_
    refine PL.q rfl rfl ((by first | exact OQ.pickT rfl rfl | exact OQ.pickF rfl rfl)) rfl ?_
    refine PL.q rfl rfl (OQ.not rfl) rfl ?_
    refine PL.q rfl rfl ((by first | exact OQ.pickT rfl rfl | exact OQ.pickF rfl rfl)) rfl ?_
    refine PL.q rfl rfl (OQ.assign rfl) rfl ?_
    refine PL.to ?_
    exact CD.ret (post1 rfl rfl ⟨_, rfl, x3.trans hx13, by rw [hr]; rfl⟩)
  | true =>
    rw [h2] at hr
    have q3 : w13.cell? ⟨b3, 3, none⟩ = some (.int .i64 g.card) := hx13.cell p3
    refine PL.q rfl rfl (OQ.move rfl) rfl ?_
    refine PL.q rfl rfl ((by first | exact OQ.field0 rfl | exact OQ.field rfl)) rfl ?_
    refine PL.q rfl rfl (OQ.loadS rfl (by assumption)) rfl ?_
    refine PL.call FW.wide rfl rfl rfl rfl (single_w _ _) ?_
    rintro _ w17 hx17 rfl
    cases h3 : single g.card with
    | true =>
      rw [h3] at hr
      refine PL.q rfl rfl (OQ.move rfl) rfl ?_
      refine PL.skip rfl rfl rfl ?_
      refine PL.skip rfl rfl rfl ?_
      refine PL.skip rfl rfl rfl ?_
      refine PL.q rfl rfl ((by first | exact OQ.pickT rfl rfl | exact OQ.pickF rfl rfl)) rfl ?_
      refine PL.q rfl rfl ((by first | exact OQ.pickT rfl rfl | exact OQ.pickF rfl rfl)) rfl ?_
      refine PL.q rfl rfl (OQ.not rfl) rfl ?_
      refine PL.q rfl rfl ((by first | exact OQ.pickT rfl rfl | exact OQ.pickF rfl rfl)) rfl ?_
      refine PL.q rfl rfl (OQ.assign rfl) rfl ?_
      refine PL.to ?_
      exact CD.ret (post1 rfl rfl ⟨_, rfl, (x3.trans hx13).trans hx17, by rw [hr]; rfl⟩)
    | false =>
      rw [h3] at hr
      have r3 : w17.cell? ⟨b3, 3, none⟩ = some (.int .i64 g.card) := hx17.cell q3
      refine PL.q rfl rfl (OQ.move rfl) rfl ?_
      refine PL.q rfl rfl ((by first | exact OQ.field0 rfl | exact OQ.field rfl)) rfl ?_
      refine PL.q rfl rfl (OQ.loadS rfl (by assumption)) rfl ?_
      refine PL.q rfl rfl (OQ.eql rfl rfl) rfl ?_
      refine PL.q rfl rfl ((by first | exact OQ.pickT rfl rfl | exact OQ.pickF rfl rfl)) rfl ?_
      refine PL.q rfl rfl ((by first | exact OQ.pickT rfl rfl | exact OQ.pickF rfl rfl)) rfl ?_
      refine PL.q rfl rfl (OQ.not rfl) rfl ?_
      refine PL.q rfl rfl ((by first | exact OQ.pickT rfl rfl | exact OQ.pickF rfl rfl)) rfl ?_
      refine PL.q rfl rfl (OQ.assign rfl) rfl ?_
      refine PL.to ?_
      exact CD.ret (post1 rfl rfl ⟨_, rfl, (x3.trans hx13).trans hx17, by rw [hr]; rfl⟩)

theorem rule2_w (f g : Fd) (w : World) : Rt Tryz.prog 41 [fdV f, fdV g] w fun v _ => v = .bool (rule2 f g) := by
  refine Rt.of Tryz.func41 rfl Tryz.ntmps41 (by rfl) ?_
  refine CD.rs FW.wide rfl ?_
  refine PL.box FW.wide rfl rfl rfl rfl ?_
  intro b2 w2 new2
  refine PL.box FW.wide rfl rfl rfl rfl ?_
  intro b3 w3 new3
  refine PL.q rfl rfl (OQ.assign rfl) rfl ?_
  refine PL.to ?_
  refine CD.rs FW.wide rfl ?_
  have x3 : Ext w w3 := new2.ext.trans new3.ext
  have p2 : w3.cell? ⟨b2, 3, none⟩ = some (.int .i64 f.card) := new3.ext.cell (new2.cell rfl)
  have p3 : w3.cell? ⟨b3, 3, none⟩ = some (.int .i64 g.card) := new3.cell rfl
  have k2 : w3.cell? ⟨b2, 6, none⟩ = some (.int .i64 f.key) := new3.ext.cell (new2.cell rfl)
  have k3 : w3.cell? ⟨b3, 6, none⟩ = some (.int .i64 g.key) := new3.cell rfl
  refine PL.q rfl rfl ((by first | exact OQ.field0 rfl | exact OQ.field rfl)) rfl ?_
  refine PL.q rfl rfl (OQ.loadS rfl (by assumption)) rfl ?_
  by_cases h1 : f.card = 4
  · refine PL.q rfl rfl (OQ.yes (OQ.eql rfl rfl) (decide_eq_true h1)) rfl ?_
    refine PL.q rfl rfl (OQ.move rfl) rfl ?_
    refine PL.q rfl rfl ((by first | exact OQ.field0 rfl | exact OQ.field rfl)) rfl ?_
    refine PL.q rfl rfl (OQ.loadS rfl (by assumption)) rfl ?_
    by_cases h2 : g.card = 4
    · refine PL.q rfl rfl (OQ.yes (OQ.eql rfl rfl) (decide_eq_true h2)) rfl ?_
      refine PL.q rfl rfl ((by first | exact OQ.pickT rfl rfl | exact OQ.pickF rfl rfl)) rfl ?_
      refine PL.q rfl rfl (OQ.move rfl) rfl ?_
      refine PL.q rfl rfl ((by first | exact OQ.field0 rfl | exact OQ.field rfl)) rfl ?_
      refine PL.q rfl rfl (OQ.loadS rfl (by assumption)) rfl ?_
      refine PL.q rfl rfl ((by first | exact OQ.field0 rfl | exact OQ.field rfl)) rfl ?_
      refine PL.q rfl rfl (OQ.loadS rfl (by assumption)) rfl ?_
      refine PL.call FW.wide rfl rfl rfl rfl (keeps_w _ _ _ _) ?_
      rintro _ w18 hx18 rfl
      refine PL.q rfl rfl (OQ.not rfl) rfl ?_
      refine PL.q rfl rfl ((by first | exact OQ.pickT rfl rfl | exact OQ.pickF rfl rfl)) rfl ?_
      refine PL.q rfl rfl (OQ.assign rfl) rfl ?_
      refine PL.to ?_
      exact CD.ret (post1 rfl rfl ⟨_, rfl, x3.trans hx18, by simp [rule2, h1, h2]⟩)
    · refine PL.q rfl rfl (OQ.no (OQ.eql rfl rfl) (decide_eq_false h2)) rfl ?_
      refine PL.q rfl rfl ((by first | exact OQ.pickT rfl rfl | exact OQ.pickF rfl rfl)) rfl ?_
      refine PL.q rfl rfl (OQ.move rfl) rfl ?_
      refine PL.skip rfl rfl rfl ?_
      refine PL.skip rfl rfl rfl ?_
      refine PL.skip rfl rfl rfl ?_
      refine PL.skip rfl rfl rfl ?_
      refine PL.skip rfl rfl rfl ?_
      refine PL.skip rfl rfl rfl ?_
      refine PL.q rfl rfl ((by first | exact OQ.pickT rfl rfl | exact OQ.pickF rfl rfl)) rfl ?_
      refine PL.q rfl rfl (OQ.assign rfl) rfl ?_
      refine PL.to ?_
      exact CD.ret (post1 rfl rfl ⟨_, rfl, x3, by simp [rule2, h1, h2]⟩)
  · refine PL.q rfl rfl (OQ.no (OQ.eql rfl rfl) (decide_eq_false h1)) rfl ?_
    refine PL.q rfl rfl (OQ.move rfl) rfl ?_
    refine PL.skip rfl rfl rfl ?_
    refine PL.skip rfl rfl rfl ?_
    refine PL.skip rfl rfl rfl ?_
    refine PL.q rfl rfl ((by first | exact OQ.pickT rfl rfl | exact OQ.pickF rfl rfl)) rfl ?_
    refine PL.q rfl rfl (OQ.move rfl) rfl ?_
    refine PL.skip rfl rfl rfl ?_
    refine PL.skip rfl rfl rfl ?_
    refine PL.skip rfl rfl rfl ?_
    refine PL.skip rfl rfl rfl ?_
    refine PL.skip rfl rfl rfl ?_
    refine PL.skip rfl rfl rfl ?_
    refine PL.q rfl rfl ((by first | exact OQ.pickT rfl rfl | exact OQ.pickF rfl rfl)) rfl ?_
    refine PL.q rfl rfl (OQ.assign rfl) rfl ?_
    refine PL.to ?_
    exact CD.ret (post1 rfl rfl ⟨_, rfl, x3, by simp [rule2, h1]⟩)

theorem rule3_w (f g : Fd) (w : World) : Rt Tryz.prog 43 [fdV f, fdV g] w fun v _ => v = .bool (rule3 f g) := by
  refine Rt.of Tryz.func43 rfl Tryz.ntmps43 (by rfl) ?_
  refine CD.rs FW.wide rfl ?_
  refine PL.box FW.wide rfl rfl rfl rfl ?_
  intro b2 w2 new2
  refine PL.box FW.wide rfl rfl rfl rfl ?_
  intro b3 w3 new3
  refine PL.q rfl rfl (OQ.assign rfl) rfl ?_
  refine PL.to ?_
  refine CD.rs FW.wide rfl ?_
  have x3 : Ext w w3 := new2.ext.trans new3.ext
  have p2 : w3.cell? ⟨b2, 4, none⟩ = some (.int .i64 f.ty) := new3.ext.cell (new2.cell rfl)
  have p3 : w3.cell? ⟨b3, 4, none⟩ = some (.int .i64 g.ty) := new3.cell rfl
  refine PL.q rfl rfl ((by first | exact OQ.field0 rfl | exact OQ.field rfl)) rfl ?_
  refine PL.q rfl rfl (OQ.loadS rfl (by assumption)) rfl ?_
  refine PL.q rfl rfl (OQ.eql rfl rfl) rfl ?_
  refine PL.q rfl rfl ((by first | exact OQ.field0 rfl | exact OQ.field rfl)) rfl ?_
  refine PL.q rfl rfl (OQ.loadS rfl (by assumption)) rfl ?_
  refine PL.q rfl rfl (OQ.eql rfl rfl) rfl ?_
  refine PL.q rfl rfl (OQ.bne rfl rfl) rfl ?_
  refine PL.q rfl rfl (OQ.assign rfl) rfl ?_
  refine PL.to ?_
  exact CD.ret (post1 rfl rfl ⟨_, rfl, x3, rfl⟩)

theorem rule4_w (f g : Fd) (w : World) : Rt Tryz.prog 44 [fdV f, fdV g] w fun v _ => v = .bool (rule4 f g) := by
  refine Rt.of Tryz.func44 rfl Tryz.ntmps44 (by rfl) ?_
  refine CD.rs FW.wide rfl ?_
  refine PL.box FW.wide rfl rfl rfl rfl ?_
  intro b2 w2 new2
  refine PL.box FW.wide rfl rfl rfl rfl ?_
  intro b3 w3 new3
  refine PL.q rfl rfl (OQ.assign rfl) rfl ?_
  refine PL.to ?_
  refine CD.rs FW.wide rfl ?_
  have x3 : Ext w w3 := new2.ext.trans new3.ext
  have p2 : w3.cell? ⟨b2, 4, none⟩ = some (.int .i64 f.ty) := new3.ext.cell (new2.cell rfl)
  have p3 : w3.cell? ⟨b3, 4, none⟩ = some (.int .i64 g.ty) := new3.cell rfl
  refine PL.q rfl rfl ((by first | exact OQ.field0 rfl | exact OQ.field rfl)) rfl ?_
  refine PL.q rfl rfl (OQ.loadS rfl (by assumption)) rfl ?_
  refine PL.q rfl rfl ((by first | exact OQ.field0 rfl | exact OQ.field rfl)) rfl ?_
  refine PL.q rfl rfl (OQ.loadS rfl (by assumption)) rfl ?_
  refine PL.call FW.wide rfl rfl rfl rfl (keeps_w _ _ _ _) ?_
  rintro _ w9 hx9 rfl
  refine PL.q rfl rfl (OQ.not rfl) rfl ?_
  refine PL.q rfl rfl (OQ.assign rfl) rfl ?_
  refine PL.to ?_
  exact CD.ret (post1 rfl rfl ⟨_, rfl, x3.trans hx9, rfl⟩)

def rulesL : List Value := [.int .i64 3, .func (.func 39) #[] #[], .int .i64 4, .func (.func 41) #[] #[], .int .i64 6, .func (.func 43) #[] #[], .int .i64 2, .func (.func 44) #[] #[]]
theorem made8 : madeCells (Value.agg #[Value.int .i64 0, .nilFunc]).cells (4 * 2) = #[.int .i64 0, .nilFunc, .int .i64 0, .nilFunc, .int .i64 0, .nilFunc, .int .i64 0, .nilFunc] := by kernel_rfl
theorem rules_w (w : World) : Rt Tryz.prog 17 [] w fun v w' => ∃ b, v = .slice (some ⟨b, 0, none⟩) 4 4 ∧ CellsAt w' b 0 rulesL := by
  refine Rt.of Tryz.func17 rfl Tryz.ntmps17 (by rfl) ?_
  refine CD.rs FW.wide rfl ?_
  refine PL.q rfl rfl (OQ.assign rfl) rfl ?_
  refine PL.to ?_
  refine CD.rs FW.wide rfl ?_
  refine PL.q rfl rfl ((by first | exact OQ.build1 rfl rfl | exact OQ.buildC rfl rfl)) rfl ?_
  refine PL.q rfl rfl ((by first | exact OQ.build1 rfl rfl | exact OQ.buildC rfl rfl)) rfl ?_
  refine PL.q rfl rfl ((by first | exact OQ.build1 rfl rfl | exact OQ.buildC rfl rfl)) rfl ?_
  refine PL.q rfl rfl ((by first | exact OQ.build1 rfl rfl | exact OQ.buildC rfl rfl)) rfl ?_
  refine PL.buildSlice (cs := rulesL.toArray) FW.wide rfl rfl rfl (by decide) (by decide) (by rw [made8]; simp [Instr.fill, Value.cells, sets, setAt, rulesL]) rfl ?_
  intro b5 w5 new5
  refine PL.q rfl rfl (OQ.assign rfl) rfl ?_
  refine PL.to ?_
  exact CD.ret (post1 rfl rfl ⟨_, rfl, new5.ext, b5, rfl, CellsAt.of_heap new5.heap⟩)

def rulF : Nat → FuncId | 0 => 39 | 1 => 41 | 2 => 43 | _ => 44
def rulN : Nat → Int | 0 => 3 | 1 => 4 | 2 => 6 | _ => 2
def rulB (f g : Fd) : Nat → Bool | 0 => rule1 f g | 1 => rule2 f g | 2 => rule3 f g | _ => rule4 f g
theorem rul_at {w : World} {b : Nat} (h : CellsAt w b 0 rulesL) : ∀ i, i < 4 → CellsAt w b (0 + i * 2) [.int .i64 (rulN i), .func (.func (rulF i)) #[] #[]] := fun i hi => by
  match i, hi with
  | 0, _ => exact cellsAt2 (h.at 0 rfl) (h.at 1 rfl)
  | 1, _ => exact cellsAt2 (h.at 2 rfl) (h.at 3 rfl)
  | 2, _ => exact cellsAt2 (h.at 4 rfl) (h.at 5 rfl)
  | 3, _ => exact cellsAt2 (h.at 6 rfl) (h.at 7 rfl)
  | n + 4, h => exact absurd h (by omega)
theorem rul_w (f g : Fd) (w : World) (i : Nat) (hi : i < 4) : En Tryz.prog (rulF i) ∧ Rt Tryz.prog (rulF i) [fdV f, fdV g] w fun v _ => v = .bool (rulB f g i) := by
  match i, hi with
  | 0, _ => exact ⟨inferInstanceAs (En Tryz.prog 39), rule1_w f g w⟩
  | 1, _ => exact ⟨inferInstanceAs (En Tryz.prog 41), rule2_w f g w⟩
  | 2, _ => exact ⟨inferInstanceAs (En Tryz.prog 43), rule3_w f g w⟩
  | 3, _ => exact ⟨inferInstanceAs (En Tryz.prog 44), rule4_w f g w⟩
  | n + 4, h => exact absurd h (by omega)
theorem widens_at (f g : Fd) (i : Nat) (hi : i < 4) (h0 : ∀ j, j < i → rulB f g j = false) (h1 : rulB f g i = true) : widens f g = rulN i := by
  match i, hi with
  | 0, _ => have e0 : rule1 f g = true := h1; simp [widens, rulN, e0]
  | 1, _ => have e0 : rule1 f g = false := h0 0 (by omega); have e1 : rule2 f g = true := h1; simp [widens, rulN, e0, e1]
  | 2, _ => have e0 : rule1 f g = false := h0 0 (by omega); have e1 : rule2 f g = false := h0 1 (by omega); have e2 : rule3 f g = true := h1; simp [widens, rulN, e0, e1, e2]
  | 3, _ => have e0 : rule1 f g = false := h0 0 (by omega); have e1 : rule2 f g = false := h0 1 (by omega); have e2 : rule3 f g = false := h0 2 (by omega); have e3 : rule4 f g = true := h1; simp [widens, rulN, e0, e1, e2, e3]
  | n + 4, h => exact absurd h (by omega)
theorem widens_0 (f g : Fd) (h0 : ∀ j, j < 4 → rulB f g j = false) : widens f g = 0 := by
  have e0 : rule1 f g = false := h0 0 (by omega); have e1 : rule2 f g = false := h0 1 (by omega); have e2 : rule3 f g = false := h0 2 (by omega); have e3 : rule4 f g = false := h0 3 (by omega); simp [widens, e0, e1, e2, e3]

theorem Widens_w (f g : Fd) (w : World) : Rt Tryz.prog 7 [fdV f, fdV g] w fun v _ => v = .int .i64 (widens f g) := by
  refine Rt.of Tryz.func7 rfl Tryz.ntmps7 (by rfl) ?_
  refine CD.rs FW.wide rfl ?_
  refine PL.box FW.wide rfl rfl rfl rfl ?_
  intro b2 w2 new2
  refine PL.box FW.wide rfl rfl rfl rfl ?_
  intro b3 w3 new3
  refine PL.q rfl rfl (OQ.assign rfl) rfl ?_
  refine PL.to ?_
  refine CD.seq ?_
  refine CD.rs FW.wide rfl ?_
  refine PL.call FW.wide rfl rfl rfl rfl (rules_w w3) ?_
  rintro _ w7 hx7 ⟨b, rfl, hb⟩
  refine PL.q rfl rfl (OQ.lenS rfl) rfl ?_
  refine PL.q rfl rfl (OQ.move rfl) rfl ?_
  refine PL.to ?_
  have x7 : Ext w w7 := (new2.ext.trans new3.ext).trans hx7
  have p2 : CellsAt w7 b2 0 (fdC f) := (CellsAt.of_heap (cs := (fdC f).toArray) new2.heap).ext (new3.ext.trans hx7)
  have p3 : CellsAt w7 b3 0 (fdC g) := (CellsAt.of_heap (cs := (fdC g).toArray) new3.heap).ext hx7
  refine CD.block ?_
  refine CD.loop (α := Nat) (fun s => [(2, .pointer (some ⟨b2, 0, none⟩)), (3, .pointer (some ⟨b3, 0, none⟩)), (7, .slice (some ⟨b, 0, none⟩) 4 4), (8, .int .i64 4), (9, .int .i64 s)])
    (fun s w' => Ext w7 w' ∧ s ≤ 4 ∧ ∀ j, j < s → rulB f g j = false) (fun s => 4 - s) 0 ⟨rfl, rfl, rfl, rfl, rfl, trivial⟩ ⟨Ext.refl _, by omega, fun j hj => by omega⟩ ?_
  rintro i w1 ⟨hx1, hi, he⟩
  refine CD.rs FW.wide rfl ?_
  refine PL.q rfl rfl (OQ.lss rfl rfl) rfl ?_
  refine PL.to ?_
  refine CD.seq ?_
  refine CD.condD rfl (fun h2 => ?_) (fun h2 => ?_)
  · have hi4 : i < 4 := by omega
    have hc := (rul_at hb i hi4).ext hx1
    refine CD.skip ?_
    refine CD.seq ?_
    refine CD.block ?_
    refine CD.rs FW.wide rfl ?_
    refine PL.q rfl rfl (OQ.indexAddr rfl rfl (by first | assumption | omega)) rfl ?_
    refine PL.q rfl rfl (OQ.loadAS (cs := [.int .i64 (rulN i), .func (.func (rulF i)) #[] #[]]) rfl rfl hc) rfl ?_
    refine PL.alloc FW.wide rfl rfl rfl ?_
    intro b6 w6 new6
    refine PL.put FW.wide rfl rfl rfl rfl rfl new6.heap rfl rfl rfl rfl (fun _ _ => .inl trivial) ?_
    intro w33 hw33
    have x33 : Ext w1 w33 := hw33.ext new6.ext (by rw [new6.idx]; exact Nat.le_refl _)
    refine PL.to ?_
    refine CD.rs FW.wide rfl ?_
    have q0 : w33.cell? ⟨b6, 0, none⟩ = some (.int .i64 (rulN i)) := cell_of_heap hw33.heap rfl
    have q1 : w33.cell? ⟨b6, 1, none⟩ = some (.func (.func (rulF i)) #[] #[]) := cell_of_heap hw33.heap rfl
    have c2 := (p2.ext hx1).ext x33
    have c3 := (p3.ext hx1).ext x33
    refine PL.q rfl rfl ((by first | exact OQ.field0 rfl | exact OQ.field rfl)) rfl ?_
    refine PL.q rfl rfl (OQ.loadS rfl (by assumption)) rfl ?_
    refine PL.q rfl rfl (OQ.loadAS (cs := fdC f) rfl rfl c2) rfl ?_
    refine PL.q rfl rfl (OQ.loadAS (cs := fdC g) rfl rfl c3) rfl ?_
    have ⟨hen, hcall⟩ := rul_w f g w33 i hi4
    refine PL.callV (fs := []) (cs := []) (C := fun v w' => Ext w33 w' ∧ v = .bool (rulB f g i)) FW.wide rfl rfl rfl rfl rfl hcall (fun _ _ h => trivial) ?_
    rintro _ w17 ⟨hx17, rfl⟩
    refine PL.to ?_
    refine CD.cond (b := rulB f g i) rfl (fun h4 => ?_) (fun h4 => ?_)
    · refine CD.rs FW.wide rfl ?_
      have r0 : w17.cell? ⟨b6, 0, none⟩ = some (.int .i64 (rulN i)) := hx17.cell q0
      refine PL.q rfl rfl ((by first | exact OQ.field0 rfl | exact OQ.field rfl)) rfl ?_
      refine PL.q rfl rfl (OQ.loadS rfl (by assumption)) rfl ?_
      refine PL.q rfl rfl (OQ.assign rfl) rfl ?_
      refine PL.to ?_
      exact CD.ret (post1 rfl rfl ⟨_, rfl, ((x7.trans hx1).trans x33).trans hx17, by rw [widens_at f g i hi4 he h4]⟩)
    · refine CD.skip ?_
      refine CD.r FW.wide rfl ?_
      refine PL.q rfl rfl (OQ.addW (r := ((i + 1 : Nat) : Int)) rfl rfl (wrap_succ (by omega))) rfl ?_
      refine PL.q rfl rfl (OQ.move rfl) rfl ?_
      refine PL.nil ?_
      refine fun a ha => ⟨i + 1, ha.sub ⟨rfl, rfl, rfl, rfl, rfl, trivial⟩, ⟨(hx1.trans x33).trans hx17, by omega, fun j hj => ?_⟩, by omega⟩
      rcases Nat.lt_succ_iff_lt_or_eq.1 hj with hj | rfl
      · exact he j hj
      · exact h4
  · have hi4 : i = 4 := by omega
    subst hi4
    refine CD.exit ?_
    refine CD.rs FW.wide rfl ?_
    refine PL.q rfl rfl (OQ.assign rfl) rfl ?_
    refine PL.to ?_
    exact CD.ret (post1 rfl rfl ⟨_, rfl, x7.trans hx1, by rw [widens_0 f g he]⟩)
end Go.Proofs.YtiebkbmnepgacaaGreatDoor
/-
  The walks of the reference's widened and Widens; both answer alike.
-/
namespace Go.Proofs.YtiebkbmnepgacaaGreatDoor
open Go.RowKit
set_option linter.unusedVariables false
set_option maxRecDepth 100000

def refw (old now : Int) : Bool :=
  if old = now then true else if old = 3 then decide (now = 4) else if old = 5 then decide (now = 6) else if old = 7 then decide (now = 8)
  else if old = 13 then decide (now = 3) || decide (now = 4) || decide (now = 5) || decide (now = 6) else false
theorem widened_w (old now : Int) (w : World) : Rt Tryz.prog 18 [.int .i64 old, .int .i64 now] w fun v _ => v = .bool (refw old now) := by
  refine Rt.of Tryz.func18 rfl Tryz.ntmps18 (by rfl) ?_
  refine CD.rs FW.wide rfl ?_
  refine PL.q rfl rfl (OQ.assign rfl) rfl ?_
  refine PL.to ?_
  refine CD.seq ?_
  refine CD.rs FW.wide rfl ?_
  refine PL.q rfl rfl (OQ.move rfl) rfl ?_
  refine PL.to ?_
  refine CD.block ?_
  refine CD.rs FW.wide rfl ?_
  refine PL.q rfl rfl (OQ.move rfl) rfl ?_
  refine PL.q rfl rfl (OQ.eql rfl rfl) rfl ?_
  refine PL.q rfl rfl (OQ.assign rfl) rfl ?_
  refine PL.to ?_
  refine CD.condD rfl (fun h1 => ?_) (fun h1 => ?_)
  · refine CD.rs FW.wide rfl ?_
    refine PL.q rfl rfl (OQ.assign rfl) rfl ?_
    refine PL.to ?_
    exact CD.ret (post1 rfl rfl ⟨_, rfl, Ext.refl _, by simp [refw, h1]⟩)
  refine CD.rs FW.wide rfl ?_
  refine PL.q rfl rfl (OQ.eql rfl rfl) rfl ?_
  refine PL.q rfl rfl (OQ.assign rfl) rfl ?_
  refine PL.to ?_
  refine CD.condD rfl (fun h2 => ?_) (fun h2 => ?_)
  · refine CD.rs FW.wide rfl ?_
    refine PL.q rfl rfl (OQ.move rfl) rfl ?_
    refine PL.q rfl rfl (OQ.eql rfl rfl) rfl ?_
    refine PL.q rfl rfl (OQ.assign rfl) rfl ?_
    refine PL.to ?_
    exact CD.ret (post1 rfl rfl ⟨_, rfl, Ext.refl _, by simp only [refw, if_neg h1, if_pos h2]⟩)
  refine CD.rs FW.wide rfl ?_
  refine PL.q rfl rfl (OQ.eql rfl rfl) rfl ?_
  refine PL.q rfl rfl (OQ.assign rfl) rfl ?_
  refine PL.to ?_
  refine CD.condD rfl (fun h3 => ?_) (fun h3 => ?_)
  · refine CD.rs FW.wide rfl ?_
    refine PL.q rfl rfl (OQ.move rfl) rfl ?_
    refine PL.q rfl rfl (OQ.eql rfl rfl) rfl ?_
    refine PL.q rfl rfl (OQ.assign rfl) rfl ?_
    refine PL.to ?_
    exact CD.ret (post1 rfl rfl ⟨_, rfl, Ext.refl _, by simp only [refw, if_neg h1, if_neg h2, if_pos h3]⟩)
  refine CD.rs FW.wide rfl ?_
  refine PL.q rfl rfl (OQ.eql rfl rfl) rfl ?_
  refine PL.q rfl rfl (OQ.assign rfl) rfl ?_
  refine PL.to ?_
  refine CD.condD rfl (fun h4 => ?_) (fun h4 => ?_)
  · refine CD.rs FW.wide rfl ?_
    refine PL.q rfl rfl (OQ.move rfl) rfl ?_
    refine PL.q rfl rfl (OQ.eql rfl rfl) rfl ?_
    refine PL.q rfl rfl (OQ.assign rfl) rfl ?_
    refine PL.to ?_
    exact CD.ret (post1 rfl rfl ⟨_, rfl, Ext.refl _, by simp only [refw, if_neg h1, if_neg h2, if_neg h3, if_pos h4]⟩)
  refine CD.rs FW.wide rfl ?_
  refine PL.q rfl rfl (OQ.eql rfl rfl) rfl ?_
  refine PL.q rfl rfl (OQ.assign rfl) rfl ?_
  refine PL.to ?_
  refine CD.condD rfl (fun h5 => ?_) (fun h5 => ?_)
  · have e : refw old now = (decide (now = 3) || decide (now = 4) || decide (now = 5) || decide (now = 6)) := by simp only [refw, if_neg h1, if_neg h2, if_neg h3, if_neg h4, if_pos h5]
    refine CD.rs FW.wide rfl ?_
    refine PL.q rfl rfl (OQ.move rfl) rfl ?_
    by_cases k3 : now = 3
    · refine PL.q rfl rfl (OQ.yes (OQ.eql rfl rfl) (decide_eq_true k3)) rfl ?_
      refine PL.q rfl rfl (OQ.move rfl) rfl ?_
      refine PL.skip rfl rfl rfl ?_
      refine PL.skip rfl rfl rfl ?_
      refine PL.q rfl rfl ((by first | exact OQ.pickT rfl rfl | exact OQ.pickF rfl rfl)) rfl ?_
      refine PL.q rfl rfl (OQ.move rfl) rfl ?_
      refine PL.skip rfl rfl rfl ?_
      refine PL.skip rfl rfl rfl ?_
      refine PL.q rfl rfl ((by first | exact OQ.pickT rfl rfl | exact OQ.pickF rfl rfl)) rfl ?_
      refine PL.q rfl rfl (OQ.move rfl) rfl ?_
      refine PL.skip rfl rfl rfl ?_
      refine PL.skip rfl rfl rfl ?_
      refine PL.q rfl rfl ((by first | exact OQ.pickT rfl rfl | exact OQ.pickF rfl rfl)) rfl ?_
      refine PL.q rfl rfl (OQ.assign rfl) rfl ?_
      refine PL.to ?_
      exact CD.ret (post1 rfl rfl ⟨_, rfl, Ext.refl _, by rw [e]; simp [k3]⟩)
    refine PL.q rfl rfl (OQ.no (OQ.eql rfl rfl) (decide_eq_false k3)) rfl ?_
    refine PL.q rfl rfl (OQ.move rfl) rfl ?_
    refine PL.q rfl rfl (OQ.move rfl) rfl ?_
    by_cases k4 : now = 4
    · refine PL.q rfl rfl (OQ.yes (OQ.eql rfl rfl) (decide_eq_true k4)) rfl ?_
      refine PL.q rfl rfl ((by first | exact OQ.pickT rfl rfl | exact OQ.pickF rfl rfl)) rfl ?_
      refine PL.q rfl rfl (OQ.move rfl) rfl ?_
      refine PL.skip rfl rfl rfl ?_
      refine PL.skip rfl rfl rfl ?_
      refine PL.q rfl rfl ((by first | exact OQ.pickT rfl rfl | exact OQ.pickF rfl rfl)) rfl ?_
      refine PL.q rfl rfl (OQ.move rfl) rfl ?_
      refine PL.skip rfl rfl rfl ?_
      refine PL.skip rfl rfl rfl ?_
      refine PL.q rfl rfl ((by first | exact OQ.pickT rfl rfl | exact OQ.pickF rfl rfl)) rfl ?_
      refine PL.q rfl rfl (OQ.assign rfl) rfl ?_
      refine PL.to ?_
      exact CD.ret (post1 rfl rfl ⟨_, rfl, Ext.refl _, by rw [e]; simp [k4]⟩)
    refine PL.q rfl rfl (OQ.no (OQ.eql rfl rfl) (decide_eq_false k4)) rfl ?_
    refine PL.q rfl rfl ((by first | exact OQ.pickT rfl rfl | exact OQ.pickF rfl rfl)) rfl ?_
    refine PL.q rfl rfl (OQ.move rfl) rfl ?_
    refine PL.q rfl rfl (OQ.move rfl) rfl ?_
    by_cases k5 : now = 5
    · refine PL.q rfl rfl (OQ.yes (OQ.eql rfl rfl) (decide_eq_true k5)) rfl ?_
      refine PL.q rfl rfl ((by first | exact OQ.pickT rfl rfl | exact OQ.pickF rfl rfl)) rfl ?_
      refine PL.q rfl rfl (OQ.move rfl) rfl ?_
      refine PL.skip rfl rfl rfl ?_
      refine PL.skip rfl rfl rfl ?_
      refine PL.q rfl rfl ((by first | exact OQ.pickT rfl rfl | exact OQ.pickF rfl rfl)) rfl ?_
      refine PL.q rfl rfl (OQ.assign rfl) rfl ?_
      refine PL.to ?_
      exact CD.ret (post1 rfl rfl ⟨_, rfl, Ext.refl _, by rw [e]; simp [k5]⟩)
    refine PL.q rfl rfl (OQ.no (OQ.eql rfl rfl) (decide_eq_false k5)) rfl ?_
    refine PL.q rfl rfl ((by first | exact OQ.pickT rfl rfl | exact OQ.pickF rfl rfl)) rfl ?_
    refine PL.q rfl rfl (OQ.move rfl) rfl ?_
    refine PL.q rfl rfl (OQ.move rfl) rfl ?_
    refine PL.q rfl rfl (OQ.eql rfl rfl) rfl ?_
    refine PL.q rfl rfl ((by first | exact OQ.pickT rfl rfl | exact OQ.pickF rfl rfl)) rfl ?_
    refine PL.q rfl rfl (OQ.assign rfl) rfl ?_
    refine PL.to ?_
    exact CD.ret (post1 rfl rfl ⟨_, rfl, Ext.refl _, by rw [e]; simp [k3, k4, k5]⟩)
  refine CD.skip ?_
  refine CD.rs FW.wide rfl ?_
  refine PL.q rfl rfl (OQ.assign rfl) rfl ?_
  refine PL.to ?_
  exact CD.ret (post1 rfl rfl ⟨_, rfl, Ext.refl _, by simp only [refw, if_neg h1, if_neg h2, if_neg h3, if_neg h4, if_neg h5]⟩)

def refall (old now : Int) : Bool := refw old now || (decide (old = 16) && (decide (now = 3) || decide (now = 4))) || (decide (old = 3) && decide (now = 16)) || (decide (old = 14) && decide (now = 15))
def refwidens (f g : Fd) : Int :=
  if rule1 f g then 3 else if decide (f.card = 4) && !refw f.key g.key then 4 else if rule3 f g then 6 else if !refall f.ty g.ty then 2 else 0
theorem refWidens_w (f g : Fd) (w : World) : Rt Tryz.prog 8 [fdV f, fdV g] w fun v _ => v = .int .i64 (refwidens f g) := by
  refine Rt.of Tryz.func8 rfl Tryz.ntmps8 (by rfl) ?_
  refine CD.rs FW.wide rfl ?_
  refine PL.box FW.wide rfl rfl rfl rfl ?_
  intro b2 w2 new2
  refine PL.box FW.wide rfl rfl rfl rfl ?_
  intro b3 w3 new3
  refine PL.q rfl rfl (OQ.assign rfl) rfl ?_
  have x3 : Ext w w3 := new2.ext.trans new3.ext
  have cf : w3.cell? ⟨b2, 3, none⟩ = some (.int .i64 f.card) := new3.ext.cell (new2.cell rfl)
  have cg : w3.cell? ⟨b3, 3, none⟩ = some (.int .i64 g.card) := new3.cell rfl
  have kf : w3.cell? ⟨b2, 6, none⟩ = some (.int .i64 f.key) := new3.ext.cell (new2.cell rfl)
  have kg : w3.cell? ⟨b3, 6, none⟩ = some (.int .i64 g.key) := new3.cell rfl
  have tf : w3.cell? ⟨b2, 4, none⟩ = some (.int .i64 f.ty) := new3.ext.cell (new2.cell rfl)
  have tg : w3.cell? ⟨b3, 4, none⟩ = some (.int .i64 g.ty) := new3.cell rfl
  refine PL.to ?_
  refine CD.cut (α := Unit) (fun _ => [(2, .pointer (some ⟨b2, 0, none⟩)), (3, .pointer (some ⟨b3, 0, none⟩)), (5, .bool (single f.card))]) (fun _ w' => w3 = w') ?_ ?_
  · refine CD.r FW.wide rfl ?_
    refine PL.q rfl rfl ((by first | exact OQ.field0 rfl | exact OQ.field rfl)) rfl ?_
    refine PL.q rfl rfl (OQ.loadS rfl (by assumption)) rfl ?_
    by_cases h : f.card = 1
    · refine PL.q rfl rfl (OQ.yes (OQ.eql rfl rfl) (decide_eq_true h)) rfl ?_
      refine PL.q rfl rfl (OQ.move rfl) rfl ?_
      refine PL.skip rfl rfl rfl ?_
      refine PL.skip rfl rfl rfl ?_
      refine PL.skip rfl rfl rfl ?_
      refine PL.q rfl rfl (OQ.cast ((by first | exact OQ.pickT rfl rfl | exact OQ.pickF rfl rfl)) ((by simp [single, h] : Value.bool true = .bool (single f.card)))) rfl ?_
      refine PL.q rfl rfl (OQ.assign rfl) rfl ?_
      exact PL.nil fun a ha => ⟨(), ha.sub ⟨rfl, rfl, rfl, trivial⟩, rfl⟩
    · refine PL.q rfl rfl (OQ.no (OQ.eql rfl rfl) (decide_eq_false h)) rfl ?_
      refine PL.q rfl rfl (OQ.move rfl) rfl ?_
      refine PL.q rfl rfl ((by first | exact OQ.field0 rfl | exact OQ.field rfl)) rfl ?_
      refine PL.q rfl rfl (OQ.loadS rfl (by assumption)) rfl ?_
      refine PL.q rfl rfl (OQ.eql rfl rfl) rfl ?_
      refine PL.q rfl rfl (OQ.cast ((by first | exact OQ.pickT rfl rfl | exact OQ.pickF rfl rfl)) ((by simp [single, h] : Value.bool (decide (f.card = 2)) = .bool (single f.card)))) rfl ?_
      refine PL.q rfl rfl (OQ.assign rfl) rfl ?_
      exact PL.nil fun a ha => ⟨(), ha.sub ⟨rfl, rfl, rfl, trivial⟩, rfl⟩
  rintro _ _ rfl
  obtain ⟨one2, hone2⟩ : ∃ x, x = (single g.card || decide (g.card = 3)) := ⟨_, rfl⟩
  refine CD.cut (α := Unit) (fun _ => [(2, .pointer (some ⟨b2, 0, none⟩)), (3, .pointer (some ⟨b3, 0, none⟩)), (5, .bool (single f.card)), (6, .bool one2)]) (fun _ w' => w3 = w') ?_ ?_
  · refine CD.r FW.wide rfl ?_
    refine PL.q rfl rfl ((by first | exact OQ.field0 rfl | exact OQ.field rfl)) rfl ?_
    refine PL.q rfl rfl (OQ.loadS rfl (by assumption)) rfl ?_
    by_cases h : g.card = 1
    · refine PL.q rfl rfl (OQ.yes (OQ.eql rfl rfl) (decide_eq_true h)) rfl ?_
      refine PL.q rfl rfl (OQ.move rfl) rfl ?_
      refine PL.skip rfl rfl rfl ?_
      refine PL.skip rfl rfl rfl ?_
      refine PL.skip rfl rfl rfl ?_
      refine PL.q rfl rfl ((by first | exact OQ.pickT rfl rfl | exact OQ.pickF rfl rfl)) rfl ?_
      refine PL.q rfl rfl (OQ.move rfl) rfl ?_
      refine PL.skip rfl rfl rfl ?_
      refine PL.skip rfl rfl rfl ?_
      refine PL.skip rfl rfl rfl ?_
      refine PL.q rfl rfl (OQ.cast ((by first | exact OQ.pickT rfl rfl | exact OQ.pickF rfl rfl)) ((by simp [hone2, single, h] : Value.bool true = .bool one2))) rfl ?_
      refine PL.q rfl rfl (OQ.assign rfl) rfl ?_
      exact PL.nil fun a ha => ⟨(), ha.sub ⟨rfl, rfl, rfl, rfl, trivial⟩, rfl⟩
    · refine PL.q rfl rfl (OQ.no (OQ.eql rfl rfl) (decide_eq_false h)) rfl ?_
      refine PL.q rfl rfl (OQ.move rfl) rfl ?_
      refine PL.q rfl rfl ((by first | exact OQ.field0 rfl | exact OQ.field rfl)) rfl ?_
      refine PL.q rfl rfl (OQ.loadS rfl (by assumption)) rfl ?_
      by_cases h2 : g.card = 2
      · refine PL.q rfl rfl (OQ.yes (OQ.eql rfl rfl) (decide_eq_true h2)) rfl ?_
        refine PL.q rfl rfl ((by first | exact OQ.pickT rfl rfl | exact OQ.pickF rfl rfl)) rfl ?_
        refine PL.q rfl rfl (OQ.move rfl) rfl ?_
        refine PL.skip rfl rfl rfl ?_
        refine PL.skip rfl rfl rfl ?_
        refine PL.skip rfl rfl rfl ?_
        refine PL.q rfl rfl (OQ.cast ((by first | exact OQ.pickT rfl rfl | exact OQ.pickF rfl rfl)) ((by simp [hone2, single, h2] : Value.bool true = .bool one2))) rfl ?_
        refine PL.q rfl rfl (OQ.assign rfl) rfl ?_
        exact PL.nil fun a ha => ⟨(), ha.sub ⟨rfl, rfl, rfl, rfl, trivial⟩, rfl⟩
      · refine PL.q rfl rfl (OQ.no (OQ.eql rfl rfl) (decide_eq_false h2)) rfl ?_
        refine PL.q rfl rfl ((by first | exact OQ.pickT rfl rfl | exact OQ.pickF rfl rfl)) rfl ?_
        refine PL.q rfl rfl (OQ.move rfl) rfl ?_
        refine PL.q rfl rfl ((by first | exact OQ.field0 rfl | exact OQ.field rfl)) rfl ?_
        refine PL.q rfl rfl (OQ.loadS rfl (by assumption)) rfl ?_
        refine PL.q rfl rfl (OQ.eql rfl rfl) rfl ?_
        refine PL.q rfl rfl (OQ.cast ((by first | exact OQ.pickT rfl rfl | exact OQ.pickF rfl rfl)) ((by simp [hone2, single, h, h2] : Value.bool (decide (g.card = 3)) = .bool one2))) rfl ?_
        refine PL.q rfl rfl (OQ.assign rfl) rfl ?_
        exact PL.nil fun a ha => ⟨(), ha.sub ⟨rfl, rfl, rfl, rfl, trivial⟩, rfl⟩
  rintro _ _ rfl
  refine CD.seq ?_
  refine CD.cut (α := Unit) (fun _ => [(2, .pointer (some ⟨b2, 0, none⟩)), (3, .pointer (some ⟨b3, 0, none⟩)), (42, .bool (rule1 f g))]) (fun _ w' => w3 = w') ?_ ?_
  · refine CD.r FW.wide rfl ?_
    refine PL.q rfl rfl ((by first | exact OQ.field0 rfl | exact OQ.field rfl)) rfl ?_
    refine PL.q rfl rfl (OQ.loadS rfl (by assumption)) rfl ?_
    refine PL.q rfl rfl ((by first | exact OQ.field0 rfl | exact OQ.field rfl)) rfl ?_
    refine PL.q rfl rfl (OQ.loadS rfl (by assumption)) rfl ?_
    by_cases h : f.card = g.card
    · refine PL.q rfl rfl (OQ.no (OQ.neq rfl rfl) (decide_eq_false (fun k => k h))) rfl ?_
      refine PL.q rfl rfl (OQ.move rfl) rfl ?_
      refine PL.skip rfl rfl rfl ?_
      refine PL.skip rfl rfl rfl ?_
      refine PL.skip rfl rfl rfl ?_
      refine PL.skip rfl rfl rfl ?_
      refine PL.skip rfl rfl rfl ?_
      refine PL.q rfl rfl (OQ.cast ((by first | exact OQ.pickT rfl rfl | exact OQ.pickF rfl rfl)) ((by simp [rule1, h] : Value.bool false = .bool (rule1 f g)))) rfl ?_
      exact PL.nil fun a ha => ⟨(), ha.sub ⟨rfl, rfl, rfl, trivial⟩, rfl⟩
    · refine PL.q rfl rfl (OQ.yes (OQ.neq rfl rfl) (decide_eq_true h)) rfl ?_
      refine PL.q rfl rfl (OQ.move rfl) rfl ?_
      refine PL.q rfl rfl (OQ.move rfl) rfl ?_
      cases h2 : single f.card with
      | false =>
        refine PL.q rfl rfl (OQ.move rfl) rfl ?_
        refine PL.skip rfl rfl rfl ?_
        refine PL.q rfl rfl ((by first | exact OQ.pickT rfl rfl | exact OQ.pickF rfl rfl)) rfl ?_
        refine PL.q rfl rfl (OQ.not rfl) rfl ?_
        refine PL.q rfl rfl (OQ.cast ((by first | exact OQ.pickT rfl rfl | exact OQ.pickF rfl rfl)) ((by simp [rule1, h, h2] : Value.bool true = .bool (rule1 f g)))) rfl ?_
        exact PL.nil fun a ha => ⟨(), ha.sub ⟨rfl, rfl, rfl, trivial⟩, rfl⟩
      | true =>
        refine PL.q rfl rfl (OQ.move rfl) rfl ?_
        refine PL.q rfl rfl (OQ.move rfl) rfl ?_
        refine PL.q rfl rfl ((by first | exact OQ.pickT rfl rfl | exact OQ.pickF rfl rfl)) rfl ?_
        refine PL.q rfl rfl (OQ.not rfl) rfl ?_
        refine PL.q rfl rfl (OQ.cast ((by first | exact OQ.pickT rfl rfl | exact OQ.pickF rfl rfl)) ((by simp [rule1, h, h2, hone2] : Value.bool (!one2) = .bool (rule1 f g)))) rfl ?_
        exact PL.nil fun a ha => ⟨(), ha.sub ⟨rfl, rfl, rfl, trivial⟩, rfl⟩
  rintro _ _ rfl
  refine CD.cond (b := rule1 f g) rfl (fun h1 => ?_) (fun h1 => ?_)
  · refine CD.rs FW.wide rfl ?_
    refine PL.q rfl rfl (OQ.assign rfl) rfl ?_
    refine PL.to ?_
    exact CD.ret (post1 rfl rfl ⟨_, rfl, x3, by simp [refwidens, h1]⟩)
  refine CD.skip ?_
  refine CD.seq ?_
  obtain ⟨bk, hbk⟩ : ∃ x, x = (decide (f.card = 4) && !refw f.key g.key) := ⟨_, rfl⟩
  refine CD.cut (α := Unit) (fun _ => [(2, .pointer (some ⟨b2, 0, none⟩)), (3, .pointer (some ⟨b3, 0, none⟩)), (53, .bool bk)]) (fun _ w' => Ext w3 w') ?_ ?_
  · refine CD.r FW.wide rfl ?_
    refine PL.q rfl rfl ((by first | exact OQ.field0 rfl | exact OQ.field rfl)) rfl ?_
    refine PL.q rfl rfl (OQ.loadS rfl (by assumption)) rfl ?_
    by_cases h : f.card = 4
    · refine PL.q rfl rfl (OQ.yes (OQ.eql rfl rfl) (decide_eq_true h)) rfl ?_
      refine PL.q rfl rfl (OQ.move rfl) rfl ?_
      refine PL.q rfl rfl ((by first | exact OQ.field0 rfl | exact OQ.field rfl)) rfl ?_
      refine PL.q rfl rfl (OQ.loadS rfl (by assumption)) rfl ?_
      refine PL.q rfl rfl ((by first | exact OQ.field0 rfl | exact OQ.field rfl)) rfl ?_
      refine PL.q rfl rfl (OQ.loadS rfl (by assumption)) rfl ?_
      refine PL.call FW.wide rfl rfl rfl rfl (widened_w _ _ _) ?_
      rintro _ w51 hx51 rfl
      refine PL.q rfl rfl (OQ.not rfl) rfl ?_
      refine PL.q rfl rfl (OQ.cast ((by first | exact OQ.pickT rfl rfl | exact OQ.pickF rfl rfl)) ((by simp [hbk, h] : Value.bool (!refw f.key g.key) = .bool bk))) rfl ?_
      exact PL.nil fun a ha => ⟨(), ha.sub ⟨rfl, rfl, rfl, trivial⟩, hx51⟩
    · refine PL.q rfl rfl (OQ.no (OQ.eql rfl rfl) (decide_eq_false h)) rfl ?_
      refine PL.q rfl rfl (OQ.move rfl) rfl ?_
      refine PL.skip rfl rfl rfl ?_
      refine PL.skip rfl rfl rfl ?_
      refine PL.skip rfl rfl rfl ?_
      refine PL.skip rfl rfl rfl ?_
      refine PL.skip rfl rfl rfl ?_
      refine PL.skip rfl rfl rfl ?_
      refine PL.q rfl rfl (OQ.cast ((by first | exact OQ.pickT rfl rfl | exact OQ.pickF rfl rfl)) ((by simp [hbk, h] : Value.bool false = .bool bk))) rfl ?_
      exact PL.nil fun a ha => ⟨(), ha.sub ⟨rfl, rfl, rfl, trivial⟩, Ext.refl _⟩
  rintro _ w4 x4
  refine CD.cond (b := bk) rfl (fun h2 => ?_) (fun h2 => ?_)
  · refine CD.rs FW.wide rfl ?_
    refine PL.q rfl rfl (OQ.assign rfl) rfl ?_
    refine PL.to ?_
    exact CD.ret (post1 rfl rfl ⟨_, rfl, x3.trans x4, by rw [h2] at hbk; simp only [refwidens, h1, ← hbk]; rfl⟩)
  refine CD.skip ?_
  have tf4 : w4.cell? ⟨b2, 4, none⟩ = some (.int .i64 f.ty) := x4.cell tf
  have tg4 : w4.cell? ⟨b3, 4, none⟩ = some (.int .i64 g.ty) := x4.cell tg
  refine CD.rs FW.wide rfl ?_
  refine PL.q rfl rfl ((by first | exact OQ.field0 rfl | exact OQ.field rfl)) rfl ?_
  refine PL.q rfl rfl (OQ.loadS rfl (by assumption)) rfl ?_
  refine PL.q rfl rfl (OQ.assign rfl) rfl ?_
  refine PL.to ?_
  refine CD.rs FW.wide rfl ?_
  refine PL.q rfl rfl ((by first | exact OQ.field0 rfl | exact OQ.field rfl)) rfl ?_
  refine PL.q rfl rfl (OQ.loadS rfl (by assumption)) rfl ?_
  refine PL.q rfl rfl (OQ.assign rfl) rfl ?_
  refine PL.to ?_
  refine CD.seq ?_
  refine CD.rs FW.wide rfl ?_
  refine PL.q rfl rfl (OQ.move rfl) rfl ?_
  refine PL.q rfl rfl (OQ.eql rfl rfl) rfl ?_
  refine PL.q rfl rfl (OQ.move rfl) rfl ?_
  refine PL.q rfl rfl (OQ.eql rfl rfl) rfl ?_
  refine PL.q rfl rfl (OQ.bne rfl rfl) rfl ?_
  refine PL.to ?_
  refine CD.cond (b := rule3 f g) rfl (fun h3 => ?_) (fun h3 => ?_)
  · refine CD.rs FW.wide rfl ?_
    refine PL.q rfl rfl (OQ.assign rfl) rfl ?_
    refine PL.to ?_
    exact CD.ret (post1 rfl rfl ⟨_, rfl, x3.trans x4, by rw [h2] at hbk; simp only [refwidens, h1, ← hbk, h3]; rfl⟩)
  refine CD.skip ?_
  refine CD.rs FW.wide rfl ?_
  refine PL.q rfl rfl (OQ.move rfl) rfl ?_
  refine PL.q rfl rfl (OQ.move rfl) rfl ?_
  refine PL.call FW.wide rfl rfl rfl rfl (widened_w _ _ _) ?_
  rintro _ w65 hx65 rfl
  refine PL.q rfl rfl (OQ.assign rfl) rfl ?_
  refine PL.to ?_
  obtain ⟨r1, hr1⟩ : ∃ x, x = (refw f.ty g.ty || (decide (f.ty = 16) && (decide (g.ty = 3) || decide (g.ty = 4)))) := ⟨_, rfl⟩
  refine CD.cut (α := Unit) (fun _ => [(7, .int .i64 f.ty), (8, .int .i64 g.ty), (9, .bool r1)]) (fun _ w' => w65 = w') ?_ ?_
  · refine CD.r FW.wide rfl ?_
    refine PL.q rfl rfl (OQ.move rfl) rfl ?_
    cases h : refw f.ty g.ty with
    | true =>
      refine PL.q rfl rfl (OQ.move rfl) rfl ?_
      refine PL.skip rfl rfl rfl ?_
      refine PL.skip rfl rfl rfl ?_
      refine PL.skip rfl rfl rfl ?_
      refine PL.skip rfl rfl rfl ?_
      refine PL.skip rfl rfl rfl ?_
      refine PL.skip rfl rfl rfl ?_
      refine PL.skip rfl rfl rfl ?_
      refine PL.skip rfl rfl rfl ?_
      refine PL.skip rfl rfl rfl ?_
      refine PL.skip rfl rfl rfl ?_
      refine PL.q rfl rfl (OQ.cast ((by first | exact OQ.pickT rfl rfl | exact OQ.pickF rfl rfl)) ((by simp [hr1, h] : Value.bool true = .bool r1))) rfl ?_
      refine PL.q rfl rfl (OQ.assign rfl) rfl ?_
      exact PL.nil fun a ha => ⟨(), ha.sub ⟨rfl, rfl, rfl, trivial⟩, rfl⟩
    | false =>
      refine PL.q rfl rfl (OQ.move rfl) rfl ?_
      refine PL.q rfl rfl (OQ.move rfl) rfl ?_
      by_cases h4 : f.ty = 16
      · refine PL.q rfl rfl (OQ.yes (OQ.eql rfl rfl) (decide_eq_true h4)) rfl ?_
        refine PL.q rfl rfl (OQ.move rfl) rfl ?_
        refine PL.q rfl rfl (OQ.move rfl) rfl ?_
        by_cases h5 : g.ty = 3
        · refine PL.q rfl rfl (OQ.yes (OQ.eql rfl rfl) (decide_eq_true h5)) rfl ?_
          refine PL.q rfl rfl (OQ.move rfl) rfl ?_
          refine PL.skip rfl rfl rfl ?_
          refine PL.skip rfl rfl rfl ?_
          refine PL.q rfl rfl ((by first | exact OQ.pickT rfl rfl | exact OQ.pickF rfl rfl)) rfl ?_
          refine PL.q rfl rfl ((by first | exact OQ.pickT rfl rfl | exact OQ.pickF rfl rfl)) rfl ?_
          refine PL.q rfl rfl (OQ.cast ((by first | exact OQ.pickT rfl rfl | exact OQ.pickF rfl rfl)) ((by simp [hr1, h4, h5] : Value.bool true = .bool r1))) rfl ?_
          refine PL.q rfl rfl (OQ.assign rfl) rfl ?_
          exact PL.nil fun a ha => ⟨(), ha.sub ⟨rfl, rfl, rfl, trivial⟩, rfl⟩
        · refine PL.q rfl rfl (OQ.no (OQ.eql rfl rfl) (decide_eq_false h5)) rfl ?_
          refine PL.q rfl rfl (OQ.move rfl) rfl ?_
          refine PL.q rfl rfl (OQ.move rfl) rfl ?_
          refine PL.q rfl rfl (OQ.eql rfl rfl) rfl ?_
          refine PL.q rfl rfl ((by first | exact OQ.pickT rfl rfl | exact OQ.pickF rfl rfl)) rfl ?_
          refine PL.q rfl rfl ((by first | exact OQ.pickT rfl rfl | exact OQ.pickF rfl rfl)) rfl ?_
          refine PL.q rfl rfl (OQ.cast ((by first | exact OQ.pickT rfl rfl | exact OQ.pickF rfl rfl)) ((by rw [hr1, h]; simp [h4, h5] : Value.bool (decide (g.ty = 4)) = .bool r1))) rfl ?_
          refine PL.q rfl rfl (OQ.assign rfl) rfl ?_
          exact PL.nil fun a ha => ⟨(), ha.sub ⟨rfl, rfl, rfl, trivial⟩, rfl⟩
      · refine PL.q rfl rfl (OQ.no (OQ.eql rfl rfl) (decide_eq_false h4)) rfl ?_
        refine PL.q rfl rfl (OQ.move rfl) rfl ?_
        refine PL.skip rfl rfl rfl ?_
        refine PL.skip rfl rfl rfl ?_
        refine PL.skip rfl rfl rfl ?_
        refine PL.skip rfl rfl rfl ?_
        refine PL.skip rfl rfl rfl ?_
        refine PL.skip rfl rfl rfl ?_
        refine PL.q rfl rfl ((by first | exact OQ.pickT rfl rfl | exact OQ.pickF rfl rfl)) rfl ?_
        refine PL.q rfl rfl (OQ.cast ((by first | exact OQ.pickT rfl rfl | exact OQ.pickF rfl rfl)) ((by simp [hr1, h, h4] : Value.bool false = .bool r1))) rfl ?_
        refine PL.q rfl rfl (OQ.assign rfl) rfl ?_
        exact PL.nil fun a ha => ⟨(), ha.sub ⟨rfl, rfl, rfl, trivial⟩, rfl⟩
  rintro _ _ rfl
  obtain ⟨r2, hr2⟩ : ∃ x, x = (r1 || (decide (f.ty = 3) && decide (g.ty = 16))) := ⟨_, rfl⟩
  refine CD.cut (α := Unit) (fun _ => [(7, .int .i64 f.ty), (8, .int .i64 g.ty), (9, .bool r2)]) (fun _ w' => w65 = w') ?_ ?_
  · refine CD.r FW.wide rfl ?_
    refine PL.q rfl rfl (OQ.move rfl) rfl ?_
    cases h : r1 with
    | true =>
      refine PL.q rfl rfl (OQ.move rfl) rfl ?_
      refine PL.skip rfl rfl rfl ?_
      refine PL.skip rfl rfl rfl ?_
      refine PL.skip rfl rfl rfl ?_
      refine PL.skip rfl rfl rfl ?_
      refine PL.skip rfl rfl rfl ?_
      refine PL.skip rfl rfl rfl ?_
      refine PL.q rfl rfl (OQ.cast ((by first | exact OQ.pickT rfl rfl | exact OQ.pickF rfl rfl)) ((by simp [hr2, h] : Value.bool true = .bool r2))) rfl ?_
      refine PL.q rfl rfl (OQ.assign rfl) rfl ?_
      exact PL.nil fun a ha => ⟨(), ha.sub ⟨rfl, rfl, rfl, trivial⟩, rfl⟩
    | false =>
      refine PL.q rfl rfl (OQ.move rfl) rfl ?_
      refine PL.q rfl rfl (OQ.move rfl) rfl ?_
      by_cases h4 : f.ty = 3
      · refine PL.q rfl rfl (OQ.yes (OQ.eql rfl rfl) (decide_eq_true h4)) rfl ?_
        refine PL.q rfl rfl (OQ.move rfl) rfl ?_
        refine PL.q rfl rfl (OQ.move rfl) rfl ?_
        refine PL.q rfl rfl (OQ.eql rfl rfl) rfl ?_
        refine PL.q rfl rfl ((by first | exact OQ.pickT rfl rfl | exact OQ.pickF rfl rfl)) rfl ?_
        refine PL.q rfl rfl (OQ.cast ((by first | exact OQ.pickT rfl rfl | exact OQ.pickF rfl rfl)) ((by simp [hr2, h, h4] : Value.bool (decide (g.ty = 16)) = .bool r2))) rfl ?_
        refine PL.q rfl rfl (OQ.assign rfl) rfl ?_
        exact PL.nil fun a ha => ⟨(), ha.sub ⟨rfl, rfl, rfl, trivial⟩, rfl⟩
      · refine PL.q rfl rfl (OQ.no (OQ.eql rfl rfl) (decide_eq_false h4)) rfl ?_
        refine PL.q rfl rfl (OQ.move rfl) rfl ?_
        refine PL.skip rfl rfl rfl ?_
        refine PL.skip rfl rfl rfl ?_
        refine PL.q rfl rfl ((by first | exact OQ.pickT rfl rfl | exact OQ.pickF rfl rfl)) rfl ?_
        refine PL.q rfl rfl (OQ.cast ((by first | exact OQ.pickT rfl rfl | exact OQ.pickF rfl rfl)) ((by simp [hr2, h, h4] : Value.bool false = .bool r2))) rfl ?_
        refine PL.q rfl rfl (OQ.assign rfl) rfl ?_
        exact PL.nil fun a ha => ⟨(), ha.sub ⟨rfl, rfl, rfl, trivial⟩, rfl⟩
  rintro _ _ rfl
  have hall : refall f.ty g.ty = (r2 || (decide (f.ty = 14) && decide (g.ty = 15))) := by rw [hr2, hr1]; rfl
  refine CD.cut (α := Unit) (fun _ => [(9, .bool (refall f.ty g.ty))]) (fun _ w' => w65 = w') ?_ ?_
  · refine CD.r FW.wide rfl ?_
    refine PL.q rfl rfl (OQ.move rfl) rfl ?_
    cases h : r2 with
    | true =>
      refine PL.q rfl rfl (OQ.move rfl) rfl ?_
      refine PL.skip rfl rfl rfl ?_
      refine PL.skip rfl rfl rfl ?_
      refine PL.skip rfl rfl rfl ?_
      refine PL.skip rfl rfl rfl ?_
      refine PL.skip rfl rfl rfl ?_
      refine PL.skip rfl rfl rfl ?_
      refine PL.q rfl rfl (OQ.cast ((by first | exact OQ.pickT rfl rfl | exact OQ.pickF rfl rfl)) ((by simp [hall, h] : Value.bool true = .bool (refall f.ty g.ty)))) rfl ?_
      refine PL.q rfl rfl (OQ.assign rfl) rfl ?_
      exact PL.nil fun a ha => ⟨(), ha.sub ⟨rfl, trivial⟩, rfl⟩
    | false =>
      refine PL.q rfl rfl (OQ.move rfl) rfl ?_
      refine PL.q rfl rfl (OQ.move rfl) rfl ?_
      by_cases h4 : f.ty = 14
      · refine PL.q rfl rfl (OQ.yes (OQ.eql rfl rfl) (decide_eq_true h4)) rfl ?_
        refine PL.q rfl rfl (OQ.move rfl) rfl ?_
        refine PL.q rfl rfl (OQ.move rfl) rfl ?_
        refine PL.q rfl rfl (OQ.eql rfl rfl) rfl ?_
        refine PL.q rfl rfl ((by first | exact OQ.pickT rfl rfl | exact OQ.pickF rfl rfl)) rfl ?_
        refine PL.q rfl rfl (OQ.cast ((by first | exact OQ.pickT rfl rfl | exact OQ.pickF rfl rfl)) ((by rw [hall, h]; simp [h4] : Value.bool (decide (g.ty = 15)) = .bool (refall f.ty g.ty)))) rfl ?_
        refine PL.q rfl rfl (OQ.assign rfl) rfl ?_
        exact PL.nil fun a ha => ⟨(), ha.sub ⟨rfl, trivial⟩, rfl⟩
      · refine PL.q rfl rfl (OQ.no (OQ.eql rfl rfl) (decide_eq_false h4)) rfl ?_
        refine PL.q rfl rfl (OQ.move rfl) rfl ?_
        refine PL.skip rfl rfl rfl ?_
        refine PL.skip rfl rfl rfl ?_
        refine PL.q rfl rfl ((by first | exact OQ.pickT rfl rfl | exact OQ.pickF rfl rfl)) rfl ?_
        refine PL.q rfl rfl (OQ.cast ((by first | exact OQ.pickT rfl rfl | exact OQ.pickF rfl rfl)) ((by simp [hall, h, h4] : Value.bool false = .bool (refall f.ty g.ty)))) rfl ?_
        refine PL.q rfl rfl (OQ.assign rfl) rfl ?_
        exact PL.nil fun a ha => ⟨(), ha.sub ⟨rfl, trivial⟩, rfl⟩
  rintro _ _ rfl
  refine CD.seq ?_
  refine CD.rs FW.wide rfl ?_
  refine PL.q rfl rfl (OQ.move rfl) rfl ?_
  refine PL.q rfl rfl (OQ.not rfl) rfl ?_
  refine PL.to ?_
  refine CD.cond (b := !refall f.ty g.ty) rfl (fun h4 => ?_) (fun h4 => ?_)
  · refine CD.rs FW.wide rfl ?_
    refine PL.q rfl rfl (OQ.assign rfl) rfl ?_
    refine PL.to ?_
    exact CD.ret (post1 rfl rfl ⟨_, rfl, (x3.trans x4).trans hx65, by rw [h2] at hbk; simp only [refwidens, h1, ← hbk, h3, h4]; rfl⟩)
  refine CD.skip ?_
  refine CD.rs FW.wide rfl ?_
  refine PL.q rfl rfl (OQ.assign rfl) rfl ?_
  refine PL.to ?_
  exact CD.ret (post1 rfl rfl ⟨_, rfl, (x3.trans x4).trans hx65, by rw [h2] at hbk; simp only [refwidens, h1, ← hbk, h3, h4]; rfl⟩)

theorem keeps_key (old now : Int) : keeps old now true = refw old now := by
  by_cases h : old = now
  · simp [keeps, refw, h]
  by_cases h3 : old = 3
  · subst h3; simp [keeps, refw, h, wkey, wmore]
  by_cases h5 : old = 5
  · subst h5; simp [keeps, refw, h, wkey, wmore]
  by_cases h7 : old = 7
  · subst h7; simp [keeps, refw, h, wkey, wmore]
  by_cases h13 : old = 13
  · subst h13; rw [Bool.eq_iff_iff]; simp [keeps, refw, h, wkey, wmore, or_assoc]
  have e : (wkey old.toNat).contains now = false ∨ old < 0 := by
    by_cases h0 : old < 0
    · exact .inr h0
    refine .inl ?_
    unfold wkey
    split <;> first | omega | rfl
  rcases e with e | e
  · simp only [keeps, e, refw, if_neg h, if_neg h3, if_neg h5, if_neg h7, if_neg h13]; simp [h]
  · rw [keeps_lo h e]; simp only [refw, if_neg h, if_neg h3, if_neg h5, if_neg h7, if_neg h13]
theorem keeps_all (old now : Int) : keeps old now false = refall old now := by
  have hk := keeps_key old now
  have : keeps old now false = (keeps old now true || (decide (0 ≤ old) && decide (old < 17) && (wmore old.toNat).contains now)) := by
    simp only [keeps, Bool.not_true, Bool.not_false, Bool.false_and, Bool.true_and, Bool.or_false]
    cases decide (old = now) <;> cases decide (0 ≤ old) <;> cases decide (old < 17) <;> simp
  rw [this, hk]
  unfold refall
  rw [Bool.or_assoc, Bool.or_assoc]
  congr 1
  by_cases h3 : old = 3
  · subst h3; simp [wmore]
  by_cases h16 : old = 16
  · subst h16; simp [wmore]
  by_cases h14 : old = 14
  · subst h14; simp [wmore]
  have e : (wmore old.toNat).contains now = false ∨ old < 0 := by
    by_cases h0 : old < 0
    · exact .inr h0
    refine .inl ?_
    unfold wmore
    split <;> first | omega | rfl
  rcases e with e | e
  · rw [e]; simp [h3, h16, h14]
  · have : ¬ 0 ≤ old := by omega
    simp [this, h3, h16, h14]
/-- the two agree -/
theorem widens_eq (f g : Fd) : widens f g = refwidens f g := by
  unfold widens refwidens
  cases h1 : rule1 f g with
  | true => rfl
  | false =>
    have e2 : rule2 f g = (decide (f.card = 4) && !refw f.key g.key) := by
      unfold rule2
      rw [keeps_key]
      by_cases hf : f.card = 4
      · by_cases hg : g.card = 4
        · simp [hf, hg]
        · exfalso
          have : rule1 f g = true := by
            unfold rule1 single
            have : f.card ≠ g.card := fun e => hg (e ▸ hf)
            rw [hf] at this ⊢
            simp [this]
          rw [h1] at this; cases this
      · simp [hf]
    have e4 : rule4 f g = !refall f.ty g.ty := by unfold rule4; rw [keeps_all]
    rw [e2, e4]
end Go.Proofs.YtiebkbmnepgacaaGreatDoor
