/-
  Framework, part 5: structs written out; slices made and appended to; facts on types. Generic.
-/
import Derived.Test.YtdielcpjemkngaaFx4
namespace Go.Proofs.Ytdielcpjemkngaa
open Go.RowKit
set_option linter.unusedVariables false

abbrev infT (i : TypeInfo) : Option Value × Nat × Nat := (i.zero, i.size, i.bytes)
theorem inf_of {P : Program} {t : TypeId} {z : Option Value} {s b : Nat} (h : (P.info? t).map infT = some (z, s, b)) : ∃ i, P.info? t = some i ∧ i.zero = z ∧ i.size = s ∧ i.bytes = b := by
  cases hi : P.info? t with
  | none => rw [hi] at h; cases h
  | some i => rw [hi] at h; simp only [Option.map_some, Option.some.injEq, infT, Prod.mk.injEq] at h; exact ⟨i, rfl, h.1, h.2.1, h.2.2⟩
theorem Sz1.of {P : Program} {t : TypeId} {z : Option Value} {b : Nat} (h : (P.info? t).map infT = some (z, 1, b)) : Sz1 P t := ⟨let ⟨i, h1, _, h2, _⟩ := inf_of h; ⟨i, h1, h2⟩⟩
theorem Zv.of {P : Program} {t : TypeId} {z : Value} {s b : Nat} (h : (P.info? t).map infT = some (some z, s, b)) : Zv P t z := ⟨let ⟨i, h1, h2, _⟩ := inf_of h; ⟨i, h1, h2⟩⟩
theorem Fl.of {P : Program} {s f off : Nat} {fs : Array Field} {fd : Field} {z : Option Value} {sz b : Nat} (hu : P.underlying s = some (.struct fs)) (hf : fs[f]? = some fd) (ho : fd.offset = off)
    (h : (P.info? fd.type).map infT = some (z, sz, b)) (hne : sz ≠ 0) : Fl P s f off := ⟨let ⟨i, h1, _, h2, _⟩ := inf_of h; ⟨fs, fd, i, hu, hf, ho, h1, by rw [h2]; exact hne⟩⟩
theorem SlE.of {P : Program} {t e : TypeId} {z : Option Value} {s b : Nat} (hu : P.underlying t = some (.slice e)) (h : (P.info? e).map infT = some (z, s, b)) : SlE P t s := ⟨let ⟨i, h1, _, h2, _⟩ := inf_of h; ⟨e, i, hu, h1, h2⟩⟩

theorem enters {P : Program} {k : FuncId} {fn : Func} (hf : P.funcs[k]? = some fn) (hn : (fn.name == "runtime.NumGoroutine") = false) (hb : fn.body.isNone = false) : En P k := ⟨fun args w => by
  simp only [callFunc, program, Sem.run_bind, Sem.run, Result.andThen, hf, hn, hb]; rfl⟩

/-- how a struct is written out: its zero cells; where its fields lie -/
class Bd (P : Program) (t : TypeId) (zc : outParam (Array Value)) (pl : outParam (Array (Nat × Nat))) : Prop where
  out : ∃ fs i zv, P.underlying t = some (.struct fs) ∧ P.info? t = some i ∧ i.zero = some zv ∧ zv.cells = zc ∧ ∀ W, (fs.mapM fun f => (do pure (f.offset, ← sizeOf f.type) : Sem (Nat × Nat))).run P W = .ok pl W
theorem Bd.of {P : Program} {t : TypeId} {zc : Array Value} {pl : Array (Nat × Nat)} {fs : Array Field} {s b : Nat} (hu : P.underlying t = some (.struct fs)) (h : (P.info? t).map infT = some (some (.agg zc), s, b))
    (hp : ∀ W, (fs.mapM fun f => (do pure (f.offset, ← sizeOf f.type) : Sem (Nat × Nat))).run P W = .ok pl W) : Bd P t zc pl := ⟨let ⟨i, h1, h2, _⟩ := inf_of h; ⟨fs, i, .agg zc, hu, h1, h2, rfl, hp⟩⟩

/-- a struct whose fields are of one cell each -/
def setAt : List Value → Nat → Value → List Value
  | [], _, _ => []
  | _ :: r, 0, v => v :: r
  | x :: r, i + 1, v => x :: setAt r i v
def sets : List Value → List (Nat × Value) → List Value
  | zs, [] => zs
  | zs, (i, v) :: r => sets (setAt zs i v) r
def okParts (n : Nat) : List (Nat × Value) → Bool
  | [] => true
  | (i, v) :: r => Nat.blt i n && oneV v && okParts n r
theorem setAt_eq : ∀ (zs : List Value) (i : Nat) (v : Value), setAt zs i v = zs.set i v
  | [], _, _ => rfl
  | _ :: _, 0, _ => rfl
  | x :: r, i + 1, v => by simp [setAt, setAt_eq r i v]
theorem cells_one {v : Value} (h : oneV v = true) : v.cells = #[v] := by cases v <;> first | rfl | (simp [oneV] at h)
theorem fill_one (n : Nat) (pl : Array (Nat × Nat)) (hp : ∀ i, i < n → pl[i]? = some (i, 1)) : ∀ (vs : List (Nat × Value)) (zs : List Value), zs.length = n → okParts n vs = true → Instr.fill (pl[·]?) zs.toArray vs = some (sets zs vs).toArray
  | [], zs, _, _ => rfl
  | (i, v) :: r, zs, hz, hok => by
    simp only [okParts, Bool.and_eq_true] at hok
    have hi : i < n := by have := hok.1.1; simp [Nat.blt] at this; omega
    have hc := cells_one hok.1.2
    simp only [Instr.fill, hp i hi, hc]
    have : ¬ ((#[v] : Array Value).size ≠ 1 || decide (i + (#[v] : Array Value).size > zs.toArray.size)) = true := by simp; omega
    rw [if_neg this]
    have e : Array.foldl (fun (cs : Array Value) (x : Value × Nat) => cs.setIfInBounds (i + x.2) x.1) zs.toArray (#[v] : Array Value).zipIdx = (setAt zs i v).toArray := by
      simp [setAt_eq]
    have e2 := fill_one n pl hp r (setAt zs i v) (by rw [setAt_eq, List.length_set]; exact hz) hok.2
    simp only [sets]
    rw [← e2, ← e]
class Bd1 (P : Program) (t : TypeId) (zs : outParam (List Value)) : Prop where
  out : ∃ pl, Bd P t zs.toArray pl ∧ ∀ i, i < zs.length → pl[i]? = some (i, 1)
theorem Bd1.of {P : Program} {t : TypeId} {zs : List Value} {pl : Array (Nat × Nat)} (h : Bd P t zs.toArray pl) (hp : pl.toList = (List.range zs.length).map (fun i => (i, 1))) : Bd1 P t zs :=
  ⟨pl, h, fun i hi => by
    have : pl[i]? = pl.toList[i]? := by simp
    rw [this, hp]; simp [hi]⟩

def evp (L : List (Nat × Value)) : List (Nat × Operand) → Option (List (Nat × Value))
  | [] => some []
  | (i, x) :: r => match ev L x, evp L r with
    | some v, some vs => some ((i, v) :: vs)
    | _, _ => none
theorem Kn.evalp {n : Nat} {D : List Deferred} {L : List (Nat × Value)} {a : Act} (h : Kn n D L a) : ∀ {xs : List (Nat × Operand)} {vs : List (Nat × Value)}, evp L xs = some vs → xs.map (fun p => (p.1, a.eval p.2)) = vs
  | [], vs, e => by simp [evp] at e; simp [e]
  | (i, x) :: r, vs, e => by
    simp only [evp] at e
    split at e
    · rename_i v ws h1 h2
      simp only [Option.some.injEq] at e
      subst e
      simp [h.eval h1, h.evalp h2]
    · cases e

/-- a slice's element: type, zero, cells, bytes -/
class Se (P : Program) (t : TypeId) (e : outParam TypeId) (z : outParam Value) (sz by' : outParam Nat) : Prop where
  out : P.underlying t = some (.slice e) ∧ ∃ i, P.info? e = some i ∧ i.zero = some z ∧ i.size = sz ∧ i.bytes = by' ∧ z.cells.size = sz
theorem Se.of {P : Program} {t e : TypeId} {z : Value} {s b : Nat} (hu : P.underlying t = some (.slice e)) (h : (P.info? e).map infT = some (some z, s, b)) (hz : z.cells.size = s) : Se P t e z s b :=
  ⟨hu, let ⟨i, h1, h2, h3, h4⟩ := inf_of h; ⟨i, h1, h2, h3, h4, hz⟩⟩

section
variable {P : Program} {F : Fence} {n N : Nat} {D : List Deferred} {l : List Oper} {m : Md} {K : Act → World → Prop} {L : List (Nat × Value)} {w : World}
variable {t u t' : TypeId} {pos : String} {af : Array Edge} {g : Option (Nat × Bool)} {dst : Option Tmp} {x y z : Operand} {i : Nat} {q : Bool} {rest : List (Nat × Bool)} {v : Value}

theorem OQ.buildC {ps : Array (Nat × Operand)} {vs : List (Nat × Value)} {zc : Array Value} {pl : Array (Nat × Nat)} [h : Bd P t zc pl] {cs : Array Value}
    (hv : evp L ps.toList = some vs) (hc : Instr.fill (pl[·]?) zc vs = some cs) : OQ P m N D ⟨dst, .build t ps, t', pos, af, g⟩ L w (.agg cs) := by
  obtain ⟨fs, i, zv, h1, h2, h3, h4, h5⟩ := h.out
  refine OQ.build h1 h2 h3 h5 (vs := vs) (fun a ha => ?_) (by rw [h4]; exact hc)
  rw [Array.toList_map]
  exact ha.evalp hv

theorem OQ.build1 {ps : Array (Nat × Operand)} {vs : List (Nat × Value)} {zs : List Value} [h : Bd1 P t zs]
    (hv : evp L ps.toList = some vs) (hok : okParts zs.length vs = true) : OQ P m N D ⟨dst, .build t ps, t', pos, af, g⟩ L w (.agg (sets zs vs).toArray) := by
  obtain ⟨pl, hb, hp⟩ := h.out
  exact OQ.buildC hv (fill_one zs.length pl hp vs zs rfl hok)

/-- []T{x, y, ..} -/
theorem PL.buildSliceE (hE : ∀ w', Ext w w' → m.E w w') {e : TypeId} {zv : Value} {sz byt k : Nat} [h : Se P t e zv sz byt] {ps : Array (Nat × Operand)} {vs : List (Nat × Value)} {cs : Array Value} (hF : FW F)
    (ho : l[i]? = some ⟨dst, .buildSlice t k ps, t', pos, af, g⟩) (hw : wantL l L ⟨dst, .buildSlice t k ps, t', pos, af, g⟩ = some true)
    (hv : evp L ps.toList = some vs) (hk : k * sz ≤ 16777216) (hk0 : k * sz ≠ 0) (hc : Instr.fill (fun i => some (i * sz, sz)) (madeCells zv.cells (k * sz)) vs = some cs) (hin : inT N dst = true)
    (hh : ∀ b w', New w w' b (.cells cs e) → PL P F n N D l m K rest (putL dst (.slice (some ⟨b, 0, none⟩) k k) L) w') : PL P F n N D l m K ((i, false) :: rest) L w :=
  PL.val (v := .slice (some ⟨w.heap.size, 0, none⟩) k k) (w' := w.alloc (.cells cs e)) ho hw (fun _ e => by cases e) hF hin (fun a ha => by
    obtain ⟨h1, i, h2, h3, h4, h5, h6⟩ := h.out
    have e1 : (ps.map fun (i, x) => (i, a.eval x)).toList = vs := by rw [Array.toList_map]; exact ha.evalp hv
    have e2 : Instr.fill (fun i => some (i * sz, sz)) ((Array.range (k * sz)).map (zv.cells[· % zv.cells.size]!)) (ps.map fun (i, x) => (i, a.eval x)).toList = some cs := by rw [e1]; exact hc
    simp only [execOp]
    refine run_v ?_
    have e3 : ¬ k * sz > 2 ^ 24 := by have : (2 : Nat) ^ 24 = 16777216 := by decide
                                      omega
    simp only [Instr.buildSlice, underlying, program, sizeOf, typeInfo, zeroValue, Sem.run_bind, Sem.run, Result.andThen, h1, h2, h3, h4, Sem.run_pure, if_neg e3, if_neg hk0, e2, newRow, newObj]
    rfl) (hE _ (Ext.alloc _ _)) (hh _ _ ⟨rfl, rfl⟩)
theorem PL.buildSlice [hm : ME m] {e : TypeId} {zv : Value} {sz byt k : Nat} [h : Se P t e zv sz byt] {ps : Array (Nat × Operand)} {vs : List (Nat × Value)} {cs : Array Value} (hF : FW F)
    (ho : l[i]? = some ⟨dst, .buildSlice t k ps, t', pos, af, g⟩) (hw : wantL l L ⟨dst, .buildSlice t k ps, t', pos, af, g⟩ = some true)
    (hv : evp L ps.toList = some vs) (hk : k * sz ≤ 16777216) (hk0 : k * sz ≠ 0) (hc : Instr.fill (fun i => some (i * sz, sz)) (madeCells zv.cells (k * sz)) vs = some cs) (hin : inT N dst = true)
    (hh : ∀ b w', New w w' b (.cells cs e) → PL P F n N D l m K rest (putL dst (.slice (some ⟨b, 0, none⟩) k k) L) w') : PL P F n N D l m K ((i, false) :: rest) L w := PL.buildSliceE (fun _ h => hm.out _ _ h) hF ho hw hv hk hk0 hc hin hh
end
theorem take_set_succ (arr : List Value) (k : Nat) (a : Value) (h : k < arr.length) : (arr.set k a).take (k + 1) = arr.take k ++ [a] := by
  apply List.ext_getElem
  · simp; omega
  · intro j h1 h2
    simp only [List.length_take, List.length_set] at h1
    rw [List.getElem_take, List.getElem_set, List.getElem_append]
    split
    · rename_i e; subst e
      rw [dif_neg (by simp; omega)]; simp
    · rename_i e
      rw [dif_pos (by simp; omega)]; simp
theorem foldl_set (l : List Value) : ∀ (k : Nat) (arr : List Value), arr.length = k + l.length → (l.zipIdx k).foldl (fun (cs : Array Value) (x : Value × Nat) => cs.setIfInBounds (0 + x.2) x.1) arr.toArray = (arr.take k ++ l).toArray := by
  induction l with
  | nil => intro k arr h; simp at h; simp [← h]
  | cons a r ih =>
    intro k arr h
    simp only [List.length_cons] at h
    have e : arr.toArray.setIfInBounds (0 + k) a = (arr.set k a).toArray := by simp
    simp only [List.zipIdx_cons, List.foldl_cons, e]
    rw [ih (k + 1) (arr.set k a) (by simp; omega), take_set_succ arr k a (by omega)]
    simp
section
variable {P : Program} {F : Fence} {n N : Nat} {D : List Deferred} {l : List Oper} {m : Md} {K : Act → World → Prop} {L : List (Nat × Value)} {w : World}
variable {t u t' : TypeId} {pos : String} {af : Array Edge} {g : Option (Nat × Bool)} {dst : Option Tmp} {x y z : Operand} {i : Nat} {q : Bool} {rest : List (Nat × Bool)} {v : Value}
/-- []T{x} -/
theorem PL.slice1E (hE : ∀ w', Ext w w' → m.E w w') {e : TypeId} {zv : Value} {sz byt : Nat} [h : Se P t e zv sz byt] {v : Value} (hF : FW F)
    (ho : l[i]? = some ⟨dst, .buildSlice t 1 #[(0, x)], t', pos, af, g⟩) (hw : wantL l L ⟨dst, .buildSlice t 1 #[(0, x)], t', pos, af, g⟩ = some true)
    (hx : ev L x = some v) (hk : (Nat.ble sz 16777216 && Nat.blt 0 sz) = true) (hc : v.cells.size = sz) (hin : inT N dst = true)
    (hh : ∀ b w', New w w' b (.cells v.cells e) → PL P F n N D l m K rest (putL dst (.slice (some ⟨b, 0, none⟩) 1 1) L) w') : PL P F n N D l m K ((i, false) :: rest) L w := by
  have h1 : sz ≤ 16777216 ∧ 0 < sz := by
    simp only [Bool.and_eq_true] at hk
    exact ⟨Nat.le_of_ble_eq_true hk.1, by have := hk.2; simp [Nat.blt] at this; omega⟩
  refine PL.buildSliceE hE (vs := [(0, v)]) (cs := v.cells) hF ho hw (by simp only [evp, hx]) (by omega) (by omega) ?_ hin hh
  simp only [Instr.fill, Nat.zero_mul, Nat.one_mul, hc, size_madeCells]
  rw [if_neg (by simp)]
  congr 1
  have := foldl_set v.cells.toList 0 (madeCells zv.cells sz).toList (by simp [size_madeCells, hc])
  simp only [List.take_zero, List.nil_append, Array.toArray_toList] at this
  rw [← Array.foldl_toList, Array.toList_zipIdx]
  exact this
theorem PL.slice1 [hm : ME m] {e : TypeId} {zv : Value} {sz byt : Nat} [h : Se P t e zv sz byt] {v : Value} (hF : FW F)
    (ho : l[i]? = some ⟨dst, .buildSlice t 1 #[(0, x)], t', pos, af, g⟩) (hw : wantL l L ⟨dst, .buildSlice t 1 #[(0, x)], t', pos, af, g⟩ = some true)
    (hx : ev L x = some v) (hk : (Nat.ble sz 16777216 && Nat.blt 0 sz) = true) (hc : v.cells.size = sz) (hin : inT N dst = true)
    (hh : ∀ b w', New w w' b (.cells v.cells e) → PL P F n N D l m K rest (putL dst (.slice (some ⟨b, 0, none⟩) 1 1) L) w') : PL P F n N D l m K ((i, false) :: rest) L w := PL.slice1E (fun _ h => hm.out _ _ h) hF ho hw hx hk hc hin hh

end
end Go.Proofs.Ytdielcpjemkngaa
