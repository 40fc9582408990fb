/-
  Framework, part 9: variables of several cells: loads, stores; slices of elements of several cells. Generic.
-/
import Derived.Test.YtdielcpjemkngaaFx8
import Derived.Maps.AppendAt
namespace Go.Proofs.Ytdielcpjemkngaa
open Go.RowKit
set_option linter.unusedVariables false

/-- one block is turned -/
structure Wr (w w' : World) (b : Nat) (o : Obj) : Prop where
  os : w'.os = w.os
  tape : w'.tape = w.tape
  output : w'.output = w.output
  size : w'.heap.size = w.heap.size
  heap : w'.heap[b]? = some o
  other : ∀ k, k ≠ b → w'.heap[k]? = w.heap[k]?
theorem Wr.bl {w w' : World} {b : Nat} {o : Obj} (h : Wr w w' b o) {S : Nat → Prop} (hS : ¬ S b) : Bl S w w' := ⟨h.os, h.tape, h.output, Nat.le_of_eq h.size.symm, fun k hk => h.other k (fun e => hS (e ▸ hk))⟩
theorem Wr.ext {w0 w w' : World} {b : Nat} {o : Obj} (h : Wr w w' b o) (hx : Ext w0 w) (hb : w0.heap.size ≤ b) : Ext w0 w' := hx.trans' (S := (· < w0.heap.size)) (h.bl (by simp; omega)) (fun _ h => h)
theorem Wr.ne {w w' : World} {b : Nat} {o : Obj} (h : Wr w w' b o) {k : Nat} {o' : Obj} (hk : w.heap[k]? = some o') (hne : k ≠ b) : w'.heap[k]? = some o' := (h.other k hne).trans hk
theorem Wr.kb {w w' : World} {b : Nat} {c c' : Array Value} {t t' : TypeId} {f f' : Nat × Nat} (h : Wr w w' b (.cells c' t' f')) (hb : w.heap[b]? = some (.cells c t f)) {S : Nat → Prop} (hS : ¬ S b) : Kb S w w' :=
  ⟨h.bl hS, ⟨Nat.le_of_eq h.size.symm, fun k o e ho => by
    have hne : k ≠ b := fun e' => by subst e'; rw [hb] at e; cases e; simp [Obj.isCells] at ho
    exact h.ne e hne⟩⟩
/-- trees and other things of types that differ stay -/
theorem Wr.keep {w w' : World} {b : Nat} {c c' : Array Value} {t nt : TypeId} {f f' : Nat × Nat} (h : Wr w w' b (.cells c' t f')) (hb : w.heap[b]? = some (.cells c t f)) (ht : t ≠ nt) :
    ∀ (k : Nat) (c : Array Value) (f : Nat × Nat), w.heap[k]? = some (.cells c nt f) → w'.heap[k]? = some (.cells c nt f) := fun k c2 f2 e => by
  have hne : k ≠ b := fun e' => by subst e'; rw [hb] at e; simp only [Option.some.injEq, Obj.cells.injEq] at e; exact ht e.2.1
  exact h.ne e hne
theorem Own.wr {w w' : World} {B : Nat} {e t : TypeId} {sz k b : Nat} {v : Value} {xs : List Value} {c c' : Array Value} {f f' : Nat × Nat} (h : Own w B e sz v k xs) (hw : Wr w w' b (.cells c' t f')) (hb : w.heap[b]? = some (.cells c t f)) (ht : t ≠ e) : Own w' B e sz v k xs :=
  h.keep fun j hj => hw.other j (fun e' => by subst e'; exact own_ne h hb ht hj)

def putAt : List Value → Nat → List Value → List Value
  | cs, _, [] => cs
  | cs, o, v :: r => putAt (setAt cs o v) (o + 1) r

theorem setCell_wr {w : World} {b o : Nat} {cs : Array Value} {e : TypeId} {f : Nat × Nat} (hb : w.heap[b]? = some (.cells cs e f)) (v : Value) : Wr w (w.setCell ⟨b, o, none⟩ v) b (.cells (setAt cs.toList o v).toArray e f) := by
  obtain ⟨hlt, hk⟩ := Array.getElem?_eq_some_iff.1 hb
  refine ⟨rfl, rfl, rfl, by simp [World.setCell], ?_, fun k hk => Below.heap_setCell _ _ _ _ hk⟩
  show (w.heap.modify b _)[b]? = _
  rw [Array.getElem?_eq_getElem (by rw [Array.size_modify]; exact hlt), Array.getElem_modify_self, hk]
  simp only [Option.isSome_none, Bool.false_eq_true, if_false]
  rw [setAt_eq]
  congr 2
  apply Array.toList_inj.1
  rw [Array.toList_setIfInBounds]

section
variable {P : Program}
theorem run_storeCells {b o : Nat} {e : TypeId} : ∀ (vs : List Value) (i : Nat) (cs : Array Value) (w : World), w.heap[b]? = some (.cells cs e (0, 0)) → vs.all oneV = true → o + i + vs.length ≤ cs.size →
    ∃ w', (storeCells ⟨b, o, none⟩ vs i).run P w = .ok () w' ∧ Wr w w' b (.cells (putAt cs.toList (o + i) vs).toArray e (0, 0))
  | [], i, cs, w, hb, _, _ => ⟨w, by simp [storeCells, Sem.run_pure], rfl, rfl, rfl, rfl, by simpa [putAt] using hb, fun _ _ => rfl⟩
  | v :: r, i, cs, w, hb, h1, hl => by
    simp only [List.all_cons, Bool.and_eq_true] at h1
    simp only [List.length_cons] at hl
    have hc : w.cell? ⟨b, o + i, none⟩ = some cs[o + i] := cell_of_heap hb (by simp)
    have h2 := run_store1 (P := P) (b := ⟨b, o + i, none⟩) h1.1 hc (frozen_of_heap hb _)
    have hw := setCell_wr (o := o + i) hb v
    obtain ⟨w', hr, hw'⟩ := run_storeCells (o := o) r (i + 1) _ _ hw.heap h1.2 (by simp [setAt_eq]; omega)
    refine ⟨w', ?_, hw'.os.trans hw.os, hw'.tape.trans hw.tape, hw'.output.trans hw.output, hw'.size.trans hw.size, ?_, fun k hk => (hw'.other k hk).trans (hw.other k hk)⟩
    · simp only [storeCells, Addr.add_z, Sem.run_bind, h2, Result.andThen, hr]
    · have := hw'.heap
      simpa [putAt, Nat.add_assoc] using this

def CellsAt (w : World) (b o : Nat) (cs : List Value) : Prop := ∀ j u, cs[j]? = some u → w.cell? ⟨b, o + j, none⟩ = some u
theorem CellsAt.of_heap {w : World} {b : Nat} {cs : Array Value} {t : TypeId} {f : Nat × Nat} (h : w.heap[b]? = some (.cells cs t f)) : CellsAt w b 0 cs.toList := fun j u hj => by
  rw [Nat.zero_add]; exact cell_of_heap h (by simpa using hj)
theorem run_loadCells {b o : Nat} {W : World} : ∀ (cs : List Value) (i : Nat) (acc : Array Value), (∀ j u, cs[j]? = some u → W.cell? ⟨b, o + (i + j), none⟩ = some u) →
    (loadCellsFrom ⟨b, o, none⟩ i cs.length acc).run P W = .ok (acc ++ cs.toArray) W
  | [], i, acc, _ => by simp [loadCellsFrom, Sem.run_pure]
  | v :: r, i, acc, h => by
    have h0 := h 0 v (by simp)
    have ih := run_loadCells r (i + 1) (acc.push v) (fun j u hj => by
      have := h (j + 1) u (by simpa using hj)
      rw [show i + 1 + j = i + (j + 1) by omega]; exact this)
    have h1 : (load (Addr.add ⟨b, o, none⟩ i)).run P W = .ok v W := by
      rw [Addr.add_z]; simp [load, Sem.run]; rw [Nat.add_zero] at h0; rw [h0]
    simp only [List.length_cons, loadCellsFrom, Sem.run_bind, h1, Result.andThen, ih]
    simp

class SzN (P : Program) (t : TypeId) (n : outParam Nat) : Prop where
  out : ∃ i, P.info? t = some i ∧ i.size = n
theorem SzN.of {P : Program} {t : TypeId} {z : Option Value} {s b : Nat} (h : (P.info? t).map infT = some (z, s, b)) : SzN P t s := ⟨let ⟨i, h1, _, h2, _⟩ := inf_of h; ⟨i, h1, h2⟩⟩
class Ag (P : Program) (t : TypeId) : Prop where
  out : ∃ d, P.underlying t = some d ∧ (match d with | .struct _ => true | .array _ _ => true | _ => false) = true

theorem run_loadVarA {t : TypeId} {n : Nat} [h : Ag P t] [hs : SzN P t n] {b o : Nat} {cs : List Value} {W : World} (hl : cs.length = n) (hc : CellsAt W b o cs) : (loadVar t ⟨b, o, none⟩).run P W = .ok (.agg cs.toArray) W := by
  obtain ⟨d, hd, ha⟩ := h.out
  obtain ⟨i, h1, h2⟩ := hs.out
  have h3 := run_loadCells (P := P) (b := b) (o := o) (W := W) cs 0 #[] (fun j u hj => by rw [Nat.zero_add]; exact hc j u hj)
  rw [hl] at h3
  cases d <;> simp at ha <;> simp [loadVar, isAgg, underlying, program, sizeOf, typeInfo, loadCells, Sem.run_bind, Sem.run, hd, h1, h2, h3, Result.andThen, Sem.run_pure]
end

section
variable {P : Program} {F : Fence} {n N : Nat} {D : List Deferred} {l : List Oper} {m : Md} {K : Act → World → Prop} {L : List (Nat × Value)} {w : World}
variable {t u t' : TypeId} {pos : String} {af : Array Edge} {g : Option (Nat × Bool)} {dst : Option Tmp} {x y z : Operand} {i : Nat} {q : Bool} {rest : List (Nat × Bool)} {v : Value}

theorem CellsAt.ext {w w' : World} {b o : Nat} {cs : List Value} (h : CellsAt w b o cs) (hx : Ext w w') : CellsAt w' b o cs := fun j u hj => hx.cell (h j u hj)
theorem CellsAt.cext {w w' : World} {b o : Nat} {cs : List Value} (h : CellsAt w b o cs) (hx : CExt w w') : CellsAt w' b o cs := fun j u hj => hx.cell (h j u hj)
theorem OQ.loadA {k : Nat} [Ag P t] [SzN P t k] {b o : Nat} {cs : List Value} (hx : ev L x = some (.pointer (some ⟨b, o, none⟩))) (hl : cs.length = k) (hk : m.keeps ⟨b, o, none⟩) (hc : CellsAt w b o cs) : OQ P m N D ⟨dst, .load t x, u, pos, af, g⟩ L w (.agg cs.toArray) := fun a ha W hW => by
  have hc' : CellsAt W b o cs := fun j u hj => Md.cell (m := m) (by cases m <;> first | trivial | exact hk) (hc j u hj) W hW
  have := run_loadVarA (P := P) (t := t) hl hc'
  have e1 := ha.eval hx
  simp only [execOp, e1, Instr.loadAt, Instr.sureAddr]
  simp only [Sem.run_bind, Sem.run_pure, this, Result.andThen]
theorem OQ.loadAS {k : Nat} [Ag P t] [SzN P t k] {b o : Nat} {cs : List Value} (hx : ev L x = some (.pointer (some ⟨b, o, none⟩))) (hl : cs.length = k) (hc : CellsAt w b o cs) : OQ P .seq N D ⟨dst, .load t x, u, pos, af, g⟩ L w (.agg cs.toArray) := OQ.loadA hx hl trivial hc
theorem OQ.loadAX {k : Nat} [Ag P t] [SzN P t k] {b o : Nat} {cs : List Value} (hx : ev L x = some (.pointer (some ⟨b, o, none⟩))) (hl : cs.length = k) (hc : CellsAt w b o cs) : OQ P .ext N D ⟨dst, .load t x, u, pos, af, g⟩ L w (.agg cs.toArray) := OQ.loadA hx hl trivial hc
/-- of a whole variable -/
theorem OQ.loadH {k : Nat} [Ag P t] [SzN P t k] {b : Nat} {cs : List Value} {e : TypeId} {f : Nat × Nat} (hx : ev L x = some (.pointer (some ⟨b, 0, none⟩))) (hl : cs.length = k) (hk : m.keeps ⟨b, 0, none⟩) (hb : w.heap[b]? = some (.cells cs.toArray e f)) : OQ P m N D ⟨dst, .load t x, u, pos, af, g⟩ L w (.agg cs.toArray) :=
  OQ.loadA hx hl hk (CellsAt.of_heap hb)

theorem PL.put {k b o : Nat} {e : TypeId} {cs : Array Value} {vs : List Value} [hs : SzN P t k] (hF : FW F) (ho : l[i]? = some ⟨dst, .store t x y, t', pos, af, g⟩) (hw : wantL l L ⟨dst, .store t x y, t', pos, af, g⟩ = some true)
    (hx : ev L x = some (.pointer (some ⟨b, o, none⟩))) (hy : ev L y = some v) (hin : inT N dst = true) (hb : w.heap[b]? = some (.cells cs e (0, 0))) (hv : v.cells.toList = vs) (hk : vs.length = k) (h1 : vs.all oneV = true) (hsz : Nat.ble (o + k) cs.size = true)
    (hE : ∀ w', Wr w w' b (.cells (putAt cs.toList o vs).toArray e (0, 0)) → m.E w w' ∨ Last l i = true)
    (h : ∀ w', Wr w w' b (.cells (putAt cs.toList o vs).toArray e (0, 0)) → PL P F n N D l m K rest (putL dst undef L) w') : PL P F n N D l m K ((i, false) :: rest) L w := by
  obtain ⟨inf, h2, h3⟩ := hs.out
  obtain ⟨w', hr, hwr⟩ := run_storeCells (P := P) (o := o) vs 0 cs w hb h1 (by have := Nat.le_of_ble_eq_true hsz; omega)
  refine PL.unitL ho hw (fun _ e => by cases e) hF hin (fun a ha => ?_) (hE w' hwr) (h w' hwr)
  have e1 := ha.eval hx; have e2 := ha.eval hy
  have h4 : v.cells.size = inf.size := by rw [h3, ← hk, ← hv]; simp
  simp only [execOp, e1, e2, Instr.storeAt, Instr.sureAddr]
  refine run_u ?_
  simp [storeVar, sizeOf, typeInfo, program, Sem.run_bind, Sem.run, Result.andThen, h2, h4, hv, Sem.run_pure, hr]

/-- s = append(s, ys...) on an owned slice: where the new slice lies -/
theorem PL.app {e : TypeId} {zv : Value} {sz byt k c o : Nat} {b : Nat} {sv : Value} {ns : Nat} {xs : List Value} (news : List Value) {B : Nat} [h : Se P t e zv sz byt] (hF : FW F)
    (ho : l[i]? = some ⟨dst, .call ⟨.builtin .append, #[x, y], #[t, t]⟩, t', pos, af, g⟩) (hw : wantL l L ⟨dst, .call ⟨.builtin .append, #[x, y], #[t, t]⟩, t', pos, af, g⟩ = some true)
    (hx : ev L x = some sv) (hy : ev L y = some (.slice (some ⟨b, o, none⟩) k c)) (hin : inT N dst = true)
    (hown : Own w B e sz sv ns xs) (hn : CellsAt w b o news) (hl : news.length = k * sz) (h1 : news.all oneV = true) (hsz : 0 < sz)
    (hb : (ns + k) * byt ≤ 140737488355328) (h63 : ns + k ≤ 9223372036854775807) (hB : B ≤ w.heap.size) (hE : ∀ w', w.grownBy w' sv.ownBlock → m.E w w' ∨ Last l i = true)
    (hh : ∀ v' w', Own w' B e sz v' (ns + k) (xs ++ news) → w.grownBy w' sv.ownBlock → (v'.ownBlock = sv.ownBlock ∨ v'.ownBlock = some w.heap.size) → PL P F n N D l m K rest (putL dst v' L) w') : PL P F n N D l m K ((i, false) :: rest) L w := by
  obtain ⟨h1', inf, h2, h3, h4, h5, h6⟩ := h.out
  obtain ⟨v', w', hr, hown', hg, _, hat⟩ := run_append_own_at (P := P) w B t t' e inf zv sz byt h1' h2 h3 h4 h5 h6 hsz sv ns xs hown ⟨b, o, none⟩ k c news hl
    (fun j u hj => by rw [Addr.add_z]; exact hn j u hj) (fun u hu => one_of_oneV (List.all_eq_true.1 h1 u hu)) (by unfold maxLen; omega) hb hB
  refine PL.eff ho hw (fun _ e => by cases e) hF fun a ha => ?_
  have e1 := ha.eval hx; have e2 := ha.eval hy
  have e3 : (execOp a.eval ⟨dst, .call ⟨.builtin .append, #[x, y], #[t, t]⟩, t', pos, af, g⟩).run P w = .ok (.value v') w' := by
    simp only [execOp, resolve, List.map_toArray, List.map_cons, List.map_nil, e1, e2, Sem.run_bind, Sem.run_pure, Result.andThen, invoke, builtin]
    simp only [hr]
  rw [e3]
  exact ⟨hE w' hg, hh v' w' hown' hg hat _ (ha.putO hin v')⟩
theorem grown_bl {w w' : World} {row : Option Nat} (hg : w.grownBy w' row) {S : Nat → Prop} (hS : ∀ k, S k → k < w.heap.size ∧ row ≠ some k) : Bl S w w' :=
  ⟨hg.os, hg.tape, hg.output, hg.size, fun k hk => hg.block k (hS k hk).1 (fun e => (hS k hk).2 e.symm)⟩
theorem grown_heap {w w' : World} {row : Option Nat} (hg : w.grownBy w' row) {k : Nat} {o : Obj} (h : w.heap[k]? = some o) (hne : row ≠ some k) : w'.heap[k]? = some o := by
  rw [hg.block k (Array.getElem?_eq_some_iff.1 h).1 (fun e => hne e.symm)]; exact h
end

/-! ### results of which one lies in a variable of several cells -/
section
variable {P : Program} {N : Nat} {L : List (Nat × Value)} {w : World}
theorem run_results_cellA {fn : Func} {t s : Tmp} {ty : TypeId} {k : Nat} [Ag P ty] [SzN P ty k] {tmps : Array Value} {b : Nat} {cs : List Value} {u : Value} {W : World} (hr : fn.results = #[.cell t ty, .tmp s]) (ht : tmps.getD t undef = .pointer (some ⟨b, 0, none⟩)) (hs : tmps.getD s undef = u) (hl : cs.length = k) (hc : CellsAt W b 0 cs) :
    (results fn tmps).run P W = .ok (.tuple #[.agg cs.toArray, u]) W := by
  have := run_loadVarA (P := P) (t := ty) hl hc
  have ht' : tmps[t]?.getD undef = .pointer (some ⟨b, 0, none⟩) := by simpa using ht
  have hs' : tmps[s]?.getD undef = u := by simpa using hs
  simp only [results, hr]
  simp [ht', hs', asAddr, this]
theorem postCT {R : Ending → World → Prop} {fn : Func} {t s : Tmp} {ty : TypeId} {k : Nat} [Ag P ty] [SzN P ty k] {b : Nat} {cs : List Value} {u : Value} {e : TypeId} {f : Nat × Nat} (hr : fn.results = #[.cell t ty, .tmp s]) (hv : lk L t = some (.pointer (some ⟨b, 0, none⟩))) (hu : lk L s = some u) (hl : cs.length = k)
    (hh : w.heap[b]? = some (.cells cs.toArray e f)) (hR : R (.returned (.tuple #[.agg cs.toArray, u])) w) : ∀ a, Kn N [] L a → bodyPost P fn R .ret a w := fun a ha =>
  ⟨ha.defers, _, run_results_cellA hr (ha.get hv) (ha.get hu) hl (CellsAt.of_heap hh), hR⟩
end
end Go.Proofs.Ytdielcpjemkngaa
