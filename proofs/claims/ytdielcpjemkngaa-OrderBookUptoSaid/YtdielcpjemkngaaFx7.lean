/-
  Framework, part 7: a function's end behind ranges over functions; make and append; a range within a round. Generic.
-/
import Derived.Test.YtdielcpjemkngaaFx6
namespace Go.Proofs.Ytdielcpjemkngaa
open Go.RowKit
set_option linter.unusedVariables false

section
variable {P : Program} {N : Nat} {D : List Deferred} {L : List (Nat × Value)} {w : World} {v : Value}

/-- the blocks for the rounds' deferred calls are shut -/
def shut : List Nat → World → World
  | [], w => w
  | M :: r, w => shut r (w.putObj M (.deferred none))
theorem shut_spec : ∀ (Ms : List Nat) (w : World) (B : Nat → Prop), (∀ M ∈ Ms, ¬ B M ∧ w.heap[M]? = some (.deferred (some []))) → Ms.Nodup → CExt w (shut Ms w) ∧ Bl B w (shut Ms w)
  | [], w, B, _, _ => ⟨(Ext.refl w).cext, Bl.refl _ _⟩
  | M :: r, w, B, h, hn => by
    obtain ⟨hB, hM⟩ := h M (by simp)
    have hr := (List.nodup_cons.1 hn)
    have := shut_spec r (w.putObj M (.deferred none)) B (fun M' hM' => by
      obtain ⟨h1, h2⟩ := h M' (by simp [hM'])
      refine ⟨h1, ?_⟩
      have hne : M' ≠ M := fun e => by subst e; exact hr.1 hM'
      rw [World.putObj_heap_other hne]; exact h2) hr.2
    have hb : Bl B w (w.putObj M (.deferred none)) := ⟨rfl, rfl, rfl, by simp, fun k hk => World.putObj_heap_other (fun e => hB (e ▸ hk))⟩
    exact ⟨(CExt.putObj hM rfl).trans this.1, hb.trans this.2⟩

theorem leavesM {n : Nat} {F : Fence} {fn : Func} {tmps : Array Value} {R : Ending → World → Prop} : ∀ (Ms : List Nat) (w : World), (∀ M ∈ Ms, w.heap[M]? = some (.deferred (some []))) → Ms.Nodup →
    (∃ v, (results fn tmps).run P (shut Ms w) = .ok v (shut Ms w) ∧ R (.returned v) (shut Ms w)) → LeavesInM F n P fn tmps R (Ms.map mark) .returning w
  | [], w, _, _, h => h
  | M :: r, w, hM, hn, h => by
    have hr := (List.nodup_cons.1 hn)
    refine ⟨by simp, .inl ⟨M, _, rfl, run_takeDeferred (hM M (by simp)), ?_⟩⟩
    refine leavesM r _ (fun M' hM' => ?_) hr.2 h
    have hne : M' ≠ M := fun e => by subst e; exact hr.1 hM'
    rw [World.putObj_heap_other hne]; exact hM M' (by simp [hM'])

/-- one result, in a slot -/
theorem postM1 {R : Ending → World → Prop} {fn : Func} {t : Tmp} {Ms : List Nat} {B : Nat → Prop} (hr : fn.results = #[.tmp t]) (hv : lk L t = some v) (hM : ∀ M ∈ Ms, ¬ B M ∧ w.heap[M]? = some (.deferred (some []))) (hn : Ms.Nodup)
    (hR : ∀ w', CExt w w' → Bl B w w' → R (.returned v) w') : ∀ a, Kn N (Ms.map mark) L a → bodyPostM Fence.wide 0 P fn R .ret a w := fun a ha => by
  show LeavesInM Fence.wide 0 P fn a.tmps R a.defers .returning w
  rw [ha.defers]
  obtain ⟨h1, h2⟩ := shut_spec Ms w B hM hn
  exact leavesM Ms w (fun M h => (hM M h).2) hn ⟨v, by rw [results_tmp hr, ha.get hv], hR _ h1 h2⟩
/-- no result -/
theorem postM0 {R : Ending → World → Prop} {fn : Func} {Ms : List Nat} {B : Nat → Prop} (hr : fn.results = #[]) (hM : ∀ M ∈ Ms, ¬ B M ∧ w.heap[M]? = some (.deferred (some []))) (hn : Ms.Nodup)
    (hR : ∀ w', CExt w w' → Bl B w w' → R (.returned (.tuple #[])) w') : ∀ a, Kn N (Ms.map mark) L a → bodyPostM Fence.wide 0 P fn R .ret a w := fun a ha => by
  show LeavesInM Fence.wide 0 P fn a.tmps R a.defers .returning w
  rw [ha.defers]
  obtain ⟨h1, h2⟩ := shut_spec Ms w B hM hn
  exact leavesM Ms w (fun M h => (hM M h).2) hn ⟨_, results_none hr _ _ _, hR _ h1 h2⟩
/-- one result, in a cell -/
theorem run_results_cell {fn : Func} {t : Tmp} {ty : TypeId} [Sc P ty] {tmps : Array Value} {b : Addr} {W : World} (hr : fn.results = #[.cell t ty]) (ht : tmps.getD t undef = .pointer (some b)) (hc : W.cell? b = some v) :
    (results fn tmps).run P W = .ok v W := by
  have := run_loadVar (P := P) (t := ty) hc
  simp only [results, hr]
  have ht' : tmps[t]?.getD undef = .pointer (some b) := by simpa using ht
  simp [ht', asAddr, this]
theorem postMC {R : Ending → World → Prop} {fn : Func} {t : Tmp} {ty : TypeId} [Sc P ty] {Ms : List Nat} {B : Nat → Prop} {b : Addr} (hr : fn.results = #[.cell t ty]) (hv : lk L t = some (.pointer (some b))) (hc : w.cell? b = some v)
    (hM : ∀ M ∈ Ms, ¬ B M ∧ w.heap[M]? = some (.deferred (some []))) (hn : Ms.Nodup) (hR : ∀ w', CExt w w' → Bl B w w' → R (.returned v) w') : ∀ a, Kn N (Ms.map mark) L a → bodyPostM Fence.wide 0 P fn R .ret a w := fun a ha => by
  show LeavesInM Fence.wide 0 P fn a.tmps R a.defers .returning w
  rw [ha.defers]
  obtain ⟨h1, h2⟩ := shut_spec Ms w B hM hn
  exact leavesM Ms w (fun M h => (hM M h).2) hn ⟨v, run_results_cell hr (ha.get hv) (h1.cell hc), hR _ h1 h2⟩

theorem Calls.of_CDM {R : Ending → World → Prop} {fn : Func} {c : Code} {k : FuncId} {vs : List Value} (hf : P.funcs[k]? = some fn) (hb : fn.body = some c) (hn : fn.ntmps = N) (hl : Nat.ble vs.length N = true)
    (h : CD P Fence.wide 0 N [] c (bodyPostM Fence.wide 0 P fn R) (argsL vs 0) w) : Calls P k vs.toArray w R := by
  refine callsIn_wide.1 (callsIn_of_wp_marks (n := 0) hf hb trivial ?_)
  rw [hn]
  exact h _ (kn_enter vs N (Nat.le_of_ble_eq_true hl))
theorem Rt.ofM {C : Value → World → Prop} {fn : Func} {c : Code} {k : FuncId} {vs : List Value} (hf : P.funcs[k]? = some fn) (hb : fn.body = some c) (hn : fn.ntmps = N) (hl : Nat.ble vs.length N = true)
    (h : CD P Fence.wide 0 N [] c (bodyPostM Fence.wide 0 P fn (RR w C)) (argsL vs 0) w) : Rt P k vs w C := Calls.of_CDM hf hb hn hl h
end

/-! ### slices that the call itself has made -/
section
variable {P : Program} {F : Fence} {n N : Nat} {D : List Deferred} {l : List Oper} {m : Md} {K : Act → World → Prop} {L : List (Nat × Value)} {w : World}
variable {t u t' : TypeId} {pos : String} {af : Array Edge} {g : Option (Nat × Bool)} {dst : Option Tmp} {x y z : Operand} {i : Nat} {q : Bool} {rest : List (Nat × Bool)} {v : Value}

/-- v is a slice of n elements of type e that owns its array (in a block from B on): xs: its cells -/
abbrev Own (w : World) (B : Nat) (e : TypeId) (sz : Nat) (v : Value) (n : Nat) (xs : List Value) : Prop := w.ownsRow B e sz v n xs

theorem grown_ext {w w' : World} (h : w.grownBy w' none) : Ext w w' := ⟨h.os, h.tape, h.output, h.size, fun k hk => h.block k hk (by simp)⟩
theorem own_grown_kb {w w' : World} {B : Nat → Prop} {B' : Nat} {e : TypeId} {sz k : Nat} {v : Value} {xs : List Value} (ho : Own w B' e sz v k xs) (hB : ∀ b, v.ownBlock = some b → ¬ B b) (hB2 : ∀ k, B k → k < w.heap.size) (hg : w.grownBy w' v.ownBlock) : Kb B w w' := by
  refine ⟨⟨hg.os, hg.tape, hg.output, hg.size, fun k hk => hg.block k (hB2 k hk) (fun e => hB k e.symm hk)⟩, KeepsOthers.of_grownBy hg (fun j o hj hw => ?_)⟩
  rcases ho.2 with ⟨rfl, _⟩ | ⟨g, cap, cur, rfl, _, hgg, _⟩
  · simp [Value.ownBlock] at hj
  · simp only [Value.ownBlock, Option.some.injEq] at hj
    subst hj
    rw [hgg] at hw; cases hw; rfl

/-- an owned slice is kept by whatever keeps its block -/
theorem Own.keep {w w' : World} {B : Nat} {e : TypeId} {sz k : Nat} {v : Value} {xs : List Value} (h : Own w B e sz v k xs) (hk : ∀ b, v.ownBlock = some b → w'.heap[b]? = w.heap[b]?) : Own w' B e sz v k xs := by
  refine ⟨h.1, ?_⟩
  rcases h.2 with hn | ⟨g, cap, cur, rfl, hb, hgg, rest⟩
  · exact .inl hn
  · exact .inr ⟨g, cap, cur, rfl, hb, (hk g rfl).trans hgg, rest⟩
theorem Own.cext {w w' : World} {B : Nat} {e : TypeId} {sz k : Nat} {v : Value} {xs : List Value} (h : Own w B e sz v k xs) (hc : CExt w w') : Own w' B e sz v k xs := by
  refine ⟨h.1, ?_⟩
  rcases h.2 with hn | ⟨g, cap, cur, rfl, hb, hgg, rest⟩
  · exact .inl hn
  · exact .inr ⟨g, cap, cur, rfl, hb, hc.cells _ _ _ _ hgg, rest⟩

/-- an owned array is no block of another type -/
theorem own_ne {w : World} {B : Nat} {e t : TypeId} {sz k : Nat} {v : Value} {xs : List Value} (h : Own w B e sz v k xs) {b : Nat} {c : Array Value} {f : Nat × Nat} (hb : w.heap[b]? = some (.cells c t f)) (ht : t ≠ e) : v.ownBlock ≠ some b := by
  rcases h.2 with ⟨rfl, _⟩ | ⟨g, cap, cur, rfl, _, hgg, _⟩
  · simp [Value.ownBlock]
  · intro e'
    simp only [Value.ownBlock, Option.some.injEq] at e'
    subst e'
    rw [hb] at hgg
    simp only [Option.some.injEq, Obj.cells.injEq] at hgg
    exact ht hgg.2.1
/-- a variable's block behind a store into it, and any other block -/
theorem heap_setCell_one {w : World} {b : Nat} {u : Value} {t : TypeId} {f : Nat × Nat} (h : w.heap[b]? = some (.cells #[u] t f)) (v : Value) : (w.setCell ⟨b, 0, none⟩ v).heap[b]? = some (.cells #[v] t f) := by
  obtain ⟨hlt, hk⟩ := Array.getElem?_eq_some_iff.1 h
  show (w.heap.modify b _)[b]? = _
  rw [Array.getElem?_eq_getElem (by rw [Array.size_modify]; exact hlt), Array.getElem_modify_self, hk]
  rfl
theorem heap_setCell_ne {w : World} {b c : Nat} (v : Value) (h : c ≠ b) : (w.setCell ⟨b, 0, none⟩ v).heap[c]? = w.heap[c]? := Below.heap_setCell _ _ _ _ h

theorem one_of_oneV {v : Value} (h : oneV v = true) : v.oneCell' = true := by cases v <;> first | rfl | (simp [oneV] at h)

/-- make([]T, 0, c) -/
theorem PL.make0 [hm : ME m] {e : TypeId} {zv : Value} {sz byt c : Nat} {k k' : IntKind} (B : Nat) [h : Se P t e zv sz byt] (hF : FW F)
    (ho : l[i]? = some ⟨dst, .makeSlice t x y, t', pos, af, g⟩) (hw : wantL l L ⟨dst, .makeSlice t x y, t', pos, af, g⟩ = some true) (hx : ev L x = some (.int k 0)) (hy : ev L y = some (.int k' (c : Int))) (hin : inT N dst = true)
    (hb : byt * c ≤ 281474976710656) (h63 : c ≤ 9223372036854775807) (hB : B ≤ w.heap.size)
    (hh : ∀ w' v, Own w' B e sz v 0 [] → Ext w w' → v ≠ .slice none 0 0 → (∀ b, v.ownBlock = some b → w.heap.size ≤ b) → (∃ b, v = .slice (some ⟨b, 0, none⟩) 0 c) → PL P F n N D l m K rest (putL dst v L) w') : PL P F n N D l m K ((i, false) :: rest) L w := by
  obtain ⟨h1, inf, h2, h3, h4, h5, h6⟩ := h.out
  obtain ⟨w', hr, hown, hg⟩ := run_make_own (P := P) w B t e inf zv sz h1 h2 h3 h4 k k' c (by rw [h5]; exact hb) (by unfold maxLen; omega) hB
  refine PL.val (v := .slice (some ⟨w.heap.size, 0, none⟩) 0 c) (w' := w') ho hw (fun _ e => by cases e) hF hin (fun a ha => ?_) (hm.out _ _ (grown_ext hg)) (hh w' _ hown (grown_ext hg) (by simp) (by simp [Value.ownBlock]) ⟨_, rfl⟩)
  have e1 := ha.eval hx; have e2 := ha.eval hy
  simp only [execOp, e1, e2]
  exact run_v hr

/-- s = append(s, ys...) on an owned slice; ys given by its cells -/
theorem PL.append {e : TypeId} {zv : Value} {sz byt k c o : Nat} {b : Nat} {sv : Value} {ns : Nat} {xs news : List Value} {B : Nat} [h : Se P t e zv sz byt] (hF : FW F)
    (ho : l[i]? = some ⟨dst, .call ⟨.builtin .append, #[x, y], #[t, t]⟩, t', pos, af, g⟩) (hw : wantL l L ⟨dst, .call ⟨.builtin .append, #[x, y], #[t, t]⟩, t', pos, af, g⟩ = some true)
    (hx : ev L x = some sv) (hown : Own w B e sz sv ns xs) (hy : ev L y = some (.slice (some ⟨b, o, none⟩) k c)) (hin : inT N dst = true)
    (hl : news.length = k * sz) (hn : ∀ j u, news[j]? = some u → w.cell? ⟨b, o + j, none⟩ = some u) (h1 : ∀ u ∈ news, oneV u = true) (hsz : 0 < sz)
    (hb : (ns + k) * byt ≤ 140737488355328) (h63 : ns + k ≤ 9223372036854775807) (hB : B ≤ w.heap.size) (hE : ∀ w', w.grownBy w' sv.ownBlock → m.E w w')
    (hh : ∀ v' w', Own w' B e sz v' (ns + k) (xs ++ news) → w.grownBy w' sv.ownBlock → (v' = .slice none 0 0 ↔ sv = .slice none 0 0 ∧ k = 0) → PL P F n N D l m K rest (putL dst v' L) w') : PL P F n N D l m K ((i, false) :: rest) L w := by
  obtain ⟨h1', inf, h2, h3, h4, h5, h6⟩ := h.out
  obtain ⟨v', w', hr, hown', hg, hnil⟩ := run_append_own (P := P) w B t t' e inf zv sz byt h1' h2 h3 h4 h5 h6 hsz sv ns xs hown ⟨b, o, none⟩ k c news hl
    (fun j u hj => by rw [Addr.add_z]; exact hn j u hj) (fun u hu => one_of_oneV (h1 u hu)) (by unfold maxLen; omega) hb hB
  refine PL.val (v := v') (w' := w') ho hw (fun _ e => by cases e) hF hin (fun a ha => ?_) (hE w' hg) (hh v' w' hown' hg hnil)
  have e1 := ha.eval hx; have e2 := ha.eval hy
  simp only [execOp, resolve, List.map_toArray, List.map_cons, List.map_nil, e1, e2, Sem.run_bind, Sem.run_pure, Result.andThen, invoke, builtin]
  simp only [hr]

/-- a cell of an owned slice -/
theorem Own.cell {B : Nat} {e : TypeId} {sz k b c : Nat} {xs : List Value} (h : Own w B e sz (.slice (some ⟨b, 0, none⟩) k c) k xs) {j : Nat} (hj : j < k * sz) : w.cell? ⟨b, j, none⟩ = xs[j]? := h.cellAt j hj
theorem Own.lt1 {B : Nat} {e : TypeId} {sz k b c : Nat} {xs : List Value} (h : Own w B e sz (.slice (some ⟨b, 0, none⟩) k c) k xs) : B ≤ b ∧ b < w.heap.size := World.ownsRow.lt h b rfl
/-- the form of an owned slice -/
theorem Own.form {B : Nat} {e : TypeId} {sz k : Nat} {v : Value} {xs : List Value} (h : Own w B e sz v k xs) : (v = .slice none 0 0 ∧ k = 0) ∨ ∃ b c, v = .slice (some ⟨b, 0, none⟩) k c ∧ B ≤ b ∧ b < w.heap.size := by
  rcases h.2 with hn | ⟨g, cap, cur, rfl, hb, hgg, rest⟩
  · exact .inl hn
  · exact .inr ⟨g, cap, rfl, hb, (Array.getElem?_eq_some_iff.1 hgg).1⟩
end
end Go.Proofs.Ytdielcpjemkngaa
