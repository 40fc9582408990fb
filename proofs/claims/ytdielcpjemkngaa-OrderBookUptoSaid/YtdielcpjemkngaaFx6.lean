/-
  Framework, part 6: a range over a function. Generic.
-/
import Derived.Test.YtdielcpjemkngaaFx5
namespace Go.Proofs.Ytdielcpjemkngaa
open Go.RowKit
set_option linter.unusedVariables false

/-- every block of cells lies as it lay -/
structure CExt (W W' : World) : Prop where
  os : W'.os = W.os
  tape : W'.tape = W.tape
  output : W'.output = W.output
  size : W.heap.size ≤ W'.heap.size
  cells : ∀ (k : Nat) (c : Array Value) (t : TypeId) (f : Nat × Nat), W.heap[k]? = some (.cells c t f) → W'.heap[k]? = some (.cells c t f)
theorem CExt.refl (W : World) : CExt W W := ⟨rfl, rfl, rfl, Nat.le_refl _, fun _ _ _ _ e => e⟩
theorem Ext.cext {W W' : World} (h : Ext W W') : CExt W W' := ⟨h.os, h.tape, h.output, Below.size h, fun _ _ _ _ e => h.heap e⟩
theorem CExt.putObj {W : World} {l : Nat} {o o' : Obj} (h : W.heap[l]? = some o) (ho : o.isCells = false) : CExt W (W.putObj l o') :=
  ⟨rfl, rfl, rfl, by simp, fun k c t f e => by
    have hne : k ≠ l := fun c => by subst c; rw [h] at e; cases e; simp [Obj.isCells] at ho
    rw [World.putObj_heap_other hne]; exact e⟩
theorem CExt.trans {A B C : World} (h : CExt A B) (k : CExt B C) : CExt A C := ⟨k.os.trans h.os, k.tape.trans h.tape, k.output.trans h.output, Nat.le_trans h.size k.size, fun i c t f e => k.cells i c t f (h.cells i c t f e)⟩
theorem CExt.cell {W W' : World} (h : CExt W W') {a : Addr} {v : Value} (hc : W.cell? a = some v) : W'.cell? a = some v := by
  unfold World.cell? at hc ⊢
  split at hc
  · rename_i c t f e; rw [h.cells _ _ _ _ e]; exact hc
  · cases hc
theorem CExt.frozen {W W' : World} (h : CExt W W') {a : Addr} {v : Value} (hc : W.cell? a = some v) : W'.frozen? a = W.frozen? a := by
  unfold World.cell? at hc
  unfold World.frozen?
  split at hc
  · rename_i c t f e; rw [h.cells _ _ _ _ e, e]
  · cases hc

/-- what a round keeps: every block of S; whatever is no cells -/
structure Kb (B : Nat → Prop) (W W' : World) : Prop where
  below : Bl B W W'
  others : KeepsOthers W W'
theorem Kb.refl (B : Nat → Prop) (W : World) : Kb B W W := ⟨Bl.refl _ _, KeepsOthers.refl _⟩
theorem Kb.trans {B : Nat → Prop} {A C E : World} (h : Kb B A C) (k : Kb B C E) : Kb B A E := ⟨h.below.trans k.below, h.others.trans k.others⟩
theorem Ext.kb {B : Nat → Prop} {W W' : World} (h : Ext W W') (hB : ∀ k, B k → k < W.heap.size) : Kb B W W' := ⟨h.bl hB, ⟨Below.size h, fun _ _ e _ => h.heap e⟩⟩
theorem Kb.setCell {B : Nat → Prop} (W : World) {a : Addr} (v : Value) (h : ¬ B a.block) : Kb B W (W.setCell a v) := ⟨Bl.setCell W v h, KeepsOthers.setCell W a v⟩
theorem Kb.size {B : Nat → Prop} {W W' : World} (h : Kb B W W') : W.heap.size ≤ W'.heap.size := h.below.size

/-- **An iterator's contract**: it hands the elements of xs to yield, in this order, till yield says no; it turns no block of B by itself. -/
def It {α : Type} (P : Program) (gf : FuncId) (caps : List Value) (encs : α → List Value) (xs : List α) (B : Nat → Prop) (w : World) : Prop :=
  ∀ (j : Nat) (J Jx : List α → World → Prop) (W : World), Bl B w W → (∀ k, B k → k < W.heap.size) →
    (∀ pre W W', Ext W W' → J pre W → J pre W') → (∀ pre W W', Ext W W' → Jx pre W → Jx pre W') →
    (∀ pre x W, pre ++ [x] <+: xs → J pre W → Bl B w W → (∀ k, B k → k < W.heap.size) → YieldAt Fence.wide 0 P j (encs x).toArray W (RG fun v W' => Bl B W W' ∧ ((v = .bool true ∧ J (pre ++ [x]) W') ∨ (v = .bool false ∧ Jx (pre ++ [x]) W')))) →
    J [] W → Rg P gf (.func (.yield j) #[] #[] :: caps) W fun _ W' => Bl B W W' ∧ (J xs W' ∨ ∃ pre, pre <+: xs ∧ Jx pre W')

def rPost {α : Type} (B : Nat → Prop) (I : List α → World → Prop) (Ix : Code → List α → World → Prop) (pre : List α) (W : World) : Exit → Act → World → Prop
  | .normal, _, W' => Kb B W W' ∧ I pre W'
  | .ret, _, W' => Kb B W W' ∧ Ix .ret pre W'
  | .exit id, _, W' => Kb B W W' ∧ Ix (.exit id) pre W'
  | .goto t, _, W' => Kb B W W' ∧ Ix (.goto t) pre W'
  | .panic _, _, _ => False
  | .outgrown, _, _ => False

abbrev mark (B : Nat) : Deferred := { target := .collected B, args := #[] }

def zipL : List Tmp → List Value → List (Nat × Value) → List (Nat × Value)
  | p :: ps, v :: vs, L => zipL ps vs ((p, v) :: L)
  | _, _, L => L
theorem kn_zip {N : Nat} {D : List Deferred} : ∀ (ps : List Tmp) (vs : List Value) (L : List (Nat × Value)) (a : Act), Kn N D L a → ps.all (fun p => Nat.blt p N) = true →
    Kn N D (zipL ps vs L) { a with tmps := (ps.zip vs).foldl (fun t (p, v) => t.setIfInBounds p v) a.tmps }
  | [], _, _, a, h, _ => by simpa [zipL] using h
  | _ :: _, [], _, a, h, _ => by simpa [zipL] using h
  | p :: ps, v :: vs, L, a, h, hp => by
    simp only [List.all_cons, Bool.and_eq_true] at hp
    exact kn_zip ps vs ((p, v) :: L) (a.put (some p) v) (h.put hp.1 v) hp.2

section
variable {P : Program} {N : Nat} {D : List Deferred} {L : List (Nat × Value)} {w : World} {Q : Exit → Act → World → Prop}

/-- **An outermost range over a function**; the body is told of its loop's record. -/
theorem CD.rangeL {α : Type} {g : Operand} {gf : FuncId} [hen : En P gf] {caps : List Value} {encs : α → List Value} {xs : List α} {B : Nat → Prop} {ps : Array Tmp} {assign body : Code}
    (hg : ev L g = some (.func (.func gf) #[] caps.toArray)) (hit : It P gf caps encs xs B w) (hB : ∀ k, B k → k < w.heap.size) (hps : ∀ x, (encs x).length = ps.size) (hpin : ps.toList.all (fun p => Nat.blt p N) = true)
    (I : List α → World → Prop) (Ix : Code → List α → World → Prop) (hI : ∀ pre W W', CExt W W' → I pre W → I pre W') (hIx : ∀ c pre W W', CExt W W' → Ix c pre W → Ix c pre W') (h0 : I [] w)
    (La : α → List (Nat × Value))
    (hassign : ∀ l x W, CD P (Fence.wide.inRound l) 0 N [] assign (Exit.then (fun a w' => w' = W ∧ Kn N [] (La x) a) NoExit) (zipL ps.toList (encs x) L) W)
    (hbody : ∀ l pre x W, pre ++ [x] <+: xs → I pre W → Bl B w W → w.heap.size < W.heap.size → (∃ r, W.heap[l]? = some (.loop r)) → CD P (Fence.wide.inRound l) 0 N [] body (rPost B I Ix (pre ++ [x]) W) (La x) W)
    (hdone : ∀ M W, I xs W → Bl B w W → w.heap.size ≤ M → W.heap[M]? = some (.deferred (some [])) → ∀ a, Kn N (mark M :: D) L a → Q .normal a W)
    (hstop : ∀ M c pre W, pre <+: xs → Ix c pre W → Bl B w W → w.heap.size ≤ M → W.heap[M]? = some (.deferred (some [])) → CD P Fence.wide 0 N (mark M :: D) c Q L W) :
    CD P Fence.wide 0 N D (.rangeFunc g ps assign body) Q L w := by
  intro a ha
  refine wpIn_rangeFunc ?_
  intro fn _
  obtain ⟨rec, hrec⟩ : ∃ rec : LoopState → Option Code → Loop, rec = fun st pe => { state := st, pending := pe, fn, tmps := a.tmps, params := ps, assign, body, defers := w.heap.size } := ⟨_, rfl⟩
  obtain ⟨W1, hW1⟩ : ∃ W1, (w.alloc (.deferred (some []))).alloc (.loop (rec .ready none)) = W1 := ⟨_, rfl⟩
  have hL1 : W1.heap[w.heap.size + 1]? = some (.loop (rec .ready none)) := by
    rw [← hW1]; have := World.alloc_heap_new (w.alloc (.deferred (some []))) (.loop (rec .ready none)); rwa [World.size_alloc] at this
  have hx1 : Ext w W1 := by rw [← hW1]; exact (Ext.alloc _ _).trans (Ext.alloc _ _)
  have hK1 : W1.heap[w.heap.size]? = some (.deferred (some [])) := by
    rw [← hW1]; exact (Ext.alloc _ _).heap (World.alloc_heap_new w _)
  have hb1 : Bl B w W1 := hx1.bl hB
  have hBs : ∀ {V : World}, w.heap.size ≤ V.heap.size → ∀ k, B k → k < V.heap.size := fun h k hk => Nat.lt_of_lt_of_le (hB k hk) h
  have hs1 : w.heap.size + 1 < W1.heap.size := (Array.getElem?_eq_some_iff.1 hL1).1
  refine ⟨w.heap.size + 1, [mark w.heap.size], W1, { target := .fn (.func gf) caps.toArray, args := #[.func (.yield (w.heap.size + 1)) #[] #[]] }, W1, gf,
    (Value.func (.yield (w.heap.size + 1)) #[] #[] :: caps).toArray, W1, ?_, ?_, fun _ _ => trivial, ?_, FW.wide.hn, ?_⟩
  · rw [← hW1, hrec]; exact run_enterLoop_outer _ _ _ _ _
  · have e1 := ha.eval hg
    simp only [resolve, e1]
    simp [go_sem, Deferred.ofValue]
  · have e : #[Value.func (.yield (w.heap.size + 1)) #[] #[]] ++ caps.toArray = (Value.func (.yield (w.heap.size + 1)) #[] #[] :: caps).toArray := by simp
    simp only [invoke, e]; exact hen.out _ _
  · -- the iterator's contract
    refine CallsIn.mono (callsIn_FW FW.wide (hit (w.heap.size + 1)
      (fun pre W => I pre W ∧ W.heap[w.heap.size + 1]? = some (.loop (rec .ready none)) ∧ W.heap[w.heap.size]? = some (.deferred (some [])) ∧ Bl B w W)
      (fun pre W => ∃ c, Ix c pre W ∧ W.heap[w.heap.size + 1]? = some (.loop (rec .done (some c))) ∧ W.heap[w.heap.size]? = some (.deferred (some [])) ∧ Bl B w W)
      W1 hb1 (hBs (by omega))
      (fun pre W W' hx h => ⟨hI _ _ _ hx.cext h.1, hx.heap h.2.1, hx.heap h.2.2.1, h.2.2.2.trans (hx.bl (hBs h.2.2.2.size))⟩)
      (fun pre W W' hx h => let ⟨c, h1, h2, h3, h4⟩ := h; ⟨c, hIx _ _ _ _ hx.cext h1, hx.heap h2, hx.heap h3, h4.trans (hx.bl (hBs h4.size))⟩)
      ?_ ⟨hI _ _ _ hx1.cext h0, hL1, hK1, hb1⟩)) ?_
    · -- one round
      rintro pre x W hpre ⟨hi, hl, hk, hb⟩ _ _
      have hlt : w.heap.size + 1 < W.heap.size := (Array.getElem?_eq_some_iff.1 hl).1
      have hy := run_yield (P := P) (args := (encs x).toArray) hl (by rw [hrec]; simpa using hps x)
      rw [hrec] at hy
      have ha0 : Kn N [] L { tmps := a.tmps, defers := [] } := ⟨ha.size, rfl, ha.slot⟩
      have hz := kn_zip ps.toList (encs x) L _ ha0 hpin
      have hzt : (ps.zip (encs x).toArray).foldl (fun t (p, v) => t.setIfInBounds p v) a.tmps = (ps.toList.zip (encs x)).foldl (fun t (p, v) => t.setIfInBounds p v) a.tmps := by
        rw [← Array.foldl_toList]; simp
      simp only [hzt] at hy
      refine ⟨fn, _, assign, body, hy, roundIn_of_wpIn trivial (wpIn_mono (hassign (w.heap.size + 1) x W _ hz) fun e a3 w3 hq => ?_)⟩
      cases e with
      | normal =>
        obtain ⟨rfl, hkn⟩ := hq
        refine ⟨_, run_beginRound hl (by rw [hrec]), ?_⟩
        have hl2 : (w3.putObj (w.heap.size + 1) (.loop { rec .ready none with state := .busy })).heap[w.heap.size + 1]? = some (.loop { rec .ready none with state := .busy }) := World.putObj_heap_same hlt
        have hk2 : (w3.putObj (w.heap.size + 1) (.loop { rec .ready none with state := .busy })).heap[w.heap.size]? = some (.deferred (some [])) := (World.putObj_heap_other (by omega)).trans hk
        have hc2 : CExt w3 (w3.putObj (w.heap.size + 1) (.loop { rec .ready none with state := .busy })) := CExt.putObj hl rfl
        have putB : ∀ (V : World) (o : Obj), w.heap.size + 1 < V.heap.size → Bl B V (V.putObj (w.heap.size + 1) o) := fun V o _ =>
          ⟨rfl, rfl, rfl, by simp, fun k hk => World.putObj_heap_other (by have := hB k hk; omega)⟩
        have hb2 := putB w3 (.loop { rec .ready none with state := .busy }) hlt
        refine wpIn_mono (hbody _ pre x _ hpre (hI _ _ _ hc2 hi) (hb.trans hb2) (by simp; omega) ⟨_, hl2⟩ a3 hkn) ?_
        have fin : ∀ (jump : Option Code) (W3 : World), KeepsOthers (w3.putObj (w.heap.size + 1) (.loop { rec .ready none with state := .busy })) W3 →
            (Instr.endRound (w.heap.size + 1) jump).run P W3 = .ok (.bool jump.isNone) (W3.putObj (w.heap.size + 1) (.loop (rec (if jump.isNone then .ready else .done) jump))) ∧
            W3.heap[w.heap.size + 1]? = some (.loop { rec .ready none with state := .busy }) ∧
            (W3.putObj (w.heap.size + 1) (.loop (rec (if jump.isNone then .ready else .done) jump))).heap[w.heap.size + 1]? = some (.loop (rec (if jump.isNone then .ready else .done) jump)) ∧
            (W3.putObj (w.heap.size + 1) (.loop (rec (if jump.isNone then .ready else .done) jump))).heap[w.heap.size]? = some (.deferred (some [])) := fun jump W3 hk3 => by
          have hl3 := hk3.same _ _ hl2 rfl
          have := run_endRound (P := P) jump hl3
          rw [hrec] at this ⊢
          exact ⟨this, by rw [hrec] at hl3; exact hl3, World.putObj_heap_same (Array.getElem?_eq_some_iff.1 hl3).1, (World.putObj_heap_other (by omega)).trans (hk3.same _ _ hk2 rfl)⟩
        have bel : ∀ (W3 : World) (o : Obj), Kb B (w3.putObj (w.heap.size + 1) (.loop { rec .ready none with state := .busy })) W3 → Bl B w3 (W3.putObj (w.heap.size + 1) o) := fun W3 o hk3 =>
          (hb2.trans hk3.below).trans (putB W3 o (by have := hk3.size; simp at this; omega))
        rintro e a4 W3 hp
        cases e with
        | normal =>
          obtain ⟨hk3, hi3⟩ := hp
          obtain ⟨hr, hl3, hl4, hk4⟩ := fin none W3 hk3.others
          exact ⟨_, _, hr, _, rfl, bel _ _ hk3, .inl ⟨rfl, hI _ _ _ (CExt.putObj hl3 rfl) hi3, hl4, hk4, hb.trans (bel _ _ hk3)⟩⟩
        | ret =>
          obtain ⟨hk3, hi3⟩ := hp
          obtain ⟨hr, hl3, hl4, hk4⟩ := fin (some .ret) W3 hk3.others
          exact ⟨_, _, hr, _, rfl, bel _ _ hk3, .inr ⟨rfl, .ret, hIx _ _ _ _ (CExt.putObj hl3 rfl) hi3, hl4, hk4, hb.trans (bel _ _ hk3)⟩⟩
        | exit id =>
          obtain ⟨hk3, hi3⟩ := hp
          obtain ⟨hr, hl3, hl4, hk4⟩ := fin (some (.exit id)) W3 hk3.others
          exact ⟨_, _, hr, _, rfl, bel _ _ hk3, .inr ⟨rfl, .exit id, hIx _ _ _ _ (CExt.putObj hl3 rfl) hi3, hl4, hk4, hb.trans (bel _ _ hk3)⟩⟩
        | goto t =>
          obtain ⟨hk3, hi3⟩ := hp
          obtain ⟨hr, hl3, hl4, hk4⟩ := fin (some (.goto t)) W3 hk3.others
          exact ⟨_, _, hr, _, rfl, bel _ _ hk3, .inr ⟨rfl, .goto t, hIx _ _ _ _ (CExt.putObj hl3 rfl) hi3, hl4, hk4, hb.trans (bel _ _ hk3)⟩⟩
        | panic ch => exact hp.elim
        | outgrown => exact hp.elim
      | ret => exact hq
      | exit id => exact hq
      | goto t => exact hq
      | panic c => exact hq
      | outgrown => exact hq
    · -- behind the iterator
      have putB : ∀ (V : World) (o : Obj), Bl B V (V.putObj (w.heap.size + 1) o) := fun V o => ⟨rfl, rfl, rfl, by simp, fun k hk => World.putObj_heap_other (by have := hB k hk; omega)⟩
      have hka : Kn N (mark w.heap.size :: D) L { a with defers := [mark w.heap.size] ++ a.defers } := ⟨ha.size, by simp [ha.defers], ha.slot⟩
      rintro e W2 ⟨v, rfl, hb2, (⟨hi, hl, hk, hb⟩ | ⟨pre, hpre, c, hi, hl, hk, hb⟩)⟩
      · exact ⟨none, _, by have := run_endLoop (P := P) hl (by rw [hrec]; simp); rw [hrec] at this; exact this,
          hdone _ _ (hI _ _ _ (CExt.putObj hl rfl) hi) (hb.trans (putB _ _)) (Nat.le_refl _) ((World.putObj_heap_other (by omega)).trans hk) _ hka⟩
      · exact ⟨some c, _, by have := run_endLoop (P := P) hl (by rw [hrec]; simp); rw [hrec] at this; exact this,
          hstop _ c pre _ hpre (hIx _ _ _ _ (CExt.putObj hl rfl) hi) (hb.trans (putB _ _)) (Nat.le_refl _) ((World.putObj_heap_other (by omega)).trans hk) _ hka⟩
/-- **An outermost range over a function.** -/
theorem CD.range {α : Type} {g : Operand} {gf : FuncId} [hen : En P gf] {caps : List Value} {encs : α → List Value} {xs : List α} {B : Nat → Prop} {ps : Array Tmp} {assign body : Code}
    (hg : ev L g = some (.func (.func gf) #[] caps.toArray)) (hit : It P gf caps encs xs B w) (hB : ∀ k, B k → k < w.heap.size) (hps : ∀ x, (encs x).length = ps.size) (hpin : ps.toList.all (fun p => Nat.blt p N) = true)
    (I : List α → World → Prop) (Ix : Code → List α → World → Prop) (hI : ∀ pre W W', CExt W W' → I pre W → I pre W') (hIx : ∀ c pre W W', CExt W W' → Ix c pre W → Ix c pre W') (h0 : I [] w)
    (La : α → List (Nat × Value))
    (hassign : ∀ l x W, CD P (Fence.wide.inRound l) 0 N [] assign (Exit.then (fun a w' => w' = W ∧ Kn N [] (La x) a) NoExit) (zipL ps.toList (encs x) L) W)
    (hbody : ∀ l pre x W, pre ++ [x] <+: xs → I pre W → Bl B w W → w.heap.size < W.heap.size → CD P (Fence.wide.inRound l) 0 N [] body (rPost B I Ix (pre ++ [x]) W) (La x) W)
    (hdone : ∀ M W, I xs W → Bl B w W → w.heap.size ≤ M → W.heap[M]? = some (.deferred (some [])) → ∀ a, Kn N (mark M :: D) L a → Q .normal a W)
    (hstop : ∀ M c pre W, pre <+: xs → Ix c pre W → Bl B w W → w.heap.size ≤ M → W.heap[M]? = some (.deferred (some [])) → CD P Fence.wide 0 N (mark M :: D) c Q L W) :
    CD P Fence.wide 0 N D (.rangeFunc g ps assign body) Q L w :=
  CD.rangeL hg hit hB hps hpin I Ix hI hIx h0 La hassign (fun l pre x W h1 h2 h3 h4 _ => hbody l pre x W h1 h2 h3 h4) hdone hstop
end
end Go.Proofs.Ytdielcpjemkngaa
