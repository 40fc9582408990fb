/-
  Framework, part 12: a range over a function within a round. Generic.
-/
import Derived.Test.YtdielcpjemkngaaFx6
import Derived.RangeFuncNested
namespace Go.Proofs.Ytdielcpjemkngaa
open Go.RowKit
set_option linter.unusedVariables false

section
variable {P : Program} {N : Nat} {D : List Deferred} {L : List (Nat × Value)} {w : World} {Q : Exit → Act → World → Prop}

/-- **A range over a function within a round.** -/
theorem CD.rangeN {l₀ : Nat} {r₀ : Loop} {α : Type} {g : Operand} {gf : FuncId} [hen : En P gf] {caps : List Value} {encs : α → List Value} {xs : List α} {B : Nat → Prop} {ps : Array Tmp} {assign body : Code}
    (hl0 : w.heap[l₀]? = some (.loop r₀)) (hg : ev L g = some (.func (.func gf) #[] caps.toArray)) (hit : It P gf caps encs xs B w) (hB : ∀ k, B k → k < w.heap.size) (hps : ∀ x, (encs x).length = ps.size) (hpin : ps.toList.all (fun p => Nat.blt p N) = true)
    (I : List α → World → Prop) (Ix : Code → List α → World → Prop) (hI : ∀ pre W W', CExt W W' → I pre W → I pre W') (hIx : ∀ c pre W W', CExt W W' → Ix c pre W → Ix c pre W') (h0 : I [] w)
    (La : α → List (Nat × Value))
    (hassign : ∀ l x W, CD P (Fence.wide.inRound l) 0 N [] assign (Exit.then (fun a w' => w' = W ∧ Kn N [] (La x) a) NoExit) (zipL ps.toList (encs x) L) W)
    (hbody : ∀ l pre x W, pre ++ [x] <+: xs → I pre W → Bl B w W → w.heap.size < W.heap.size → (∃ r, W.heap[l]? = some (.loop r)) → CD P (Fence.wide.inRound l) 0 N [] body (rPost B I Ix (pre ++ [x]) W) (La x) W)
    (hdone : ∀ W, I xs W → Bl B w W → ∀ a, Kn N D L a → Q .normal a W)
    (hstop : ∀ c pre W, pre <+: xs → Ix c pre W → Bl B w W → CD P (Fence.wide.inRound l₀) 0 N D c Q L W) :
    CD P (Fence.wide.inRound l₀) 0 N D (.rangeFunc g ps assign body) Q L w := by
  intro a ha
  refine wpIn_rangeFunc ?_
  intro fn _
  obtain ⟨rec, hrec⟩ : ∃ rec : LoopState → Option Code → Loop, rec = fun st pe => { state := st, pending := pe, fn, tmps := a.tmps, params := ps, assign, body, defers := r₀.defers } := ⟨_, rfl⟩
  obtain ⟨W1, hW1⟩ : ∃ W1, w.alloc (.loop (rec .ready none)) = W1 := ⟨_, rfl⟩
  have hL1 : W1.heap[w.heap.size]? = some (.loop (rec .ready none)) := by
    rw [← hW1]; exact World.alloc_heap_new w _
  have hx1 : Ext w W1 := by rw [← hW1]; exact Ext.alloc _ _
  have hb1 : Bl B w W1 := hx1.bl hB
  have hBs : ∀ {V : World}, w.heap.size ≤ V.heap.size → ∀ k, B k → k < V.heap.size := fun h k hk => Nat.lt_of_lt_of_le (hB k hk) h
  have hs1 : w.heap.size < W1.heap.size := (Array.getElem?_eq_some_iff.1 hL1).1
  refine ⟨w.heap.size, [], W1, { target := .fn (.func gf) caps.toArray, args := #[.func (.yield (w.heap.size)) #[] #[]] }, W1, gf,
    (Value.func (.yield (w.heap.size)) #[] #[] :: caps).toArray, W1, ?_, ?_, fun _ _ => trivial, ?_, (FW.wide.inRound l₀).hn, ?_⟩
  · rw [← hW1, hrec]; exact run_enterLoop_inner hl0 _ _ _ _ _
  · have e1 := ha.eval hg
    simp only [resolve, e1]
    simp [go_sem, Deferred.ofValue]
  · have e : #[Value.func (.yield (w.heap.size)) #[] #[]] ++ caps.toArray = (Value.func (.yield (w.heap.size)) #[] #[] :: caps).toArray := by simp
    simp only [invoke, e]; exact hen.out _ _
  · -- the iterator's contract
    refine CallsIn.mono (callsIn_FW (FW.wide.inRound l₀) (hit (w.heap.size)
      (fun pre W => I pre W ∧ W.heap[w.heap.size]? = some (.loop (rec .ready none)) ∧ Bl B w W)
      (fun pre W => ∃ c, Ix c pre W ∧ W.heap[w.heap.size]? = some (.loop (rec .done (some c))) ∧ Bl B w W)
      W1 hb1 (hBs (by omega))
      (fun pre W W' hx h => ⟨hI _ _ _ hx.cext h.1, hx.heap h.2.1, h.2.2.trans (hx.bl (hBs h.2.2.size))⟩)
      (fun pre W W' hx h => let ⟨c, h1, h2, h4⟩ := h; ⟨c, hIx _ _ _ _ hx.cext h1, hx.heap h2, h4.trans (hx.bl (hBs h4.size))⟩)
      ?_ ⟨hI _ _ _ hx1.cext h0, hL1, hb1⟩)) ?_
    · -- one round
      rintro pre x W hpre ⟨hi, hl, hb⟩ _ _
      have hlt : w.heap.size < W.heap.size := (Array.getElem?_eq_some_iff.1 hl).1
      have hy := run_yield (P := P) (args := (encs x).toArray) hl (by rw [hrec]; simpa using hps x)
      rw [hrec] at hy
      have ha0 : Kn N [] L { tmps := a.tmps, defers := [] } := ⟨ha.size, rfl, ha.slot⟩
      have hz := kn_zip ps.toList (encs x) L _ ha0 hpin
      have hzt : (ps.zip (encs x).toArray).foldl (fun t (p, v) => t.setIfInBounds p v) a.tmps = (ps.toList.zip (encs x)).foldl (fun t (p, v) => t.setIfInBounds p v) a.tmps := by
        rw [← Array.foldl_toList]; simp
      simp only [hzt] at hy
      refine ⟨fn, _, assign, body, hy, roundIn_of_wpIn trivial (wpIn_mono (hassign (w.heap.size) x W _ hz) fun e a3 w3 hq => ?_)⟩
      cases e with
      | normal =>
        obtain ⟨rfl, hkn⟩ := hq
        refine ⟨_, run_beginRound hl (by rw [hrec]), ?_⟩
        have hl2 : (w3.putObj (w.heap.size) (.loop { rec .ready none with state := .busy })).heap[w.heap.size]? = some (.loop { rec .ready none with state := .busy }) := World.putObj_heap_same hlt
        have hc2 : CExt w3 (w3.putObj (w.heap.size) (.loop { rec .ready none with state := .busy })) := CExt.putObj hl rfl
        have putB : ∀ (V : World) (o : Obj), w.heap.size < V.heap.size → Bl B V (V.putObj (w.heap.size) o) := fun V o _ =>
          ⟨rfl, rfl, rfl, by simp, fun k hk => World.putObj_heap_other (by have := hB k hk; omega)⟩
        have hb2 := putB w3 (.loop { rec .ready none with state := .busy }) hlt
        refine wpIn_mono (hbody _ pre x _ hpre (hI _ _ _ hc2 hi) (hb.trans hb2) (by simp; omega) ⟨_, hl2⟩ a3 hkn) ?_
        have fin : ∀ (jump : Option Code) (W3 : World), KeepsOthers (w3.putObj (w.heap.size) (.loop { rec .ready none with state := .busy })) W3 →
            (Instr.endRound (w.heap.size) jump).run P W3 = .ok (.bool jump.isNone) (W3.putObj (w.heap.size) (.loop (rec (if jump.isNone then .ready else .done) jump))) ∧
            W3.heap[w.heap.size]? = some (.loop { rec .ready none with state := .busy }) ∧
            (W3.putObj (w.heap.size) (.loop (rec (if jump.isNone then .ready else .done) jump))).heap[w.heap.size]? = some (.loop (rec (if jump.isNone then .ready else .done) jump)) := fun jump W3 hk3 => by
          have hl3 := hk3.same _ _ hl2 rfl
          have := run_endRound (P := P) jump hl3
          rw [hrec] at this ⊢
          exact ⟨this, by rw [hrec] at hl3; exact hl3, World.putObj_heap_same (Array.getElem?_eq_some_iff.1 hl3).1⟩
        have bel : ∀ (W3 : World) (o : Obj), Kb B (w3.putObj (w.heap.size) (.loop { rec .ready none with state := .busy })) W3 → Bl B w3 (W3.putObj (w.heap.size) o) := fun W3 o hk3 =>
          (hb2.trans hk3.below).trans (putB W3 o (by have := hk3.size; simp at this; omega))
        rintro e a4 W3 hp
        cases e with
        | normal =>
          obtain ⟨hk3, hi3⟩ := hp
          obtain ⟨hr, hl3, hl4⟩ := fin none W3 hk3.others
          exact ⟨_, _, hr, _, rfl, bel _ _ hk3, .inl ⟨rfl, hI _ _ _ (CExt.putObj hl3 rfl) hi3, hl4, hb.trans (bel _ _ hk3)⟩⟩
        | ret =>
          obtain ⟨hk3, hi3⟩ := hp
          obtain ⟨hr, hl3, hl4⟩ := fin (some .ret) W3 hk3.others
          exact ⟨_, _, hr, _, rfl, bel _ _ hk3, .inr ⟨rfl, .ret, hIx _ _ _ _ (CExt.putObj hl3 rfl) hi3, hl4, hb.trans (bel _ _ hk3)⟩⟩
        | exit id =>
          obtain ⟨hk3, hi3⟩ := hp
          obtain ⟨hr, hl3, hl4⟩ := fin (some (.exit id)) W3 hk3.others
          exact ⟨_, _, hr, _, rfl, bel _ _ hk3, .inr ⟨rfl, .exit id, hIx _ _ _ _ (CExt.putObj hl3 rfl) hi3, hl4, hb.trans (bel _ _ hk3)⟩⟩
        | goto t =>
          obtain ⟨hk3, hi3⟩ := hp
          obtain ⟨hr, hl3, hl4⟩ := fin (some (.goto t)) W3 hk3.others
          exact ⟨_, _, hr, _, rfl, bel _ _ hk3, .inr ⟨rfl, .goto t, hIx _ _ _ _ (CExt.putObj hl3 rfl) hi3, hl4, hb.trans (bel _ _ hk3)⟩⟩
        | panic ch => exact hp.elim
        | outgrown => exact hp.elim
      | ret => exact hq
      | exit id => exact hq
      | goto t => exact hq
      | panic c => exact hq
      | outgrown => exact hq
    · -- behind the iterator
      have putB : ∀ (V : World) (o : Obj), Bl B V (V.putObj (w.heap.size) o) := fun V o => ⟨rfl, rfl, rfl, by simp, fun k hk => World.putObj_heap_other (by have := hB k hk; omega)⟩
      have hka : Kn N D L { a with defers := [] ++ a.defers } := ⟨ha.size, by simp [ha.defers], ha.slot⟩
      rintro e W2 ⟨v, rfl, hb2, (⟨hi, hl, hb⟩ | ⟨pre, hpre, c, hi, hl, hb⟩)⟩
      · exact ⟨none, _, by have := run_endLoop (P := P) hl (by rw [hrec]; simp); rw [hrec] at this; exact this,
          hdone _ (hI _ _ _ (CExt.putObj hl rfl) hi) (hb.trans (putB _ _)) _ hka⟩
      · exact ⟨some c, _, by have := run_endLoop (P := P) hl (by rw [hrec]; simp); rw [hrec] at this; exact this,
          hstop c pre _ hpre (hIx _ _ _ _ (CExt.putObj hl rfl) hi) (hb.trans (putB _ _)) _ hka⟩
end
end Go.Proofs.Ytdielcpjemkngaa
