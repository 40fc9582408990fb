/-
  Framework, part 11: typed elements of slices; cutting a slice; loops whose rounds leave marks. Generic.
-/
import Derived.Test.YtdielcpjemkngaaFx10
namespace Go.Proofs.Ytdielcpjemkngaa
open Go.RowKit
set_option linter.unusedVariables false

/-- elements of several cells, in a block whose elements are of type e -/
def ElT {α : Type} (w : World) (e : TypeId) (a : Option Addr) (sz : Nat) (f : α → List Value) (l : List α) : Prop :=
  ∀ (j : Nat) (hj : j < l.length), ∃ b o, a = some ⟨b, o, none⟩ ∧ CellsAt w b (o + j * sz) (f l[j]) ∧ ∃ c fr, w.heap[b]? = some (.cells c e fr)
theorem ElT.nil {α : Type} {w : World} {e : TypeId} {a : Option Addr} {sz : Nat} {f : α → List Value} : ElT w e a sz f [] := fun j hj => by simp at hj
theorem cellsAt_of {w w' : World} {b o : Nat} {cs : List Value} (h : CellsAt w b o cs) (hb : w'.heap[b]? = w.heap[b]?) : CellsAt w' b o cs := fun j u hj => by
  rw [World.cell?_of_block (w := w) (a := ⟨b, o + j, none⟩) hb]; exact h j u hj
theorem ElT.cext {α : Type} {w w' : World} {e : TypeId} {a : Option Addr} {sz : Nat} {f : α → List Value} {l : List α} (h : ElT w e a sz f l) (hx : CExt w w') : ElT w' e a sz f l := fun j hj =>
  let ⟨b, o, e', hc, c, fr, hb⟩ := h j hj; ⟨b, o, e', hc.cext hx, c, fr, hx.cells _ _ _ _ hb⟩
theorem ElT.ext {α : Type} {w w' : World} {e : TypeId} {a : Option Addr} {sz : Nat} {f : α → List Value} {l : List α} (h : ElT w e a sz f l) (hx : Ext w w') : ElT w' e a sz f l := h.cext hx.cext
theorem ElT.kt {α : Type} {w w' : World} {e e1 : TypeId} (hk : KT e1 w w') {a : Option Addr} {sz : Nat} {f : α → List Value} {l : List α} (h : ElT w e a sz f l) (hne : e ≠ e1) : ElT w' e a sz f l := fun j hj =>
  let ⟨b, o, e', hc, c, fr, hb⟩ := h j hj; ⟨b, o, e', cellsAt_of hc ((hk.out _ _ _ _ hne hb).trans hb.symm), c, fr, hk.out _ _ _ _ hne hb⟩
theorem Own.elT {α : Type} {w : World} {B : Nat} {e : TypeId} {sz n c : Nat} {a : Option Addr} {f : α → List Value} {l : List α} (h : Own w B e sz (.slice a n c) n (l.flatMap f)) (hf : ∀ x, (f x).length = sz) (hn : l.length = n) : ElT w e a sz f l := fun j hj => by
  obtain ⟨g, rfl, hc⟩ := h.atN hf hn j hj
  refine ⟨g, 0, rfl, hc, ?_⟩
  rcases h.2 with ⟨he, _⟩ | ⟨g', cap, cur, he, _, hgg, _⟩
  · simp at he
  · simp only [Value.slice.injEq, Option.some.injEq, Addr.mk.injEq] at he
    obtain ⟨⟨rfl, _⟩, _⟩ := he
    exact ⟨_, _, hgg⟩
theorem Own.cap {w : World} {B : Nat} {e : TypeId} {sz n k c : Nat} {a : Option Addr} {xs : List Value} (h : Own w B e sz (.slice a k c) n xs) : k ≤ c := by
  rcases h.2 with ⟨he, hn⟩ | ⟨g', cap, cur, he, _, hgg, hle, _⟩
  · simp only [Value.slice.injEq] at he; omega
  · simp only [Value.slice.injEq] at he; omega
/-- behind m[k:] -/
theorem ElT.drop {α : Type} {w : World} {e : TypeId} {a : Option Addr} {sz : Nat} {f : α → List Value} {l : List α} (h : ElT w e a sz f l) (k c : Nat) (hk : k ≤ l.length) (hc : l.length ≤ c) : ElT w e (if c = k then a else a.map (·.add (k * sz))) sz f (l.drop k) := fun j hj => by
  simp only [List.length_drop] at hj
  obtain ⟨b, o, rfl, hcl, hb⟩ := h (k + j) (by omega)
  rw [if_neg (by omega)]
  refine ⟨b, o + k * sz, by simp [Addr.add_z], ?_, hb⟩
  have e1 : o + k * sz + j * sz = o + (k + j) * sz := by rw [Nat.add_mul]; omega
  rw [e1, List.getElem_drop]; exact hcl
/-- behind m[:k] -/
theorem ElT.take {α : Type} {w : World} {e : TypeId} {a : Option Addr} {sz : Nat} {f : α → List Value} {l : List α} (h : ElT w e a sz f l) (k : Nat) : ElT w e a sz f (l.take k) := fun j hj => by
  simp only [List.length_take] at hj
  obtain ⟨b, o, e', hcl, hb⟩ := h j (by omega)
  exact ⟨b, o, e', by rw [List.getElem_take]; exact hcl, hb⟩

section
variable {P : Program} {F : Fence} {n N : Nat} {D : List Deferred} {l : List Oper} {m : Md} {K : Act → World → Prop} {L : List (Nat × Value)} {w : World}
variable {t u t' : TypeId} {pos : String} {af : Array Edge} {g : Option (Nat × Bool)} {dst : Option Tmp} {x y z : Operand} {i : Nat} {q : Bool} {rest : List (Nat × Bool)} {v : Value} {k : IntKind}

theorem run_sliceBound {v : Value} {k : IntKind} {i y : Nat} {code : BoundsCode} {W : World} (hv : v = .int k (i : Int)) (hi : i ≤ y) : (Instr.sliceBound v y code).run P W = .ok i W := by
  subst hv
  simp [Instr.sliceBound, asIntOf, Sem.run_bind, Sem.run_pure, Result.andThen, hi]
/-- m[lo:] -/
theorem OQ.sliceLo {sz : Nat} [h : SlE P t sz] {a : Option Addr} {j c lo : Nat} (hx : ev L x = some (.slice a j c)) (hy : ev L y = some (.int k (lo : Int))) (hlo : lo ≤ j) (hc : j ≤ c) :
    OQ P m N D ⟨dst, .slice t x (some y) none none, t', pos, af, g⟩ L w (.slice (if c = lo then a else a.map (·.add (lo * sz))) (j - lo) (c - lo)) := fun b hb W _ => by
  have e1 := hb.eval hx; have e2 := hb.eval hy
  obtain ⟨e, inf, h1, h2, h3⟩ := h.out
  have h4 := run_sliceBound (P := P) (W := W) (code := .sliceB) (k := k) (rfl : Value.int k (lo : Int) = .int k (lo : Int)) hlo
  simp only [execOp, Option.map_some, Option.map_none, e1, e2]
  refine run_v ?_
  simp [Instr.sliceAt, Instr.slice, Instr.sliceBounds, underlying, program, sizeOf, typeInfo, Sem.run_bind, Sem.run, Result.andThen, h1, h2, h3, h4, Sem.run_pure]
/-- m[:hi] -/
theorem OQ.sliceHi {sz : Nat} [h : SlE P t sz] {a : Option Addr} {j c hi : Nat} (hx : ev L x = some (.slice a j c)) (hy : ev L y = some (.int k (hi : Int))) (hc : hi ≤ c) :
    OQ P m N D ⟨dst, .slice t x none (some y) none, t', pos, af, g⟩ L w (.slice a hi c) := fun b hb W _ => by
  have e1 := hb.eval hx; have e2 := hb.eval hy
  obtain ⟨e, inf, h1, h2, h3⟩ := h.out
  have h4 := run_sliceBound (P := P) (W := W) (code := .sliceAcap) (k := k) (rfl : Value.int k (hi : Int) = .int k (hi : Int)) hc
  have h5 : (if c = 0 then a else a.map (·.add (0 * sz))) = a := by
    split
    · rfl
    · cases a <;> simp [Addr.add]
  simp only [execOp, Option.map_some, Option.map_none, e1, e2]
  refine run_v ?_
  simp [Instr.sliceAt, Instr.slice, Instr.sliceBounds, underlying, program, sizeOf, typeInfo, Sem.run_bind, Sem.run, Result.andThen, h1, h2, h3, h4, Sem.run_pure]
  cases a <;> simp [Addr.add]

variable {Q : Exit → Act → World → Prop} {c : Code}
/-- a loop whose rounds may leave marks -/
theorem CD.loopD {α : Type} (Dd : α → List Deferred) (M : α → List (Nat × Value)) (I : α → World → Prop) (μ : α → Nat) (s0 : α) (hD : Dd s0 = D) (hs : Sub (M s0) L) (h0 : I s0 w)
    (round : ∀ s w, I s w → CD P F n N (Dd s) c (Exit.then (fun a w' => ∃ s', Kn N (Dd s') (M s') a ∧ I s' w' ∧ μ s' < μ s) Q) (M s) w) : CD P F n N D (.loop c) Q L w := fun a ha => by
  have hl : ∀ a w, (∃ s, Kn N (Dd s) (M s) a ∧ I s w) → ∃ j, (∃ s, Kn N (Dd s) (M s) a ∧ I s w ∧ μ s = j) ∧ ∀ i, (∃ s, Kn N (Dd s) (M s) a ∧ I s w ∧ μ s = i) → j ≤ i :=
    fun a w ⟨s, h1, h2⟩ => exists_least (fun j => ∃ s, Kn N (Dd s) (M s) a ∧ I s w ∧ μ s = j) (μ s) ⟨s, h1, h2, rfl⟩
  have hl' : ∀ a w, ∃ j, (∃ s, Kn N (Dd s) (M s) a ∧ I s w) → (∃ s, Kn N (Dd s) (M s) a ∧ I s w ∧ μ s = j) ∧ ∀ i, (∃ s, Kn N (Dd s) (M s) a ∧ I s w ∧ μ s = i) → j ≤ i := fun a w => by
    by_cases h : ∃ s, Kn N (Dd s) (M s) a ∧ I s w
    · obtain ⟨j, hj⟩ := hl a w h; exact ⟨j, fun _ => hj⟩
    · exact ⟨0, fun h' => absurd h' h⟩
  refine wpIn_loop (fun a w => ∃ s, Kn N (Dd s) (M s) a ∧ I s w) (fun a w => Classical.choose (hl' a w)) ⟨s0, by rw [hD]; exact ha.sub hs, h0⟩ fun a w hI => ?_
  obtain ⟨⟨s, hk, hi, hμ⟩, hleast⟩ := Classical.choose_spec (hl' a w) hI
  refine wpIn_mono (round s w hi a hk) fun e a' w' hq => ?_
  cases e with
  | normal =>
    obtain ⟨s', hk', hi', hlt⟩ := hq
    refine ⟨⟨s', hk', hi'⟩, ?_⟩
    have := (Classical.choose_spec (hl' a' w') ⟨s', hk', hi'⟩).2 _ ⟨s', hk', hi', rfl⟩
    omega
  | _ => exact hq
/-- a stretch of code that may leave marks -/
theorem CD.cutD {α : Type} {c1 c2 : Code} (Dd : α → List Deferred) (M : α → List (Nat × Value)) (C : α → World → Prop) (h : CD P F n N D c1 (Exit.then (fun a w' => ∃ s, Kn N (Dd s) (M s) a ∧ C s w') Q) L w) (h2 : ∀ s w', C s w' → CD P F n N (Dd s) c2 Q (M s) w') :
    CD P F n N D (.seq c1 c2) Q L w := fun a ha => wpIn_seq (wpIn_mono (h a ha) fun e a' w' hq => by
      cases e with
      | normal => obtain ⟨s, hk, hc⟩ := hq; exact h2 s w' hc a' hk
      | _ => exact hq)
end
end Go.Proofs.Ytdielcpjemkngaa
