/-
  Framework, part 10: what stays while blocks of one type are turned; owned slices of elements of several cells. Generic.
-/
import Derived.Test.YtdielcpjemkngaaFx9
namespace Go.Proofs.Ytdielcpjemkngaa
open Go.RowKit
set_option linter.unusedVariables false

/-- every block of cells of another type lies as it lay -/
structure KT (e : TypeId) (w w' : World) : Prop where
  out : ∀ (k : Nat) (c : Array Value) (t : TypeId) (f : Nat × Nat), t ≠ e → w.heap[k]? = some (.cells c t f) → w'.heap[k]? = some (.cells c t f)
theorem KT.refl (e : TypeId) (w : World) : KT e w w := ⟨fun _ _ _ _ _ h => h⟩
theorem KT.trans {e : TypeId} {a b c : World} (h : KT e a b) (k : KT e b c) : KT e a c := ⟨fun i cs t f ht hi => k.out i cs t f ht (h.out i cs t f ht hi)⟩
theorem CExt.kt {e : TypeId} {w w' : World} (h : CExt w w') : KT e w w' := ⟨fun k c t f _ hk => h.cells k c t f hk⟩
theorem Ext.kt {e : TypeId} {w w' : World} (h : Ext w w') : KT e w w' := h.cext.kt
theorem Wr.kt {w w' : World} {b : Nat} {o : Obj} {c : Array Value} {e : TypeId} {f : Nat × Nat} (h : Wr w w' b o) (hb : w.heap[b]? = some (.cells c e f)) : KT e w w' := ⟨fun k c2 t f2 ht hk => by
  have hne : k ≠ b := fun e' => by subst e'; rw [hb] at hk; simp only [Option.some.injEq, Obj.cells.injEq] at hk; exact ht hk.2.1.symm
  exact h.ne hk hne⟩
theorem grown_kt {w w' : World} {B : Nat} {e : TypeId} {sz n : Nat} {v : Value} {xs : List Value} (h : Own w B e sz v n xs) (hg : w.grownBy w' v.ownBlock) : KT e w w' := ⟨fun k c t f ht hk => grown_heap hg hk (own_ne h hk ht)⟩
theorem Own.kt {w w' : World} {e : TypeId} (h : KT e w w') {B : Nat} {e' : TypeId} {sz n : Nat} {v : Value} {xs : List Value} (ho : Own w B e' sz v n xs) (hne : e' ≠ e) : Own w' B e' sz v n xs := by
  refine ⟨ho.1, ?_⟩
  rcases ho.2 with hn | ⟨g, cap, cur, rfl, hb, hgg, rest⟩
  · exact .inl hn
  · exact .inr ⟨g, cap, cur, rfl, hb, h.out _ _ _ _ hne hgg, rest⟩
theorem Own.base {w : World} {B B' : Nat} {e : TypeId} {sz n : Nat} {v : Value} {xs : List Value} (ho : Own w B e sz v n xs) (hB : B' ≤ B) : Own w B' e sz v n xs := by
  refine ⟨ho.1, ?_⟩
  rcases ho.2 with hn | ⟨g, cap, cur, rfl, hb, hgg, rest⟩
  · exact .inl hn
  · exact .inr ⟨g, cap, cur, rfl, by omega, hgg, rest⟩

theorem flatMap_at {α : Type} {sz : Nat} (f : α → List Value) (hf : ∀ x, (f x).length = sz) : ∀ (l : List α) (j : Nat) (hj : j < l.length) (i : Nat), i < sz → (l.flatMap f)[j * sz + i]? = (f l[j])[i]?
  | x :: r, 0, _, i, hi => by simp only [List.flatMap_cons, Nat.zero_mul, Nat.zero_add, List.getElem_cons_zero]; rw [List.getElem?_append_left (by rw [hf]; exact hi)]
  | x :: r, j + 1, hj, i, hi => by
    have ih := flatMap_at f hf r j (by simpa using hj) i hi
    simp only [List.flatMap_cons, List.getElem_cons_succ]
    rw [List.getElem?_append_right (by rw [hf, Nat.add_mul]; omega), ← ih, hf]
    congr 1
    rw [Nat.add_mul]; omega
theorem length_flatMap {α : Type} {sz : Nat} (f : α → List Value) (hf : ∀ x, (f x).length = sz) (l : List α) : (l.flatMap f).length = l.length * sz := by
  induction l with
  | nil => simp
  | cons x r ih => simp only [List.flatMap_cons, List.length_append, ih, hf, List.length_cons, Nat.add_mul]; omega
theorem Own.atN {α : Type} {w : World} {B : Nat} {e : TypeId} {sz n c : Nat} {a : Option Addr} {f : α → List Value} {l : List α} (h : Own w B e sz (.slice a n c) n (l.flatMap f)) (hf : ∀ x, (f x).length = sz) (hn : l.length = n) (j : Nat) (hj : j < l.length) :
    ∃ g, a = some ⟨g, 0, none⟩ ∧ CellsAt w g (0 + j * sz) (f l[j]) := by
  rcases h.form with ⟨he, h0⟩ | ⟨g, cap, he, _, _⟩
  · omega
  · simp only [Value.slice.injEq, true_and] at he
    obtain ⟨rfl, rfl⟩ := he
    refine ⟨g, rfl, fun i u hu => ?_⟩
    have hi : i < sz := by have := (List.getElem?_eq_some_iff.1 hu).1; rw [hf] at this; exact this
    have hlt : j * sz + i < n * sz := by
      have := Nat.mul_le_mul_right sz (show j + 1 ≤ n by omega)
      rw [Nat.add_mul] at this; omega
    rw [Nat.zero_add, h.cell hlt, flatMap_at f hf l j hj i hi]
    exact hu
/-- elements of several cells -/
def Elems {α : Type} (w : World) (a : Option Addr) (sz : Nat) (f : α → List Value) (l : List α) : Prop := ∀ (j : Nat) (hj : j < l.length), ∃ b o, a = some ⟨b, o, none⟩ ∧ CellsAt w b (o + j * sz) (f l[j])
theorem Elems.ext {α : Type} {w w' : World} {a : Option Addr} {sz : Nat} {f : α → List Value} {l : List α} (h : Elems w a sz f l) (hx : Ext w w') : Elems w' a sz f l := fun j hj => let ⟨b, o, e, c⟩ := h j hj; ⟨b, o, e, c.ext hx⟩
theorem CellsAt.at {w : World} {b o : Nat} {cs : List Value} (h : CellsAt w b o cs) (j : Nat) {u : Value} (hj : cs[j]? = some u) : w.cell? ⟨b, o + j, none⟩ = some u := h j u hj
end Go.Proofs.Ytdielcpjemkngaa
