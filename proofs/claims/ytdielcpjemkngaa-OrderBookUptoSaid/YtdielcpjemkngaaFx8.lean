/-
  Framework, part 8: slices that are read. Generic.
-/
import Derived.Test.YtdielcpjemkngaaFx7
namespace Go.Proofs.Ytdielcpjemkngaa
open Go.RowKit
set_option linter.unusedVariables false

/-- a value told in other words -/
theorem OQ.cast {P : Program} {m : Md} {N : Nat} {D : List Deferred} {o : Oper} {L : List (Nat × Value)} {w : World} {v v' : Value} (hq : OQ P m N D o L w v) (h : v = v') : OQ P m N D o L w v' := h ▸ hq
theorem OQ.yes {P : Program} {m : Md} {N : Nat} {D : List Deferred} {o : Oper} {L : List (Nat × Value)} {w : World} {b : Bool} (hq : OQ P m N D o L w (.bool b)) (h : b = true) : OQ P m N D o L w (.bool true) := h ▸ hq
theorem OQ.no {P : Program} {m : Md} {N : Nat} {D : List Deferred} {o : Oper} {L : List (Nat × Value)} {w : World} {b : Bool} (hq : OQ P m N D o L w (.bool b)) (h : b = false) : OQ P m N D o L w (.bool false) := h ▸ hq

/-- the cells behind a slice's address: elements of one cell -/
def Cells (w : World) (a : Option Addr) (cs : List Value) : Prop := ∀ i u, cs[i]? = some u → ∃ b o, a = some ⟨b, o, none⟩ ∧ w.cell? ⟨b, o + i * 1, none⟩ = some u
theorem Cells.nil (w : World) (a : Option Addr) : Cells w a [] := fun i u h => by simp at h
theorem Cells.ext {w w' : World} {a : Option Addr} {cs : List Value} (h : Cells w a cs) (hx : Ext w w') : Cells w' a cs := fun i u hu => let ⟨b, o, e, c⟩ := h i u hu; ⟨b, o, e, hx.cell c⟩
theorem Cells.cext {w w' : World} {a : Option Addr} {cs : List Value} (h : Cells w a cs) (hx : CExt w w') : Cells w' a cs := fun i u hu => let ⟨b, o, e, c⟩ := h i u hu; ⟨b, o, e, hx.cell c⟩
/-- whole numbers -/
abbrev IntsAt (w : World) (k : IntKind) (a : Option Addr) (z : List Int) : Prop := Cells w a (z.map fun x => .int k x)
theorem IntsAt.at {w : World} {k : IntKind} {a : Option Addr} {z : List Int} (h : IntsAt w k a z) (i : Nat) (hi : i < z.length) : ∃ b o, a = some ⟨b, o, none⟩ ∧ w.cell? ⟨b, o + i * 1, none⟩ = some (.int k z[i]) :=
  h i _ (by simp [hi])
/-- an owned slice, as one that is read -/
theorem Own.slc {w : World} {B : Nat} {e : TypeId} {k : Nat} {v : Value} {xs : List Value} (h : Own w B e 1 v k xs) : ∃ a c, v = .slice a k c ∧ Cells w a xs ∧ xs.length = k := by
  have hl : xs.length = k := by have := h.1; omega
  rcases h.form with ⟨rfl, rfl⟩ | ⟨b, c, rfl, h1, h2⟩
  · exact ⟨none, 0, rfl, by cases xs with | nil => exact Cells.nil _ _ | cons _ _ => simp at hl, hl⟩
  · refine ⟨_, c, rfl, fun i u hu => ⟨b, 0, rfl, ?_⟩, hl⟩
    have hi : i < xs.length := (List.getElem?_eq_some_iff.1 hu).1
    rw [Nat.zero_add, h.cell (by omega), Nat.mul_one]; exact hu
end Go.Proofs.Ytdielcpjemkngaa
