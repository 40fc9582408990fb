/-
  What a row is told of its arguments: lists of numbers, lists of steps.
-/
import Derived.Test.YtdielcpjemkngaaOs
import Derived.Test.YtdielcpjemkngaaRows
import Derived.ProofKit
import Derived.OpenShut
import Derived.ShutString
import Derived.ChangeOld
import Derived.Below
import Derived.SizedLaws
import Derived.Deep.Slices
import Derived.Deep.Fields
import Derived.ChangeSame
namespace Go.Proofs.Ytdielcpjemkngaa
open Go.ChangeShapes Go.WideShapes Go.ChangeAt Go.RowKit Go.Deep
set_option linter.unusedVariables false

section
variable {H : Type} {enc : TypeId × Value → H} {P : Program} {w : World} {base : Nat} {spare : Nat → Bool} {held : Bool}
theorem open_slice_fields {t e : TypeId} {fs : Array Field} {fuel : Nat} {cs : List Value} {x : DataW H × List MemPlace} (ht : P.underlying t = some (.slice e)) (he : P.underlying e = some (.struct fs))
    (hone : oneCellFields P fs = true) (hC : P.cellsOf e = fs.size) (h : DataW.trod enc P w base spare held fuel t cs = some x) :
    (cs = [.slice none 0 0] ∧ x = (.nil, [])) ∨
    ∃ (a : Addr) (len cap m : Nat) (D : Nat → DataW H) (Pl : Nat → List MemPlace), cs = [.slice (some a) len cap] ∧ base ≤ a.block ∧ len ≤ cap ∧ cap ≤ maxLen ∧ m = (if spare a.block then cap else len) ∧
      x = (.slice ((List.range len).map D) ((List.range (m - len)).map fun j => D (len + j)), MemPlace.row a (m * fs.size) ++ (List.range m).flatMap Pl) ∧
      ∀ i, i < m → ∃ (ys : List (DataW H × List MemPlace)) (n : Nat), D i = .agg (ys.map (·.1)) ∧ Pl i = ys.flatMap (·.2) ∧ ys.length = fs.size ∧
        ∀ (j : Nat) (f : Field), fs[j]? = some f → ∃ (v : Value) (y : DataW H × List MemPlace), w.cell? (a.add (i * fs.size + j)) = some v ∧ ys[j]? = some y ∧ DataW.trod enc P w base spare held n f.type [v] = some y := by
  rcases open_slice ht h with h0 | ⟨a, len, cap, m, n, D, Pl, hcs, hb, hl, hm, hmm, hx, hi⟩
  · exact .inl h0
  · refine .inr ⟨a, len, cap, m, D, Pl, hcs, hb, hl, hm, hmm, by rw [hC] at hx; exact hx, fun i him => ?_⟩
    obtain ⟨cs', hc, ht'⟩ := hi i him
    rw [hC] at hc
    obtain ⟨ys, n', hn', hy, hlen, hyl, hf⟩ := DataW.trod_struct he ht'
    obtain ⟨_, hcl, hat⟩ := World.cells?_some hc
    simp only [Prod.mk.injEq] at hy
    refine ⟨ys, n', hy.1, hy.2, hyl, fun j f hj => ?_⟩
    obtain ⟨ho, hk⟩ := hone_of hone j f hj
    have hjl : j < fs.size := (Array.getElem?_eq_some_iff.1 hj).1
    have hcell := hat j hjl
    have hv : cs'[j]? = some (cs'[j]'(by omega)) := List.getElem?_eq_getElem (by omega)
    have h1 := hf j f hj
    rw [ho, hk] at h1
    have hone' : (cs'.drop j).take 1 = [cs'[j]'(by omega)] := by
      rw [List.drop_eq_getElem_cons (by omega)]
      rfl
    rw [hone'] at h1
    have hys : ys[j]? = some (ys[j]'(by omega)) := List.getElem?_eq_getElem (by omega)
    refine ⟨_, _, ?_, hys, h1.trans hys⟩
    rw [← Go.Deep.add_add, hcell, hv]
end

theorem wf_i64 {x : Int} (h : (Lit.int .i64 x).wf = true) : -9223372036854775808 ≤ x ∧ x ≤ 9223372036854775807 := by
  simpa [Lit.wf, IntKind.min, IntKind.max, IntKind.signed, IntKind.bits] using h
theorem bytes3 : Try.prog.bytesOf 3 = 8 := by kernel_rfl
theorem bytes54 : Try.prog.bytesOf 54 = 56 := by kernel_rfl

section
variable {H : Type} {enc : TypeId × Value → H} {w : World} {base : Nat}
theorem ints_arg {fuel : Nat} {a : Option Addr} {len cap : Nat} {d : DataW H} {p : List MemPlace} (h : DataW.trod enc Try.prog w base (fun _ => true) true fuel 22 [.slice a len cap] = some (d, p)) :
    ∃ z : List Int, z.length = len ∧ IntsAt w .i64 a z ∧ (∀ x ∈ z, -9223372036854775808 ≤ x ∧ x ≤ 9223372036854775807) ∧ (len = 0 ∨ ∃ es sp, d = .slice es sp ∧ len ≤ es.length + sp.length) := by
  rcases open_ints Try.underlying22 Try.underlying3 (by kernel_rfl) h with ⟨hcs, _⟩ | ⟨x, l, c, zs, hcs, _, hl, hm, hz, hx, hcell, hwz⟩
  · simp at hcs
    obtain ⟨rfl, rfl, rfl⟩ := hcs
    exact ⟨[], rfl, Cells.nil _ _, by simp, .inl rfl⟩
  · simp at hcs
    obtain ⟨rfl, rfl, rfl⟩ := hcs
    simp only [Prod.mk.injEq] at hx
    obtain ⟨rfl, rfl⟩ := hx
    simp only [if_true] at hz
    refine ⟨zs.take len, by simp; omega, ?_, fun y hy => wf_i64 (hwz y (List.mem_of_mem_take hy)), .inr ⟨_, _, rfl, by simp [lits]; omega⟩⟩
    intro i u hu
    rw [List.getElem?_map] at hu
    have hi : i < len := by
      have := List.getElem?_eq_some_iff.1 (Option.map_eq_some_iff.1 hu).choose_spec.1
      have := this.1; simp at this; omega
    obtain ⟨b, o, spot⟩ := x
    have hc := hcell i (by omega)
    have hspot : spot = none := by simpa [Addr.add] using World.cell?_spot (hcell 0 (by omega))
    subst hspot
    refine ⟨b, o, rfl, ?_⟩
    rw [Addr.add_z] at hc
    rw [Nat.mul_one, hc, ← hu]
    have hi' : i < zs.length := by omega
    simp [hi, hi']

theorem ops_arg {fuel : Nat} {a : Option Addr} {len cap : Nat} {d : DataW H} {p : List MemPlace} (h : DataW.trod enc Try.prog w base (fun _ => true) true fuel 49 [.slice a len cap] = some (d, p)) :
    ∃ ops : List Op6, ops.length = len ∧ OpsAt w a ops ∧ (∀ o ∈ ops, OpOk o) ∧ (len = 0 ∨ ∃ es sp, d = .slice es sp ∧ len ≤ es.length + sp.length) := by
  rcases open_slice_fields Try.underlying49 Try.underlying54 (by kernel_rfl) (by kernel_rfl) h with ⟨hcs, _⟩ | ⟨x, l, c, m, D, Pl, hcs, _, hl, hm, hmm, hx, hf⟩
  · simp at hcs
    obtain ⟨rfl, rfl, rfl⟩ := hcs
    exact ⟨[], rfl, fun j hj => by simp at hj, by simp, .inl rfl⟩
  · simp at hcs
    obtain ⟨rfl, rfl, rfl⟩ := hcs
    simp only [Prod.mk.injEq] at hx
    obtain ⟨rfl, rfl⟩ := hx
    simp only [if_true] at hmm
    have hi : ∀ i, i < len → ∃ (b o : Nat) (op : Op6), x = ⟨b, o, none⟩ ∧ CellsAt w b (o + i * 6) (opC op) ∧ OpOk op := fun i hi => by
      obtain ⟨ys, n, _, _, _, hfj⟩ := hf i (by omega)
      obtain ⟨v0, y0, c0, _, t0⟩ := hfj 0 _ rfl
      obtain ⟨v1, y1, c1, _, t1⟩ := hfj 1 _ rfl
      obtain ⟨v2, y2, c2, _, t2⟩ := hfj 2 _ rfl
      obtain ⟨v3, y3, c3, _, t3⟩ := hfj 3 _ rfl
      obtain ⟨v4, y4, c4, _, t4⟩ := hfj 4 _ rfl
      obtain ⟨v5, y5, c5, _, t5⟩ := hfj 5 _ rfl
      obtain ⟨n0, e0, _, f0⟩ := DataW.trod_int Try.underlying3 t0
      obtain ⟨n1, e1, _, f1⟩ := DataW.trod_int Try.underlying3 t1
      obtain ⟨n2, e2, _, f2⟩ := DataW.trod_int Try.underlying3 t2
      obtain ⟨n3, e3, _, f3⟩ := DataW.trod_int Try.underlying3 t3
      obtain ⟨n4, e4, _, f4⟩ := DataW.trod_int Try.underlying3 t4
      obtain ⟨s5, e5, _, f5⟩ := DataW.trod_string Try.underlying9 t5
      simp only [List.cons.injEq, and_true] at e0 e1 e2 e3 e4 e5
      subst e0 e1 e2 e3 e4 e5
      obtain ⟨b, o, spot⟩ := x
      obtain ⟨_, _, _, _, _, g0⟩ := hf 0 (by omega)
      obtain ⟨_, _, g00, _, _⟩ := g0 0 _ rfl
      have hspot : spot = none := by have := World.cell?_spot g00; simpa [Addr.add] using this
      subst hspot
      simp only [Addr.add_z] at c0 c1 c2 c3 c4 c5
      refine ⟨b, o, ⟨n0, n1, n2, n3, n4, s5⟩, rfl, ?_, wf_i64 f1, wf_i64 f2, wf_i64 f3, wf_i64 f4⟩
      intro j u hu
      match j, hu with
      | 0, hu => simp only [opC, List.getElem?_cons_zero, Option.some.injEq] at hu; subst hu; rw [Nat.add_assoc]; exact c0
      | 1, hu => simp [opC] at hu; subst hu; rw [Nat.add_assoc]; exact c1
      | 2, hu => simp [opC] at hu; subst hu; rw [Nat.add_assoc]; exact c2
      | 3, hu => simp [opC] at hu; subst hu; rw [Nat.add_assoc]; exact c3
      | 4, hu => simp [opC] at hu; subst hu; rw [Nat.add_assoc]; exact c4
      | 5, hu => simp [opC] at hu; subst hu; rw [Nat.add_assoc]; exact c5
      | k + 6, hu => simp [opC] at hu
    have H : ∀ i, ∃ op : Op6, i < len → ∃ b o, x = ⟨b, o, none⟩ ∧ CellsAt w b (o + i * 6) (opC op) ∧ OpOk op := fun i => by
      by_cases c : i < len
      · obtain ⟨b, o, op, hh⟩ := hi i c; exact ⟨op, fun _ => ⟨b, o, hh⟩⟩
      · exact ⟨⟨0, 0, 0, 0, 0, ByteArray.empty⟩, fun c' => absurd c' c⟩
    refine ⟨(List.range len).map fun i => (H i).choose, by simp, fun j hj => ?_, fun o ho => ?_, .inr ⟨_, _, rfl, by simp⟩⟩
    · simp only [List.length_map, List.length_range] at hj
      obtain ⟨b, o, e, hc, _⟩ := (H j).choose_spec hj
      refine ⟨b, o, by rw [e], ?_⟩
      simpa using hc
    · obtain ⟨i, hi', rfl⟩ := List.mem_map.1 ho
      obtain ⟨_, _, _, _, hk⟩ := (H i).choose_spec (by simpa using hi')
      exact hk
end
end Go.Proofs.Ytdielcpjemkngaa
