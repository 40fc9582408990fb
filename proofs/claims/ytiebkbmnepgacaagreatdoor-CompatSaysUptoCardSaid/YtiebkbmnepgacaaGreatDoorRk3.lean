import Derived.Test.YtiebkbmnepgacaaGreatDoorWy4
import Derived.Test.YtiebkbmnepgacaaGreatDoorBulk
/-
  What a row is told of its breaks.
-/
namespace Go.Proofs.YtiebkbmnepgacaaGreatDoor
open Go.ChangeShapes Go.WideShapes Go.ChangeAt Go.RowKit Go.Deep
set_option linter.unusedVariables false
set_option maxRecDepth 100000

theorem tab_of {W : World} (h : laidMetH Tryz.prog Rows.compatStepsRow.laid W) : TabOk W := by
  rw [MakeChecks.laidMetH_plain _ _ _ (by kernel_rfl)] at h
  have h0 : laidMet Tryz.prog Rows.compatStepsRow.laid W := h
  unfold Rows.compatStepsRow at h0
  have h15 := h0.tail.tail.tail.tail.tail.tail.tail.tail.tail.tail.tail.tail.tail.tail.tail
  exact Lib.tabIs_of_head (g := 13) (t := 412) (e := 302) (n := 20) (by kernel_rfl) (by kernel_rfl) (by kernel_rfl) (by kernel_rfl) (by kernel_rfl) (by kernel_rfl) h15

section
variable {H : Type} {enc : TypeId × Value → H} {w : World} {base : Nat}
theorem path_arg {fuel : Nat} {v : Value} {x : DataW H × List MemPlace} (h : DataW.trod enc Tryz.prog w base (fun _ => true) true fuel 29 [v] = some x) :
    ∃ (z : List Int) (pa : Option Addr) (pc : Nat), v = .slice pa z.length pc ∧ Cells w pa (ints z) ∧ Okn z ∧ z.length ≤ Rows.uptoBulk x.1 := by
  rcases open_ints Tryz.underlying29 Tryz.underlying3 (by kernel_rfl) h with ⟨hcs, hx⟩ | ⟨a, l, c, zs, hcs, _, hl, hm, hz, hx, hcell, hwz⟩
  · simp only [List.cons.injEq, and_true] at hcs
    subst hcs
    exact ⟨[], none, 0, rfl, Cells.nil _ _, fun y hy => (by cases hy), Nat.zero_le _⟩
  · simp only [List.cons.injEq, and_true] at hcs
    subst hcs
    simp only [if_true] at hz
    have hzl : (zs.take l).length = l := by simp; omega
    refine ⟨zs.take l, some a, c, by rw [hzl], ?_, fun y hy => wf_i64 (hwz y (List.mem_of_mem_take hy)), ?_⟩
    · intro i u hu
      simp only [ints, List.getElem?_map] at hu
      have hi : i < l := by
        have := List.getElem?_eq_some_iff.1 (Option.map_eq_some_iff.1 hu).choose_spec.1
        have := this.1; simp at this; omega
      obtain ⟨b, o, spot⟩ := a
      have hc := hcell i (by omega)
      have hspot : spot = none := by simpa [Addr.add] using World.cell?_spot (hcell 0 (by omega))
      subst hspot
      refine ⟨b, o, rfl, ?_⟩
      rw [Addr.add_z] at hc
      rw [Nat.mul_one, hc, ← hu]
      have hi' : i < zs.length := by omega
      simp [hi, hi']
    · rw [hx]
      show (zs.take l).length ≤ Rows.uptoBulk (.slice (lits .i64 (zs.take l)) (lits .i64 (zs.drop l)) : DataW H)
      have := bulks.slice_le (H := H) (lits .i64 (zs.take l)) (lits .i64 (zs.drop l))
      rw [hzl]
      have h2 : (lits (H := H) .i64 (zs.take l)).length = l := by simp [lits]; omega
      omega
theorem bks_arg {fuel : Nat} {a : Option Addr} {len cap : Nat} {d : DataW H} {p : List MemPlace} (h : DataW.trod enc Tryz.prog w base (fun _ => true) true fuel 28 [.slice a len cap] = some (d, p)) (hb : Rows.uptoBulk d ≤ 1048576) :
    ∃ l : List Bk, l.length = len ∧ BksAt w a l ∧ (∀ b ∈ l, BkOk w b) ∧ len ≤ 1048576 := by
  rcases open_slice_fields Tryz.underlying28 Tryz.underlying31 (by kernel_rfl) (by kernel_rfl) h with ⟨hcs, _⟩ | ⟨x, l, c, m, D, Pl, hcs, _, hl, hm, hmm, hx, hf⟩
  · simp at hcs
    obtain ⟨rfl, rfl, rfl⟩ := hcs
    exact ⟨[], rfl, fun j hj => by simp at hj, by simp, Nat.zero_le _⟩
  · simp at hcs
    obtain ⟨rfl, rfl, rfl⟩ := hcs
    simp only [Prod.mk.injEq] at hx
    obtain ⟨rfl, rfl⟩ := hx
    simp only [if_true] at hmm
    have hle := bulks.slice_le (H := H) ((List.range len).map D) ((List.range (m - len)).map fun j => D (len + j))
    have hel := bulks.slice_elems (H := H) ((List.range len).map D) ((List.range (m - len)).map fun j => D (len + j))
    have hi : ∀ i, i < len → ∃ (b o : Nat) (k : Bk), x = ⟨b, o, none⟩ ∧ CellsAt w b (o + i * 4) (bkC k) ∧ BkOk w k := fun i hi => by
      obtain ⟨ys, n, hD, _, _, hfj⟩ := hf i (by omega)
      have hDi : Rows.uptoBulk (D i) ≤ 1048576 := by
        have := bulks.part_le (List.mem_map.2 ⟨i, List.mem_range.2 hi, rfl⟩ : D i ∈ (List.range len).map D)
        omega
      have part : ∀ (j : Nat) (y : DataW H × List MemPlace), ys[j]? = some y → Rows.uptoBulk y.1 + 1 ≤ 1048576 := fun j y hy => by
        have h1 : y.1 ∈ ys.map (·.1) := List.mem_map.2 ⟨y, List.mem_of_getElem? hy, rfl⟩
        have h2 := bulks.part_le h1
        rw [hD] at hDi
        simp only [Rows.uptoBulk] at hDi
        omega
      obtain ⟨v0, y0, c0, s0, t0⟩ := hfj 0 _ rfl
      obtain ⟨v1, y1, c1, s1, t1⟩ := hfj 1 _ rfl
      obtain ⟨v2, y2, c2, s2, t2⟩ := hfj 2 _ rfl
      obtain ⟨v3, y3, c3, s3, t3⟩ := hfj 3 _ rfl
      obtain ⟨n0, e0, _, f0⟩ := DataW.trod_int Tryz.underlying3 t0
      obtain ⟨z, pa, pc, e1, cz, oz, lz⟩ := path_arg t1
      obtain ⟨n2, e2, x2, f2⟩ := DataW.trod_string Tryz.underlying9 t2
      obtain ⟨n3, e3, x3, f3⟩ := DataW.trod_string Tryz.underlying9 t3
      simp only [List.cons.injEq, and_true] at e0 e2 e3
      subst e0 e1 e2 e3
      have b1 := part 1 y1 s1
      have b2 := part 2 y2 s2
      have b3 := part 3 y3 s3
      rw [x2] at b2
      rw [x3] at b3
      simp only [bulks.string_eq] at b2 b3
      have z2 : n2.size = n2.data.toList.length := Array.length_toList.symm
      have z3 : n3.size = n3.data.toList.length := Array.length_toList.symm
      obtain ⟨b, o, spot⟩ := x
      obtain ⟨_, _, _, _, _, g0⟩ := hf 0 (by omega)
      obtain ⟨_, _, g00, _, _⟩ := g0 0 _ rfl
      have hspot : spot = none := by have := World.cell?_spot g00; simpa [Addr.add] using this
      subst hspot
      simp only [Addr.add_z] at c0 c1 c2 c3
      refine ⟨b, o, ⟨n0, z, pa, pc, n2, n3⟩, rfl, ?_, cz, oz, by show z.length ≤ _; omega, by show n2.size ≤ _; omega, by show n3.size ≤ _; omega⟩
      intro j u hu
      match j, hu with
      | 0, hu => simp only [bkC, List.getElem?_cons_zero, Option.some.injEq] at hu; subst hu; rw [Nat.add_assoc]; exact c0
      | 1, hu => simp [bkC] at hu; subst hu; rw [Nat.add_assoc]; exact c1
      | 2, hu => simp [bkC] at hu; subst hu; rw [Nat.add_assoc]; exact c2
      | 3, hu => simp [bkC] at hu; subst hu; rw [Nat.add_assoc]; exact c3
      | k + 4, hu => simp [bkC] at hu
    have H : ∀ i, ∃ k : Bk, i < len → (∃ b o, x = ⟨b, o, none⟩ ∧ CellsAt w b (o + i * 4) (bkC k)) ∧ BkOk w k := fun i => by
      by_cases c : i < len
      · obtain ⟨b, o, k, h1, h2, h3⟩ := hi i c; exact ⟨k, fun _ => ⟨⟨b, o, h1, h2⟩, h3⟩⟩
      · exact ⟨⟨0, [], none, 0, .empty, .empty⟩, fun c' => absurd c' c⟩
    refine ⟨(List.range len).map fun i => (H i).choose, by simp, fun j hj => ?_, fun k hk => ?_, ?_⟩
    · simp only [List.length_map, List.length_range] at hj
      obtain ⟨⟨b, o, e, hc⟩, _⟩ := (H j).choose_spec hj
      refine ⟨b, o, by rw [e], ?_⟩
      simpa using hc
    · obtain ⟨i, hi', rfl⟩ := List.mem_map.1 hk
      exact ((H i).choose_spec (by simpa using hi')).2
    · simp only [List.length_map, List.length_range] at hle
      omega
end
end Go.Proofs.YtiebkbmnepgacaaGreatDoor
