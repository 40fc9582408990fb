import Derived.Test.YtiebkbmnepgacaaGreatDoorRk
/-
  What a row is told of its fields: their texts' sizes too.
-/
namespace Go.Proofs.YtiebkbmnepgacaaGreatDoor
open Go.ChangeShapes Go.WideShapes Go.ChangeAt Go.RowKit Go.Deep
set_option linter.unusedVariables false
set_option maxRecDepth 100000

theorem weightsAll_mem {H : Type} {P : Program} {e : TypeId} {d : DataW H} : ∀ {l : List (DataW H)}, d ∈ l → ∀ {n : Nat}, n ∈ d.weights P e → n ∈ DataW.weightsAll P e l
  | x :: r, h, n, hn => by
    simp only [DataW.weightsAll, List.mem_append]
    rcases List.mem_cons.1 h with rfl | h
    · exact .inl hn
    · exact .inr (weightsAll_mem h hn)
theorem weights_slice {H : Type} {P : Program} {t e : TypeId} {d : DataW H} {elems spare : List (DataW H)} {n : Nat} (hu : P.underlying t = some (.slice e)) (hd : d ∈ elems) (hn : n ∈ d.weights P e) : n ∈ DataW.weights P t (.slice elems spare) := by
  have : DataW.weights P t (.slice elems spare : DataW H) = (elems.length + spare.length) * P.bytesOf e :: (DataW.weightsAll P e elems ++ DataW.weightsAll P e spare) := by
    rw [DataW.weights, hu]
  rw [this]
  exact List.mem_cons_of_mem _ (List.mem_append_left _ (weightsAll_mem hd hn))
theorem weights_struct {H : Type} {P : Program} {t : TypeId} {fs : Array Field} {parts : List (DataW H)} (hu : P.underlying t = some (.struct fs)) : DataW.weights P t (.agg parts) = DataW.weightsEach P (fs.toList.map (·.type)) parts := by
  rw [DataW.weights, hu]
theorem weights_str {H : Type} {P : Program} {t : TypeId} {s : ByteArray} : s.size ∈ DataW.weights P t (.lit (.string s.data.toList) : DataW H) := by
  rw [DataW.weights]; exact List.mem_singleton.2 rfl
def fieldTys : List TypeId := [3, 9, 9, 3, 3, 9, 3, 3]
theorem bytes26 : Tryz.prog.bytesOf 26 = 88 := by kernel_rfl
section
variable {H : Type} {enc : TypeId × Value → H} {w : World} {base : Nat}
theorem fds_arg2 {fuel : Nat} {a : Option Addr} {len cap : Nat} {d : DataW H} {p : List MemPlace} (h : DataW.trod enc Tryz.prog w base (fun _ => true) true fuel 22 [.slice a len cap] = some (d, p)) :
    ∃ l : List Fd, l.length = len ∧ FdsAt w a l ∧ (∀ f ∈ l, f.name.size ∈ d.weights Tryz.prog 22 ∧ f.of'.size ∈ d.weights Tryz.prog 22) ∧ (len = 0 ∨ ∃ es sp, d = .slice es sp ∧ len ≤ es.length + sp.length) := by
  rcases open_slice_fields Tryz.underlying22 Tryz.underlying26 (by kernel_rfl) (by kernel_rfl) h with ⟨hcs, _⟩ | ⟨x, l, c, m, D, Pl, hcs, _, hl, hm, hmm, hx, hf⟩
  · simp at hcs
    obtain ⟨rfl, rfl, rfl⟩ := hcs
    exact ⟨[], rfl, fun j hj => by simp at hj, by simp, .inl rfl⟩
  · simp at hcs
    obtain ⟨rfl, rfl, rfl⟩ := hcs
    simp only [Prod.mk.injEq] at hx
    obtain ⟨rfl, rfl⟩ := hx
    simp only [if_true] at hmm
    have hi : ∀ i, i < len → ∃ (b o : Nat) (f : Fd), x = ⟨b, o, none⟩ ∧ CellsAt w b (o + i * 8) (fdC f) ∧ f.name.size ∈ (D i).weights Tryz.prog 26 ∧ f.of'.size ∈ (D i).weights Tryz.prog 26 := fun i hi => by
      obtain ⟨ys, n, hD, _, _, hfj⟩ := hf i (by omega)
      obtain ⟨v0, y0, c0, _, t0⟩ := hfj 0 _ rfl
      obtain ⟨v1, y1, c1, s1, t1⟩ := hfj 1 _ rfl
      obtain ⟨v2, y2, c2, _, t2⟩ := hfj 2 _ rfl
      obtain ⟨v3, y3, c3, _, t3⟩ := hfj 3 _ rfl
      obtain ⟨v4, y4, c4, _, t4⟩ := hfj 4 _ rfl
      obtain ⟨v5, y5, c5, s5, t5⟩ := hfj 5 _ rfl
      obtain ⟨v6, y6, c6, _, t6⟩ := hfj 6 _ rfl
      obtain ⟨v7, y7, c7, _, t7⟩ := hfj 7 _ rfl
      obtain ⟨n0, e0, _, f0⟩ := DataW.trod_int Tryz.underlying3 t0
      obtain ⟨n1, e1, x1, f1⟩ := DataW.trod_string Tryz.underlying9 t1
      obtain ⟨n2, e2, _, f2⟩ := DataW.trod_string Tryz.underlying9 t2
      obtain ⟨n3, e3, _, f3⟩ := DataW.trod_int Tryz.underlying3 t3
      obtain ⟨n4, e4, _, f4⟩ := DataW.trod_int Tryz.underlying3 t4
      obtain ⟨n5, e5, x5, f5⟩ := DataW.trod_string Tryz.underlying9 t5
      obtain ⟨n6, e6, _, f6⟩ := DataW.trod_int Tryz.underlying3 t6
      obtain ⟨n7, e7, _, f7⟩ := DataW.trod_int Tryz.underlying3 t7
      simp only [List.cons.injEq, and_true] at e0 e1 e2 e3 e4 e5 e6 e7
      subst e0 e1 e2 e3 e4 e5 e6 e7
      obtain ⟨b, o, spot⟩ := x
      obtain ⟨_, _, _, _, _, g0⟩ := hf 0 (by omega)
      obtain ⟨_, _, g00, _, _⟩ := g0 0 _ rfl
      have hspot : spot = none := by have := World.cell?_spot g00; simpa [Addr.add] using this
      subst hspot
      simp only [Addr.add_z] at c0 c1 c2 c3 c4 c5 c6 c7
      have wt : ∀ (j : Nat) (s : ByteArray) (y : DataW H × List MemPlace), ys[j]? = some y → y = (.lit (.string s.data.toList), []) → (fieldTys[j]? = some 9) → s.size ∈ (D i).weights Tryz.prog 26 := fun j s y h1 h2 h3 => by
        have : (D i).weights Tryz.prog 26 = DataW.weightsEach Tryz.prog fieldTys (ys.map (·.1)) := by
          rw [hD, weights_struct Tryz.underlying26]; rfl
        rw [this]
        exact DataW.weights_mem_each (j := j) (t := 9) (d := .lit (.string s.data.toList)) h3 (by rw [List.getElem?_map, h1, h2]; rfl) _ weights_str
      refine ⟨b, o, ⟨n0, n1, n2, n3, n4, n5, n6, n7⟩, rfl, ?_, wt 1 n1 y1 s1 x1 rfl, wt 5 n5 y5 s5 x5 rfl⟩
      intro j u hu
      match j, hu with
      | 0, hu => simp only [fdC, List.getElem?_cons_zero, Option.some.injEq] at hu; subst hu; rw [Nat.add_assoc]; exact c0
      | 1, hu => simp [fdC] at hu; subst hu; rw [Nat.add_assoc]; exact c1
      | 2, hu => simp [fdC] at hu; subst hu; rw [Nat.add_assoc]; exact c2
      | 3, hu => simp [fdC] at hu; subst hu; rw [Nat.add_assoc]; exact c3
      | 4, hu => simp [fdC] at hu; subst hu; rw [Nat.add_assoc]; exact c4
      | 5, hu => simp [fdC] at hu; subst hu; rw [Nat.add_assoc]; exact c5
      | 6, hu => simp [fdC] at hu; subst hu; rw [Nat.add_assoc]; exact c6
      | 7, hu => simp [fdC] at hu; subst hu; rw [Nat.add_assoc]; exact c7
      | k + 8, hu => simp [fdC] at hu
    have H : ∀ i, ∃ f : Fd, i < len → ∃ b o, x = ⟨b, o, none⟩ ∧ CellsAt w b (o + i * 8) (fdC f) ∧ f.name.size ∈ (D i).weights Tryz.prog 26 ∧ f.of'.size ∈ (D i).weights Tryz.prog 26 := fun i => by
      by_cases c : i < len
      · obtain ⟨b, o, op, hh⟩ := hi i c; exact ⟨op, fun _ => ⟨b, o, hh⟩⟩
      · exact ⟨fd0 0 0, fun c' => absurd c' c⟩
    refine ⟨(List.range len).map fun i => (H i).choose, by simp, fun j hj => ?_, fun f hf' => ?_, .inr ⟨_, _, rfl, by simp⟩⟩
    · simp only [List.length_map, List.length_range] at hj
      obtain ⟨b, o, e, hc, _⟩ := (H j).choose_spec hj
      refine ⟨b, o, by rw [e], ?_⟩
      simpa using hc
    · obtain ⟨i, hi', rfl⟩ := List.mem_map.1 hf'
      have hil : i < len := by simpa using hi'
      obtain ⟨_, _, _, _, k1, k2⟩ := (H i).choose_spec hil
      have up : ∀ n, n ∈ (D i).weights Tryz.prog 26 → n ∈ DataW.weights Tryz.prog 22 (.slice ((List.range len).map D) ((List.range (m - len)).map fun j => D (len + j))) := fun n hn => weights_slice Tryz.underlying22 (List.mem_map.2 ⟨i, hi', rfl⟩) hn
      exact ⟨up _ k1, up _ k2⟩
end
end Go.Proofs.YtiebkbmnepgacaaGreatDoor
