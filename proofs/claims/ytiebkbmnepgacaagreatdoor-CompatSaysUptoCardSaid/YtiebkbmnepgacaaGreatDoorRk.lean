import Derived.Test.YtiebkbmnepgacaaGreatDoorWs4
import Derived.Test.YtiebkbmnepgacaaGreatDoorRows
import Derived.ProofKit
import Derived.OpenShut
import Derived.ShutString
import Derived.ChangeOld
import Derived.Below
import Derived.SizedLaws
import Derived.Deep.Slices
import Derived.Deep.Fields
import Derived.ChangeSame
import Derived.LaidLaws
import Derived.MakeChecks
import Derived.Stop.LaidErr
/-
  What a row is told: the listed variables, the fields of the argument.
-/
namespace Go.Proofs.YtiebkbmnepgacaaGreatDoor
open Go.ChangeShapes Go.WideShapes Go.ChangeAt Go.RowKit Go.Deep
set_option linter.unusedVariables false
set_option maxRecDepth 100000

section
variable {H : Type} {enc : TypeId × Value → H} {P : Program} {w : World} {base : Nat} {spare : Nat → Bool} {held : Bool}
theorem open_slice_fields {t e : TypeId} {fs : Array Field} {fuel : Nat} {cs : List Value} {x : DataW H × List MemPlace} (ht : P.underlying t = some (.slice e)) (he : P.underlying e = some (.struct fs))
    (hone : oneCellFields P fs = true) (hC : P.cellsOf e = fs.size) (h : DataW.trod enc P w base spare held fuel t cs = some x) :
    (cs = [.slice none 0 0] ∧ x = (.nil, [])) ∨
    ∃ (a : Addr) (len cap m : Nat) (D : Nat → DataW H) (Pl : Nat → List MemPlace), cs = [.slice (some a) len cap] ∧ base ≤ a.block ∧ len ≤ cap ∧ cap ≤ maxLen ∧ m = (if spare a.block then cap else len) ∧
      x = (.slice ((List.range len).map D) ((List.range (m - len)).map fun j => D (len + j)), MemPlace.row a (m * fs.size) ++ (List.range m).flatMap Pl) ∧
      ∀ i, i < m → ∃ (ys : List (DataW H × List MemPlace)) (n : Nat), D i = .agg (ys.map (·.1)) ∧ Pl i = ys.flatMap (·.2) ∧ ys.length = fs.size ∧
        ∀ (j : Nat) (f : Field), fs[j]? = some f → ∃ (v : Value) (y : DataW H × List MemPlace), w.cell? (a.add (i * fs.size + j)) = some v ∧ ys[j]? = some y ∧ DataW.trod enc P w base spare held n f.type [v] = some y := by
  rcases open_slice ht h with h0 | ⟨a, len, cap, m, n, D, Pl, hcs, hb, hl, hm, hmm, hx, hi⟩
  · exact .inl h0
  · refine .inr ⟨a, len, cap, m, D, Pl, hcs, hb, hl, hm, hmm, by rw [hC] at hx; exact hx, fun i him => ?_⟩
    obtain ⟨cs', hc, ht'⟩ := hi i him
    rw [hC] at hc
    obtain ⟨ys, n', hn', hy, hlen, hyl, hf⟩ := DataW.trod_struct he ht'
    obtain ⟨_, hcl, hat⟩ := World.cells?_some hc
    simp only [Prod.mk.injEq] at hy
    refine ⟨ys, n', hy.1, hy.2, hyl, fun j f hj => ?_⟩
    obtain ⟨ho, hk⟩ := hone_of hone j f hj
    have hjl : j < fs.size := (Array.getElem?_eq_some_iff.1 hj).1
    have hcell := hat j hjl
    have hv : cs'[j]? = some (cs'[j]'(by omega)) := List.getElem?_eq_getElem (by omega)
    have h1 := hf j f hj
    rw [ho, hk] at h1
    have hone' : (cs'.drop j).take 1 = [cs'[j]'(by omega)] := by
      rw [List.drop_eq_getElem_cons (by omega)]
      rfl
    rw [hone'] at h1
    have hys : ys[j]? = some (ys[j]'(by omega)) := List.getElem?_eq_getElem (by omega)
    refine ⟨_, _, ?_, hys, h1.trans hys⟩
    rw [← Go.Deep.add_add, hcell, hv]
end


theorem wf_i64 {x : Int} (h : (Lit.int .i64 x).wf = true) : -9223372036854775808 ≤ x ∧ x ≤ 9223372036854775807 := by
  simpa [Lit.wf, IntKind.min, IntKind.max, IntKind.signed, IntKind.bits] using h

/-! ### the listed variables -/
theorem laid_var {P : Program} {n : String} {d : DataW Unit} {r : List (String × DataW Unit)} {W : World} {g : Nat} {t : TypeId} (h : laidMet P ((n, d) :: r) W) (hg : P.globalNamed n = some g) (ht : (P.globals[g]?).map (·.type) = some t) :
    ∃ cs fuel p, DataW.trod (fun _ => ()) P W 0 (fun _ => true) false fuel t cs.toList = some (d, p) ∧ (0 < cs.size → ∃ t', W.heap[g]? = some (.cells cs t' (0, 0))) := by
  obtain ⟨ps, ⟨g0, t0, cs, f0, p0, q0, hg0, ht0, hv0, hd0, _, e0⟩, _, hrows⟩ := h
  obtain rfl := Option.some.inj (hg.symm.trans hg0)
  obtain rfl := Option.some.inj (ht.symm.trans ht0)
  refine ⟨cs, f0, p0, hd0, fun hc => ?_⟩
  have hm : MemPlace.cell g 0 ∈ ps := by
    rw [e0]
    refine List.mem_append_left _ (List.mem_append_left _ ?_)
    simp only [MemPlace.row, List.mem_map, List.mem_range]
    exact ⟨0, hc, rfl⟩
  obtain ⟨⟨c, t', hh⟩, _⟩ := hrows g 0 hm
  refine ⟨t', ?_⟩
  simp only [World.var?, hg, Option.bind_some, hh, Option.some.injEq] at hv0
  rw [hh, hv0]
theorem trod_iface_one {H : Type} {enc : TypeId × Value → H} {P : Program} {w : World} {base : Nat} {sp : Nat → Bool} {held : Bool} {fuel : Nat} {t : TypeId} {ms : Array (String × TypeId)} {cs : List Value} {x : DataW H × List MemPlace} (ht : P.underlying t = some (.interface ms))
    (h : DataW.trod enc P w base sp held fuel t cs = some x) : ∃ v, cs = [v] ∧ Ew.oneC v = true := by
  cases fuel with
  | zero => simp [DataW.trod] at h
  | succ n =>
    unfold DataW.trod at h
    rw [ht] at h
    split at h <;> simp_all [Ew.oneC]
theorem laid_err {P : Program} {n : String} {d : DataW Unit} {r : List (String × DataW Unit)} {W : World} {g : Nat} {t : TypeId} {ms : Array (String × TypeId)} (h : laidMet P ((n, d) :: r) W) (hg : P.globalNamed n = some g) (ht : (P.globals[g]?).map (·.type) = some t) (hi : P.underlying t = some (.interface ms)) :
    ∃ v t, W.heap[g]? = some (.cells #[v] t (0, 0)) ∧ Ew.oneC v = true := by
  obtain ⟨cs, fuel, p, h1, h2⟩ := laid_var h hg ht
  obtain ⟨v, h3, h4⟩ := trod_iface_one hi h1
  have e : cs = #[v] := Array.toList_inj.1 h3
  subst e
  obtain ⟨t', h5⟩ := h2 (by simp)
  exact ⟨v, t', h5, h4⟩
theorem chunk {c n : Nat} {cs vs : List Value} (hc : 0 < c) (h1 : cs.length = n * c) (h2 : vs.length = n * c) (h : ∀ i, i < n → (cs.drop (i * c)).take c = (vs.drop (i * c)).take c) : cs = vs := by
  apply List.ext_getElem? ; intro k
  by_cases hk : k < n * c
  · have hi : k / c < n := (Nat.div_lt_iff_lt_mul hc).2 hk
    have hj : k % c < c := Nat.mod_lt _ hc
    have hkk : k / c * c + k % c = k := by rw [Nat.mul_comm]; exact Nat.div_add_mod k c
    have := congrArg (fun l => l[k % c]?) (h (k / c) hi)
    simp only [List.getElem?_take, List.getElem?_drop, hj, if_true, hkk] at this
    exact this
  · rw [List.getElem?_eq_none (by omega), List.getElem?_eq_none (by omega)]
def saysD : List (List UInt8) := [[], [97, 32, 110, 117, 109, 98, 101, 114, 32, 116, 104, 97, 116, 32, 105, 115, 32, 110, 111, 116, 32, 114, 101, 115, 101, 114, 118, 101, 100], [97, 110, 111, 116, 104, 101, 114, 32, 116, 121, 112, 101], [97, 110, 111, 116, 104, 101, 114, 32, 99, 97, 114, 100], [97, 110, 111, 116, 104, 101, 114, 32, 107, 101, 121], [102, 105, 101, 108, 100, 115, 32, 105, 110, 116, 111, 32, 111, 110, 101, 32, 111, 110, 101, 111, 102], [97, 32, 109, 101, 115, 115, 97, 103, 101, 32, 97, 103, 97, 105, 110, 115, 116, 32, 110, 111, 110, 101]]
theorem says_eq : saysV = saysD.map fun l => .string ⟨l.toArray⟩ := by kernel_rfl
theorem laid_says {r : List (String × DataW Unit)} {W : World} (h : laidMet Tryz.prog (("sigil/compat.sayings", Rows.laid_sigil_compat_sayings) :: r) W) : ∃ t, W.heap[0]? = some (.cells saysV.toArray t (0, 0)) := by
  obtain ⟨cs, fuel, p, h1, h2⟩ := laid_var h (by kernel_rfl : Tryz.prog.globalNamed "sigil/compat.sayings" = some 0) (by kernel_rfl : (Tryz.prog.globals[0]?).map (·.type) = some 58)
  obtain ⟨xs, m, _, hx, hlen, hn, hel⟩ := DataW.trod_array Tryz.underlying58 h1
  have c9 : Tryz.prog.cellsOf 9 = 1 := by kernel_rfl
  have c58 : Tryz.prog.cellsOf 58 = 7 := by kernel_rfl
  rw [c9] at hel
  rw [c58] at hlen
  have hD : xs.map (·.1) = saysD.map fun l => .lit (.string l) := by
    have := congrArg (·.1) hx
    exact (DataW.agg.inj this).symm
  have e : cs.toList = saysV := by
    rw [says_eq]
    refine chunk (c := 1) (n := 7) (by omega) (by rw [hlen]) rfl fun i hi => ?_
    have h3 := hel i hi
    have h4 : xs[i]? = some (xs[i]'(by omega)) := List.getElem?_eq_getElem (by omega)
    rw [h4] at h3
    obtain ⟨s, h5, h6, _⟩ := DataW.trod_string Tryz.underlying9 h3
    have h7 := congrArg (fun l => l[i]?) hD
    simp only [List.getElem?_map, h4, Option.map_some, h6] at h7
    rw [h5]
    cases hs : saysD[i]? with
    | none => rw [hs] at h7; cases h7
    | some l =>
      rw [hs] at h7
      simp only [Option.map_some, Option.some.injEq, DataW.lit.injEq, Lit.string.injEq] at h7
      have hi' : i < saysD.length := hi
      have hl : saysD[i] = l := by rw [List.getElem?_eq_getElem hi'] at hs; exact Option.some.inj hs
      rw [Nat.mul_one, List.drop_eq_getElem_cons (by simpa using hi')]
      simp only [List.take_succ_cons, List.take_zero, List.getElem_map, hl, ← h7]
  have e2 : cs = saysV.toArray := Array.toList_inj.1 e
  subst e2
  exact h2 (by simp [saysV])
def rowsD : List (List (IntKind × Int)) := [[(.u8, 0), (.u8, 127), (.u8, 0), (.u8, 0), (.i64, 0)], [(.u8, 194), (.u8, 223), (.u8, 128), (.u8, 191), (.i64, 1)], [(.u8, 224), (.u8, 224), (.u8, 160), (.u8, 191), (.i64, 2)], [(.u8, 225), (.u8, 236), (.u8, 128), (.u8, 191), (.i64, 2)], [(.u8, 237), (.u8, 237), (.u8, 128), (.u8, 159), (.i64, 2)], [(.u8, 238), (.u8, 239), (.u8, 128), (.u8, 191), (.i64, 2)], [(.u8, 240), (.u8, 240), (.u8, 144), (.u8, 191), (.i64, 3)], [(.u8, 241), (.u8, 243), (.u8, 128), (.u8, 191), (.i64, 3)], [(.u8, 244), (.u8, 244), (.u8, 128), (.u8, 143), (.i64, 3)]]
theorem rows_ck : ∀ i, i < 9 → ∀ l, rowsD[i]? = some l → (rowsV.drop (i * 5)).take 5 = l.map fun q => Value.int q.1 q.2 := fun i hi l hl => by
  match i, hi with
  | 0, _ => cases hl; rfl
  | 1, _ => cases hl; rfl
  | 2, _ => cases hl; rfl
  | 3, _ => cases hl; rfl
  | 4, _ => cases hl; rfl
  | 5, _ => cases hl; rfl
  | 6, _ => cases hl; rfl
  | 7, _ => cases hl; rfl
  | 8, _ => cases hl; rfl
  | n + 9, h => exact absurd h (by omega)
theorem one_of {l : List Value} {v : Value} {j : Nat} (h : (l.drop j).take 1 = [v]) : l[j]? = some v := by
  have := congrArg (fun l => l[0]?) h
  simpa [List.getElem?_take, List.getElem?_drop] using this
theorem laid_rows {r : List (String × DataW Unit)} {W : World} (h : laidMet Tryz.prog (("sigil/wire.rows", Rows.laid_sigil_wire_rows) :: r) W) : ∃ t, W.heap[15]? = some (.cells rowsV.toArray t (0, 0)) := by
  obtain ⟨cs, fuel, p, h1, h2⟩ := laid_var h (by kernel_rfl : Tryz.prog.globalNamed "sigil/wire.rows" = some 15) (by kernel_rfl : (Tryz.prog.globals[15]?).map (·.type) = some 494)
  obtain ⟨xs, m, _, hx, hlen, hn, hel⟩ := DataW.trod_array Tryz.underlying494 h1
  have c493 : Tryz.prog.cellsOf 493 = 5 := by kernel_rfl
  have c494 : Tryz.prog.cellsOf 494 = 45 := by kernel_rfl
  have c5 : Tryz.prog.cellsOf 5 = 1 := by kernel_rfl
  have c3 : Tryz.prog.cellsOf 3 = 1 := by kernel_rfl
  rw [c493] at hel
  rw [c494] at hlen
  have hD : xs.map (·.1) = rowsD.map fun l => .agg (l.map fun q => .lit (.int q.1 q.2)) := by
    have := congrArg (·.1) hx
    exact (DataW.agg.inj this).symm
  have e : cs.toList = rowsV := by
    refine chunk (c := 5) (n := 9) (by omega) (by rw [hlen]) rfl fun i hi => ?_
    have h3 := hel i hi
    have h4 : xs[i]? = some (xs[i]'(by omega)) := List.getElem?_eq_getElem (by omega)
    rw [h4] at h3
    obtain ⟨ys, m2, _, hy, hyl, hyn, hf⟩ := DataW.trod_struct Tryz.underlying493 h3
    have h7 := congrArg (fun l => l[i]?) hD
    simp only [List.getElem?_map, h4, Option.map_some, hy] at h7
    cases hs : rowsD[i]? with
    | none => rw [hs] at h7; cases h7
    | some l =>
      rw [hs] at h7
      simp only [Option.map_some, Option.some.injEq, DataW.agg.injEq] at h7
      rw [rows_ck i hi l hs]
      have key : ∀ (j : Nat) (k : IntKind) (f : Field), (cs.toList.drop (i * 5)).take 5 = (cs.toList.drop (i * 5)).take 5 → j < 5 → f.offset = j → Tryz.prog.underlying f.type = some (.int k) → Tryz.prog.cellsOf f.type = 1 → DataW.trod (fun _ => ()) Tryz.prog W 0 (fun _ => true) false m2 f.type ((((cs.toList.drop (i * 5)).take 5).drop f.offset).take (Tryz.prog.cellsOf f.type)) = ys[j]? →
          ((cs.toList.drop (i * 5)).take 5)[j]? = (l.map fun q => Value.int q.1 q.2)[j]? := fun j k f _ hj ho hu hc hg => by
        have hyj : ys[j]? = some (ys[j]'(by rw [hyn]; exact hj)) := List.getElem?_eq_getElem _
        rw [ho, hc, hyj] at hg
        obtain ⟨n, a1, a2, _⟩ := DataW.trod_int hu hg
        rw [one_of a1]
        have h8 := congrArg (fun l => l[j]?) h7
        simp only [List.getElem?_map, hyj, Option.map_some, a2] at h8
        cases hq : l[j]? with
        | none => rw [hq] at h8; cases h8
        | some q =>
          rw [hq] at h8
          simp only [Option.map_some, Option.some.injEq, DataW.lit.injEq, Lit.int.injEq] at h8
          simp only [List.getElem?_map, hq, Option.map_some, ← h8.1, ← h8.2]
      have hll : l.length = 5 := by
        have := congrArg List.length h7
        simp only [List.length_map, hyn] at this
        exact this.symm
      have hcl : ((cs.toList.drop (i * 5)).take 5).length = 5 := by rw [hyl, c493]
      apply List.ext_getElem?
      intro j
      match j with
      | 0 => exact key 0 .u8 _ rfl (by decide) rfl Tryz.underlying5 c5 (hf 0 _ rfl)
      | 1 => exact key 1 .u8 _ rfl (by decide) rfl Tryz.underlying5 c5 (hf 1 _ rfl)
      | 2 => exact key 2 .u8 _ rfl (by decide) rfl Tryz.underlying5 c5 (hf 2 _ rfl)
      | 3 => exact key 3 .u8 _ rfl (by decide) rfl Tryz.underlying5 c5 (hf 3 _ rfl)
      | 4 => exact key 4 .i64 _ rfl (by decide) rfl Tryz.underlying3 c3 (hf 4 _ rfl)
      | k + 5 => rw [List.getElem?_eq_none (by rw [hcl]; omega), List.getElem?_eq_none (by rw [List.length_map, hll]; omega)]
  have e2 : cs = rowsV.toArray := Array.toList_inj.1 e
  subst e2
  exact h2 (by simp [rowsV])

theorem laid_of {W : World} (h : laidMetH Tryz.prog Rows.compatStepsRow.laid W) : Laid W := by
  rw [MakeChecks.laidMetH_plain _ _ _ (by kernel_rfl)] at h
  have h0 : laidMet Tryz.prog Rows.compatStepsRow.laid W := h
  unfold Rows.compatStepsRow at h0
  have h1 := h0.tail
  have h2 := h1.tail
  have h3 := h2.tail
  have h4 := h3.tail
  have h5 := h4.tail
  have h6 := h5.tail
  have h7 := h6.tail
  have h8 := h7.tail
  have h9 := h8.tail
  have h10 := h9.tail
  have h11 := h10.tail
  have h12 := h11.tail
  have h18 := h12.tail.tail.tail.tail.tail.tail
  refine ⟨laid_says h18, fun i hi => ?_, laid_rows h12⟩
  match i, hi with
  | 0, _ => exact laid_err h0 (by kernel_rfl) (t := 104) (by kernel_rfl) Tryz.underlying104
  | 1, _ => exact laid_err h1 (by kernel_rfl) (t := 104) (by kernel_rfl) Tryz.underlying104
  | 2, _ => exact laid_err h3 (by kernel_rfl) (t := 104) (by kernel_rfl) Tryz.underlying104
  | 3, _ => exact laid_err h2 (by kernel_rfl) (t := 104) (by kernel_rfl) Tryz.underlying104
  | 4, _ => exact laid_err h4 (by kernel_rfl) (t := 104) (by kernel_rfl) Tryz.underlying104
  | 5, _ => exact laid_err h5 (by kernel_rfl) (t := 104) (by kernel_rfl) Tryz.underlying104
  | 6, _ => exact laid_err h6 (by kernel_rfl) (t := 104) (by kernel_rfl) Tryz.underlying104
  | 7, _ => exact laid_err h7 (by kernel_rfl) (t := 104) (by kernel_rfl) Tryz.underlying104
  | 8, _ => exact laid_err h8 (by kernel_rfl) (t := 104) (by kernel_rfl) Tryz.underlying104
  | 9, _ => exact laid_err h9 (by kernel_rfl) (t := 104) (by kernel_rfl) Tryz.underlying104
  | 10, _ => exact laid_err h10 (by kernel_rfl) (t := 104) (by kernel_rfl) Tryz.underlying104
  | 11, _ => exact laid_err h11 (by kernel_rfl) (t := 104) (by kernel_rfl) Tryz.underlying104
  | n + 12, h => exact absurd h (by omega)

/-! ### the fields of the argument -/
section
variable {H : Type} {enc : TypeId × Value → H} {w : World} {base : Nat}
theorem fds_arg {fuel : Nat} {a : Option Addr} {len cap : Nat} {d : DataW H} {p : List MemPlace} (h : DataW.trod enc Tryz.prog w base (fun _ => true) true fuel 22 [.slice a len cap] = some (d, p)) :
    ∃ l : List Fd, l.length = len ∧ FdsAt w a l := by
  rcases open_slice_fields Tryz.underlying22 Tryz.underlying26 (by kernel_rfl) (by kernel_rfl) h with ⟨hcs, _⟩ | ⟨x, l, c, m, D, Pl, hcs, _, hl, hm, hmm, hx, hf⟩
  · simp at hcs
    obtain ⟨rfl, rfl, rfl⟩ := hcs
    exact ⟨[], rfl, fun j hj => by simp at hj⟩
  · simp at hcs
    obtain ⟨rfl, rfl, rfl⟩ := hcs
    simp only [Prod.mk.injEq] at hx
    obtain ⟨rfl, rfl⟩ := hx
    simp only [if_true] at hmm
    have hi : ∀ i, i < len → ∃ (b o : Nat) (f : Fd), x = ⟨b, o, none⟩ ∧ CellsAt w b (o + i * 8) (fdC f) := fun i hi => by
      obtain ⟨ys, n, _, _, _, hfj⟩ := hf i (by omega)
      obtain ⟨v0, y0, c0, _, t0⟩ := hfj 0 _ rfl
      obtain ⟨v1, y1, c1, _, t1⟩ := hfj 1 _ rfl
      obtain ⟨v2, y2, c2, _, t2⟩ := hfj 2 _ rfl
      obtain ⟨v3, y3, c3, _, t3⟩ := hfj 3 _ rfl
      obtain ⟨v4, y4, c4, _, t4⟩ := hfj 4 _ rfl
      obtain ⟨v5, y5, c5, _, t5⟩ := hfj 5 _ rfl
      obtain ⟨v6, y6, c6, _, t6⟩ := hfj 6 _ rfl
      obtain ⟨v7, y7, c7, _, t7⟩ := hfj 7 _ rfl
      obtain ⟨n0, e0, _, f0⟩ := DataW.trod_int Tryz.underlying3 t0
      obtain ⟨n1, e1, _, f1⟩ := DataW.trod_string Tryz.underlying9 t1
      obtain ⟨n2, e2, _, f2⟩ := DataW.trod_string Tryz.underlying9 t2
      obtain ⟨n3, e3, _, f3⟩ := DataW.trod_int Tryz.underlying3 t3
      obtain ⟨n4, e4, _, f4⟩ := DataW.trod_int Tryz.underlying3 t4
      obtain ⟨n5, e5, _, f5⟩ := DataW.trod_string Tryz.underlying9 t5
      obtain ⟨n6, e6, _, f6⟩ := DataW.trod_int Tryz.underlying3 t6
      obtain ⟨n7, e7, _, f7⟩ := DataW.trod_int Tryz.underlying3 t7
      simp only [List.cons.injEq, and_true] at e0 e1 e2 e3 e4 e5 e6 e7
      subst e0 e1 e2 e3 e4 e5 e6 e7
      obtain ⟨b, o, spot⟩ := x
      obtain ⟨_, _, _, _, _, g0⟩ := hf 0 (by omega)
      obtain ⟨_, _, g00, _, _⟩ := g0 0 _ rfl
      have hspot : spot = none := by have := World.cell?_spot g00; simpa [Addr.add] using this
      subst hspot
      simp only [Addr.add_z] at c0 c1 c2 c3 c4 c5 c6 c7
      refine ⟨b, o, ⟨n0, n1, n2, n3, n4, n5, n6, n7⟩, rfl, ?_⟩
      intro j u hu
      match j, hu with
      | 0, hu => simp only [fdC, List.getElem?_cons_zero, Option.some.injEq] at hu; subst hu; rw [Nat.add_assoc]; exact c0
      | 1, hu => simp [fdC] at hu; subst hu; rw [Nat.add_assoc]; exact c1
      | 2, hu => simp [fdC] at hu; subst hu; rw [Nat.add_assoc]; exact c2
      | 3, hu => simp [fdC] at hu; subst hu; rw [Nat.add_assoc]; exact c3
      | 4, hu => simp [fdC] at hu; subst hu; rw [Nat.add_assoc]; exact c4
      | 5, hu => simp [fdC] at hu; subst hu; rw [Nat.add_assoc]; exact c5
      | 6, hu => simp [fdC] at hu; subst hu; rw [Nat.add_assoc]; exact c6
      | 7, hu => simp [fdC] at hu; subst hu; rw [Nat.add_assoc]; exact c7
      | k + 8, hu => simp [fdC] at hu
    have H : ∀ i, ∃ f : Fd, i < len → ∃ b o, x = ⟨b, o, none⟩ ∧ CellsAt w b (o + i * 8) (fdC f) := fun i => by
      by_cases c : i < len
      · obtain ⟨b, o, op, hh⟩ := hi i c; exact ⟨op, fun _ => ⟨b, o, hh⟩⟩
      · exact ⟨fd0 0 0, fun c' => absurd c' c⟩
    refine ⟨(List.range len).map fun i => (H i).choose, by simp, fun j hj => ?_⟩
    simp only [List.length_map, List.length_range] at hj
    obtain ⟨b, o, e, hc⟩ := (H j).choose_spec hj
    refine ⟨b, o, by rw [e], ?_⟩
    simpa using hc
end
end Go.Proofs.YtiebkbmnepgacaaGreatDoor
