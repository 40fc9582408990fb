import Derived.Test.YtiebkbmnepgacaaGreatDoorRk
import Derived.Test.YtiebkbmnepgacaaGreatDoorSh
import Derived.Lib.ItoaLen
import Derived.Lib.AppendIntMem
import Derived.Lib.LaidTab
/-
  Walks of CompatSays: SameTrail; texts.
-/
namespace Go.Proofs.YtiebkbmnepgacaaGreatDoor
open Go.RowKit
set_option linter.unusedVariables false
set_option maxRecDepth 100000

theorem sameTrail_w (a a' : Option Addr) (c c' : Nat) (z z' : List Int) (w : World) (h : Cells w a (ints z)) (h' : Cells w a' (ints z')) (hs : z.length ≤ 4611686018427387903) :
    Rt Tryz.prog 11 [.slice a z.length c, .slice a' z'.length c'] w fun v _ => v = .bool (decide (z = z')) := by
  refine Rt.of Tryz.func11 rfl Tryz.ntmps11 (by rfl) ?_
  refine CD.rs FW.wide rfl ?_
  refine PL.q rfl rfl (OQ.assign rfl) rfl ?_
  refine PL.to ?_
  refine CD.seq ?_
  refine CD.rs FW.wide rfl ?_
  refine PL.q rfl rfl (OQ.move rfl) rfl ?_
  refine PL.q rfl rfl (OQ.lenS rfl) rfl ?_
  refine PL.q rfl rfl (OQ.move rfl) rfl ?_
  refine PL.q rfl rfl (OQ.lenS rfl) rfl ?_
  refine PL.q rfl rfl (OQ.neq rfl rfl) rfl ?_
  refine PL.to ?_
  refine CD.condD rfl (fun h1 => ?_) (fun h1 => ?_)
  · refine CD.rs FW.wide rfl ?_
    refine PL.q rfl rfl (OQ.assign rfl) rfl ?_
    refine PL.to ?_
    have hne : z ≠ z' := fun e => h1 (by rw [e])
    exact CD.ret (post1 rfl rfl ⟨_, rfl, Ext.refl _, by simp [hne]⟩)
  have hlen : z.length = z'.length := by omega
  refine CD.skip ?_
  refine CD.seq ?_
  refine CD.rs FW.wide rfl ?_
  refine PL.q rfl rfl (OQ.assign rfl) rfl ?_
  refine PL.to ?_
  refine CD.block ?_
  refine CD.loop (α := Nat) (fun s => [(0, .slice a z.length c), (1, .slice a' z'.length c'), (5, .int .i64 s)]) (fun s w' => Ext w w' ∧ s ≤ z.length ∧ ∀ k, k < s → z[k]? = z'[k]?) (fun s => z.length - s) 0 ⟨rfl, rfl, rfl, trivial⟩ ⟨Ext.refl _, by simp, fun k hk => by omega⟩ ?_
  rintro i w1 ⟨hx1, hi, he⟩
  refine CD.seq ?_
  refine CD.rs FW.wide rfl ?_
  refine PL.q rfl rfl (OQ.move rfl) rfl ?_
  refine PL.q rfl rfl (OQ.move rfl) rfl ?_
  refine PL.q rfl rfl (OQ.lenS rfl) rfl ?_
  refine PL.q rfl rfl (OQ.lss rfl rfl) rfl ?_
  refine PL.to ?_
  refine CD.condD rfl (fun h4 => ?_) (fun h4 => ?_)
  · have hi1 : i < z.length := by omega
    have hi2 : i < z'.length := by omega
    refine CD.skip ?_
    refine CD.seq ?_
    refine CD.block ?_
    refine CD.as .ext trivial FW.wide (by kernel_rfl) [(0, true), (1, true), (2, true), (3, true), (4, true), (5, true), (6, true), (7, true), (8, true)] (by kernel_rfl) rfl (by kernel_rfl) ?_
    intro w2 hx2 _
    obtain ⟨b, o, rfl, hc⟩ := (h.ext (hx1.trans hx2)) i (.int .i64 z[i]) (by simp [ints, hi1])
    obtain ⟨b', o', rfl, hc'⟩ := (h'.ext (hx1.trans hx2)) i (.int .i64 z'[i]) (by simp [ints, hi2])
    refine PL.q rfl rfl (OQ.move rfl) rfl ?_
    refine PL.q rfl rfl (OQ.move rfl) rfl ?_
    refine PL.q rfl rfl (OQ.indexAddr rfl rfl (by first | assumption | omega)) rfl ?_
    refine PL.q rfl rfl (OQ.loadX rfl (by assumption)) rfl ?_
    refine PL.q rfl rfl (OQ.move rfl) rfl ?_
    refine PL.q rfl rfl (OQ.move rfl) rfl ?_
    refine PL.q rfl rfl (OQ.indexAddr rfl rfl (by first | assumption | omega)) rfl ?_
    refine PL.q rfl rfl (OQ.loadX rfl (by assumption)) rfl ?_
    refine PL.q rfl rfl (OQ.neq rfl rfl) rfl ?_
    refine PL.to ?_
    refine CD.condD rfl (fun h6 => ?_) (fun h6 => ?_)
    · refine CD.rs FW.wide rfl ?_
      refine PL.q rfl rfl (OQ.assign rfl) rfl ?_
      refine PL.to ?_
      have hne : z ≠ z' := fun e => h6 (by subst e; rfl)
      exact CD.ret (post1 rfl rfl ⟨_, rfl, hx1.trans hx2, by simp [hne]⟩)
    · refine CD.skip ?_
      refine CD.r FW.wide rfl ?_
      refine PL.q rfl rfl (OQ.move rfl) rfl ?_
      refine PL.q rfl rfl (OQ.addW (r := ((i + 1 : Nat) : Int)) rfl rfl (wrap_succ (by omega))) rfl ?_
      refine PL.q rfl rfl (OQ.assign rfl) rfl ?_
      refine PL.nil ?_
      refine fun a ha => ⟨i + 1, ha.sub ⟨rfl, rfl, rfl, trivial⟩, ⟨hx1.trans hx2, by omega, fun k hk => ?_⟩, by omega⟩
      rcases Nat.lt_succ_iff_lt_or_eq.1 hk with hk | rfl
      · exact he k hk
      · rw [List.getElem?_eq_getElem hi1, List.getElem?_eq_getElem hi2]; exact congrArg some (Decidable.not_not.1 h6)
  · refine CD.exit ?_
    refine CD.rs FW.wide rfl ?_
    refine PL.q rfl rfl (OQ.assign rfl) rfl ?_
    refine PL.to ?_
    have hee : z = z' := by
      apply List.ext_getElem?
      intro k
      by_cases hk : k < i
      · exact he k hk
      · rw [List.getElem?_eq_none (by omega), List.getElem?_eq_none (by omega)]
    exact CD.ret (post1 rfl rfl ⟨_, rfl, hx1, by simp [hee]⟩)

/-! ### texts -/
def bytes (l : List UInt8) : ByteArray := ⟨l.toArray⟩
theorem bytes_add (a b : List UInt8) : bytes a ++ bytes b = bytes (a ++ b) := by
  apply ByteArray.ext
  simp [bytes]
theorem bytes_size (a : List UInt8) : (bytes a).size = a.length := by simp [bytes, ByteArray.size]
/-- the path as a text -/
def pathL (l : List Int) : List UInt8 := Lib.join (l.map Lib.itoa) [46]
theorem pathL_one (x : Int) : pathL [x] = Lib.itoa x := Lib.join_one _ _
theorem pathL_snoc (x : Int) (l : List Int) (y : Int) : pathL (x :: l ++ [y]) = pathL (x :: l) ++ [46] ++ Lib.itoa y := by
  unfold pathL
  simp only [List.cons_append, List.map_cons, List.map_append, List.map_nil]
  rw [Lib.join_cons, Lib.join_cons]
  simp [Lib.joinTail, List.append_assoc]
def Okn (l : List Int) : Prop := ∀ x ∈ l, -9223372036854775808 ≤ x ∧ x ≤ 9223372036854775807
theorem pathL_len : ∀ {l : List Int}, Okn l → (pathL l).length ≤ 22 * l.length := by
  have tail : ∀ {l : List Int}, Okn l → (Lib.joinTail [46] (l.map Lib.itoa)).length ≤ 22 * l.length := fun {l} h => by
    induction l with
    | nil => simp [Lib.joinTail]
    | cons y r ih =>
      have h1 := Lib.itoa_length_le y (h y List.mem_cons_self).1 (h y List.mem_cons_self).2
      have h2 := ih fun x hx => h x (List.mem_cons_of_mem _ hx)
      simp only [Lib.joinTail, List.map_cons, List.flatten_cons, List.length_append, List.length_cons, List.length_nil] at h2 ⊢
      omega
  intro l h
  cases l with
  | nil => simp [pathL, Lib.join_nil]
  | cons x r =>
    have h1 := Lib.itoa_length_le x (h x List.mem_cons_self).1 (h x List.mem_cons_self).2
    have h2 := tail (l := r) fun y hy => h y (List.mem_cons_of_mem _ hy)
    unfold pathL
    rw [List.map_cons, Lib.join_cons]
    simp only [List.length_append, List.length_cons]
    omega
def TabOk (w : World) : Prop := Lib.TabIs Tryz.prog w "internal/strconv.uint64pow10" .u64 Lib.pow10Tab
theorem itoa_w (n : Int) (h0 : -9223372036854775808 ≤ n ∧ n ≤ 9223372036854775807) (w : World) (ht : TabOk w) : Rt Tryz.prog 19 [.int .i64 n] w fun v _ => v = .string (bytes (Lib.itoa n)) := by
  refine (Tryz.strconv_Itoa n h0.1 h0.2 w ht).mono ?_
  rintro e w' ⟨he, k, os, rfl⟩
  exact ⟨_, he, Lib.below_grow _ w (Nat.le_refl _) k os, rfl⟩
end Go.Proofs.YtiebkbmnepgacaaGreatDoor
