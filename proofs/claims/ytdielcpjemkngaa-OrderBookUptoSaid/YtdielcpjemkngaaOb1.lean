/-
  The walks of the laws' own helpers over maps of numbers: sameInts, made, goes, within.
-/
import Derived.Test.YtdielcpjemkngaaIn2
import Derived.Test.YtdielcpjemkngaaWn
import Derived.Test.YtdielcpjemkngaaOr7I
import Derived.Test.YtdielcpjemkngaaOr6I
import Derived.Test.YtdielcpjemkngaaOr5I
import Derived.Test.YtdielcpjemkngaaOr8I
namespace Go.Proofs.Ytdielcpjemkngaa
open Go.RowKit OI
set_option linter.unusedVariables false

theorem sameInts_w (a a' : Option Addr) (c c' : Nat) (z z' : List Int) (w : World) (h : IntsAt w .i64 a z) (h' : IntsAt w .i64 a' z') (hs : z.length ≤ 4611686018427387903) :
    Rt Try.prog 29 [.slice a z.length c, .slice a' z'.length c'] w fun v _ => v = .bool (decide (z = z')) := by
  refine Rt.of Try.func29 rfl Try.ntmps29 (by rfl) ?_
  refine CD.rs FW.wide rfl ?_
  refine PL.q rfl rfl (OQ.assign rfl) rfl ?_
  refine PL.to ?_
  refine CD.seq ?_
  refine CD.rs FW.wide rfl ?_
  refine PL.q rfl rfl (OQ.move rfl) rfl ?_
  refine PL.q rfl rfl (OQ.lenS rfl) rfl ?_
  refine PL.q rfl rfl (OQ.move rfl) rfl ?_
  refine PL.q rfl rfl (OQ.lenS rfl) rfl ?_
  refine PL.q rfl rfl (OQ.neq rfl rfl) rfl ?_
  refine PL.to ?_
  refine CD.condD rfl (fun h1 => ?_) (fun h1 => ?_)
  · refine CD.rs FW.wide rfl ?_
    refine PL.q rfl rfl (OQ.assign rfl) rfl ?_
    refine PL.to ?_
    have hne : z ≠ z' := fun e => h1 (by rw [e])
    exact CD.ret (post1 rfl rfl ⟨_, rfl, Ext.refl _, by simp [hne]⟩)
  have hlen : z.length = z'.length := by omega
  refine CD.skip ?_
  refine CD.seq ?_
  refine CD.rs FW.wide rfl ?_
  refine PL.q rfl rfl (OQ.assign rfl) rfl ?_
  refine PL.to ?_
  refine CD.block ?_
  refine CD.loop (α := Nat) (fun s => [(0, .slice a z.length c), (1, .slice a' z'.length c'), (5, .int .i64 s)]) (fun s w' => Ext w w' ∧ s ≤ z.length ∧ ∀ k, k < s → z[k]? = z'[k]?) (fun s => z.length - s) 0 ⟨rfl, rfl, rfl, trivial⟩ ⟨Ext.refl _, by simp, fun k hk => by omega⟩ ?_
  rintro i w1 ⟨hx1, hi, he⟩
  refine CD.seq ?_
  refine CD.rs FW.wide rfl ?_
  refine PL.q rfl rfl (OQ.move rfl) rfl ?_
  refine PL.q rfl rfl (OQ.move rfl) rfl ?_
  refine PL.q rfl rfl (OQ.lenS rfl) rfl ?_
  refine PL.q rfl rfl (OQ.lss rfl rfl) rfl ?_
  refine PL.to ?_
  refine CD.condD rfl (fun h4 => ?_) (fun h4 => ?_)
  · have hi1 : i < z.length := by omega
    have hi2 : i < z'.length := by omega
    refine CD.skip ?_
    refine CD.seq ?_
    refine CD.block ?_
    refine CD.as .ext trivial FW.wide (by kernel_rfl) [(0, true), (1, true), (2, true), (3, true), (4, true), (5, true), (6, true), (7, true), (8, true)] (by kernel_rfl) rfl (by kernel_rfl) ?_
    intro w2 hx2 _
    obtain ⟨b, o, rfl, hc⟩ := IntsAt.at (h.ext (hx1.trans hx2)) i hi1
    obtain ⟨b', o', rfl, hc'⟩ := IntsAt.at (h'.ext (hx1.trans hx2)) i hi2
    refine PL.q rfl rfl (OQ.move rfl) rfl ?_
    refine PL.q rfl rfl (OQ.move rfl) rfl ?_
    refine PL.q rfl rfl (OQ.indexAddr rfl rfl (by first | assumption | omega)) rfl ?_
    refine PL.q rfl rfl (OQ.loadX rfl (by assumption)) rfl ?_
    refine PL.q rfl rfl (OQ.move rfl) rfl ?_
    refine PL.q rfl rfl (OQ.move rfl) rfl ?_
    refine PL.q rfl rfl (OQ.indexAddr rfl rfl (by first | assumption | omega)) rfl ?_
    refine PL.q rfl rfl (OQ.loadX rfl (by assumption)) rfl ?_
    refine PL.q rfl rfl (OQ.neq rfl rfl) rfl ?_
    refine PL.to ?_
    refine CD.condD rfl (fun h6 => ?_) (fun h6 => ?_)
    · refine CD.rs FW.wide rfl ?_
      refine PL.q rfl rfl (OQ.assign rfl) rfl ?_
      refine PL.to ?_
      have hne : z ≠ z' := fun e => h6 (by subst e; rfl)
      exact CD.ret (post1 rfl rfl ⟨_, rfl, hx1.trans hx2, by simp [hne]⟩)
    refine CD.skip ?_
    refine CD.r FW.wide rfl ?_
    refine PL.q rfl rfl (OQ.move rfl) rfl ?_
    refine PL.q rfl rfl (OQ.addW (r := ((i + 1 : Nat) : Int)) rfl rfl (wrap_succ (by omega))) rfl ?_
    refine PL.q rfl rfl (OQ.assign rfl) rfl ?_
    refine PL.nil ?_
    refine fun a ha => ⟨i + 1, ha.sub ⟨rfl, rfl, rfl, trivial⟩, ⟨hx1.trans hx2, by omega, fun k hk => ?_⟩, by omega⟩
    by_cases hki : k = i
    · subst hki
      rw [List.getElem?_eq_getElem hi1, List.getElem?_eq_getElem hi2]
      simp only [_root_.ne_eq, Decidable.not_not] at h6
      rw [h6]
    · exact he k (by omega)
  · refine CD.exit ?_
    refine CD.rs FW.wide rfl ?_
    refine PL.q rfl rfl (OQ.assign rfl) rfl ?_
    refine PL.to ?_
    have hi' : i = z.length := by omega
    have heq : z = z' := List.ext_getElem? fun k => by
      by_cases hk : k < z.length
      · exact he k (by omega)
      · rw [List.getElem?_eq_none (by omega), List.getElem?_eq_none (by omega)]
    exact CD.ret (post1 rfl rfl ⟨_, rfl, hx1, by simp [heq]⟩)

def madeStep (t : Tr Int) (p : Int × Nat) : Tr Int := t.put lt p.1 p.2
def madeT (z : List Int) : Tr Int := z.zipIdx.foldl madeStep .leaf
theorem size_made_le (l : List (Int × Nat)) : ∀ t, (l.foldl madeStep t).size ≤ t.size + l.length := by
  induction l with
  | nil => intro t; simp
  | cons x r ih =>
    intro t
    have h1 := ih (madeStep t x); have h2 := Tr.size_put lt x.1 x.2 t
    simp only [List.foldl_cons, List.length_cons]
    simp only [madeStep] at h1 ⊢
    omega
theorem made_w (a : Option Addr) (c : Nat) (z : List Int) (w : World) (h : IntsAt w .i64 a z) (hs : z.length ≤ 4611686018427387903) :
    Rt Try.prog 23 [.slice a z.length c] w fun v w' => ∃ m, v = ptr m ∧ MapAt w' m (madeT z) := by
  refine Rt.of Try.func23 rfl Try.ntmps23 (by rfl) ?_
  refine CD.rs FW.wide rfl ?_
  refine PL.q rfl rfl (OQ.assign rfl) rfl ?_
  refine PL.to ?_
  refine CD.rs FW.wide rfl ?_
  refine PL.call FW.wide rfl rfl rfl rfl (New_w w) ?_
  rintro _ w5 hx5 ⟨m0, rfl, hm0⟩
  refine PL.q rfl rfl (OQ.assign rfl) rfl ?_
  refine PL.to ?_
  refine CD.seq ?_
  refine CD.rs FW.wide rfl ?_
  refine PL.q rfl rfl (OQ.assign rfl) rfl ?_
  refine PL.to ?_
  refine CD.block ?_
  refine CD.loop (α := Nat × Nat) (fun s => [(0, .slice a z.length c), (4, .int .i64 s.1), (3, ptr s.2)]) (fun s w' => Ext w w' ∧ s.1 ≤ z.length ∧ MapAt w' s.2 ((z.zipIdx.take s.1).foldl madeStep .leaf)) (fun s => z.length - s.1) (0, m0) ⟨rfl, rfl, rfl, trivial⟩ ⟨hx5, by simp, hm0⟩ ?_
  rintro ⟨i, m⟩ w1 ⟨hx1, hi, hm⟩
  simp only at hi hm
  refine CD.seq ?_
  refine CD.rs FW.wide rfl ?_
  by_cases hlt : i < z.length
  · obtain ⟨b, o, rfl, hc⟩ := IntsAt.at (h.ext hx1) i hlt
    refine PL.q rfl rfl (OQ.move rfl) rfl ?_
    refine PL.q rfl rfl (OQ.move rfl) rfl ?_
    refine PL.q rfl rfl (OQ.lenS rfl) rfl ?_
    refine PL.q rfl rfl (OQ.yes (OQ.lss rfl rfl) (by simp only [decide_eq_true_eq]; omega)) rfl ?_
    refine PL.q rfl rfl (OQ.move rfl) rfl ?_
    refine PL.q rfl rfl (OQ.move rfl) rfl ?_
    refine PL.q rfl rfl ((by first | exact OQ.neNN rfl rfl | exact OQ.neNS rfl rfl | exact OQ.neN rfl rfl)) rfl ?_
    refine PL.q rfl rfl ((by first | exact OQ.pickT rfl rfl | exact OQ.pickF rfl rfl)) rfl ?_
    refine PL.to ?_
    refine CD.condT rfl ?_
    refine CD.skip ?_
    refine CD.seq ?_
    refine CD.block ?_
    refine CD.r FW.wide rfl ?_
    refine PL.q rfl rfl (OQ.move rfl) rfl ?_
    refine PL.q rfl rfl (OQ.move rfl) rfl ?_
    refine PL.q rfl rfl (OQ.move rfl) rfl ?_
    refine PL.q rfl rfl (OQ.indexAddr rfl rfl (by first | assumption | omega)) rfl ?_
    refine PL.q rfl rfl (OQ.loadS rfl (by assumption)) rfl ?_
    refine PL.q rfl rfl (OQ.move rfl) rfl ?_
    have hz := size_made_le (z.zipIdx.take i) .leaf
    simp only [Tr.size, List.length_take, List.length_zipIdx] at hz
    refine PL.call FW.wide rfl rfl rfl rfl (Put_w m z[i] i _ w1 hm (by omega)) ?_
    rintro _ w22 hx22 ⟨m', rfl, hm'⟩
    refine PL.q rfl rfl (OQ.assign rfl) rfl ?_
    refine PL.nil ?_
    refine CD.r FW.wide rfl ?_
    refine PL.q rfl rfl (OQ.move rfl) rfl ?_
    refine PL.q rfl rfl (OQ.addW (r := ((i + 1 : Nat) : Int)) rfl rfl (wrap_succ (by omega))) rfl ?_
    refine PL.q rfl rfl (OQ.assign rfl) rfl ?_
    refine PL.nil ?_
    refine fun a ha => ⟨(i + 1, m'), ha.sub ⟨rfl, rfl, rfl, trivial⟩, ⟨hx1.trans hx22, by simp only; omega, ?_⟩, by simp only; omega⟩
    rw [List.take_succ_eq_append_getElem (by simpa using hlt), List.foldl_append]
    simpa [madeStep] using hm'
  · refine PL.q rfl rfl (OQ.move rfl) rfl ?_
    refine PL.q rfl rfl (OQ.move rfl) rfl ?_
    refine PL.q rfl rfl (OQ.lenS rfl) rfl ?_
    refine PL.q rfl rfl (OQ.no (OQ.lss rfl rfl) (by simp only [decide_eq_false_iff_not]; omega)) rfl ?_
    refine PL.q rfl rfl (OQ.move rfl) rfl ?_
    refine PL.skip rfl rfl rfl ?_
    refine PL.skip rfl rfl rfl ?_
    refine PL.q rfl rfl ((by first | exact OQ.pickT rfl rfl | exact OQ.pickF rfl rfl)) rfl ?_
    refine PL.to ?_
    refine CD.condF rfl ?_
    refine CD.exit ?_
    refine CD.rs FW.wide rfl ?_
    refine PL.q rfl rfl (OQ.move rfl) rfl ?_
    refine PL.q rfl rfl (OQ.assign rfl) rfl ?_
    refine PL.to ?_
    refine CD.ret (post1 rfl rfl ⟨_, rfl, hx1, m, rfl, ?_⟩)
    rw [List.take_of_length_le (by simp; omega)] at hm
    exact hm

theorem goes_w (m : Nat) (w : World) : Rt Try.prog 26 [ptr m] w fun v _ => v = .bool true := by
  refine Rt.of Try.func26 rfl Try.ntmps26 (by rfl) ?_
  refine CD.rs FW.wide rfl ?_
  refine PL.q rfl rfl (OQ.assign rfl) rfl ?_
  refine PL.to ?_
  refine CD.rs FW.wide rfl ?_
  refine PL.q rfl rfl (OQ.move rfl) rfl ?_
  refine PL.call FW.wide rfl rfl rfl rfl (All_w m w) ?_
  rintro _ w6 hx6 ⟨b, rfl, _⟩
  refine PL.q rfl rfl (OQ.assign rfl) rfl ?_
  refine PL.to ?_
  refine CD.rs FW.wide rfl ?_
  refine PL.q rfl rfl (OQ.move rfl) rfl ?_
  refine PL.call FW.wide rfl rfl rfl rfl (From_w m 0 w6) ?_
  rintro _ w8 hx8 ⟨b', c', rfl, _⟩
  refine PL.q rfl rfl (OQ.assign rfl) rfl ?_
  refine PL.to ?_
  refine CD.rs FW.wide rfl ?_
  refine PL.q rfl rfl (OQ.move rfl) rfl ?_
  refine PL.q rfl rfl (OQ.neF rfl rfl) rfl ?_
  refine PL.q rfl rfl (OQ.move rfl) rfl ?_
  refine PL.q rfl rfl (OQ.move rfl) rfl ?_
  refine PL.q rfl rfl (OQ.neF rfl rfl) rfl ?_
  refine PL.q rfl rfl ((by first | exact OQ.pickT rfl rfl | exact OQ.pickF rfl rfl)) rfl ?_
  refine PL.q rfl rfl (OQ.assign rfl) rfl ?_
  refine PL.to ?_
  exact CD.ret (post1 rfl rfl ⟨_, rfl, hx6.trans hx8, rfl⟩)

end Go.Proofs.Ytdielcpjemkngaa
