/-
  The walks of the document's tables (lists): Find, Get, At, From, Keys: keys: texts.
-/
import Derived.Test.YtdielcpjemkngaaIn2
import Derived.Test.YtdielcpjemkngaaFx11
import Derived.Test.YtdielcpjemkngaaOr9S
namespace Go.Proofs.Ytdielcpjemkngaa.OS
open Go.RowKit
set_option linter.unusedVariables false

def pC (e : ByteArray × Int) : List Value := [kv e.1, .int .i64 e.2]
theorem length_pC (e : ByteArray × Int) : (pC e).length = 2 := rfl
/-- a list of the document's, in memory -/
abbrev PA (w : World) (a : Option Addr) (l : Ents ByteArray) : Prop := ElT w 145 a 2 pC l
abbrev ge : ByteArray → ByteArray → Bool := fun a b => !(Op.bytesLess a.toList b.toList)
theorem ge_eq (a b : ByteArray) : ge a b = !lt a b := by
  rfl

theorem fFind_w (a : Option Addr) (c : Nat) (l : Ents ByteArray) (k : ByteArray) (w : World) (h : PA w a l) (hs : Srt lt l) (hn : l.length ≤ 1000000) :
    Rt Try.prog 83 [.slice a l.length c, kv k] w fun x _ => x = .tuple #[.int .i64 ((lows lt k l).length : Nat), .bool (getL lt k l).isSome] := by
  refine Rt.of Try.func83 rfl Try.ntmps83 (by rfl) ?_
  refine CD.rs FW.wide rfl ?_
  refine PL.q rfl rfl (OQ.assign rfl) rfl ?_
  refine PL.q rfl rfl (OQ.assign rfl) rfl ?_
  refine PL.to ?_
  refine CD.rs FW.wide rfl ?_
  refine PL.q rfl rfl (OQ.assign rfl) rfl ?_
  refine PL.to ?_
  refine CD.seq ?_
  refine CD.block ?_
  refine CD.loop (α := Nat) (fun s => [(0, .slice a l.length c), (1, kv k), (6, .int .i64 s)]) (fun s w' => Ext w w' ∧ s ≤ l.length ∧ ∀ e ∈ l.take s, lt e.1 k = true) (fun s => l.length - s) 0 ⟨rfl, rfl, rfl, trivial⟩ ⟨Ext.refl _, by simp, by simp⟩ ?_
  rintro i w1 ⟨hx1, hi, hlo⟩
  refine CD.seq ?_
  refine CD.cut (α := Bool) (fun r => [(0, .slice a l.length c), (1, kv k), (6, .int .i64 i), (19, .bool r)]) (fun r w' => w1 = w' ∧ r = if hlt : i < l.length then lt l[i].1 k else false) ?_ ?_
  · refine CD.r FW.wide rfl ?_
    by_cases hlt : i < l.length
    · obtain ⟨b, o, rfl, hc, _⟩ := (h.ext hx1) i hlt
      have c0 : w1.cell? ⟨b, o + i * 2 + 0, none⟩ = some (kv l[i].1) := hc 0 _ rfl
      refine PL.q rfl rfl (OQ.move rfl) rfl ?_
      refine PL.q rfl rfl (OQ.move rfl) rfl ?_
      refine PL.q rfl rfl (OQ.lenS rfl) rfl ?_
      refine PL.q rfl rfl (OQ.yes (OQ.lss rfl rfl) (by simp only [decide_eq_true_eq]; omega)) rfl ?_
      refine PL.q rfl rfl (OQ.move rfl) rfl ?_
      refine PL.q rfl rfl (OQ.move rfl) rfl ?_
      refine PL.q rfl rfl (OQ.move rfl) rfl ?_
      refine PL.q rfl rfl (OQ.indexAddr rfl rfl (by first | assumption | omega)) rfl ?_
      refine PL.q rfl rfl (OQ.field rfl) rfl ?_
      refine PL.q rfl rfl (OQ.loadS rfl (by assumption)) rfl ?_
      refine PL.q rfl rfl (OQ.move rfl) rfl ?_
      refine PL.q rfl rfl (OQ.slss rfl rfl) rfl ?_
      refine PL.q rfl rfl ((by first | exact OQ.pickT rfl rfl | exact OQ.pickF rfl rfl)) rfl ?_
      exact PL.nil fun a ha => ⟨lt l[i].1 k, ha.sub ⟨rfl, rfl, rfl, rfl, trivial⟩, rfl, by rw [dif_pos hlt]⟩
    · refine PL.q rfl rfl (OQ.move rfl) rfl ?_
      refine PL.q rfl rfl (OQ.move rfl) rfl ?_
      refine PL.q rfl rfl (OQ.lenS rfl) rfl ?_
      refine PL.q rfl rfl (OQ.no (OQ.lss rfl rfl) (by simp only [decide_eq_false_iff_not]; omega)) rfl ?_
      refine PL.q rfl rfl (OQ.move rfl) rfl ?_
      refine PL.skip rfl rfl rfl ?_
      refine PL.skip rfl rfl rfl ?_
      refine PL.skip rfl rfl rfl ?_
      refine PL.skip rfl rfl rfl ?_
      refine PL.skip rfl rfl rfl ?_
      refine PL.skip rfl rfl rfl ?_
      refine PL.skip rfl rfl rfl ?_
      refine PL.q rfl rfl ((by first | exact OQ.pickT rfl rfl | exact OQ.pickF rfl rfl)) rfl ?_
      exact PL.nil fun a ha => ⟨false, ha.sub ⟨rfl, rfl, rfl, rfl, trivial⟩, rfl, by rw [dif_neg hlt]⟩
  rintro r _ ⟨rfl, hr⟩
  refine CD.cond (b := r) rfl (fun h2 => ?_) (fun h2 => ?_)
  · subst h2
    have hlt : i < l.length := by
      by_cases hlt : i < l.length
      · exact hlt
      · rw [dif_neg hlt] at hr; cases hr
    rw [dif_pos hlt] at hr
    refine CD.skip ?_
    refine CD.block ?_
    refine CD.r FW.wide rfl ?_
    refine PL.q rfl rfl (OQ.move rfl) rfl ?_
    refine PL.q rfl rfl (OQ.addW (r := ((i + 1 : Nat) : Int)) rfl rfl (wrap_succ (by omega))) rfl ?_
    refine PL.q rfl rfl (OQ.assign rfl) rfl ?_
    refine PL.nil ?_
    refine fun a ha => ⟨i + 1, ha.sub ⟨rfl, rfl, rfl, trivial⟩, ⟨hx1, by omega, fun e he => ?_⟩, by omega⟩
    rw [List.take_succ_eq_append_getElem hlt] at he
    rcases List.mem_append.1 he with he | he
    · exact hlo e he
    · obtain rfl : e = l[i] := by simpa using he
      exact hr.symm
  · subst h2
    have hno : ∀ hlt : i < l.length, lt l[i].1 k = false := fun hlt => by rw [dif_pos hlt] at hr; exact hr.symm
    have e : l = l.take i ++ l.drop i := (List.take_append_drop i l).symm
    have hsp := find_split (k := k) (l1 := l.take i) (l2 := l.drop i) lo (by rw [← e]; exact hs) hlo (fun e r he => by
      have hlt : i < l.length := by
        have := congrArg List.length he; simp at this; omega
      rw [List.drop_eq_getElem_cons hlt] at he
      simp only [List.cons.injEq] at he
      rw [← he.1]; exact hno hlt)
    rw [← e] at hsp
    obtain ⟨p1, p2, p3, p4⟩ := hsp
    have pl : (lows lt k l).length = i := by rw [p1]; simp; omega
    refine CD.exit ?_
    refine CD.as .ext trivial FW.wide (by kernel_rfl) [(0, true), (1, true), (2, true), (3, true), (4, true), (5, true), (6, true), (7, true), (8, true), (9, true), (10, true), (11, true), (12, true), (13, true), (14, true), (15, true)] (by kernel_rfl) rfl (by kernel_rfl) ?_
    intro w2 hx2 _
    by_cases hlt : i < l.length
    · obtain ⟨b, o, rfl, hc, _⟩ := (h.ext (hx1.trans hx2)) i hlt
      have c0 : w2.cell? ⟨b, o + i * 2 + 0, none⟩ = some (kv l[i].1) := hc 0 _ rfl
      have p5 := p4 l[i] (l.drop (i + 1)) (List.drop_eq_getElem_cons hlt)
      refine PL.q rfl rfl (OQ.move rfl) rfl ?_
      refine PL.q rfl rfl (OQ.move rfl) rfl ?_
      refine PL.q rfl rfl (OQ.move rfl) rfl ?_
      refine PL.q rfl rfl (OQ.lenS rfl) rfl ?_
      refine PL.q rfl rfl (OQ.yes (OQ.lss rfl rfl) (by simp only [decide_eq_true_eq]; omega)) rfl ?_
      refine PL.q rfl rfl (OQ.move rfl) rfl ?_
      refine PL.q rfl rfl (OQ.move rfl) rfl ?_
      refine PL.q rfl rfl (OQ.move rfl) rfl ?_
      refine PL.q rfl rfl (OQ.indexAddr rfl rfl (by first | assumption | omega)) rfl ?_
      refine PL.q rfl rfl (OQ.field rfl) rfl ?_
      refine PL.q rfl rfl (OQ.loadX rfl (by assumption)) rfl ?_
      refine PL.q rfl rfl (OQ.move rfl) rfl ?_
      refine PL.q rfl rfl (OQ.cast (OQ.seql rfl rfl) ((show Value.bool (eq l[i].1 k) = .bool (getL lt k l).isSome by rw [p5, eq_eq, hno hlt]; cases lt k l[i].1 <;> rfl))) rfl ?_
      refine PL.q rfl rfl ((by first | exact OQ.pickT rfl rfl | exact OQ.pickF rfl rfl)) rfl ?_
      refine PL.q rfl rfl (OQ.assign rfl) rfl ?_
      refine PL.q rfl rfl (OQ.assign rfl) rfl ?_
      refine PL.to ?_
      exact CD.ret (post2 rfl rfl rfl ⟨_, rfl, hx1.trans hx2, by rw [pl]⟩)
    · have p5 := p3 (by rw [List.drop_eq_nil_iff]; omega)
      refine PL.q rfl rfl (OQ.move rfl) rfl ?_
      refine PL.q rfl rfl (OQ.move rfl) rfl ?_
      refine PL.q rfl rfl (OQ.move rfl) rfl ?_
      refine PL.q rfl rfl (OQ.lenS rfl) rfl ?_
      refine PL.q rfl rfl (OQ.no (OQ.lss rfl rfl) (by simp only [decide_eq_false_iff_not]; omega)) rfl ?_
      refine PL.q rfl rfl (OQ.move rfl) rfl ?_
      refine PL.skip rfl rfl rfl ?_
      refine PL.skip rfl rfl rfl ?_
      refine PL.skip rfl rfl rfl ?_
      refine PL.skip rfl rfl rfl ?_
      refine PL.skip rfl rfl rfl ?_
      refine PL.skip rfl rfl rfl ?_
      refine PL.skip rfl rfl rfl ?_
      refine PL.q rfl rfl ((by first | exact OQ.pickT rfl rfl | exact OQ.pickF rfl rfl)) rfl ?_
      refine PL.q rfl rfl (OQ.assign rfl) rfl ?_
      refine PL.q rfl rfl (OQ.assign rfl) rfl ?_
      refine PL.to ?_
      exact CD.ret (post2 rfl rfl rfl ⟨_, rfl, hx1.trans hx2, by rw [pl, p5]; rfl⟩)

theorem fGet_w (a : Option Addr) (c : Nat) (l : Ents ByteArray) (k : ByteArray) (w : World) (h : PA w a l) (hs : Srt lt l) (hn : l.length ≤ 1000000) :
    Rt Try.prog 79 [.slice a l.length c, kv k] w fun x _ => x = .tuple #[.int .i64 ((getL lt k l).getD 0), .bool (getL lt k l).isSome] := by
  refine Rt.of Try.func79 rfl Try.ntmps79 (by rfl) ?_
  refine CD.rs FW.wide rfl ?_
  refine PL.q rfl rfl (OQ.assign rfl) rfl ?_
  refine PL.q rfl rfl (OQ.assign rfl) rfl ?_
  refine PL.to ?_
  refine CD.rs FW.wide rfl ?_
  refine PL.q rfl rfl (OQ.move rfl) rfl ?_
  refine PL.q rfl rfl (OQ.move rfl) rfl ?_
  refine PL.call FW.wide rfl rfl rfl rfl (fFind_w a c l k w h hs hn) ?_
  rintro _ w1 hx1 rfl
  refine PL.q rfl rfl (OQ.move rfl) rfl ?_
  refine PL.q rfl rfl (OQ.extract rfl rfl) rfl ?_
  refine PL.q rfl rfl (OQ.extract rfl rfl) rfl ?_
  refine PL.q rfl rfl (OQ.assign rfl) rfl ?_
  refine PL.q rfl rfl (OQ.assign rfl) rfl ?_
  refine PL.to ?_
  refine CD.seq ?_
  refine CD.rs FW.wide rfl ?_
  refine PL.q rfl rfl (OQ.move rfl) rfl ?_
  refine PL.q rfl rfl (OQ.not rfl) rfl ?_
  refine PL.to ?_
  cases hg : getL lt k l with
  | none =>
    refine CD.condT rfl ?_
    refine CD.rs FW.wide rfl ?_
    refine PL.q rfl rfl (OQ.assign rfl) rfl ?_
    refine PL.q rfl rfl (OQ.assign rfl) rfl ?_
    refine PL.to ?_
    exact CD.ret (post2 rfl rfl rfl ⟨_, rfl, hx1, rfl⟩)
  | some v =>
    obtain ⟨i, hi, hv⟩ : ∃ i, ∃ hi : i < l.length, l[i] = (k, v) := by
      obtain ⟨i, hi, e⟩ := List.getElem_of_mem ((getL_mem lo hs).1 hg)
      exact ⟨i, hi, e⟩
    have hat := (Srt.at lo hs i hi).1
    rw [hv] at hat
    rw [hat]
    obtain ⟨b, o, rfl, hc, _⟩ := (h.ext hx1) i hi
    rw [hv] at hc
    have c1 : w1.cell? ⟨b, o + i * 2 + 1, none⟩ = some (.int .i64 v) := hc 1 _ rfl
    refine CD.condF rfl ?_
    refine CD.skip ?_
    refine CD.rs FW.wide rfl ?_
    refine PL.q rfl rfl (OQ.move rfl) rfl ?_
    refine PL.q rfl rfl (OQ.move rfl) rfl ?_
    refine PL.q rfl rfl (OQ.indexAddr rfl rfl (by first | assumption | omega)) rfl ?_
    refine PL.q rfl rfl (OQ.field rfl) rfl ?_
    refine PL.q rfl rfl (OQ.loadS rfl (by assumption)) rfl ?_
    refine PL.q rfl rfl (OQ.assign rfl) rfl ?_
    refine PL.q rfl rfl (OQ.assign rfl) rfl ?_
    refine PL.to ?_
    exact CD.ret (post2 rfl rfl rfl ⟨_, rfl, hx1, rfl⟩)

theorem fAt_w (a : Option Addr) (c : Nat) (l : Ents ByteArray) (i : Int) (w : World) (h : PA w a l) (hn : l.length ≤ 1000000) :
    Rt Try.prog 81 [.slice a l.length c, .int .i64 i] w fun x _ => x = trip (if 0 ≤ i then l[i.toNat]? else none) := by
  refine Rt.of Try.func81 rfl Try.ntmps81 (by rfl) ?_
  refine CD.rs FW.wide rfl ?_
  refine PL.q rfl rfl (OQ.assign rfl) rfl ?_
  refine PL.q rfl rfl (OQ.assign rfl) rfl ?_
  refine PL.q rfl rfl (OQ.assign rfl) rfl ?_
  refine PL.to ?_
  refine CD.seq ?_
  refine CD.rs FW.wide rfl ?_
  by_cases h0 : 0 ≤ i
  · refine PL.q rfl rfl (OQ.move rfl) rfl ?_
    refine PL.q rfl rfl (OQ.no (OQ.lss rfl rfl) (by simp only [decide_eq_false_iff_not]; omega)) rfl ?_
    refine PL.q rfl rfl (OQ.move rfl) rfl ?_
    refine PL.q rfl rfl (OQ.move rfl) rfl ?_
    refine PL.q rfl rfl (OQ.move rfl) rfl ?_
    refine PL.q rfl rfl (OQ.lenS rfl) rfl ?_
    by_cases hlt : i.toNat < l.length
    · obtain ⟨b, o, rfl, hc0, _⟩ := h i.toNat hlt
      obtain ⟨j, rfl⟩ : ∃ j : Nat, i = j := ⟨i.toNat, by omega⟩
      simp only [Int.toNat_natCast] at hlt hc0
      refine PL.q rfl rfl (OQ.no (OQ.geq rfl rfl) (by simp only [decide_eq_false_iff_not]; omega)) rfl ?_
      refine PL.q rfl rfl ((by first | exact OQ.pickT rfl rfl | exact OQ.pickF rfl rfl)) rfl ?_
      refine PL.to ?_
      refine CD.condF rfl ?_
      refine CD.skip ?_
      refine CD.as .ext trivial FW.wide (by kernel_rfl) [(0, true), (1, true), (2, true), (3, true), (4, true), (5, true), (6, true), (7, true), (8, true), (9, true), (10, true), (11, true), (12, true)] (by kernel_rfl) rfl (by kernel_rfl) ?_
      intro w1 hx1 _
      have hc := hc0.ext hx1
      have c0 : w1.cell? ⟨b, o + j * 2 + 0, none⟩ = some (kv l[j].1) := hc 0 _ rfl
      have c1 : w1.cell? ⟨b, o + j * 2 + 1, none⟩ = some (.int .i64 l[j].2) := hc 1 _ rfl
      refine PL.q rfl rfl (OQ.move rfl) rfl ?_
      refine PL.q rfl rfl (OQ.move rfl) rfl ?_
      refine PL.q rfl rfl (OQ.indexAddr rfl rfl (by first | assumption | omega)) rfl ?_
      refine PL.q rfl rfl (OQ.field rfl) rfl ?_
      refine PL.q rfl rfl (OQ.loadX rfl (by assumption)) rfl ?_
      refine PL.q rfl rfl (OQ.move rfl) rfl ?_
      refine PL.q rfl rfl (OQ.move rfl) rfl ?_
      refine PL.q rfl rfl (OQ.indexAddr rfl rfl (by first | assumption | omega)) rfl ?_
      refine PL.q rfl rfl (OQ.field rfl) rfl ?_
      refine PL.q rfl rfl (OQ.loadX rfl (by assumption)) rfl ?_
      refine PL.q rfl rfl (OQ.assign rfl) rfl ?_
      refine PL.q rfl rfl (OQ.assign rfl) rfl ?_
      refine PL.q rfl rfl (OQ.assign rfl) rfl ?_
      refine PL.to ?_
      refine CD.ret (post3 rfl rfl rfl rfl ⟨_, rfl, hx1, ?_⟩)
      rw [if_pos h0]
      simp [hlt, trip]
    · refine PL.q rfl rfl (OQ.yes (OQ.geq rfl rfl) (by simp only [decide_eq_true_eq]; omega)) rfl ?_
      refine PL.q rfl rfl ((by first | exact OQ.pickT rfl rfl | exact OQ.pickF rfl rfl)) rfl ?_
      refine PL.to ?_
      refine CD.condT rfl ?_
      refine CD.rs FW.wide rfl ?_
      refine PL.q rfl rfl (OQ.assign rfl) rfl ?_
      refine PL.q rfl rfl (OQ.assign rfl) rfl ?_
      refine PL.q rfl rfl (OQ.assign rfl) rfl ?_
      refine PL.to ?_
      refine CD.ret (post3 rfl rfl rfl rfl ⟨_, rfl, Ext.refl _, ?_⟩)
      rw [if_pos h0, List.getElem?_eq_none (by omega)]; rfl
  · refine PL.q rfl rfl (OQ.move rfl) rfl ?_
    refine PL.q rfl rfl (OQ.yes (OQ.lss rfl rfl) (by simp only [decide_eq_true_eq]; omega)) rfl ?_
    refine PL.q rfl rfl (OQ.move rfl) rfl ?_
    refine PL.skip rfl rfl rfl ?_
    refine PL.skip rfl rfl rfl ?_
    refine PL.skip rfl rfl rfl ?_
    refine PL.skip rfl rfl rfl ?_
    refine PL.q rfl rfl ((by first | exact OQ.pickT rfl rfl | exact OQ.pickF rfl rfl)) rfl ?_
    refine PL.to ?_
    refine CD.condT rfl ?_
    refine CD.rs FW.wide rfl ?_
    refine PL.q rfl rfl (OQ.assign rfl) rfl ?_
    refine PL.q rfl rfl (OQ.assign rfl) rfl ?_
    refine PL.q rfl rfl (OQ.assign rfl) rfl ?_
    refine PL.to ?_
    refine CD.ret (post3 rfl rfl rfl rfl ⟨_, rfl, Ext.refl _, ?_⟩)
    rw [if_neg h0]; rfl

theorem fFrom_w (a : Option Addr) (c : Nat) (l : Ents ByteArray) (k : ByteArray) (w : World) (h : PA w a l) (hs : Srt lt l) (hn : l.length ≤ 1000000) (hc : l.length ≤ c) :
    Rt Try.prog 114 [.slice a l.length c, kv k] w fun x w' => ∃ a' c', x = .slice a' (upto lt k l).length c' ∧ PA w' a' (upto lt k l) ∧ (upto lt k l).length ≤ c' := by
  refine Rt.of Try.func114 rfl Try.ntmps114 (by rfl) ?_
  refine CD.rs FW.wide rfl ?_
  refine PL.q rfl rfl (OQ.assign rfl) rfl ?_
  refine PL.to ?_
  refine CD.rs FW.wide rfl ?_
  refine PL.q rfl rfl (OQ.move rfl) rfl ?_
  refine PL.q rfl rfl (OQ.move rfl) rfl ?_
  refine PL.call FW.wide rfl rfl rfl rfl (fFind_w a c l k w h hs hn) ?_
  rintro _ w1 hx1 rfl
  refine PL.q rfl rfl (OQ.move rfl) rfl ?_
  refine PL.q rfl rfl (OQ.extract rfl rfl) rfl ?_
  refine PL.q rfl rfl (OQ.extract rfl rfl) rfl ?_
  refine PL.q rfl rfl (OQ.assign rfl) rfl ?_
  refine PL.q rfl rfl (OQ.assign rfl) rfl ?_
  refine PL.to ?_
  have hle : (lows lt k l).length ≤ l.length := List.length_filter_le _ _
  have hu := upto_drop lo (k := k) hs
  refine CD.rs FW.wide rfl ?_
  refine PL.q rfl rfl (OQ.move rfl) rfl ?_
  refine PL.q rfl rfl (OQ.move rfl) rfl ?_
  refine PL.q rfl rfl (OQ.sliceLo rfl rfl hle hc) rfl ?_
  refine PL.q rfl rfl (OQ.assign rfl) rfl ?_
  refine PL.to ?_
  refine CD.ret (post1 rfl rfl ⟨_, rfl, hx1, (if c = (lows lt k l).length then a else a.map (·.add ((lows lt k l).length * 2))), c - (lows lt k l).length, ?_, ?_, ?_⟩)
  · rw [hu, List.length_drop]
  · rw [hu]; exact (h.ext hx1).drop _ c hle hc
  · rw [hu, List.length_drop]; omega

theorem fKeys_w (a : Option Addr) (c : Nat) (l : Ents ByteArray) (w : World) (h : PA w a l) (hn : l.length ≤ 1000000) :
    Rt Try.prog 86 [.slice a l.length c] w fun x w' => ∃ a' c', x = .slice a' l.length c' ∧ Cells w' a' (l.map fun e => kv e.1) := by
  refine Rt.of Try.func86 rfl Try.ntmps86 (by rfl) ?_
  refine CD.rs FW.wide rfl ?_
  refine PL.q rfl rfl (OQ.assign rfl) rfl ?_
  refine PL.to ?_
  refine CD.rs FW.wide rfl ?_
  refine PL.q rfl rfl (OQ.assign rfl) rfl ?_
  refine PL.to ?_
  refine CD.seq ?_
  refine CD.rs FW.wide rfl ?_
  refine PL.q rfl rfl (OQ.assign rfl) rfl ?_
  refine PL.to ?_
  refine CD.block ?_
  refine CD.loop (α := Nat × Value) (fun s => [(0, .slice a l.length c), (3, s.2), (4, .int .i64 s.1)]) (fun s w' => Ext w w' ∧ s.1 ≤ l.length ∧ Own w' w.heap.size 9 1 s.2 s.1 ((l.take s.1).map fun e => kv e.1)) (fun s => l.length - s.1) (0, .slice none 0 0) ⟨rfl, rfl, rfl, trivial⟩ ⟨Ext.refl _, by simp, World.ownsRow_nil _ _ _ _⟩ ?_
  rintro ⟨i, v⟩ w1 ⟨hx1, hi, ho⟩
  simp only at hi ho
  refine CD.seq ?_
  refine CD.rs FW.wide rfl ?_
  refine PL.q rfl rfl (OQ.move rfl) rfl ?_
  refine PL.q rfl rfl (OQ.move rfl) rfl ?_
  refine PL.q rfl rfl (OQ.lenS rfl) rfl ?_
  refine PL.q rfl rfl (OQ.lss rfl rfl) rfl ?_
  refine PL.to ?_
  refine CD.condD rfl (fun h3 => ?_) (fun h3 => ?_)
  · have hlt : i < l.length := by omega
    obtain ⟨b, o, rfl, hc, _⟩ := (h.ext hx1) i hlt
    have c0 : w1.cell? ⟨b, o + i * 2 + 0, none⟩ = some (kv l[i].1) := hc 0 _ rfl
    refine CD.skip ?_
    refine CD.seq ?_
    refine CD.block ?_
    refine CD.r FW.wide rfl ?_
    refine PL.q rfl rfl (OQ.move rfl) rfl ?_
    refine PL.q rfl rfl (OQ.move rfl) rfl ?_
    refine PL.q rfl rfl (OQ.move rfl) rfl ?_
    refine PL.q rfl rfl (OQ.indexAddr rfl rfl (by first | assumption | omega)) rfl ?_
    refine PL.q rfl rfl (OQ.field rfl) rfl ?_
    refine PL.q rfl rfl (OQ.loadS rfl (by assumption)) rfl ?_
    refine PL.slice1 FW.wide rfl rfl rfl rfl rfl rfl ?_
    intro b6 w6 new6
    have hs1 := hx1.size
    have hs6 := new6.ext.size
    refine PL.app [kv l[i].1] FW.wide rfl rfl rfl rfl rfl (ho.cext new6.ext.cext) (CellsAt.of_heap new6.heap) rfl rfl (by decide) (by omega) (by omega) (by omega) (fun _ _ => .inl trivial) ?_
    intro v' w7 ho7 hg7 _
    refine PL.q rfl rfl (OQ.assign rfl) rfl ?_
    refine PL.nil ?_
    refine CD.r FW.wide rfl ?_
    refine PL.q rfl rfl (OQ.move rfl) rfl ?_
    refine PL.q rfl rfl (OQ.addW (r := ((i + 1 : Nat) : Int)) rfl rfl (wrap_succ (by omega))) rfl ?_
    refine PL.q rfl rfl (OQ.assign rfl) rfl ?_
    refine PL.nil ?_
    have hx7 : Ext w w7 := (hx1.trans new6.ext).trans' (S := (· < w.heap.size)) (grown_bl hg7 fun k hk => ⟨by omega, fun e => by have := (World.ownsRow.lt ho k e).1; omega⟩) (fun _ h => h)
    refine fun a ha => ⟨(i + 1, v'), ha.sub ⟨rfl, rfl, rfl, trivial⟩, ⟨hx7, by simp only; omega, ?_⟩, by simp only; omega⟩
    rw [List.take_succ_eq_append_getElem hlt, List.map_append]
    exact ho7
  · refine CD.exit ?_
    obtain rfl : i = l.length := by omega
    rw [List.take_length] at ho
    obtain ⟨a', c', rfl, hc', _⟩ := ho.slc
    refine CD.rs FW.wide rfl ?_
    refine PL.q rfl rfl (OQ.move rfl) rfl ?_
    refine PL.q rfl rfl (OQ.assign rfl) rfl ?_
    refine PL.to ?_
    exact CD.ret (post1 rfl rfl ⟨_, rfl, hx1, a', c', rfl, hc'⟩)
end Go.Proofs.Ytdielcpjemkngaa.OS
