/-
  The walks of the document's tables (lists): Put, Drop, Join, Sift: keys: texts.
-/
import Derived.Test.YtdielcpjemkngaaRf1S
namespace Go.Proofs.Ytdielcpjemkngaa.OS
open Go.RowKit
set_option linter.unusedVariables false

/-- a list that the call has made -/
abbrev OA (w : World) (B : Nat) (v : Value) (l : Ents ByteArray) : Prop := Own w B 145 2 v l.length (l.flatMap pC)
theorem OA.nil (w : World) (B : Nat) : OA w B (.slice none 0 0) [] := World.ownsRow_nil _ _ _ _
theorem OA.snoc {w : World} {B : Nat} {v : Value} {l : Ents ByteArray} {e : ByteArray × Int} (h : Own w B 145 2 v (l.length + 1) (l.flatMap pC ++ pC e)) : OA w B v (l ++ [e]) := by
  have e1 : (l ++ [e]).flatMap pC = l.flatMap pC ++ pC e := by simp
  have e2 : (l ++ [e]).length = l.length + 1 := by simp
  rw [OA, e1, e2]; exact h
theorem OA.out {w : World} {B : Nat} {v : Value} {l : Ents ByteArray} (h : OA w B v l) : ∃ a c, v = .slice a l.length c ∧ PA w a l ∧ l.length ≤ c := by
  rcases h.form with ⟨rfl, h0⟩ | ⟨g, cap, rfl, _, _⟩
  · exact ⟨none, 0, by rw [h0], by rw [List.eq_nil_of_length_eq_zero h0]; exact ElT.nil, by omega⟩
  · exact ⟨_, _, rfl, h.elT length_pC rfl, h.cap⟩

theorem fDrop_w (a : Option Addr) (c : Nat) (l : Ents ByteArray) (k : ByteArray) (w : World) (h : PA w a l) (hn : l.length ≤ 1000000) :
    Rt Try.prog 107 [.slice a l.length c, kv k] w fun x w' => OA w' w.heap.size x (del lt k l) := by
  refine Rt.of Try.func107 rfl Try.ntmps107 (by rfl) ?_
  refine CD.rs FW.wide rfl ?_
  refine PL.q rfl rfl (OQ.assign rfl) rfl ?_
  refine PL.to ?_
  refine CD.rs FW.wide rfl ?_
  refine PL.q rfl rfl (OQ.assign rfl) rfl ?_
  refine PL.to ?_
  refine CD.seq ?_
  refine CD.rs FW.wide rfl ?_
  refine PL.q rfl rfl (OQ.assign rfl) rfl ?_
  refine PL.to ?_
  refine CD.block ?_
  refine CD.loop (α := Nat × Value) (fun s => [(0, .slice a l.length c), (1, kv k), (5, s.2), (6, .int .i64 s.1)]) (fun s w' => Ext w w' ∧ s.1 ≤ l.length ∧ OA w' w.heap.size s.2 (del lt k (l.take s.1))) (fun s => l.length - s.1) (0, .slice none 0 0) ⟨rfl, rfl, rfl, rfl, trivial⟩ ⟨Ext.refl _, by simp, OA.nil _ _⟩ ?_
  rintro ⟨i, v⟩ w1 ⟨hx1, hi, ho⟩
  simp only at hi ho
  refine CD.seq ?_
  refine CD.rs FW.wide rfl ?_
  refine PL.q rfl rfl (OQ.move rfl) rfl ?_
  refine PL.q rfl rfl (OQ.move rfl) rfl ?_
  refine PL.q rfl rfl (OQ.lenS rfl) rfl ?_
  refine PL.q rfl rfl (OQ.lss rfl rfl) rfl ?_
  refine PL.to ?_
  refine CD.condD rfl (fun h3 => ?_) (fun h3 => ?_)
  · have hlt : i < l.length := by omega
    obtain ⟨b, o, rfl, hc, _⟩ := (h.ext hx1) i hlt
    have c0 : w1.cell? ⟨b, o + i * 2 + 0, none⟩ = some (kv l[i].1) := hc 0 _ rfl
    have et : del lt k (l.take (i + 1)) = del lt k (l.take i) ++ (if lt l[i].1 k || lt k l[i].1 then [l[i]] else []) := by
      rw [List.take_succ_eq_append_getElem hlt, del, del, List.filter_append, List.filter_cons]; rfl
    have hlen : (del lt k (l.take i)).length ≤ i := Nat.le_trans (List.length_filter_le _ _) (by simp; omega)
    refine CD.skip ?_
    refine CD.seq ?_
    refine CD.block ?_
    refine CD.rs FW.wide rfl ?_
    refine PL.q rfl rfl (OQ.move rfl) rfl ?_
    refine PL.q rfl rfl (OQ.move rfl) rfl ?_
    refine PL.q rfl rfl (OQ.indexAddr rfl rfl (by first | assumption | omega)) rfl ?_
    refine PL.q rfl rfl (OQ.field rfl) rfl ?_
    refine PL.q rfl rfl (OQ.loadS rfl (by assumption)) rfl ?_
    refine PL.q rfl rfl (OQ.move rfl) rfl ?_
    refine PL.q rfl rfl (OQ.sneq rfl rfl) rfl ?_
    refine PL.to ?_
    refine CD.cond (b := ne l[i].1 k) rfl (fun h5 => ?_) (fun h5 => ?_)
    · rw [ne_eq] at h5
      rw [if_pos h5] at et
      refine CD.r FW.wide rfl ?_
      refine PL.q rfl rfl (OQ.move rfl) rfl ?_
      refine PL.q rfl rfl (OQ.move rfl) rfl ?_
      refine PL.q rfl rfl (OQ.move rfl) rfl ?_
      refine PL.q rfl rfl (OQ.indexAddr rfl rfl (by first | assumption | omega)) rfl ?_
      refine PL.q rfl rfl (OQ.loadAS (cs := pC l[i]) rfl rfl hc) rfl ?_
      refine PL.slice1 FW.wide rfl rfl rfl rfl rfl rfl ?_
      intro b5 w5 new5
      have hs1 := hx1.size
      have hs5 := new5.ext.size
      refine PL.app (pC l[i]) FW.wide rfl rfl rfl rfl rfl (ho.cext new5.ext.cext) (CellsAt.of_heap new5.heap) rfl rfl (by decide) (by omega) (by omega) (by omega) (fun _ _ => .inl trivial) ?_
      intro v' w7 ho7 hg7 _
      refine PL.q rfl rfl (OQ.assign rfl) rfl ?_
      refine PL.nil ?_
      refine CD.r FW.wide rfl ?_
      refine PL.q rfl rfl (OQ.move rfl) rfl ?_
      refine PL.q rfl rfl (OQ.addW (r := ((i + 1 : Nat) : Int)) rfl rfl (wrap_succ (by omega))) rfl ?_
      refine PL.q rfl rfl (OQ.assign rfl) rfl ?_
      refine PL.nil ?_
      have hx7 : Ext w w7 := (hx1.trans new5.ext).trans' (S := (· < w.heap.size)) (grown_bl hg7 fun k hk => ⟨by omega, fun e => by have := (World.ownsRow.lt ho k e).1; omega⟩) (fun _ h => h)
      exact fun a ha => ⟨(i + 1, v'), ha.sub ⟨rfl, rfl, rfl, rfl, trivial⟩, ⟨hx7, by simp only; omega, by simp only; rw [et]; exact OA.snoc ho7⟩, by simp only; omega⟩
    · rw [ne_eq] at h5
      rw [h5] at et
      simp only [Bool.false_eq_true, if_false, List.append_nil] at et
      refine CD.skip ?_
      refine CD.r FW.wide rfl ?_
      refine PL.q rfl rfl (OQ.move rfl) rfl ?_
      refine PL.q rfl rfl (OQ.addW (r := ((i + 1 : Nat) : Int)) rfl rfl (wrap_succ (by omega))) rfl ?_
      refine PL.q rfl rfl (OQ.assign rfl) rfl ?_
      refine PL.nil ?_
      exact fun a ha => ⟨(i + 1, v), ha.sub ⟨rfl, rfl, rfl, rfl, trivial⟩, ⟨hx1, by simp only; omega, by simp only; rw [et]; exact ho⟩, by simp only; omega⟩
  · refine CD.exit ?_
    obtain rfl : i = l.length := by omega
    rw [List.take_length] at ho
    refine CD.rs FW.wide rfl ?_
    refine PL.q rfl rfl (OQ.move rfl) rfl ?_
    refine PL.q rfl rfl (OQ.assign rfl) rfl ?_
    refine PL.to ?_
    exact CD.ret (post1 rfl rfl ⟨_, rfl, hx1, ho⟩)

theorem fSift_w (a a2 : Option Addr) (c c2 : Nat) (l l2 : Ents ByteArray) (has : Bool) (w : World) (h : PA w a l) (h2 : PA w a2 l2) (hs2 : Srt lt l2) (hn : l.length ≤ 1000000) (hn2 : l2.length ≤ 1000000) :
    Rt Try.prog 111 [.slice a l.length c, .slice a2 l2.length c2, .bool has] w fun x w' => OA w' w.heap.size x (l.filter fun e => (getL lt e.1 l2).isSome == has) := by
  refine Rt.of Try.func111 rfl Try.ntmps111 (by rfl) ?_
  refine CD.rs FW.wide rfl ?_
  refine PL.q rfl rfl (OQ.assign rfl) rfl ?_
  refine PL.to ?_
  refine CD.rs FW.wide rfl ?_
  refine PL.q rfl rfl (OQ.assign rfl) rfl ?_
  refine PL.to ?_
  refine CD.seq ?_
  refine CD.rs FW.wide rfl ?_
  refine PL.q rfl rfl (OQ.assign rfl) rfl ?_
  refine PL.to ?_
  refine CD.block ?_
  refine CD.loop (α := Nat × Value) (fun s => [(0, .slice a l.length c), (1, .slice a2 l2.length c2), (2, .bool has), (7, s.2), (8, .int .i64 s.1)]) (fun s w' => Ext w w' ∧ s.1 ≤ l.length ∧ OA w' w.heap.size s.2 ((l.take s.1).filter fun e => (getL lt e.1 l2).isSome == has)) (fun s => l.length - s.1) (0, .slice none 0 0) ⟨rfl, rfl, rfl, rfl, rfl, trivial⟩ ⟨Ext.refl _, by simp, OA.nil _ _⟩ ?_
  rintro ⟨i, v⟩ w1 ⟨hx1, hi, ho⟩
  simp only at hi ho
  refine CD.seq ?_
  refine CD.rs FW.wide rfl ?_
  refine PL.q rfl rfl (OQ.move rfl) rfl ?_
  refine PL.q rfl rfl (OQ.move rfl) rfl ?_
  refine PL.q rfl rfl (OQ.lenS rfl) rfl ?_
  refine PL.q rfl rfl (OQ.lss rfl rfl) rfl ?_
  refine PL.to ?_
  refine CD.condD rfl (fun h3 => ?_) (fun h3 => ?_)
  · have hlt : i < l.length := by omega
    obtain ⟨b, o, rfl, hc0, _⟩ := (h.ext hx1) i hlt
    have c0 : w1.cell? ⟨b, o + i * 2 + 0, none⟩ = some (kv l[i].1) := hc0 0 _ rfl
    have et : (l.take (i + 1)).filter (fun e => (getL lt e.1 l2).isSome == has) = (l.take i).filter (fun e => (getL lt e.1 l2).isSome == has) ++ (if (getL lt l[i].1 l2).isSome == has then [l[i]] else []) := by
      rw [List.take_succ_eq_append_getElem hlt, List.filter_append, List.filter_cons]; rfl
    have hlen : ((l.take i).filter (fun e => (getL lt e.1 l2).isSome == has)).length ≤ i := Nat.le_trans (List.length_filter_le _ _) (by simp; omega)
    refine CD.skip ?_
    refine CD.seq ?_
    refine CD.block ?_
    refine CD.rs FW.wide rfl ?_
    refine PL.q rfl rfl (OQ.move rfl) rfl ?_
    refine PL.q rfl rfl (OQ.move rfl) rfl ?_
    refine PL.q rfl rfl (OQ.move rfl) rfl ?_
    refine PL.q rfl rfl (OQ.indexAddr rfl rfl (by first | assumption | omega)) rfl ?_
    refine PL.q rfl rfl (OQ.field rfl) rfl ?_
    refine PL.q rfl rfl (OQ.loadS rfl (by assumption)) rfl ?_
    refine PL.call FW.wide rfl rfl rfl rfl (fFind_w a2 c2 l2 l[i].1 w1 (h2.ext hx1) hs2 hn2) ?_
    rintro _ w2 hx2 rfl
    have hc := hc0.ext hx2
    refine PL.q rfl rfl (OQ.move rfl) rfl ?_
    refine PL.q rfl rfl (OQ.extract rfl rfl) rfl ?_
    refine PL.q rfl rfl (OQ.extract rfl rfl) rfl ?_
    refine PL.q rfl rfl (OQ.assign rfl) rfl ?_
    refine PL.q rfl rfl (OQ.assign rfl) rfl ?_
    refine PL.to ?_
    refine CD.rs FW.wide rfl ?_
    refine PL.q rfl rfl (OQ.move rfl) rfl ?_
    refine PL.q rfl rfl (OQ.move rfl) rfl ?_
    refine PL.q rfl rfl (OQ.beq rfl rfl) rfl ?_
    refine PL.to ?_
    refine CD.cond (b := (getL lt l[i].1 l2).isSome == has) rfl (fun h5 => ?_) (fun h5 => ?_)
    · rw [if_pos h5] at et
      refine CD.r FW.wide rfl ?_
      refine PL.q rfl rfl (OQ.move rfl) rfl ?_
      refine PL.q rfl rfl (OQ.move rfl) rfl ?_
      refine PL.q rfl rfl (OQ.move rfl) rfl ?_
      refine PL.q rfl rfl (OQ.indexAddr rfl rfl (by first | assumption | omega)) rfl ?_
      refine PL.q rfl rfl (OQ.loadAS (cs := pC l[i]) rfl rfl hc) rfl ?_
      refine PL.slice1 FW.wide rfl rfl rfl rfl rfl rfl ?_
      intro b5 w5 new5
      have hs1 := (hx1.trans hx2).size
      have hs5 := new5.ext.size
      refine PL.app (pC l[i]) FW.wide rfl rfl rfl rfl rfl ((ho.cext hx2.cext).cext new5.ext.cext) (CellsAt.of_heap new5.heap) rfl rfl (by decide) (by omega) (by omega) (by omega) (fun _ _ => .inl trivial) ?_
      intro v' w7 ho7 hg7 _
      refine PL.q rfl rfl (OQ.assign rfl) rfl ?_
      refine PL.nil ?_
      refine CD.r FW.wide rfl ?_
      refine PL.q rfl rfl (OQ.move rfl) rfl ?_
      refine PL.q rfl rfl (OQ.addW (r := ((i + 1 : Nat) : Int)) rfl rfl (wrap_succ (by omega))) rfl ?_
      refine PL.q rfl rfl (OQ.assign rfl) rfl ?_
      refine PL.nil ?_
      have hx7 : Ext w w7 := ((hx1.trans hx2).trans new5.ext).trans' (S := (· < w.heap.size)) (grown_bl hg7 fun k hk => ⟨by omega, fun e => by have := (World.ownsRow.lt ho k e).1; omega⟩) (fun _ h => h)
      exact fun a ha => ⟨(i + 1, v'), ha.sub ⟨rfl, rfl, rfl, rfl, rfl, trivial⟩, ⟨hx7, by simp only; omega, by simp only; rw [et]; exact OA.snoc ho7⟩, by simp only; omega⟩
    · rw [h5] at et
      simp only [Bool.false_eq_true, if_false, List.append_nil] at et
      refine CD.skip ?_
      refine CD.r FW.wide rfl ?_
      refine PL.q rfl rfl (OQ.move rfl) rfl ?_
      refine PL.q rfl rfl (OQ.addW (r := ((i + 1 : Nat) : Int)) rfl rfl (wrap_succ (by omega))) rfl ?_
      refine PL.q rfl rfl (OQ.assign rfl) rfl ?_
      refine PL.nil ?_
      exact fun a ha => ⟨(i + 1, v), ha.sub ⟨rfl, rfl, rfl, rfl, rfl, trivial⟩, ⟨hx1.trans hx2, by simp only; omega, by simp only; rw [et]; exact ho.cext hx2.cext⟩, by simp only; omega⟩
  · refine CD.exit ?_
    obtain rfl : i = l.length := by omega
    rw [List.take_length] at ho
    refine CD.rs FW.wide rfl ?_
    refine PL.q rfl rfl (OQ.move rfl) rfl ?_
    refine PL.q rfl rfl (OQ.assign rfl) rfl ?_
    refine PL.to ?_
    exact CD.ret (post1 rfl rfl ⟨_, rfl, hx1, ho⟩)
end Go.Proofs.Ytdielcpjemkngaa.OS
