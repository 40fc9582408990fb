/-
  The walk of the laws' helper step: keys: texts.
-/
import Derived.Test.YtdielcpjemkngaaPl3S
import Derived.Test.YtdielcpjemkngaaOr6S
namespace Go.Proofs.Ytdielcpjemkngaa.OS
open Go.RowKit
set_option linter.unusedVariables false

abbrev KsAt (w : World) (a : Option Addr) (z : List ByteArray) : Prop := Cells w a (z.map kv)
theorem same_w (a a' : Option Addr) (c c' : Nat) (z : List ByteArray) (w : World) (h : KsAt w a z) (h' : KsAt w a' z) (hs : z.length ≤ 4611686018427387903) :
    Rt Try.prog 84 [.slice a z.length c, .slice a' z.length c'] w fun v _ => v = .bool true := by
  refine Rt.of Try.func84 rfl Try.ntmps84 (by rfl) ?_
  refine CD.rs FW.wide rfl ?_
  refine PL.q rfl rfl (OQ.assign rfl) rfl ?_
  refine PL.to ?_
  refine CD.seq ?_
  refine CD.rs FW.wide rfl ?_
  refine PL.q rfl rfl (OQ.move rfl) rfl ?_
  refine PL.q rfl rfl (OQ.lenS rfl) rfl ?_
  refine PL.q rfl rfl (OQ.move rfl) rfl ?_
  refine PL.q rfl rfl (OQ.lenS rfl) rfl ?_
  refine PL.q rfl rfl (OQ.no (OQ.neq rfl rfl) (by simp)) rfl ?_
  refine PL.to ?_
  refine CD.condF rfl ?_
  refine CD.skip ?_
  refine CD.seq ?_
  refine CD.rs FW.wide rfl ?_
  refine PL.q rfl rfl (OQ.assign rfl) rfl ?_
  refine PL.to ?_
  refine CD.block ?_
  refine CD.loop (α := Nat) (fun s => [(0, .slice a z.length c), (1, .slice a' z.length c'), (5, .int .i64 s)]) (fun s w' => Ext w w' ∧ s ≤ z.length) (fun s => z.length - s) 0 ⟨rfl, rfl, rfl, trivial⟩ ⟨Ext.refl _, by simp⟩ ?_
  rintro i w1 ⟨hx1, hi⟩
  refine CD.seq ?_
  refine CD.rs FW.wide rfl ?_
  refine PL.q rfl rfl (OQ.move rfl) rfl ?_
  refine PL.q rfl rfl (OQ.move rfl) rfl ?_
  refine PL.q rfl rfl (OQ.lenS rfl) rfl ?_
  refine PL.q rfl rfl (OQ.lss rfl rfl) rfl ?_
  refine PL.to ?_
  refine CD.condD rfl (fun h4 => ?_) (fun h4 => ?_)
  · have hi1 : i < z.length := by omega
    refine CD.skip ?_
    refine CD.seq ?_
    refine CD.block ?_
    refine CD.as .ext trivial FW.wide (by kernel_rfl) [(0, true), (1, true), (2, true), (3, true), (4, true), (5, true), (6, true), (7, true), (8, true)] (by kernel_rfl) rfl (by kernel_rfl) ?_
    intro w2 hx2 _
    obtain ⟨b, o, rfl, hc⟩ := (h.ext (hx1.trans hx2)) i (kv z[i]) (by simp [hi1])
    obtain ⟨b', o', rfl, hc'⟩ := (h'.ext (hx1.trans hx2)) i (kv z[i]) (by simp [hi1])
    refine PL.q rfl rfl (OQ.move rfl) rfl ?_
    refine PL.q rfl rfl (OQ.move rfl) rfl ?_
    refine PL.q rfl rfl (OQ.indexAddr rfl rfl (by first | assumption | omega)) rfl ?_
    refine PL.q rfl rfl (OQ.loadX rfl (by assumption)) rfl ?_
    refine PL.q rfl rfl (OQ.move rfl) rfl ?_
    refine PL.q rfl rfl (OQ.move rfl) rfl ?_
    refine PL.q rfl rfl (OQ.indexAddr rfl rfl (by first | assumption | omega)) rfl ?_
    refine PL.q rfl rfl (OQ.loadX rfl (by assumption)) rfl ?_
    refine PL.q rfl rfl (OQ.cast (OQ.sneq rfl rfl) ((show _ = Value.bool false by simp))) rfl ?_
    refine PL.to ?_
    refine CD.condF rfl ?_
    refine CD.skip ?_
    refine CD.r FW.wide rfl ?_
    refine PL.q rfl rfl (OQ.move rfl) rfl ?_
    refine PL.q rfl rfl (OQ.addW (r := ((i + 1 : Nat) : Int)) rfl rfl (wrap_succ (by omega))) rfl ?_
    refine PL.q rfl rfl (OQ.assign rfl) rfl ?_
    refine PL.nil ?_
    exact fun a ha => ⟨i + 1, ha.sub ⟨rfl, rfl, rfl, trivial⟩, ⟨hx1.trans hx2, by omega⟩, by omega⟩
  · refine CD.exit ?_
    refine CD.rs FW.wide rfl ?_
    refine PL.q rfl rfl (OQ.assign rfl) rfl ?_
    refine PL.to ?_
    exact CD.ret (post1 rfl rfl ⟨_, rfl, hx1, rfl⟩)

theorem step_w (B bI : Nat) (Ks : List ByteArray) (vs : List Ver) (o : Op6) (w : World) (hw : WI w B bI Ks vs) (h1 : 1 ≤ vs.length) (hn : vs.length ≤ 5000) (hK : Ks.length ≤ 5000) (hok : OpOk o) (hB : B ≤ w.heap.size) :
    Rg Try.prog 63 [.pointer (some ⟨bI, 0, none⟩), .agg (opC o).toArray] w fun x w' => x = .bool true ∧ Bl (· < B) w w' ∧ KW w w' ∧
      (((1 ≤ o.kind ∧ o.kind ≤ 5) ∧ ∃ nv, WI w' B bI (keyO o :: Ks) (vs ++ [nv])) ∨ (¬ (1 ≤ o.kind ∧ o.kind ≤ 5) ∧ WI w' B bI Ks vs)) := by
  refine Rg.of Try.func63 rfl Try.ntmps63 (by rfl) ?_
  refine CD.rs FW.wide rfl ?_
  refine PL.box FW.wide rfl rfl rfl rfl ?_
  intro b3 w3 new3
  refine PL.q rfl rfl (OQ.assign rfl) rfl ?_
  have hh3 : w3.heap[b3]? = some (.cells (opC o).toArray 54 (0, 0)) := new3.heap
  refine PL.to ?_
  refine CD.as .ext trivial FW.wide (by kernel_rfl) [(0, true), (1, true), (2, true), (3, true), (4, true), (5, true), (6, true), (7, false), (8, true)] (by kernel_rfl) rfl (by kernel_rfl) ?_
  intro w1 hx1 _
  have hx01 : Ext w w1 := new3.ext.trans hx1
  have hh31 := hx1.heap hh3
  have p1 : w1.cell? ⟨b3, 1, none⟩ = some (.int .i64 o.on) := cell_of_heap hh31 rfl
  have p0 : w1.cell? ⟨b3, 0, none⟩ = some (.int .i64 o.kind) := cell_of_heap hh31 rfl
  have pa : w1.cell? ⟨b3, 3, none⟩ = some (.int .i64 o.a) := cell_of_heap hh31 rfl
  have pk := key_cell hh31
  have hw1 := hw.ext hx01
  have hw1' := hw1
  obtain ⟨am, cm, ar, cr, hh, hBb, om, or', hvs⟩ := hw1'
  have d0 : w1.cell? ⟨bI, 0, none⟩ = some (.slice am vs.length cm) := cell_of_heap hh rfl
  have d1 : w1.cell? ⟨bI, 1, none⟩ = some (.slice ar vs.length cr) := cell_of_heap hh rfl
  have quiet : ∀ W, Ext w1 W → Bl (· < B) w W ∧ KW w W ∧ WI W B bI Ks vs := fun W hx => ⟨(hx01.trans hx).bl fun k hk => by omega, KW.ext (hx01.trans hx), hw1.ext hx⟩
  refine PL.q rfl rfl ((by first | exact OQ.field0 rfl | exact OQ.field rfl)) rfl ?_
  refine PL.q rfl rfl (OQ.loadX rfl (by assumption)) rfl ?_
  refine PL.q rfl rfl (OQ.move rfl) rfl ?_
  refine PL.q rfl rfl ((by first | exact OQ.nilp rfl | exact OQ.nily rfl | exact OQ.nilf rfl)) rfl ?_
  refine PL.q rfl rfl ((by first | exact OQ.field0 rfl | exact OQ.field rfl)) rfl ?_
  refine PL.q rfl rfl (OQ.loadX rfl (by assumption)) rfl ?_
  refine PL.q rfl rfl (OQ.lenS rfl) rfl ?_
  refine PL.call FW.wide rfl rfl rfl rfl (within_w o.on vs.length w1 (by omega) (by omega) hok.1) ?_
  rintro _ _ _ ⟨rfl, rfl⟩
  have hj := within_lt o.on (n := vs.length) (by omega)
  generalize within o.on vs.length = j at *
  refine PL.q rfl rfl (OQ.assign rfl) rfl ?_
  obtain ⟨g, rfl, hcm⟩ := om.atN (f := verM) (fun _ => rfl) rfl j hj
  obtain ⟨f, rfl, hcr⟩ := or'.atN (f := verR) (fun _ => rfl) rfl j hj
  have hvj := hvs _ (List.getElem_mem hj)
  have cM : w1.cell? ⟨g, 0 + j * 1, none⟩ = some (ptr vs[j].m) := hcm 0 _ rfl
  have cR : w1.cell? ⟨f, 0 + j * 1, none⟩ = some (.slice vs[j].a vs[j].t.toL.length vs[j].c) := hcr 0 _ rfl
  have lj := hvj.len
  generalize vs[j] = vj at *
  obtain ⟨mj, tj, aj, cj⟩ := vj
  have hF : Fits Ks tj := hvj.2.1
  have hM : MapAt w1 mj tj := hvj.1
  have hP : PA w1 aj tj.toL := hvj.2.2.1
  have lj' : tj.toL.length ≤ Ks.length := lj
  have zj := Tr.length_toL tj
  refine PL.to ?_
  refine CD.rs FW.wide rfl ?_
  refine PL.q rfl rfl (OQ.move rfl) rfl ?_
  refine PL.q rfl rfl ((by first | exact OQ.nilp rfl | exact OQ.nily rfl | exact OQ.nilf rfl)) rfl ?_
  refine PL.q rfl rfl ((by first | exact OQ.field0 rfl | exact OQ.field rfl)) rfl ?_
  refine PL.q rfl rfl (OQ.loadS rfl (by assumption)) rfl ?_
  refine PL.q rfl rfl (OQ.move rfl) rfl ?_
  refine PL.q rfl rfl (OQ.indexAddr rfl rfl (by first | assumption | omega)) rfl ?_
  refine PL.q rfl rfl (OQ.loadS rfl (by assumption)) rfl ?_
  refine PL.q rfl rfl (OQ.assign rfl) rfl ?_
  refine PL.to ?_
  refine CD.rs FW.wide rfl ?_
  refine PL.q rfl rfl (OQ.move rfl) rfl ?_
  refine PL.q rfl rfl ((by first | exact OQ.nilp rfl | exact OQ.nily rfl | exact OQ.nilf rfl)) rfl ?_
  refine PL.q rfl rfl ((by first | exact OQ.field0 rfl | exact OQ.field rfl)) rfl ?_
  refine PL.q rfl rfl (OQ.loadS rfl (by assumption)) rfl ?_
  refine PL.q rfl rfl (OQ.move rfl) rfl ?_
  refine PL.q rfl rfl (OQ.indexAddr rfl rfl (by first | assumption | omega)) rfl ?_
  refine PL.q rfl rfl (OQ.loadS rfl (by assumption)) rfl ?_
  refine PL.q rfl rfl (OQ.assign rfl) rfl ?_
  refine PL.to ?_
  refine CD.seq ?_
  refine CD.rs FW.wide rfl ?_
  refine PL.q rfl rfl ((by first | exact OQ.field0 rfl | exact OQ.field rfl)) rfl ?_
  refine PL.q rfl rfl (OQ.loadS rfl (by assumption)) rfl ?_
  refine PL.to ?_
  refine CD.block ?_
  refine CD.cut (α := Bool) (fun r => [(0, .pointer (some ⟨bI, 0, none⟩)), (3, .pointer (some ⟨b3, 0, none⟩)), (5, .int .i64 j), (6, ptr mj), (7, .slice aj tj.toL.length cj), (45, .int .i64 o.kind), (46, .bool r)]) (fun r w' => w1 = w' ∧ r = decide (1 ≤ o.kind ∧ o.kind ≤ 5)) ?_ ?_
  · have yes : o.kind = 1 ∨ o.kind = 2 ∨ o.kind = 3 ∨ o.kind = 4 → true = decide (1 ≤ o.kind ∧ o.kind ≤ 5) := fun h => by rw [eq_comm, decide_eq_true_eq]; omega
    refine CD.rs FW.wide rfl ?_
    refine PL.q rfl rfl (OQ.eql rfl rfl) rfl ?_
    refine PL.q rfl rfl (OQ.assign rfl) rfl ?_
    refine PL.to ?_
    refine CD.condD rfl (fun h5 => ?_) (fun h5 => ?_)
    · rw [decide_eq_true h5]
      exact CD.skip fun a ha => ⟨true, ha.sub ⟨rfl, rfl, rfl, rfl, rfl, rfl, rfl, trivial⟩, rfl, yes (by omega)⟩
    refine CD.rs FW.wide rfl ?_
    refine PL.q rfl rfl (OQ.eql rfl rfl) rfl ?_
    refine PL.q rfl rfl (OQ.assign rfl) rfl ?_
    refine PL.to ?_
    refine CD.condD rfl (fun h6 => ?_) (fun h6 => ?_)
    · rw [decide_eq_true h6]
      exact CD.skip fun a ha => ⟨true, ha.sub ⟨rfl, rfl, rfl, rfl, rfl, rfl, rfl, trivial⟩, rfl, yes (by omega)⟩
    refine CD.rs FW.wide rfl ?_
    refine PL.q rfl rfl (OQ.eql rfl rfl) rfl ?_
    refine PL.q rfl rfl (OQ.assign rfl) rfl ?_
    refine PL.to ?_
    refine CD.condD rfl (fun h7 => ?_) (fun h7 => ?_)
    · rw [decide_eq_true h7]
      exact CD.skip fun a ha => ⟨true, ha.sub ⟨rfl, rfl, rfl, rfl, rfl, rfl, rfl, trivial⟩, rfl, yes (by omega)⟩
    refine CD.rs FW.wide rfl ?_
    refine PL.q rfl rfl (OQ.eql rfl rfl) rfl ?_
    refine PL.q rfl rfl (OQ.assign rfl) rfl ?_
    refine PL.to ?_
    refine CD.condD rfl (fun h8 => ?_) (fun h8 => ?_)
    · rw [decide_eq_true h8]
      exact CD.skip fun a ha => ⟨true, ha.sub ⟨rfl, rfl, rfl, rfl, rfl, rfl, rfl, trivial⟩, rfl, yes (by omega)⟩
    refine CD.r FW.wide rfl ?_
    refine PL.q rfl rfl (OQ.eql rfl rfl) rfl ?_
    refine PL.q rfl rfl (OQ.assign rfl) rfl ?_
    exact PL.nil fun a ha => ⟨decide (o.kind = 5), ha.sub ⟨rfl, rfl, rfl, rfl, rfl, rfl, rfl, trivial⟩, rfl, by rw [decide_eq_decide]; omega⟩
  rintro r _ ⟨rfl, hr⟩
  refine CD.cond (b := r) rfl (fun h46 => ?_) (fun h46 => ?_)
  · rw [h46, eq_comm, decide_eq_true_eq] at hr
    refine CD.rs FW.wide rfl ?_
    refine PL.q rfl rfl (OQ.move rfl) rfl ?_
    refine PL.q rfl rfl (OQ.loadH (cs := opC o) rfl rfl trivial hh31) rfl ?_
    have sw1 := hx01.size
    refine PL.callG FW.wide rfl rfl rfl rfl (makes_w B bI Ks vs o w1 hw1 h1 hn hK hok (by omega)) (fun _ _ _ => trivial) ?_
    rintro _ w2 ⟨rfl, hbl, hkw, hwi⟩
    refine PL.q rfl rfl (OQ.assign rfl) rfl ?_
    refine PL.to ?_
    exact CD.ret (post1 rfl rfl ⟨_, rfl, rfl, (hx01.bl fun k hk => by omega).trans hbl, (KW.ext hx01).trans hkw, .inl ⟨hr, hwi⟩⟩)
  · rw [h46, eq_comm, decide_eq_false_iff_not] at hr
    refine CD.rs FW.wide rfl ?_
    refine PL.q rfl rfl (OQ.eql rfl rfl) rfl ?_
    refine PL.q rfl rfl (OQ.assign rfl) rfl ?_
    refine PL.to ?_
    refine CD.condD rfl (fun h11 => ?_) (fun h11 => ?_)
    · refine CD.rs FW.wide rfl ?_
      refine PL.q rfl rfl (OQ.move rfl) rfl ?_
      refine PL.q rfl rfl ((by first | exact OQ.field0 rfl | exact OQ.field rfl)) rfl ?_
      refine PL.q rfl rfl (OQ.loadS rfl (by assumption)) rfl ?_
      refine PL.call FW.wide rfl rfl rfl rfl (Get_w mj (keyO o) tj w1 hM) ?_
      rintro _ _ _ ⟨rfl, rfl⟩
      rw [find_eq _ _ hF.1]
      refine PL.q rfl rfl (OQ.move rfl) rfl ?_
      refine PL.q rfl rfl (OQ.extract rfl rfl) rfl ?_
      refine PL.q rfl rfl (OQ.extract rfl rfl) rfl ?_
      refine PL.q rfl rfl (OQ.assign rfl) rfl ?_
      refine PL.q rfl rfl (OQ.assign rfl) rfl ?_
      refine PL.to ?_
      refine CD.rs FW.wide rfl ?_
      refine PL.q rfl rfl (OQ.move rfl) rfl ?_
      refine PL.q rfl rfl ((by first | exact OQ.field0 rfl | exact OQ.field rfl)) rfl ?_
      refine PL.q rfl rfl (OQ.loadS rfl (by assumption)) rfl ?_
      refine PL.call FW.wide rfl rfl rfl rfl (fGet_w aj cj tj.toL (keyO o) w1 hP hF.1 (by omega)) ?_
      rintro _ w2 hx2 rfl
      refine PL.q rfl rfl (OQ.move rfl) rfl ?_
      refine PL.q rfl rfl (OQ.extract rfl rfl) rfl ?_
      refine PL.q rfl rfl (OQ.extract rfl rfl) rfl ?_
      refine PL.q rfl rfl (OQ.assign rfl) rfl ?_
      refine PL.q rfl rfl (OQ.assign rfl) rfl ?_
      refine PL.to ?_
      refine CD.rs FW.wide rfl ?_
      refine PL.q rfl rfl (OQ.move rfl) rfl ?_
      refine PL.q rfl rfl (OQ.move rfl) rfl ?_
      refine PL.q rfl rfl (OQ.yes (OQ.eql rfl rfl) (by simp)) rfl ?_
      refine PL.q rfl rfl (OQ.move rfl) rfl ?_
      refine PL.q rfl rfl (OQ.move rfl) rfl ?_
      refine PL.q rfl rfl (OQ.move rfl) rfl ?_
      refine PL.q rfl rfl (OQ.yes (OQ.beq rfl rfl) (by simp)) rfl ?_
      refine PL.q rfl rfl ((by first | exact OQ.pickT rfl rfl | exact OQ.pickF rfl rfl)) rfl ?_
      refine PL.q rfl rfl (OQ.assign rfl) rfl ?_
      refine PL.to ?_
      have ⟨q1, q2, q3⟩ := quiet w2 hx2
      exact CD.ret (post1 rfl rfl ⟨_, rfl, rfl, q1, q2, .inr ⟨hr, q3⟩⟩)
    refine CD.rs FW.wide rfl ?_
    refine PL.q rfl rfl (OQ.eql rfl rfl) rfl ?_
    refine PL.q rfl rfl (OQ.assign rfl) rfl ?_
    refine PL.to ?_
    refine CD.condD rfl (fun h15 => ?_) (fun h15 => ?_)
    · refine CD.rs FW.wide rfl ?_
      refine PL.q rfl rfl (OQ.move rfl) rfl ?_
      refine PL.call FW.wide rfl rfl rfl rfl (Len_w mj tj w1 hM) ?_
      rintro _ _ _ ⟨rfl, rfl⟩
      refine PL.q rfl rfl (OQ.move rfl) rfl ?_
      refine PL.q rfl rfl (OQ.lenS rfl) rfl ?_
      refine PL.q rfl rfl (OQ.yes (OQ.eql rfl rfl) (by simp only [decide_eq_true_eq]; omega)) rfl ?_
      refine PL.q rfl rfl (OQ.assign rfl) rfl ?_
      refine PL.to ?_
      have ⟨q1, q2, q3⟩ := quiet w1 (Ext.refl _)
      exact CD.ret (post1 rfl rfl ⟨_, rfl, rfl, q1, q2, .inr ⟨hr, q3⟩⟩)
    refine CD.rs FW.wide rfl ?_
    refine PL.q rfl rfl (OQ.eql rfl rfl) rfl ?_
    refine PL.q rfl rfl (OQ.assign rfl) rfl ?_
    refine PL.to ?_
    refine CD.condD rfl (fun h17 => ?_) (fun h17 => ?_)
    · refine CD.rs FW.wide rfl ?_
      refine PL.q rfl rfl (OQ.move rfl) rfl ?_
      refine PL.q rfl rfl ((by first | exact OQ.field0 rfl | exact OQ.field rfl)) rfl ?_
      refine PL.q rfl rfl (OQ.loadS rfl (by assumption)) rfl ?_
      refine PL.call FW.wide rfl rfl rfl rfl (At_w mj o.a tj w1 hM (by omega) hok.2.2.1.1 hok.2.2.1.2) ?_
      rintro _ w2 hx2 rfl
      rw [atT_eq]
      have pa2 := hx2.cell pa
      have fin := fAt_w aj cj tj.toL o.a w2 (hP.ext hx2) (by omega)
      generalize (if 0 ≤ o.a then tj.toL[o.a.toNat]? else none) = X at *
      cases X with
      | none =>
        refine PL.q rfl rfl (OQ.move rfl) rfl ?_
        refine PL.q rfl rfl (OQ.extract rfl rfl) rfl ?_
        refine PL.q rfl rfl (OQ.extract rfl rfl) rfl ?_
        refine PL.q rfl rfl (OQ.extract rfl rfl) rfl ?_
        refine PL.q rfl rfl (OQ.assign rfl) rfl ?_
        refine PL.q rfl rfl (OQ.assign rfl) rfl ?_
        refine PL.q rfl rfl (OQ.assign rfl) rfl ?_
        refine PL.to ?_
        refine CD.rs FW.wide rfl ?_
        refine PL.q rfl rfl (OQ.move rfl) rfl ?_
        refine PL.q rfl rfl ((by first | exact OQ.field0 rfl | exact OQ.field rfl)) rfl ?_
        refine PL.q rfl rfl (OQ.loadS rfl (by assumption)) rfl ?_
        refine PL.call FW.wide rfl rfl rfl rfl fin ?_
        rintro _ w4 hx4 rfl
        refine PL.q rfl rfl (OQ.move rfl) rfl ?_
        refine PL.q rfl rfl (OQ.extract rfl rfl) rfl ?_
        refine PL.q rfl rfl (OQ.extract rfl rfl) rfl ?_
        refine PL.q rfl rfl (OQ.extract rfl rfl) rfl ?_
        refine PL.q rfl rfl (OQ.assign rfl) rfl ?_
        refine PL.q rfl rfl (OQ.assign rfl) rfl ?_
        refine PL.q rfl rfl (OQ.assign rfl) rfl ?_
        refine PL.to ?_
        refine CD.rs FW.wide rfl ?_
        refine PL.q rfl rfl (OQ.move rfl) rfl ?_
        refine PL.q rfl rfl (OQ.move rfl) rfl ?_
        refine PL.q rfl rfl (OQ.cast (OQ.seql rfl rfl) ((show _ = Value.bool true by simp))) rfl ?_
        refine PL.q rfl rfl (OQ.move rfl) rfl ?_
        refine PL.q rfl rfl (OQ.move rfl) rfl ?_
        refine PL.q rfl rfl (OQ.move rfl) rfl ?_
        refine PL.q rfl rfl (OQ.yes (OQ.eql rfl rfl) (by simp)) rfl ?_
        refine PL.q rfl rfl ((by first | exact OQ.pickT rfl rfl | exact OQ.pickF rfl rfl)) rfl ?_
        refine PL.q rfl rfl (OQ.move rfl) rfl ?_
        refine PL.q rfl rfl (OQ.move rfl) rfl ?_
        refine PL.q rfl rfl (OQ.move rfl) rfl ?_
        refine PL.q rfl rfl (OQ.yes (OQ.beq rfl rfl) (by simp)) rfl ?_
        refine PL.q rfl rfl ((by first | exact OQ.pickT rfl rfl | exact OQ.pickF rfl rfl)) rfl ?_
        refine PL.q rfl rfl (OQ.assign rfl) rfl ?_
        refine PL.to ?_
        have ⟨q1, q2, q3⟩ := quiet w4 (hx2.trans hx4)
        exact CD.ret (post1 rfl rfl ⟨_, rfl, rfl, q1, q2, .inr ⟨hr, q3⟩⟩)
      | some x =>
        obtain ⟨k, v⟩ := x
        refine PL.q rfl rfl (OQ.move rfl) rfl ?_
        refine PL.q rfl rfl (OQ.extract rfl rfl) rfl ?_
        refine PL.q rfl rfl (OQ.extract rfl rfl) rfl ?_
        refine PL.q rfl rfl (OQ.extract rfl rfl) rfl ?_
        refine PL.q rfl rfl (OQ.assign rfl) rfl ?_
        refine PL.q rfl rfl (OQ.assign rfl) rfl ?_
        refine PL.q rfl rfl (OQ.assign rfl) rfl ?_
        refine PL.to ?_
        refine CD.rs FW.wide rfl ?_
        refine PL.q rfl rfl (OQ.move rfl) rfl ?_
        refine PL.q rfl rfl ((by first | exact OQ.field0 rfl | exact OQ.field rfl)) rfl ?_
        refine PL.q rfl rfl (OQ.loadS rfl (by assumption)) rfl ?_
        refine PL.call FW.wide rfl rfl rfl rfl fin ?_
        rintro _ w4 hx4 rfl
        refine PL.q rfl rfl (OQ.move rfl) rfl ?_
        refine PL.q rfl rfl (OQ.extract rfl rfl) rfl ?_
        refine PL.q rfl rfl (OQ.extract rfl rfl) rfl ?_
        refine PL.q rfl rfl (OQ.extract rfl rfl) rfl ?_
        refine PL.q rfl rfl (OQ.assign rfl) rfl ?_
        refine PL.q rfl rfl (OQ.assign rfl) rfl ?_
        refine PL.q rfl rfl (OQ.assign rfl) rfl ?_
        refine PL.to ?_
        refine CD.rs FW.wide rfl ?_
        refine PL.q rfl rfl (OQ.move rfl) rfl ?_
        refine PL.q rfl rfl (OQ.move rfl) rfl ?_
        refine PL.q rfl rfl (OQ.cast (OQ.seql rfl rfl) ((show _ = Value.bool true by simp))) rfl ?_
        refine PL.q rfl rfl (OQ.move rfl) rfl ?_
        refine PL.q rfl rfl (OQ.move rfl) rfl ?_
        refine PL.q rfl rfl (OQ.move rfl) rfl ?_
        refine PL.q rfl rfl (OQ.yes (OQ.eql rfl rfl) (by simp)) rfl ?_
        refine PL.q rfl rfl ((by first | exact OQ.pickT rfl rfl | exact OQ.pickF rfl rfl)) rfl ?_
        refine PL.q rfl rfl (OQ.move rfl) rfl ?_
        refine PL.q rfl rfl (OQ.move rfl) rfl ?_
        refine PL.q rfl rfl (OQ.move rfl) rfl ?_
        refine PL.q rfl rfl (OQ.yes (OQ.beq rfl rfl) (by simp)) rfl ?_
        refine PL.q rfl rfl ((by first | exact OQ.pickT rfl rfl | exact OQ.pickF rfl rfl)) rfl ?_
        refine PL.q rfl rfl (OQ.assign rfl) rfl ?_
        refine PL.to ?_
        have ⟨q1, q2, q3⟩ := quiet w4 (hx2.trans hx4)
        exact CD.ret (post1 rfl rfl ⟨_, rfl, rfl, q1, q2, .inr ⟨hr, q3⟩⟩)
    refine CD.rs FW.wide rfl ?_
    refine PL.q rfl rfl (OQ.eql rfl rfl) rfl ?_
    refine PL.q rfl rfl (OQ.assign rfl) rfl ?_
    refine PL.to ?_
    refine CD.condD rfl (fun h21 => ?_) (fun h21 => ?_)
    · refine CD.rs FW.wide rfl ?_
      refine PL.q rfl rfl (OQ.move rfl) rfl ?_
      refine PL.q rfl rfl ((by first | exact OQ.field0 rfl | exact OQ.field rfl)) rfl ?_
      refine PL.q rfl rfl (OQ.loadS rfl (by assumption)) rfl ?_
      refine PL.call FW.wide rfl rfl rfl rfl (Rank_w mj (keyO o) tj w1 hM (by omega)) ?_
      rintro _ _ _ ⟨rfl, rfl⟩
      have ⟨r1, r2⟩ := rank_eq (keyO o) tj hF.1 0
      rw [r1, r2, Nat.zero_add]
      refine PL.q rfl rfl (OQ.move rfl) rfl ?_
      refine PL.q rfl rfl (OQ.extract rfl rfl) rfl ?_
      refine PL.q rfl rfl (OQ.extract rfl rfl) rfl ?_
      refine PL.q rfl rfl (OQ.assign rfl) rfl ?_
      refine PL.q rfl rfl (OQ.assign rfl) rfl ?_
      refine PL.to ?_
      refine CD.rs FW.wide rfl ?_
      refine PL.q rfl rfl (OQ.move rfl) rfl ?_
      refine PL.q rfl rfl ((by first | exact OQ.field0 rfl | exact OQ.field rfl)) rfl ?_
      refine PL.q rfl rfl (OQ.loadS rfl (by assumption)) rfl ?_
      refine PL.call FW.wide rfl rfl rfl rfl (fFind_w aj cj tj.toL (keyO o) w1 hP hF.1 (by omega)) ?_
      rintro _ w2 hx2 rfl
      refine PL.q rfl rfl (OQ.move rfl) rfl ?_
      refine PL.q rfl rfl (OQ.extract rfl rfl) rfl ?_
      refine PL.q rfl rfl (OQ.extract rfl rfl) rfl ?_
      refine PL.q rfl rfl (OQ.assign rfl) rfl ?_
      refine PL.q rfl rfl (OQ.assign rfl) rfl ?_
      refine PL.to ?_
      refine CD.rs FW.wide rfl ?_
      refine PL.q rfl rfl (OQ.move rfl) rfl ?_
      refine PL.q rfl rfl (OQ.move rfl) rfl ?_
      refine PL.q rfl rfl (OQ.yes (OQ.eql rfl rfl) (by simp)) rfl ?_
      refine PL.q rfl rfl (OQ.move rfl) rfl ?_
      refine PL.q rfl rfl (OQ.move rfl) rfl ?_
      refine PL.q rfl rfl (OQ.move rfl) rfl ?_
      refine PL.q rfl rfl (OQ.yes (OQ.beq rfl rfl) (by simp)) rfl ?_
      refine PL.q rfl rfl ((by first | exact OQ.pickT rfl rfl | exact OQ.pickF rfl rfl)) rfl ?_
      refine PL.q rfl rfl (OQ.assign rfl) rfl ?_
      refine PL.to ?_
      have ⟨q1, q2, q3⟩ := quiet w2 hx2
      exact CD.ret (post1 rfl rfl ⟨_, rfl, rfl, q1, q2, .inr ⟨hr, q3⟩⟩)
    refine CD.rs FW.wide rfl ?_
    refine PL.q rfl rfl (OQ.eql rfl rfl) rfl ?_
    refine PL.q rfl rfl (OQ.assign rfl) rfl ?_
    refine PL.to ?_
    refine CD.condD rfl (fun h25 => ?_) (fun h25 => ?_)
    · refine CD.rs FW.wide rfl ?_
      refine PL.q rfl rfl (OQ.move rfl) rfl ?_
      refine PL.call FW.wide rfl rfl rfl rfl (Keys_w mj tj w1 hM (by omega)) ?_
      rintro _ w2 hx2 hown
      obtain ⟨a2, c2, rfl, hc2, _⟩ := hown.slc
      refine PL.q rfl rfl (OQ.move rfl) rfl ?_
      refine PL.call FW.wide rfl rfl rfl rfl (fKeys_w aj cj tj.toL w2 (hP.ext hx2) (by omega)) ?_
      rintro _ w4 hx4 ⟨a4, c4, rfl, hc4⟩
      have s1 := same_w a2 a4 c2 c4 (tj.toL.map (·.1)) w4 (by simpa [KsAt, keysV, Function.comp_def] using hc2.ext hx4) (by simpa [KsAt, Function.comp_def] using hc4) (by simp; omega)
      rw [List.length_map] at s1
      rw [← zj]
      refine PL.call FW.wide rfl rfl rfl rfl s1 ?_
      rintro _ w5 hx5 rfl
      refine PL.q rfl rfl (OQ.assign rfl) rfl ?_
      refine PL.to ?_
      have ⟨q1, q2, q3⟩ := quiet w5 ((hx2.trans hx4).trans hx5)
      exact CD.ret (post1 rfl rfl ⟨_, rfl, rfl, q1, q2, .inr ⟨hr, q3⟩⟩)
    refine CD.cut (α := Bool) (fun r => [(0, .pointer (some ⟨bI, 0, none⟩)), (3, .pointer (some ⟨b3, 0, none⟩)), (148, .bool r)]) (fun r w' => w1 = w') ?_ ?_
    · refine CD.rs FW.wide rfl ?_
      refine PL.q rfl rfl (OQ.eql rfl rfl) rfl ?_
      refine PL.q rfl rfl (OQ.assign rfl) rfl ?_
      refine PL.to ?_
      refine CD.condD rfl (fun h27 => ?_) (fun h27 => ?_)
      · exact CD.skip fun a ha => ⟨decide (o.kind = 11), ha.sub ⟨rfl, rfl, rfl, trivial⟩, rfl⟩
      refine CD.r FW.wide rfl ?_
      refine PL.q rfl rfl (OQ.eql rfl rfl) rfl ?_
      refine PL.q rfl rfl (OQ.assign rfl) rfl ?_
      exact PL.nil fun a ha => ⟨decide (o.kind = 12), ha.sub ⟨rfl, rfl, rfl, trivial⟩, rfl⟩
    rintro r' _ rfl
    refine CD.cond (b := r') rfl (fun h28 => ?_) (fun h28 => ?_)
    · refine CD.rs FW.wide rfl ?_
      refine PL.q rfl rfl (OQ.move rfl) rfl ?_
      refine PL.q rfl rfl (OQ.loadH (cs := opC o) rfl rfl trivial hh31) rfl ?_
      refine PL.call FW.wide rfl rfl rfl rfl (runs_w B bI Ks vs o w1 hw1 h1 hn hK hok) ?_
      rintro _ w2 hx2 rfl
      refine PL.q rfl rfl (OQ.assign rfl) rfl ?_
      refine PL.to ?_
      have ⟨q1, q2, q3⟩ := quiet w2 hx2
      exact CD.ret (post1 rfl rfl ⟨_, rfl, rfl, q1, q2, .inr ⟨hr, q3⟩⟩)
    · refine CD.skip ?_
      refine CD.rs FW.wide rfl ?_
      refine PL.q rfl rfl (OQ.assign rfl) rfl ?_
      refine PL.to ?_
      have ⟨q1, q2, q3⟩ := quiet w1 (Ext.refl _)
      exact CD.ret (post1 rfl rfl ⟨_, rfl, rfl, q1, q2, .inr ⟨hr, q3⟩⟩)
end Go.Proofs.Ytdielcpjemkngaa.OS
