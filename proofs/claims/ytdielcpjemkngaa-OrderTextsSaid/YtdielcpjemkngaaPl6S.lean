/-
  The walk of the laws' helper that plays a script: keys: texts.
-/
import Derived.Test.YtdielcpjemkngaaPl5S
namespace Go.Proofs.Ytdielcpjemkngaa.OS
open Go.RowKit
set_option linter.unusedVariables false

theorem played_w (a : Option Addr) (c : Nat) (ops : List Op6) (k1 k2 : Int) (w : World) (h : OpsAt w a ops) (hs : ops.length ≤ 4611686018427387903) (hok : ∀ o ∈ ops, OpOk o) :
    Rt Try.prog 42 [.slice a ops.length c, .int .i64 k1, .int .i64 k2] w fun v _ => v = .bool true := by
  refine Rt.of Try.func42 rfl Try.ntmps42 (by rfl) ?_
  refine CD.rs FW.wide rfl ?_
  refine PL.q rfl rfl (OQ.assign rfl) rfl ?_
  refine PL.to ?_
  refine CD.rs FW.wide rfl ?_
  refine PL.call FW.wide rfl rfl rfl rfl (begin_w w) ?_
  rintro _ w0 hx0 ⟨bI, vs0, rfl, hv0, hw0⟩
  refine PL.q rfl rfl (OQ.assign rfl) rfl ?_
  refine PL.to ?_
  refine CD.seq ?_
  refine CD.rs FW.wide rfl ?_
  refine PL.q rfl rfl (OQ.move rfl) rfl ?_
  refine PL.q rfl rfl ((by first | exact OQ.eqNN rfl rfl | exact OQ.eqNS rfl rfl | exact OQ.eqN rfl rfl)) rfl ?_
  refine PL.to ?_
  refine CD.condF rfl ?_
  refine CD.skip ?_
  refine CD.seq ?_
  refine CD.rs FW.wide rfl ?_
  refine PL.q rfl rfl (OQ.assign rfl) rfl ?_
  refine PL.to ?_
  refine CD.block ?_
  refine CD.loop (α := Nat × List ByteArray × List Ver) (fun s => [(0, .slice a ops.length c), (1, .int .i64 k1), (2, .int .i64 k2), (7, ptr bI), (8, .int .i64 s.1)])
    (fun s w' => Ext w w' ∧ s.1 ≤ ops.length ∧ s.2.1.length ≤ s.2.2.length ∧ 1 ≤ s.2.2.length ∧ s.2.2.length ≤ 4096 ∧ WI w' w.heap.size bI s.2.1 s.2.2) (fun s => ops.length - s.1) (0, [], vs0) ⟨rfl, rfl, rfl, rfl, rfl, trivial⟩ ⟨hx0, by simp, by simp, by simp [hv0], by simp [hv0], hw0⟩ ?_
  rintro ⟨i, Ks, vs⟩ w1 ⟨hx1, hi, hK, hv1, hv4, hw⟩
  simp only at hi hK hv1 hv4 hw
  have hw' := hw
  obtain ⟨am, cm, ar, cr, hh, hBb, _⟩ := hw'
  have d0 : w1.cell? ⟨bI, 0, none⟩ = some (.slice am vs.length cm) := cell_of_heap hh rfl
  refine CD.seq ?_
  refine CD.cut (α := Bool) (fun r => [(0, .slice a ops.length c), (1, .int .i64 k1), (2, .int .i64 k2), (7, ptr bI), (8, .int .i64 i), (27, .bool r)]) (fun r w' => w1 = w' ∧ r = decide (i < ops.length ∧ vs.length < 4096)) ?_ ?_
  · refine CD.r FW.wide rfl ?_
    by_cases hlt : i < ops.length
    · refine PL.q rfl rfl (OQ.move rfl) rfl ?_
      refine PL.q rfl rfl (OQ.move rfl) rfl ?_
      refine PL.q rfl rfl (OQ.lenS rfl) rfl ?_
      refine PL.q rfl rfl (OQ.yes (OQ.lss rfl rfl) (by simp only [decide_eq_true_eq]; omega)) rfl ?_
      refine PL.q rfl rfl (OQ.move rfl) rfl ?_
      refine PL.q rfl rfl (OQ.move rfl) rfl ?_
      refine PL.q rfl rfl ((by first | exact OQ.nilp rfl | exact OQ.nily rfl | exact OQ.nilf rfl)) rfl ?_
      refine PL.q rfl rfl ((by first | exact OQ.field0 rfl | exact OQ.field rfl)) rfl ?_
      refine PL.q rfl rfl (OQ.loadS rfl (by assumption)) rfl ?_
      refine PL.q rfl rfl (OQ.lenS rfl) rfl ?_
      refine PL.q rfl rfl (OQ.lss rfl rfl) rfl ?_
      refine PL.q rfl rfl ((by first | exact OQ.pickT rfl rfl | exact OQ.pickF rfl rfl)) rfl ?_
      exact PL.nil fun a ha => ⟨decide ((vs.length : Int) < 4096), ha.sub ⟨rfl, rfl, rfl, rfl, rfl, rfl, trivial⟩, rfl, by rw [decide_eq_decide]; omega⟩
    · refine PL.q rfl rfl (OQ.move rfl) rfl ?_
      refine PL.q rfl rfl (OQ.move rfl) rfl ?_
      refine PL.q rfl rfl (OQ.lenS rfl) rfl ?_
      refine PL.q rfl rfl (OQ.no (OQ.lss rfl rfl) (by simp only [decide_eq_false_iff_not]; omega)) rfl ?_
      refine PL.q rfl rfl (OQ.move rfl) rfl ?_
      refine PL.skip rfl rfl rfl ?_
      refine PL.skip rfl rfl rfl ?_
      refine PL.skip rfl rfl rfl ?_
      refine PL.skip rfl rfl rfl ?_
      refine PL.skip rfl rfl rfl ?_
      refine PL.skip rfl rfl rfl ?_
      refine PL.q rfl rfl ((by first | exact OQ.pickT rfl rfl | exact OQ.pickF rfl rfl)) rfl ?_
      exact PL.nil fun a ha => ⟨false, ha.sub ⟨rfl, rfl, rfl, rfl, rfl, rfl, trivial⟩, rfl, by rw [eq_comm, decide_eq_false_iff_not]; omega⟩
  rintro r _ ⟨rfl, hr⟩
  refine CD.cond (b := r) rfl (fun h12 => ?_) (fun h12 => ?_)
  · rw [h12] at hr
    have ⟨hlt, hl2⟩ := of_decide_eq_true hr.symm
    obtain ⟨b, o, rfl, hco⟩ := (h.ext hx1) i hlt
    obtain ⟨op, hop⟩ : ∃ op, op = ops[i] := ⟨_, rfl⟩
    rw [← hop] at hco
    have hopk : OpOk op := hop ▸ hok _ (List.getElem_mem hlt)
    refine CD.skip ?_
    refine CD.seq ?_
    refine CD.block ?_
    refine CD.rs FW.wide rfl ?_
    refine PL.q rfl rfl (OQ.move rfl) rfl ?_
    refine PL.q rfl rfl (OQ.move rfl) rfl ?_
    refine PL.q rfl rfl (OQ.indexAddr rfl rfl (by first | assumption | omega)) rfl ?_
    refine PL.q rfl rfl (OQ.loadAS (cs := opC op) rfl rfl hco) rfl ?_
    refine PL.alloc FW.wide rfl rfl rfl ?_
    intro b9 w9 new9
    refine PL.put FW.wide rfl rfl rfl rfl rfl new9.heap rfl rfl rfl rfl (fun _ _ => .inl trivial) ?_
    intro w2 hw2
    have hb9 : w1.heap.size = b9 := new9.idx.symm
    have hx2 : Ext w1 w2 := hw2.ext new9.ext (by omega)
    have hh9 : w2.heap[b9]? = some (.cells (opC op).toArray 54 (0, 0)) := hw2.heap
    have d02 := hx2.cell d0
    refine PL.to ?_
    refine CD.rs FW.wide rfl ?_
    refine PL.q rfl rfl (OQ.move rfl) rfl ?_
    refine PL.q rfl rfl ((by first | exact OQ.nilp rfl | exact OQ.nily rfl | exact OQ.nilf rfl)) rfl ?_
    refine PL.q rfl rfl ((by first | exact OQ.field0 rfl | exact OQ.field rfl)) rfl ?_
    refine PL.q rfl rfl (OQ.loadS rfl (by assumption)) rfl ?_
    refine PL.q rfl rfl (OQ.lenS rfl) rfl ?_
    refine PL.q rfl rfl (OQ.assign rfl) rfl ?_
    refine PL.to ?_
    refine CD.rs FW.wide rfl ?_
    refine PL.q rfl rfl (OQ.move rfl) rfl ?_
    refine PL.q rfl rfl (OQ.loadH (cs := opC op) rfl rfl trivial hh9) rfl ?_
    have s1 := hx1.size
    have s2 := hx2.size
    refine PL.callG FW.wide rfl rfl rfl rfl (step_w w.heap.size bI Ks vs op w2 (hw.ext hx2) hv1 (by omega) (by omega) hopk (by omega)) (fun _ _ _ => trivial) ?_
    rintro _ w3 ⟨rfl, hbl, hkw, hres⟩
    refine PL.q rfl rfl (OQ.assign rfl) rfl ?_
    have hh93 := hkw _ _ _ _ (by decide) (by decide) (by decide) hh9
    have p0 : w3.cell? ⟨b9, 0, none⟩ = some (.int .i64 op.kind) := cell_of_heap hh93 rfl
    have hx3 : Ext w w3 := (hx1.trans hx2).trans' hbl (fun _ h => h)
    have e5 : (decide ((1 : Int) ≤ op.kind)) = true ∨ (decide ((1 : Int) ≤ op.kind)) = false := by cases decide ((1 : Int) ≤ op.kind) <;> simp
    refine PL.to ?_
    refine CD.cut (α := Bool) (fun r => [(0, .slice (some ⟨b, o, none⟩) ops.length c), (1, .int .i64 k1), (2, .int .i64 k2), (7, ptr bI), (8, .int .i64 i), (9, ptr b9), (10, .int .i64 vs.length), (11, .bool true), (12, .bool r)]) (fun r w' => w3 = w' ∧ r = decide (1 ≤ op.kind ∧ op.kind ≤ 5)) ?_ ?_
    · refine CD.r FW.wide rfl ?_
      by_cases hk : 1 ≤ op.kind
      · refine PL.q rfl rfl ((by first | exact OQ.field0 rfl | exact OQ.field rfl)) rfl ?_
        refine PL.q rfl rfl (OQ.loadS rfl (by assumption)) rfl ?_
        refine PL.q rfl rfl (OQ.yes (OQ.geq rfl rfl) (by simp only [decide_eq_true_eq]; omega)) rfl ?_
        refine PL.q rfl rfl (OQ.move rfl) rfl ?_
        refine PL.q rfl rfl ((by first | exact OQ.field0 rfl | exact OQ.field rfl)) rfl ?_
        refine PL.q rfl rfl (OQ.loadS rfl (by assumption)) rfl ?_
        refine PL.q rfl rfl (OQ.leq rfl rfl) rfl ?_
        refine PL.q rfl rfl ((by first | exact OQ.pickT rfl rfl | exact OQ.pickF rfl rfl)) rfl ?_
        refine PL.q rfl rfl (OQ.assign rfl) rfl ?_
        exact PL.nil fun a ha => ⟨decide (op.kind ≤ 5), ha.sub ⟨rfl, rfl, rfl, rfl, rfl, rfl, rfl, rfl, rfl, trivial⟩, rfl, by rw [decide_eq_decide]; omega⟩
      · refine PL.q rfl rfl ((by first | exact OQ.field0 rfl | exact OQ.field rfl)) rfl ?_
        refine PL.q rfl rfl (OQ.loadS rfl (by assumption)) rfl ?_
        refine PL.q rfl rfl (OQ.no (OQ.geq rfl rfl) (by simp only [decide_eq_false_iff_not]; omega)) rfl ?_
        refine PL.q rfl rfl (OQ.move rfl) rfl ?_
        refine PL.skip rfl rfl rfl ?_
        refine PL.skip rfl rfl rfl ?_
        refine PL.skip rfl rfl rfl ?_
        refine PL.q rfl rfl ((by first | exact OQ.pickT rfl rfl | exact OQ.pickF rfl rfl)) rfl ?_
        refine PL.q rfl rfl (OQ.assign rfl) rfl ?_
        exact PL.nil fun a ha => ⟨false, ha.sub ⟨rfl, rfl, rfl, rfl, rfl, rfl, rfl, rfl, rfl, trivial⟩, rfl, by rw [eq_comm, decide_eq_false_iff_not]; omega⟩
    rintro mk _ ⟨rfl, hmk⟩
    obtain ⟨Ks', vs', hw3, hlen⟩ : ∃ Ks' vs', WI w3 w.heap.size bI Ks' vs' ∧ ((mk = true ∧ vs'.length = vs.length + 1 ∧ Ks'.length = Ks.length + 1) ∨ (mk = false ∧ vs'.length = vs.length ∧ Ks'.length = Ks.length)) := by
      rcases hres with ⟨hk, nv, hwi⟩ | ⟨hk, hwi⟩
      · exact ⟨_, _, hwi, .inl ⟨by rw [hmk, decide_eq_true hk], by simp, by simp⟩⟩
      · exact ⟨_, _, hwi, .inr ⟨by rw [hmk, decide_eq_false hk], rfl, rfl⟩⟩
    clear hmk hres
    have hw3' := hw3
    obtain ⟨am3, cm3, ar3, cr3, hh3, _⟩ := hw3'
    have d03 : w3.cell? ⟨bI, 0, none⟩ = some (.slice am3 vs'.length cm3) := cell_of_heap hh3 rfl
    refine CD.seq ?_
    refine CD.cut (α := Unit) (fun _ => [(0, .slice (some ⟨b, o, none⟩) ops.length c), (1, .int .i64 k1), (2, .int .i64 k2), (7, ptr bI), (8, .int .i64 i), (9, ptr b9), (11, .bool true), (59, .bool false)]) (fun _ w' => w3 = w') ?_ ?_
    · refine CD.r FW.wide rfl ?_
      rcases hlen with ⟨rfl, hl1, _⟩ | ⟨rfl, hl1, _⟩
      · refine PL.q rfl rfl (OQ.move rfl) rfl ?_
        refine PL.q rfl rfl (OQ.move rfl) rfl ?_
        refine PL.q rfl rfl (OQ.move rfl) rfl ?_
        refine PL.q rfl rfl ((by first | exact OQ.nilp rfl | exact OQ.nily rfl | exact OQ.nilf rfl)) rfl ?_
        refine PL.q rfl rfl ((by first | exact OQ.field0 rfl | exact OQ.field rfl)) rfl ?_
        refine PL.q rfl rfl (OQ.loadS rfl (by assumption)) rfl ?_
        refine PL.q rfl rfl (OQ.lenS rfl) rfl ?_
        refine PL.q rfl rfl (OQ.move rfl) rfl ?_
        refine PL.q rfl rfl (OQ.no (OQ.eql rfl rfl) (by simp only [decide_eq_false_iff_not]; omega)) rfl ?_
        refine PL.q rfl rfl ((by first | exact OQ.pickT rfl rfl | exact OQ.pickF rfl rfl)) rfl ?_
        exact PL.nil fun a ha => ⟨(), ha.sub ⟨rfl, rfl, rfl, rfl, rfl, rfl, rfl, rfl, trivial⟩, rfl⟩
      · refine PL.q rfl rfl (OQ.move rfl) rfl ?_
        refine PL.q rfl rfl (OQ.move rfl) rfl ?_
        refine PL.skip rfl rfl rfl ?_
        refine PL.skip rfl rfl rfl ?_
        refine PL.skip rfl rfl rfl ?_
        refine PL.skip rfl rfl rfl ?_
        refine PL.skip rfl rfl rfl ?_
        refine PL.skip rfl rfl rfl ?_
        refine PL.skip rfl rfl rfl ?_
        refine PL.q rfl rfl ((by first | exact OQ.pickT rfl rfl | exact OQ.pickF rfl rfl)) rfl ?_
        exact PL.nil fun a ha => ⟨(), ha.sub ⟨rfl, rfl, rfl, rfl, rfl, rfl, rfl, rfl, trivial⟩, rfl⟩
    rintro _ _ rfl
    refine CD.condF rfl ?_
    refine CD.skip ?_
    refine CD.rs FW.wide rfl ?_
    refine PL.q rfl rfl (OQ.move rfl) rfl ?_
    refine PL.q rfl rfl (OQ.not rfl) rfl ?_
    refine PL.q rfl rfl (OQ.move rfl) rfl ?_
    refine PL.skip rfl rfl rfl ?_
    refine PL.skip rfl rfl rfl ?_
    refine PL.skip rfl rfl rfl ?_
    refine PL.skip rfl rfl rfl ?_
    refine PL.skip rfl rfl rfl ?_
    refine PL.skip rfl rfl rfl ?_
    refine PL.skip rfl rfl rfl ?_
    refine PL.skip rfl rfl rfl ?_
    refine PL.skip rfl rfl rfl ?_
    refine PL.skip rfl rfl rfl ?_
    refine PL.skip rfl rfl rfl ?_
    refine PL.skip rfl rfl rfl ?_
    refine PL.skip rfl rfl rfl ?_
    refine PL.skip rfl rfl rfl ?_
    refine PL.q rfl rfl ((by first | exact OQ.pickT rfl rfl | exact OQ.pickF rfl rfl)) rfl ?_
    refine PL.to ?_
    refine CD.condF rfl ?_
    refine CD.skip ?_
    refine CD.r FW.wide rfl ?_
    refine PL.q rfl rfl (OQ.move rfl) rfl ?_
    refine PL.q rfl rfl (OQ.addW (r := ((i + 1 : Nat) : Int)) rfl rfl (wrap_succ (by omega))) rfl ?_
    refine PL.q rfl rfl (OQ.assign rfl) rfl ?_
    refine PL.nil ?_
    exact fun a ha => ⟨(i + 1, Ks', vs'), ha.sub ⟨rfl, rfl, rfl, rfl, rfl, trivial⟩, ⟨hx3, by simp only; omega, by simp only; omega, by simp only; omega, by simp only; omega, hw3⟩, by simp only; omega⟩
  · refine CD.exit ?_
    refine CD.rs FW.wide rfl ?_
    refine PL.q rfl rfl (OQ.assign rfl) rfl ?_
    refine PL.to ?_
    exact CD.ret (post1 rfl rfl ⟨_, rfl, hx1, rfl⟩)
end Go.Proofs.Ytdielcpjemkngaa.OS
