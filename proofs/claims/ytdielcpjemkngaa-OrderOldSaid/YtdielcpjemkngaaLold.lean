/-
  The walk of the law OrderOld.
-/
import Derived.Test.YtdielcpjemkngaaOb3
namespace Go.Proofs.Ytdielcpjemkngaa
open Go.RowKit OI
set_option linter.unusedVariables false

structure Op6 where
  kind : Int
  on : Int
  other : Int
  a : Int
  b : Int
  s : ByteArray
def opC (o : Op6) : List Value := [.int .i64 o.kind, .int .i64 o.on, .int .i64 o.other, .int .i64 o.a, .int .i64 o.b, .string o.s]
abbrev I64 (x : Int) : Prop := -9223372036854775808 ≤ x ∧ x ≤ 9223372036854775807
def OpOk (o : Op6) : Prop := I64 o.on ∧ I64 o.other ∧ I64 o.a ∧ I64 o.b
abbrev OpsAt (w : World) (a : Option Addr) (l : List Op6) : Prop := Elems w a 6 opC l

structure Sn where
  m : Nat
  t : Tr Int
  ak : Option Addr
  ck : Nat
  av : Option Addr
  cv : Nat
def snC (s : Sn) : List Value := [ptr s.m, .slice s.ak s.t.size s.ck, .slice s.av s.t.size s.cv]
def SnOk (Ks : List Int) (w : World) (s : Sn) : Prop :=
  MapAt w s.m s.t ∧ Fit Ks s.t ∧ Own w 0 3 1 (.slice s.ak s.t.size s.ck) s.t.size (i64s (keysL s.t)) ∧ Own w 0 3 1 (.slice s.av s.t.size s.cv) s.t.size (i64s (valsL s.t))
theorem SnOk.kt {Ks : List Int} {w w' : World} {s : Sn} (h : SnOk Ks w s) (hk : KT 41 w w') : SnOk Ks w' s := ⟨h.1.kt hk (by decide) (by decide), h.2.1, Own.kt hk h.2.2.1 (by decide), Own.kt hk h.2.2.2 (by decide)⟩
theorem SnOk.mono {Ks Ks' : List Int} {w : World} {s : Sn} (h : SnOk Ks w s) (hm : ∀ k ∈ Ks, k ∈ Ks') : SnOk Ks' w s := ⟨h.1, h.2.1.mono hm, h.2.2⟩

theorem old_w (a : Option Addr) (c : Nat) (ops : List Op6) (w : World) (h : OpsAt w a ops) (hs : ops.length ≤ 4611686018427387903) (hok : ∀ o ∈ ops, OpOk o) :
    Rt Try.prog 15 [.slice a ops.length c] w fun v _ => v = .bool true := by
  refine Rt.of Try.func15 rfl Try.ntmps15 (by rfl) ?_
  refine CD.rs FW.wide rfl ?_
  refine PL.q rfl rfl (OQ.assign rfl) rfl ?_
  refine PL.to ?_
  refine CD.rs FW.wide rfl ?_
  refine PL.call FW.wide rfl rfl rfl rfl (New_w w) ?_
  rintro _ w15 hx15 ⟨m0, rfl, hm0⟩
  refine PL.q rfl rfl (OQ.assign rfl) rfl ?_
  refine PL.to ?_
  refine CD.seq ?_
  refine CD.rs FW.wide rfl ?_
  refine PL.q rfl rfl (OQ.move rfl) rfl ?_
  refine PL.q rfl rfl ((by first | exact OQ.eqNN rfl rfl | exact OQ.eqNS rfl rfl | exact OQ.eqN rfl rfl)) rfl ?_
  refine PL.to ?_
  refine CD.condF rfl ?_
  refine CD.skip ?_
  refine CD.rs FW.wide rfl ?_
  refine PL.q rfl rfl (OQ.move rfl) rfl ?_
  refine PL.call FW.wide rfl rfl rfl rfl (Put_w m0 1 2 .leaf w15 hm0 (by simp [Tr.size])) ?_
  rintro _ w19 hx19 ⟨m1, rfl, hm1⟩
  refine PL.q rfl rfl (OQ.assign rfl) rfl ?_
  refine PL.to ?_
  refine CD.seq ?_
  refine CD.rs FW.wide rfl ?_
  refine PL.q rfl rfl (OQ.move rfl) rfl ?_
  refine PL.q rfl rfl ((by first | exact OQ.eqNN rfl rfl | exact OQ.eqNS rfl rfl | exact OQ.eqN rfl rfl)) rfl ?_
  refine PL.q rfl rfl (OQ.move rfl) rfl ?_
  refine PL.q rfl rfl (OQ.move rfl) rfl ?_
  refine PL.call FW.wide rfl rfl rfl rfl (Len_w m1 _ w19 hm1) ?_
  rintro _ _ _ ⟨rfl, rfl⟩
  refine PL.q rfl rfl (OQ.no (OQ.neq rfl rfl) (rfl)) rfl ?_
  refine PL.q rfl rfl ((by first | exact OQ.pickT rfl rfl | exact OQ.pickF rfl rfl)) rfl ?_
  refine PL.q rfl rfl (OQ.move rfl) rfl ?_
  refine PL.q rfl rfl (OQ.move rfl) rfl ?_
  refine PL.call FW.wide rfl rfl rfl rfl (goes_w m1 w19) ?_
  rintro _ w29 hx29 rfl
  refine PL.q rfl rfl (OQ.not rfl) rfl ?_
  refine PL.q rfl rfl ((by first | exact OQ.pickT rfl rfl | exact OQ.pickF rfl rfl)) rfl ?_
  refine PL.to ?_
  refine CD.condF rfl ?_
  refine CD.skip ?_
  refine CD.rs FW.wide rfl ?_
  refine PL.q rfl rfl (OQ.move rfl) rfl ?_
  have hm1' := hm1.ext hx29
  have fit1 : Fit [1] (Tr.put lt 1 2 .leaf) := (fit_leaf [1]).put (by simp) 2
  have sz1 := fit1.size
  generalize Tr.put lt 1 2 .leaf = t1 at *
  simp only [List.length_cons, List.length_nil] at sz1
  refine PL.call FW.wide rfl rfl rfl rfl (snap_w m1 t1 w29 hm1' fit1.1 (by omega)) ?_
  rintro _ w34 hx34 ⟨ak, ck, av, cv, rfl, ok1, ok2⟩
  refine PL.q rfl rfl (OQ.move rfl) rfl ?_
  refine PL.q rfl rfl (OQ.extract rfl rfl) rfl ?_
  refine PL.q rfl rfl (OQ.extract rfl rfl) rfl ?_
  refine PL.alloc FW.wide rfl rfl rfl ?_
  intro b4 w4 new4
  refine PL.put FW.wide rfl rfl rfl rfl rfl new4.heap rfl rfl rfl rfl (fun _ _ => .inl trivial) ?_
  intro w76 hw76
  refine PL.q rfl rfl (OQ.assign rfl) rfl ?_
  have hb4 : w34.heap.size = b4 := new4.idx.symm
  have hx76 : Ext w34 w76 := hw76.ext new4.ext (by omega)
  have hh4 : w76.heap[b4]? = some (.cells #[ptr m1, .slice ak t1.size ck, .slice av t1.size cv] 41 (0, 0)) := hw76.heap
  refine PL.to ?_
  refine CD.seq ?_
  refine CD.rs FW.wide rfl ?_
  refine PL.q rfl rfl (OQ.move rfl) rfl ?_
  refine PL.q rfl rfl (OQ.not rfl) rfl ?_
  refine PL.to ?_
  refine CD.condF rfl ?_
  refine CD.skip ?_
  refine CD.rs FW.wide rfl ?_
  refine PL.q rfl rfl (OQ.loadH (cs := [ptr m1, .slice ak t1.size ck, .slice av t1.size cv]) rfl rfl trivial hh4) rfl ?_
  refine PL.slice1 FW.wide rfl rfl rfl rfl rfl rfl ?_
  intro b40 w40 new40
  refine PL.q rfl rfl (OQ.assign rfl) rfl ?_
  refine PL.to ?_
  refine CD.seq ?_
  refine CD.rs FW.wide rfl ?_
  refine PL.q rfl rfl (OQ.assign rfl) rfl ?_
  refine PL.to ?_
  refine CD.block ?_
  have hx029 : Ext w w29 := ((hx15.trans hx19).trans hx29)
  have hx040 : Ext w w40 := ((hx029.trans hx34).trans hx76).trans new40.ext
  have hx3440 : Ext w34 w40 := hx76.trans new40.ext
  have s0 : SnOk [1] w40 ⟨m1, t1, ak, ck, av, cv⟩ := ⟨(hm1'.ext hx34).ext hx3440, fit1, (ok1.base (Nat.zero_le _)).cext hx3440.cext, (ok2.base (Nat.zero_le _)).cext hx3440.cext⟩
  have own0 : Own w40 w.heap.size 41 3 (.slice (some ⟨b40, 0, none⟩) 1 1) 1 ([(⟨m1, t1, ak, ck, av, cv⟩ : Sn)].flatMap snC) := by
    have hsz := ((hx029.trans hx34).trans hx76).size
    have := World.ownsRow_lit (size := 3) (base := w.heap.size) (e := 41) w76 (Value.cells (.agg #[ptr m1, .slice ak t1.size ck, .slice av t1.size cv])) 1 hsz (by decide) rfl
    rw [← new40.eq, ← new40.idx] at this
    exact this
  refine CD.loop (α := Nat × List Int × List Sn × Option Addr × Nat) (fun s => [(0, .slice a ops.length c), (6, .slice s.2.2.2.1 s.2.2.1.length s.2.2.2.2), (7, .int .i64 s.1)])
    (fun s w' => Ext w w' ∧ s.1 ≤ ops.length ∧ s.2.1.length = s.2.2.1.length ∧ s.2.2.1.length ≤ 200 ∧ 1 ≤ s.2.2.1.length ∧ Own w' w.heap.size 41 3 (.slice s.2.2.2.1 s.2.2.1.length s.2.2.2.2) s.2.2.1.length (s.2.2.1.flatMap snC) ∧ ∀ x ∈ s.2.2.1, SnOk s.2.1 w' x)
    (fun s => ops.length - s.1) (0, [1], [⟨m1, t1, ak, ck, av, cv⟩], some ⟨b40, 0, none⟩, 1) ⟨rfl, rfl, rfl, trivial⟩ ⟨hx040, by simp, rfl, by simp, by simp, own0, by simpa using s0⟩ ?_
  rintro ⟨i, Ks, sl, a6, c6⟩ w1 ⟨hx1, hi, hKs, hsl, hsl1, hown, hall⟩
  simp only at hi hKs hsl hsl1 hown hall
  refine CD.seq ?_
  refine CD.cut (α := Bool) (fun r => [(0, .slice a ops.length c), (6, .slice a6 sl.length c6), (7, .int .i64 i), (49, .bool r)]) (fun r w' => w1 = w' ∧ r = decide (i < ops.length ∧ sl.length < 200)) ?_ ?_
  · refine CD.r FW.wide rfl ?_
    by_cases hlt : i < ops.length
    · refine PL.q rfl rfl (OQ.move rfl) rfl ?_
      refine PL.q rfl rfl (OQ.move rfl) rfl ?_
      refine PL.q rfl rfl (OQ.lenS rfl) rfl ?_
      refine PL.q rfl rfl (OQ.yes (OQ.lss rfl rfl) (by simp only [decide_eq_true_eq]; omega)) rfl ?_
      refine PL.q rfl rfl (OQ.move rfl) rfl ?_
      refine PL.q rfl rfl (OQ.move rfl) rfl ?_
      refine PL.q rfl rfl (OQ.lenS rfl) rfl ?_
      refine PL.q rfl rfl (OQ.lss rfl rfl) rfl ?_
      refine PL.q rfl rfl ((by first | exact OQ.pickT rfl rfl | exact OQ.pickF rfl rfl)) rfl ?_
      exact PL.nil fun a ha => ⟨decide ((sl.length : Int) < 200), ha.sub ⟨rfl, rfl, rfl, rfl, trivial⟩, rfl, by rw [decide_eq_decide]; omega⟩
    · refine PL.q rfl rfl (OQ.move rfl) rfl ?_
      refine PL.q rfl rfl (OQ.move rfl) rfl ?_
      refine PL.q rfl rfl (OQ.lenS rfl) rfl ?_
      refine PL.q rfl rfl (OQ.no (OQ.lss rfl rfl) (by simp only [decide_eq_false_iff_not]; omega)) rfl ?_
      refine PL.q rfl rfl (OQ.move rfl) rfl ?_
      refine PL.skip rfl rfl rfl ?_
      refine PL.skip rfl rfl rfl ?_
      refine PL.skip rfl rfl rfl ?_
      refine PL.q rfl rfl ((by first | exact OQ.pickT rfl rfl | exact OQ.pickF rfl rfl)) rfl ?_
      exact PL.nil fun a ha => ⟨false, ha.sub ⟨rfl, rfl, rfl, rfl, trivial⟩, rfl, by rw [eq_comm, decide_eq_false_iff_not]; omega⟩
  rintro r _ ⟨rfl, hr⟩
  refine CD.cond (b := r) rfl (fun h12 => ?_) (fun h12 => ?_)
  · rw [h12] at hr
    have ⟨hlt, hl2⟩ := of_decide_eq_true hr.symm
    obtain ⟨b, o, rfl, hco⟩ := (h.ext hx1) i hlt
    obtain ⟨op, hop⟩ : ∃ op, op = ops[i] := ⟨_, rfl⟩
    rw [← hop] at hco
    have hopk : OpOk op := hop ▸ hok _ (List.getElem_mem hlt)
    refine CD.skip ?_
    refine CD.seq ?_
    refine CD.block ?_
    refine CD.rs FW.wide rfl ?_
    refine PL.q rfl rfl (OQ.move rfl) rfl ?_
    refine PL.q rfl rfl (OQ.move rfl) rfl ?_
    refine PL.q rfl rfl (OQ.indexAddr rfl rfl (by first | assumption | omega)) rfl ?_
    refine PL.q rfl rfl (OQ.loadAS (cs := opC op) rfl rfl hco) rfl ?_
    refine PL.alloc FW.wide rfl rfl rfl ?_
    intro b8 w8 new8
    refine PL.put FW.wide rfl rfl rfl rfl rfl new8.heap rfl rfl rfl rfl (fun _ _ => .inl trivial) ?_
    intro w2 hw2
    have hb8 : w1.heap.size = b8 := new8.idx.symm
    have hx2 : Ext w1 w2 := hw2.ext new8.ext (by omega)
    have hh8 : w2.heap[b8]? = some (.cells #[.int .i64 op.kind, .int .i64 op.on, .int .i64 op.other, .int .i64 op.a, .int .i64 op.b, .string op.s] 54 (0, 0)) := hw2.heap
    have p0 : w2.cell? ⟨b8, 0, none⟩ = some (.int .i64 op.kind) := cell_of_heap hh8 rfl
    have p1 : w2.cell? ⟨b8, 1, none⟩ = some (.int .i64 op.on) := cell_of_heap hh8 rfl
    have p2 : w2.cell? ⟨b8, 2, none⟩ = some (.int .i64 op.other) := cell_of_heap hh8 rfl
    have p3 : w2.cell? ⟨b8, 3, none⟩ = some (.int .i64 op.a) := cell_of_heap hh8 rfl
    have p4 : w2.cell? ⟨b8, 4, none⟩ = some (.int .i64 op.b) := cell_of_heap hh8 rfl
    have hown2 := hown.cext hx2.cext
    have hall2 : ∀ x ∈ sl, SnOk Ks w2 x := fun x hx => (hall x hx).kt hx2.kt
    refine PL.to ?_
    refine CD.rs FW.wide rfl ?_
    refine PL.q rfl rfl (OQ.move rfl) rfl ?_
    refine PL.q rfl rfl ((by first | exact OQ.field0 rfl | exact OQ.field rfl)) rfl ?_
    refine PL.q rfl rfl (OQ.loadS rfl (by assumption)) rfl ?_
    refine PL.q rfl rfl (OQ.move rfl) rfl ?_
    refine PL.q rfl rfl (OQ.lenS rfl) rfl ?_
    refine PL.call FW.wide rfl rfl rfl rfl (within_w op.on sl.length w2 (by omega) (by omega) hopk.1) ?_
    rintro _ _ _ ⟨rfl, rfl⟩
    have hj := within_lt op.on (n := sl.length) (by omega)
    generalize within op.on sl.length = j at *
    obtain ⟨g, rfl, hcj⟩ := hown2.atN (f := snC) (fun _ => rfl) rfl j hj
    have q0 : w2.cell? ⟨g, 0 + j * 3 + 0, none⟩ = some (ptr sl[j].m) := hcj 0 _ rfl
    refine PL.q rfl rfl (OQ.indexAddr rfl rfl (by first | assumption | omega)) rfl ?_
    refine PL.q rfl rfl (OQ.field rfl) rfl ?_
    refine PL.q rfl rfl (OQ.loadS rfl (by assumption)) rfl ?_
    refine PL.q rfl rfl (OQ.assign rfl) rfl ?_
    refine PL.to ?_
    refine CD.rs FW.wide rfl ?_
    refine PL.q rfl rfl (OQ.move rfl) rfl ?_
    refine PL.q rfl rfl ((by first | exact OQ.field0 rfl | exact OQ.field rfl)) rfl ?_
    refine PL.q rfl rfl (OQ.loadS rfl (by assumption)) rfl ?_
    refine PL.q rfl rfl (OQ.move rfl) rfl ?_
    refine PL.q rfl rfl (OQ.lenS rfl) rfl ?_
    refine PL.call FW.wide rfl rfl rfl rfl (within_w op.other sl.length w2 (by omega) (by omega) hopk.2.1) ?_
    rintro _ _ _ ⟨rfl, rfl⟩
    have hj' := within_lt op.other (n := sl.length) (by omega)
    generalize within op.other sl.length = j' at *
    obtain ⟨g', e', hcj'⟩ := hown2.atN (f := snC) (fun _ => rfl) rfl j' hj'
    obtain rfl : g = g' := by simpa using e'
    have q0' : w2.cell? ⟨g, 0 + j' * 3 + 0, none⟩ = some (ptr sl[j'].m) := hcj' 0 _ rfl
    refine PL.q rfl rfl (OQ.indexAddr rfl rfl (by first | assumption | omega)) rfl ?_
    refine PL.q rfl rfl (OQ.field rfl) rfl ?_
    refine PL.q rfl rfl (OQ.loadS rfl (by assumption)) rfl ?_
    refine PL.q rfl rfl (OQ.assign rfl) rfl ?_
    have hMj := (hall2 _ (List.getElem_mem hj)).1
    have hFj := (hall2 _ (List.getElem_mem hj)).2.1
    have hMj' := (hall2 _ (List.getElem_mem hj')).1
    have hFj' := (hall2 _ (List.getElem_mem hj')).2.1
    generalize sl[j].m = mj at *
    generalize sl[j].t = tj at *
    generalize sl[j'].m = mj' at *
    generalize sl[j'].t = tj' at *
    have zj := hFj.size
    have zj' := hFj'.size
    have up : ∀ k ∈ Ks, k ∈ op.a :: Ks := fun k hk => by simp [hk]
    refine PL.to ?_
    refine CD.cut (α := Nat × Tr Int) (fun r => [(0, .slice (some ⟨b, o, none⟩) ops.length c), (6, .slice (some ⟨g, 0, none⟩) sl.length c6), (7, .int .i64 i), (9, ptr r.1)]) (fun r w' => Ext w2 w' ∧ MapAt w' r.1 r.2 ∧ Fit (op.a :: Ks) r.2) ?_ ?_
    · refine CD.rs FW.wide rfl ?_
      refine PL.q rfl rfl ((by first | exact OQ.field0 rfl | exact OQ.field rfl)) rfl ?_
      refine PL.q rfl rfl (OQ.loadS rfl (by assumption)) rfl ?_
      refine PL.to ?_
      refine CD.block ?_
      refine CD.rs FW.wide rfl ?_
      refine PL.q rfl rfl (OQ.eql rfl rfl) rfl ?_
      refine PL.q rfl rfl (OQ.assign rfl) rfl ?_
      refine PL.to ?_
      refine CD.condD rfl (fun h18 => ?_) (fun h18 => ?_)
      · refine CD.r FW.wide rfl ?_
        refine PL.q rfl rfl (OQ.move rfl) rfl ?_
        refine PL.q rfl rfl ((by first | exact OQ.field0 rfl | exact OQ.field rfl)) rfl ?_
        refine PL.q rfl rfl (OQ.loadS rfl (by assumption)) rfl ?_
        refine PL.q rfl rfl ((by first | exact OQ.field0 rfl | exact OQ.field rfl)) rfl ?_
        refine PL.q rfl rfl (OQ.loadS rfl (by assumption)) rfl ?_
        refine PL.call FW.wide rfl rfl rfl rfl (Put_w mj op.a op.b tj w2 hMj (by omega)) ?_
        rintro _ w3 hx3 ⟨m', rfl, hm'⟩
        refine PL.q rfl rfl (OQ.assign rfl) rfl ?_
        exact PL.nil fun a ha => ⟨(m', _), ha.sub ⟨rfl, rfl, rfl, rfl, trivial⟩, hx3, hm', (hFj.mono up).put (by simp) _⟩
      · refine CD.rs FW.wide rfl ?_
        refine PL.q rfl rfl (OQ.eql rfl rfl) rfl ?_
        refine PL.q rfl rfl (OQ.assign rfl) rfl ?_
        refine PL.to ?_
        refine CD.condD rfl (fun h20 => ?_) (fun h20 => ?_)
        · refine CD.r FW.wide rfl ?_
          refine PL.q rfl rfl (OQ.move rfl) rfl ?_
          refine PL.q rfl rfl ((by first | exact OQ.field0 rfl | exact OQ.field rfl)) rfl ?_
          refine PL.q rfl rfl (OQ.loadS rfl (by assumption)) rfl ?_
          refine PL.call FW.wide rfl rfl rfl rfl (Drop_w mj op.a tj w2 hMj (by omega)) ?_
          rintro _ w3 hx3 ⟨m', rfl, hm'⟩
          refine PL.q rfl rfl (OQ.assign rfl) rfl ?_
          exact PL.nil fun a ha => ⟨(m', _), ha.sub ⟨rfl, rfl, rfl, rfl, trivial⟩, hx3, hm', (hFj.mono up).drop _⟩
        · refine CD.rs FW.wide rfl ?_
          refine PL.q rfl rfl (OQ.eql rfl rfl) rfl ?_
          refine PL.q rfl rfl (OQ.assign rfl) rfl ?_
          refine PL.to ?_
          refine CD.condD rfl (fun h22 => ?_) (fun h22 => ?_)
          · refine CD.r FW.wide rfl ?_
            refine PL.q rfl rfl (OQ.move rfl) rfl ?_
            refine PL.q rfl rfl (OQ.move rfl) rfl ?_
            refine PL.call FW.wide rfl rfl rfl rfl (Join_w mj mj' tj tj' w2 hMj hMj' (by omega)) ?_
            rintro _ w3 hx3 ⟨m', rfl, hm'⟩
            refine PL.q rfl rfl (OQ.assign rfl) rfl ?_
            exact PL.nil fun a ha => ⟨(m', _), ha.sub ⟨rfl, rfl, rfl, rfl, trivial⟩, hx3, hm', Fit.join (hFj'.mono up).2 (hFj.mono up)⟩
          · refine CD.rs FW.wide rfl ?_
            refine PL.q rfl rfl (OQ.eql rfl rfl) rfl ?_
            refine PL.q rfl rfl (OQ.assign rfl) rfl ?_
            refine PL.to ?_
            refine CD.condD rfl (fun h24 => ?_) (fun h24 => ?_)
            · refine CD.r FW.wide rfl ?_
              refine PL.q rfl rfl (OQ.move rfl) rfl ?_
              refine PL.q rfl rfl (OQ.move rfl) rfl ?_
              refine PL.call FW.wide rfl rfl rfl rfl (Only_w mj mj' tj tj' w2 hMj hMj' (by omega)) ?_
              rintro _ w3 hx3 ⟨m', rfl, hm'⟩
              refine PL.q rfl rfl (OQ.assign rfl) rfl ?_
              exact PL.nil fun a ha => ⟨(m', _), ha.sub ⟨rfl, rfl, rfl, rfl, trivial⟩, hx3, hm', (hFj.mono up).sift hFj'.1 _⟩
            · refine CD.rs FW.wide rfl ?_
              refine PL.q rfl rfl (OQ.eql rfl rfl) rfl ?_
              refine PL.q rfl rfl (OQ.assign rfl) rfl ?_
              refine PL.to ?_
              refine CD.condD rfl (fun h26 => ?_) (fun h26 => ?_)
              · refine CD.r FW.wide rfl ?_
                refine PL.q rfl rfl (OQ.move rfl) rfl ?_
                refine PL.q rfl rfl (OQ.move rfl) rfl ?_
                refine PL.call FW.wide rfl rfl rfl rfl (Without_w mj mj' tj tj' w2 hMj hMj' (by omega)) ?_
                rintro _ w3 hx3 ⟨m', rfl, hm'⟩
                refine PL.q rfl rfl (OQ.assign rfl) rfl ?_
                exact PL.nil fun a ha => ⟨(m', _), ha.sub ⟨rfl, rfl, rfl, rfl, trivial⟩, hx3, hm', (hFj.mono up).sift hFj'.1 _⟩
              · refine CD.exit ?_
                refine CD.r FW.wide rfl ?_
                refine PL.q rfl rfl (OQ.move rfl) rfl ?_
                refine PL.q rfl rfl (OQ.addW (r := ((i + 1 : Nat) : Int)) rfl rfl (wrap_succ (by omega))) rfl ?_
                refine PL.q rfl rfl (OQ.assign rfl) rfl ?_
                refine PL.nil ?_
                exact fun a ha => ⟨(i + 1, Ks, sl, some ⟨g, 0, none⟩, c6), ha.sub ⟨rfl, rfl, rfl, trivial⟩, ⟨hx1.trans hx2, by simp only; omega, hKs, hsl, hsl1, hown2, hall2⟩, by simp only; omega⟩
    rintro ⟨m', t'⟩ w3 ⟨hx3, hm', hf'⟩
    simp only at hm' hf'
    have zf' := hf'.size
    simp only [List.length_cons] at zf'
    refine CD.seq ?_
    refine CD.rs FW.wide rfl ?_
    refine PL.q rfl rfl (OQ.move rfl) rfl ?_
    refine PL.q rfl rfl ((by first | exact OQ.eqNN rfl rfl | exact OQ.eqNS rfl rfl | exact OQ.eqN rfl rfl)) rfl ?_
    refine PL.to ?_
    refine CD.condF rfl ?_
    refine CD.skip ?_
    refine CD.rs FW.wide rfl ?_
    refine PL.q rfl rfl (OQ.move rfl) rfl ?_
    refine PL.call FW.wide rfl rfl rfl rfl (snap_w m' t' w3 hm' hf'.1 (by omega)) ?_
    rintro _ w4 hx4 ⟨ak', ck', av', cv', rfl, ok1', ok2'⟩
    refine PL.q rfl rfl (OQ.move rfl) rfl ?_
    refine PL.q rfl rfl (OQ.extract rfl rfl) rfl ?_
    refine PL.q rfl rfl (OQ.extract rfl rfl) rfl ?_
    refine PL.alloc FW.wide rfl rfl rfl ?_
    intro b11 w11 new11
    refine PL.put FW.wide rfl rfl rfl rfl rfl new11.heap rfl rfl rfl rfl (fun _ _ => .inl trivial) ?_
    intro w5 hw5
    refine PL.q rfl rfl (OQ.assign rfl) rfl ?_
    have hb11 : w4.heap.size = b11 := new11.idx.symm
    have hx5 : Ext w4 w5 := hw5.ext new11.ext (by omega)
    have hh11 : w5.heap[b11]? = some (.cells #[ptr m', .slice ak' t'.size ck', .slice av' t'.size cv'] 41 (0, 0)) := hw5.heap
    refine PL.to ?_
    refine CD.seq ?_
    refine CD.rs FW.wide rfl ?_
    refine PL.q rfl rfl (OQ.move rfl) rfl ?_
    refine PL.q rfl rfl (OQ.not rfl) rfl ?_
    refine PL.to ?_
    refine CD.condF rfl ?_
    refine CD.skip ?_
    refine CD.r FW.wide rfl ?_
    refine PL.q rfl rfl (OQ.move rfl) rfl ?_
    refine PL.q rfl rfl (OQ.loadH (cs := [ptr m', .slice ak' t'.size ck', .slice av' t'.size cv']) rfl rfl trivial hh11) rfl ?_
    refine PL.slice1 FW.wide rfl rfl rfl rfl rfl rfl ?_
    intro b116 w6 new116
    have hx36 : Ext w3 w6 := (hx4.trans hx5).trans new116.ext
    have hx26 : Ext w2 w6 := hx3.trans hx36
    have hx06 : Ext w w6 := (hx1.trans hx2).trans hx26
    have hown6 := hown2.cext hx26.cext
    have hszw6 := hx06.size
    obtain ⟨s', hs'⟩ : ∃ s' : Sn, s' = ⟨m', t', ak', ck', av', cv'⟩ := ⟨_, rfl⟩
    have sok6 : SnOk (op.a :: Ks) w6 s' := by
      subst hs'
      have hx46 : Ext w4 w6 := hx5.trans new116.ext
      exact ⟨hm'.ext hx36, hf', (ok1'.base (Nat.zero_le _)).cext hx46.cext, (ok2'.base (Nat.zero_le _)).cext hx46.cext⟩
    refine PL.app (snC s') FW.wide rfl rfl rfl rfl rfl hown6 (by subst hs'; exact CellsAt.of_heap new116.heap) rfl rfl (by decide) (by omega) (by omega) (by omega) (fun _ _ => .inl trivial) ?_
    intro v' w7 hown7 hg7 _
    have hk7 : KT 41 w6 w7 := grown_kt hown6 hg7
    obtain ⟨a7, c7, rfl⟩ : ∃ a7 c7, v' = .slice a7 (sl.length + 1) c7 := by
      rcases hown7.form with ⟨_, h0⟩ | ⟨g7, cap, rfl, _, _⟩
      · omega
      · exact ⟨_, _, rfl⟩
    refine PL.q rfl rfl (OQ.assign rfl) rfl ?_
    refine PL.nil ?_
    refine CD.r FW.wide rfl ?_
    refine PL.q rfl rfl (OQ.move rfl) rfl ?_
    refine PL.q rfl rfl (OQ.addW (r := ((i + 1 : Nat) : Int)) rfl rfl (wrap_succ (by omega))) rfl ?_
    refine PL.q rfl rfl (OQ.assign rfl) rfl ?_
    refine PL.nil ?_
    have hx07 : Ext w w7 := hx06.trans' (S := (· < w.heap.size)) (grown_bl hg7 fun k hk => ⟨by omega, fun e => by have := (World.ownsRow.lt hown6 k e).1; omega⟩) (fun _ h => h)
    refine fun a ha => ⟨(i + 1, op.a :: Ks, sl ++ [s'], a7, c7), ha.sub ⟨rfl, by simp only [List.length_append, List.length_cons, List.length_nil]; rfl, rfl, trivial⟩, ⟨hx07, by simp only; omega, by simp [hKs], by simp; omega, by simp, ?_, ?_⟩, by simp only; omega⟩
    · have e1 : (sl ++ [s']).flatMap snC = sl.flatMap snC ++ snC s' := by simp
      simp only [e1, List.length_append, List.length_cons, List.length_nil]
      exact hown7
    · intro x hx
      rcases List.mem_append.1 hx with hx | hx
      · exact (((hall2 x hx).mono up).kt hx26.kt).kt hk7
      · obtain rfl : x = s' := by simpa using hx
        exact sok6.kt hk7
  · refine CD.exit ?_
    refine CD.seq ?_
    refine CD.rs FW.wide rfl ?_
    refine PL.q rfl rfl (OQ.assign rfl) rfl ?_
    refine PL.to ?_
    refine CD.block ?_
    refine CD.loop (α := Nat) (fun s => [(6, .slice a6 sl.length c6), (13, .int .i64 s)]) (fun s w' => Ext w1 w' ∧ s ≤ sl.length) (fun s => sl.length - s) 0 ⟨rfl, rfl, trivial⟩ ⟨Ext.refl _, by simp⟩ ?_
    rintro j w2 ⟨hx2, hj⟩
    refine CD.seq ?_
    refine CD.rs FW.wide rfl ?_
    refine PL.q rfl rfl (OQ.move rfl) rfl ?_
    refine PL.q rfl rfl (OQ.move rfl) rfl ?_
    refine PL.q rfl rfl (OQ.lenS rfl) rfl ?_
    refine PL.q rfl rfl (OQ.lss rfl rfl) rfl ?_
    refine PL.to ?_
    refine CD.condD rfl (fun h35 => ?_) (fun h35 => ?_)
    · have hj' : j < sl.length := by omega
      refine CD.skip ?_
      refine CD.seq ?_
      refine CD.block ?_
      refine CD.rs FW.wide rfl ?_
      obtain ⟨g, rfl, hcj⟩ := (hown.cext hx2.cext).atN (f := snC) (fun _ => rfl) rfl j hj'
      have hsj := (hall _ (List.getElem_mem hj')).kt hx2.kt
      refine PL.q rfl rfl (OQ.move rfl) rfl ?_
      refine PL.q rfl rfl (OQ.move rfl) rfl ?_
      refine PL.q rfl rfl (OQ.indexAddr rfl rfl (by first | assumption | omega)) rfl ?_
      refine PL.q rfl rfl (OQ.loadAS (cs := snC sl[j]) rfl rfl hcj) rfl ?_
      have zz := hsj.2.1.size
      refine PL.call FW.wide rfl rfl rfl rfl (still_w sl[j].m sl[j].t sl[j].ak sl[j].ck sl[j].av sl[j].cv w2 hsj.1 hsj.2.1.1 (by omega) (own_ints hsj.2.2.1) (own_ints hsj.2.2.2)) ?_
      rintro _ w128 hx128 rfl
      refine PL.q rfl rfl (OQ.assign rfl) rfl ?_
      refine PL.to ?_
      refine CD.rs FW.wide rfl ?_
      refine PL.q rfl rfl (OQ.move rfl) rfl ?_
      refine PL.q rfl rfl (OQ.not rfl) rfl ?_
      refine PL.to ?_
      refine CD.condF rfl ?_
      refine CD.skip ?_
      refine CD.r FW.wide rfl ?_
      refine PL.q rfl rfl (OQ.move rfl) rfl ?_
      refine PL.q rfl rfl (OQ.addW (r := ((j + 1 : Nat) : Int)) rfl rfl (wrap_succ (by omega))) rfl ?_
      refine PL.q rfl rfl (OQ.assign rfl) rfl ?_
      refine PL.nil ?_
      exact fun a ha => ⟨j + 1, ha.sub ⟨rfl, rfl, trivial⟩, ⟨hx2.trans hx128, by omega⟩, by omega⟩
    · refine CD.exit ?_
      refine CD.rs FW.wide rfl ?_
      refine PL.q rfl rfl (OQ.assign rfl) rfl ?_
      refine PL.to ?_
      exact CD.ret (post1 rfl rfl ⟨_, rfl, hx1.trans hx2, rfl⟩)
end Go.Proofs.Ytdielcpjemkngaa
