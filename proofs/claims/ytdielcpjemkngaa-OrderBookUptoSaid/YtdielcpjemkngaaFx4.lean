/-
  Framework, part 4: operations that turn the world; calls; code. Generic.
-/
import Derived.Test.YtdielcpjemkngaaFx3
namespace Go.Proofs.Ytdielcpjemkngaa
open Go.RowKit
set_option linter.unusedVariables false

/-! ### contracts -/
/-- a function returns v, has turned nothing that was there, and C holds -/
def RR (w : World) (C : Value → World → Prop) : Ending → World → Prop := fun e w' => ∃ v, e = .returned v ∧ Ext w w' ∧ C v w'
def Rt (P : Program) (k : FuncId) (vs : List Value) (w : World) (C : Value → World → Prop) : Prop := Calls P k vs.toArray w (RR w C)
/-- a function returns v, and C holds (which says what has become of the world) -/
def RG (C : Value → World → Prop) : Ending → World → Prop := fun e w' => ∃ v, e = .returned v ∧ C v w'
def Rg (P : Program) (k : FuncId) (vs : List Value) (w : World) (C : Value → World → Prop) : Prop := Calls P k vs.toArray w (RG C)

theorem Rt.mono {P : Program} {k : FuncId} {vs : List Value} {w : World} {C C' : Value → World → Prop} (h : Rt P k vs w C) (hC : ∀ v w', Ext w w' → C v w' → C' v w') : Rt P k vs w C' :=
  Calls.mono h fun _ _ ⟨v, e, x, c⟩ => ⟨v, e, x, hC _ _ x c⟩
theorem Calls.mono' {P : Program} {f : FuncId} {args : Array Value} {w : World} {R R' : Ending → World → Prop} (h : Calls P f args w R) (hr : ∀ e w', R e w' → R' e w') : Calls P f args w R' := h.mono hr

theorem comesIn_FW {P : Program} {F : Fence} (hF : FW F) {m m' : Machine} {e : Ending} (h : Comes P m m' e) : ComesIn (Machine.fenced P F) P m m' e := by
  have key : ∀ {a b : Machine}, Steps P a b → StepsIn (Machine.fenced P F) P a b := fun s => (StepsIn.of_steps s).mono fun m _ => hF.fenced P m
  cases e with
  | returned v => exact key h
  | panicked c => exact key h
  | outgrown => exact h
theorem callsIn_FW {P : Program} {F : Fence} (hF : FW F) {n : Nat} {f : FuncId} {args : Array Value} {w : World} {R : Ending → World → Prop} (h : Calls P f args w R) : CallsIn F n P f args w R :=
  ⟨hF.fn f, fun cs _ => let ⟨e, w', fr, r, s, x⟩ := h cs; ⟨e, w', fr, r, comesIn_FW hF s, x⟩⟩

/-- function k has a body -/
class En (P : Program) (k : FuncId) : Prop where
  out : ∀ args w, (callFunc k args).run P w = .ok (.enter k args) w

/-! ### new blocks -/
structure New (w w' : World) (b : Nat) (o : Obj) : Prop where
  eq : w' = w.alloc o
  idx : b = w.heap.size
theorem New.ext {w w' : World} {b : Nat} {o : Obj} (h : New w w' b o) : Ext w w' := by rw [h.eq]; exact Ext.alloc w o
theorem New.heap {w w' : World} {b : Nat} {o : Obj} (h : New w w' b o) : w'.heap[b]? = some o := by rw [h.eq, h.idx]; exact World.alloc_heap_new w o
theorem New.size {w w' : World} {b : Nat} {o : Obj} (h : New w w' b o) : w'.heap.size = b + 1 := by rw [h.eq, h.idx]; exact World.size_alloc w o
theorem cell_of_heap {w : World} {b : Nat} {cs : Array Value} {t : TypeId} {fr : Nat × Nat} (h : w.heap[b]? = some (.cells cs t fr)) {j : Nat} {v : Value} (hj : cs[j]? = some v) : w.cell? ⟨b, j, none⟩ = some v := by
  simp [World.cell?, h, hj]
theorem frozen_of_heap {w : World} {b : Nat} {cs : Array Value} {t : TypeId} (h : w.heap[b]? = some (.cells cs t (0, 0))) (j : Nat) : w.frozen? ⟨b, j, none⟩ = false := by
  simp [World.frozen?, h]
theorem New.cell {w w' : World} {b : Nat} {cs : Array Value} {t : TypeId} {fr : Nat × Nat} (h : New w w' b (.cells cs t fr)) {j : Nat} {v : Value} (hj : cs[j]? = some v) : w'.cell? ⟨b, j, none⟩ = some v := cell_of_heap h.heap hj
theorem New.lt {w w' : World} {b : Nat} {o : Obj} (h : New w w' b o) : b < w'.heap.size := by rw [h.size]; omega

/-- a mode under which what only adds blocks is let by -/
class ME (m : Md) : Prop where
  out : ∀ w w', Ext w w' → m.E w w'
instance : ME .seq := ⟨fun _ _ _ => trivial⟩
instance : ME .ext := ⟨fun _ _ h => h⟩

section
variable {P : Program} {F : Fence} {n N : Nat} {D : List Deferred} {l : List Oper} {m : Md} {K : Act → World → Prop} {L : List (Nat × Value)} {w : World}
variable {t u t' : TypeId} {pos : String} {af : Array Edge} {g : Option (Nat × Bool)} {dst : Option Tmp} {x y z : Operand} {i : Nat} {q : Bool} {rest : List (Nat × Bool)} {v : Value}

theorem PL.eff {o : Oper} (ho : l[i]? = some o) (hw : wantL l L o = some true) (hd : ∀ c, o.op ≠ .defer c) (hF : FW F)
    (h : ∀ a, Kn N D L a → o.uponIn F n P a (fun a' w' => (m.E w w' ∨ Last l i = true) ∧ wpPl P F n l m K rest a' w') NoExit ((execOp a.eval o).run P w)) : PL P F n N D l m K ((i, false) :: rest) L w := fun a ha =>
  ⟨o, ho, .inr (.inr ⟨rfl, ha.want hw, fun f _ => hF.fn f, by rw [Oper.semAt_eq _ _ _ hd]; exact h a ha⟩)⟩

theorem PL.val {o : Oper} {w' : World} (ho : l[i]? = some o) (hw : wantL l L o = some true) (hd : ∀ c, o.op ≠ .defer c) (hF : FW F) (hin : inT N o.dst = true)
    (hr : ∀ a, Kn N D L a → (execOp a.eval o).run P w = .ok (.value v) w') (hE : m.E w w') (h : PL P F n N D l m K rest (putL o.dst v L) w') : PL P F n N D l m K ((i, false) :: rest) L w :=
  PL.eff ho hw hd hF fun a ha => by rw [hr a ha]; exact ⟨.inl hE, h _ (ha.putO hin v)⟩
theorem PL.unit {o : Oper} {w' : World} (ho : l[i]? = some o) (hw : wantL l L o = some true) (hd : ∀ c, o.op ≠ .defer c) (hF : FW F) (hin : inT N o.dst = true)
    (hr : ∀ a, Kn N D L a → (execOp a.eval o).run P w = .ok .skip w') (hE : m.E w w') (h : PL P F n N D l m K rest (putL o.dst undef L) w') : PL P F n N D l m K ((i, false) :: rest) L w :=
  PL.eff ho hw hd hF fun a ha => by rw [hr a ha]; exact ⟨.inl hE, h _ (ha.putO hin undef)⟩

theorem PL.unitL {o : Oper} {w' : World} (ho : l[i]? = some o) (hw : wantL l L o = some true) (hd : ∀ c, o.op ≠ .defer c) (hF : FW F) (hin : inT N o.dst = true)
    (hr : ∀ a, Kn N D L a → (execOp a.eval o).run P w = .ok .skip w') (hE : m.E w w' ∨ Last l i = true) (h : PL P F n N D l m K rest (putL o.dst undef L) w') : PL P F n N D l m K ((i, false) :: rest) L w :=
  PL.eff ho hw hd hF fun a ha => by rw [hr a ha]; exact ⟨hE, h _ (ha.putO hin undef)⟩

theorem run_newVar (t : TypeId) (v : Value) (w : World) : (newVar t v).run P w = .ok ⟨w.heap.size, 0, none⟩ (w.alloc (.cells v.cells t)) := by
  simp only [newVar, newRow, newObj, Sem.run_bind, Sem.run, Result.andThen, Sem.run_pure]
  rfl

theorem PL.box [hm : ME m] (hF : FW F) (ho : l[i]? = some ⟨dst, .box t x, t', pos, af, g⟩) (hw : wantL l L ⟨dst, .box t x, t', pos, af, g⟩ = some true) (hx : ev L x = some v) (hin : inT N dst = true)
    (h : ∀ b w', New w w' b (.cells v.cells t) → PL P F n N D l m K rest (putL dst (.pointer (some ⟨b, 0, none⟩)) L) w') : PL P F n N D l m K ((i, false) :: rest) L w :=
  PL.val (v := .pointer (some ⟨w.heap.size, 0, none⟩)) (w' := w.alloc (.cells v.cells t)) ho hw (fun _ e => by cases e) hF hin (fun a ha => by
    have e1 := ha.eval hx
    simp only [execOp, e1, Instr.box]
    exact run_v (by simp only [Sem.run_bind, run_newVar, Result.andThen, Sem.run_pure])) (hm.out _ _ (Ext.alloc _ _)) (h _ _ ⟨rfl, rfl⟩)

theorem PL.alloc [hm : ME m] [hz : Zv P t v] (hF : FW F) (ho : l[i]? = some ⟨dst, .alloc t, t', pos, af, g⟩) (hw : wantL l L ⟨dst, .alloc t, t', pos, af, g⟩ = some true) (hin : inT N dst = true)
    (h : ∀ b w', New w w' b (.cells v.cells t) → PL P F n N D l m K rest (putL dst (.pointer (some ⟨b, 0, none⟩)) L) w') : PL P F n N D l m K ((i, false) :: rest) L w :=
  PL.val (v := .pointer (some ⟨w.heap.size, 0, none⟩)) (w' := w.alloc (.cells v.cells t)) ho hw (fun _ e => by cases e) hF hin (fun a ha => by
    obtain ⟨i, h1, h2⟩ := hz.out
    have h3 : (zeroValue t).run P w = .ok v w := by simp [zeroValue, typeInfo, program, Sem.run_bind, Sem.run, Result.andThen, h1, h2, Sem.run_pure]
    simp only [execOp]
    exact run_v (by simp only [Instr.alloc, Sem.run_bind, h3, run_newVar, Result.andThen, Sem.run_pure])) (hm.out _ _ (Ext.alloc _ _)) (h _ _ ⟨rfl, rfl⟩)

/-- a value of one cell -/
def oneV : Value → Bool
  | .agg _ => false
  | .tuple _ => false
  | _ => true
theorem run_store1 {b : Addr} {v old : Value} {w : World} (h1 : oneV v = true) (hc : w.cell? b = some old) (hf : w.frozen? b = false) : (store b v).run P w = .ok () (w.setCell b v) := by
  cases v <;> simp [oneV] at h1 <;> simp [store, Sem.run, hc, hf]
theorem run_storeVar1 [hs : Sz1 P t] {b : Addr} {v old : Value} {w : World} (h1 : oneV v = true) (hc : w.cell? b = some old) (hf : w.frozen? b = false) : (storeVar t b v).run P w = .ok () (w.setCell b v) := by
  obtain ⟨i, h2, h3⟩ := hs.out
  have h4 : v.cells = #[v] := by cases v <;> first | rfl | (simp [oneV] at h1)
  have h5 := run_store1 (P := P) h1 hc hf
  have h6 : b.add 0 = b := rfl
  simp [storeVar, sizeOf, typeInfo, program, Sem.run_bind, Sem.run, Result.andThen, h2, h3, h4, storeCells, h6, h5]

theorem PL.store [Sz1 P t] {b : Addr} {old : Value} (hF : FW F) (ho : l[i]? = some ⟨dst, .store t x y, t', pos, af, g⟩) (hw : wantL l L ⟨dst, .store t x y, t', pos, af, g⟩ = some true)
    (hx : ev L x = some (.pointer (some b))) (hy : ev L y = some v) (h1 : oneV v = true) (hin : inT N dst = true) (hc : w.cell? b = some old) (hf : w.frozen? b = false) (hE : m.E w (w.setCell b v))
    (h : PL P F n N D l m K rest (putL dst undef L) (w.setCell b v)) : PL P F n N D l m K ((i, false) :: rest) L w :=
  PL.unit ho hw (fun _ e => by cases e) hF hin (fun a ha => by
    have e1 := ha.eval hx; have e2 := ha.eval hy
    simp only [execOp, e1, e2, Instr.storeAt, Instr.sureAddr]
    exact run_u (by simp only [Sem.run_bind, Sem.run_pure, Result.andThen]; exact run_storeVar1 h1 hc hf)) hE h

/-- a struct, written out -/
theorem OQ.build {ps : Array (Nat × Operand)} {vs : List (Nat × Value)} {fs : Array Field} {zero : TypeInfo} {zv : Value} {pl : Array (Nat × Nat)} {cs : Array Value}
    (hu : P.underlying t = some (.struct fs)) (hz : P.info? t = some zero) (hz' : zero.zero = some zv) (hpl : ∀ W, (fs.mapM fun f => (do pure (f.offset, ← sizeOf f.type) : Sem (Nat × Nat))).run P W = .ok pl W)
    (hv : ∀ a, Kn N D L a → (ps.map fun (i, x) => (i, a.eval x)).toList = vs) (hc : Instr.fill (pl[·]?) zv.cells vs = some cs) : OQ P m N D ⟨dst, .build t ps, t', pos, af, g⟩ L w (.agg cs) := fun a ha W _ => by
  have h3 : (zeroValue t).run P W = .ok zv W := by simp [zeroValue, typeInfo, program, Sem.run_bind, Sem.run, Result.andThen, hz, hz', Sem.run_pure]
  simp only [execOp]
  refine run_v ?_
  have := hv a ha
  simp only [Instr.build, Sem.run_bind, h3, Result.andThen, underlying, program, Sem.run, hu, Sem.run_pure, hpl, this, hc]

/-! ### calls -/
theorem PL.callL {k : FuncId} [hk : En P k] {args : Array Operand} {ts : Array TypeId} {vs : List Value} {C : Value → World → Prop} (hF : FW F)
    (ho : l[i]? = some ⟨dst, .call ⟨.value (.func k), args, ts⟩, t', pos, af, g⟩) (hw : wantL l L ⟨dst, .call ⟨.value (.func k), args, ts⟩, t', pos, af, g⟩ = some true)
    (ha : evs L args.toList = some vs) (hin : inT N dst = true) (hc : Rg P k vs w C) (hE : ∀ v w', C v w' → m.E w w' ∨ Last l i = true)
    (h : ∀ v w', C v w' → PL P F n N D l m K rest (putL dst v L) w') : PL P F n N D l m K ((i, false) :: rest) L w :=
  PL.eff ho hw (fun _ e => by cases e) hF fun a hka => by
    have e1 : args.map a.eval = vs.toArray := Array.toList_inj.1 (by rw [Array.toList_map]; exact hka.evals ha)
    have e2 : a.eval (.func k) = .func (.func k) #[] #[] := rfl
    simp only [execOp, resolve, e1, e2, Deferred.ofValue, Sem.run_pure, Sem.run_bind, Result.andThen, invoke, Array.append_empty, Array.empty_append, hk.out, Oper.uponIn]
    refine ⟨hF.hn, CallsIn.mono (callsIn_FW hF hc) ?_⟩
    rintro e w' ⟨v, rfl, hC⟩
    exact ⟨hE v w' hC, h v w' hC _ (hka.putO hin v)⟩
theorem PL.callG {k : FuncId} [hk : En P k] {args : Array Operand} {ts : Array TypeId} {vs : List Value} {C : Value → World → Prop} (hF : FW F)
    (ho : l[i]? = some ⟨dst, .call ⟨.value (.func k), args, ts⟩, t', pos, af, g⟩) (hw : wantL l L ⟨dst, .call ⟨.value (.func k), args, ts⟩, t', pos, af, g⟩ = some true)
    (ha : evs L args.toList = some vs) (hin : inT N dst = true) (hc : Rg P k vs w C) (hE : ∀ v w', C v w' → m.E w w')
    (h : ∀ v w', C v w' → PL P F n N D l m K rest (putL dst v L) w') : PL P F n N D l m K ((i, false) :: rest) L w :=
  PL.callL hF ho hw ha hin hc (fun v w' hC => .inl (hE v w' hC)) h
theorem PL.call {k : FuncId} [En P k] [hm : ME m] {args : Array Operand} {ts : Array TypeId} {vs : List Value} {C : Value → World → Prop} (hF : FW F)
    (ho : l[i]? = some ⟨dst, .call ⟨.value (.func k), args, ts⟩, t', pos, af, g⟩) (hw : wantL l L ⟨dst, .call ⟨.value (.func k), args, ts⟩, t', pos, af, g⟩ = some true)
    (ha : evs L args.toList = some vs) (hin : inT N dst = true) (hc : Rt P k vs w C)
    (h : ∀ v w', Ext w w' → C v w' → PL P F n N D l m K rest (putL dst v L) w') : PL P F n N D l m K ((i, false) :: rest) L w :=
  PL.callG (C := fun v w' => Ext w w' ∧ C v w') hF ho hw ha hin hc (fun v w' hC => hm.out _ _ hC.1) (fun v w' hC => h v w' hC.1 hC.2)

/-- a call of a function value: a closure -/
theorem PL.callV {k : FuncId} [hk : En P k] {fv : Operand} {args : Array Operand} {ts : Array TypeId} {vs : List Value} {fs cs : List Value} {C : Value → World → Prop} (hF : FW F)
    (ho : l[i]? = some ⟨dst, .call ⟨.value fv, args, ts⟩, t', pos, af, g⟩) (hw : wantL l L ⟨dst, .call ⟨.value fv, args, ts⟩, t', pos, af, g⟩ = some true)
    (hfv : ev L fv = some (.func (.func k) fs.toArray cs.toArray)) (ha : evs L args.toList = some vs) (hin : inT N dst = true) (hc : Rg P k (fs ++ vs ++ cs) w C) (hE : ∀ v w', C v w' → m.E w w')
    (h : ∀ v w', C v w' → PL P F n N D l m K rest (putL dst v L) w') : PL P F n N D l m K ((i, false) :: rest) L w :=
  PL.eff ho hw (fun _ e => by cases e) hF fun a hka => by
    have e1 : args.map a.eval = vs.toArray := Array.toList_inj.1 (by rw [Array.toList_map]; exact hka.evals ha)
    have e2 := hka.eval hfv
    have e3 : fs.toArray ++ vs.toArray ++ cs.toArray = (fs ++ vs ++ cs).toArray := by simp
    simp only [execOp, resolve, e1, e2, Deferred.ofValue, Sem.run_pure, Sem.run_bind, Result.andThen, invoke, hk.out, Oper.uponIn, e3]
    refine ⟨hF.hn, CallsIn.mono (callsIn_FW hF hc) ?_⟩
    rintro e w' ⟨v, rfl, hC⟩
    exact ⟨.inl (hE v w' hC), h v w' hC _ (hka.putO hin v)⟩

/-- a call of a loop body's yield -/
theorem PL.yield {j : Nat} {fv : Operand} {args : Array Operand} {ts : Array TypeId} {vs : List Value} {C : Value → World → Prop} (hF : FW F)
    (ho : l[i]? = some ⟨dst, .call ⟨.value fv, args, ts⟩, t', pos, af, g⟩) (hw : wantL l L ⟨dst, .call ⟨.value fv, args, ts⟩, t', pos, af, g⟩ = some true)
    (hfv : ev L fv = some (.func (.yield j) #[] #[])) (ha : evs L args.toList = some vs) (hin : inT N dst = true) (hc : YieldAt F (n - 1) P j vs.toArray w (RG C)) (hE : ∀ v w', C v w' → m.E w w')
    (h : ∀ v w', C v w' → PL P F n N D l m K rest (putL dst v L) w') : PL P F n N D l m K ((i, false) :: rest) L w :=
  PL.eff ho hw (fun _ e => by cases e) hF fun a hka => by
    have e1 : args.map a.eval = vs.toArray := Array.toList_inj.1 (by rw [Array.toList_map]; exact hka.evals ha)
    have e2 := hka.eval hfv
    obtain ⟨fn, tmps, assign, body, hy, hR⟩ := hc
    simp only [execOp, resolve, e1, e2, Deferred.ofValue, Sem.run_pure, Sem.run_bind, Result.andThen, invoke, Array.empty_append, hy, Oper.uponIn]
    refine ⟨hF.hn, RoundIn.mono hR ?_⟩
    rintro e w' ⟨v, rfl, hC⟩
    exact ⟨.inl (hE v w' hC), h v w' hC _ (hka.putO hin v)⟩

/-! ### code -/
variable {Q : Exit → Act → World → Prop} {id : Nat} {c c1 c2 : Code}

def mkPlan : List Oper → Nat → List (Nat × Bool)
  | [], _ => []
  | _ :: r, i => (i, false) :: mkPlan r (i + 1)
theorem mkPlan_eq : ∀ (l : List Oper) (k : Nat), mkPlan l k = (List.range' k l.length).map (fun i => (i, false))
  | [], _ => rfl
  | _ :: r, k => by simp [mkPlan, mkPlan_eq r (k + 1), List.range'_succ]

/-- a region in the order of the text, code behind it -/
theorem CD.rs (hF : FW F) (hpl : plainOps l = true) (h : PL P F n N D l .seq (fun a w' => c.wpIn F n P Q a w') (mkPlan l 0) L w) : CD P F n N D (.seq (.region id l.toArray false) c) Q L w := fun a ha =>
  wpIn_seq (region_seq hF hpl (by
    have := h a ha
    rw [mkPlan_eq, ← List.range_eq_range'] at this
    exact this))
/-- a region alone -/
theorem CD.r (hF : FW F) (hpl : plainOps l = true) (h : PL P F n N D l .seq (Q .normal) (mkPlan l 0) L w) : CD P F n N D (.region id l.toArray false) Q L w := fun a ha =>
  region_seq hF hpl (by
    have := h a ha
    rw [mkPlan_eq, ← List.range_eq_range'] at this
    exact this)
/-- a region in whatever order, by a plan -/
theorem CD.as (m : Md) (hm : m.any) (hF : FW F) (hmix : P.follows .mixedOrders = true) (pl : List (Nat × Bool)) (hpl : plainOps l = true) (hlen : pl.length = l.length) (hok : planOK l pl (Array.replicate l.length false) = true)
    (h : ∀ w1, Ext w w1 → w1.heap = w.heap → PL P F n N D l m (fun a w' => c.wpIn F n P Q a w') pl L w1) : CD P F n N D (.seq (.region id l.toArray true) c) Q L w := fun a ha =>
  wpIn_seq (region_any (m := m) hm hF hmix pl hpl hlen hok (h w.drew (Ext.drew w) rfl a ha))
theorem CD.a (m : Md) (hm : m.any) (hF : FW F) (hmix : P.follows .mixedOrders = true) (pl : List (Nat × Bool)) (hpl : plainOps l = true) (hlen : pl.length = l.length) (hok : planOK l pl (Array.replicate l.length false) = true)
    (h : ∀ w1, Ext w w1 → w1.heap = w.heap → PL P F n N D l m (Q .normal) pl L w1) : CD P F n N D (.region id l.toArray true) Q L w := fun a ha =>
  region_any (m := m) hm hF hmix pl hpl hlen hok (h w.drew (Ext.drew w) rfl a ha)

theorem PL.to (h : CD P F n N D c Q L w) : PL P F n N D l m (fun a w' => c.wpIn F n P Q a w') [] L w := h

theorem CD.seq (h : CD P F n N D c1 (Exit.then (fun a w' => c2.wpIn F n P Q a w') Q) L w) : CD P F n N D (.seq c1 c2) Q L w := fun a ha => wpIn_seq (h a ha)
/-- the ways through c1 meet again: what is known behind it is said by M and C -/
theorem CD.cut {α : Type} (M : α → List (Nat × Value)) (C : α → World → Prop) (h : CD P F n N D c1 (Exit.then (fun a w' => ∃ s, Kn N D (M s) a ∧ C s w') Q) L w) (h2 : ∀ s w', C s w' → CD P F n N D c2 Q (M s) w') :
    CD P F n N D (.seq c1 c2) Q L w := fun a ha => wpIn_seq (wpIn_mono (h a ha) fun e a' w' hq => by
      cases e with
      | normal => obtain ⟨s, hk, hc⟩ := hq; exact h2 s w' hc a' hk
      | _ => exact hq)
theorem CD.block (h : CD P F n N D c (Exit.inBlock id Q) L w) : CD P F n N D (.block id c) Q L w := fun a ha => wpIn_block (h a ha)
theorem CD.cond {b : Bool} (hx : ev L x = some (.bool b)) (ht : b = true → CD P F n N D c1 Q L w) (hf : b = false → CD P F n N D c2 Q L w) : CD P F n N D (.cond x c1 c2) Q L w := fun a ha =>
  wpIn_cond_split (ha.eval hx) (fun e => ht e a ha) (fun e => hf e a ha)
theorem CD.condT (hx : ev L x = some (.bool true)) (ht : CD P F n N D c1 Q L w) : CD P F n N D (.cond x c1 c2) Q L w := fun a ha => wpIn_cond (ha.eval hx) (ht a ha)
theorem CD.condF (hx : ev L x = some (.bool false)) (hf : CD P F n N D c2 Q L w) : CD P F n N D (.cond x c1 c2) Q L w := fun a ha => wpIn_cond (ha.eval hx) (hf a ha)
theorem CD.condD {p : Prop} [Decidable p] (hx : ev L x = some (.bool (decide p))) (ht : p → CD P F n N D c1 Q L w) (hf : ¬ p → CD P F n N D c2 Q L w) : CD P F n N D (.cond x c1 c2) Q L w :=
  CD.cond hx (fun e => ht (of_decide_eq_true e)) (fun e => hf (of_decide_eq_false e))
theorem CD.skip (h : ∀ a, Kn N D L a → Q .normal a w) : CD P F n N D .skip Q L w := fun a ha => wpIn_skip (h a ha)
theorem CD.exit (h : ∀ a, Kn N D L a → Q (.exit id) a w) : CD P F n N D (.exit id) Q L w := fun a ha => wpIn_exit (h a ha)
theorem CD.ret (h : ∀ a, Kn N D L a → Q .ret a w) : CD P F n N D .ret Q L w := fun a ha => wpIn_ret (h a ha)
/-- forget slots -/
theorem CD.sub (M : List (Nat × Value)) (hs : Sub M L) (h : CD P F n N D c Q M w) : CD P F n N D c Q L w := fun a ha => h a (ha.sub hs)
theorem PL.sub {pl : List (Nat × Bool)} (M : List (Nat × Value)) (hs : Sub M L) (h : PL P F n N D l m K pl M w) : PL P F n N D l m K pl L w := fun a ha => h a (ha.sub hs)

theorem exists_least (p : Nat → Prop) : ∀ k, p k → ∃ j, p j ∧ ∀ i, p i → j ≤ i := by
  intro k
  induction k using Nat.strongRecOn with
  | _ k ih =>
    intro hk
    by_cases h : ∃ i, i < k ∧ p i
    · obtain ⟨i, hi, hp⟩ := h; exact ih i hi hp
    · exact ⟨k, hk, fun i hi => Nat.le_of_not_lt fun hlt => h ⟨i, hlt, hi⟩⟩
theorem CD.loop {α : Type} (M : α → List (Nat × Value)) (I : α → World → Prop) (μ : α → Nat) (s0 : α) (hs : Sub (M s0) L) (h0 : I s0 w)
    (round : ∀ s w, I s w → CD P F n N D c (Exit.then (fun a w' => ∃ s', Kn N D (M s') a ∧ I s' w' ∧ μ s' < μ s) Q) (M s) w) : CD P F n N D (.loop c) Q L w := fun a ha => by
  have hl : ∀ a w, (∃ s, Kn N D (M s) a ∧ I s w) → ∃ j, (∃ s, Kn N D (M s) a ∧ I s w ∧ μ s = j) ∧ ∀ i, (∃ s, Kn N D (M s) a ∧ I s w ∧ μ s = i) → j ≤ i :=
    fun a w ⟨s, h1, h2⟩ => exists_least (fun j => ∃ s, Kn N D (M s) a ∧ I s w ∧ μ s = j) (μ s) ⟨s, h1, h2, rfl⟩
  have hl' : ∀ a w, ∃ j, (∃ s, Kn N D (M s) a ∧ I s w) → (∃ s, Kn N D (M s) a ∧ I s w ∧ μ s = j) ∧ ∀ i, (∃ s, Kn N D (M s) a ∧ I s w ∧ μ s = i) → j ≤ i := fun a w => by
    by_cases h : ∃ s, Kn N D (M s) a ∧ I s w
    · obtain ⟨j, hj⟩ := hl a w h; exact ⟨j, fun _ => hj⟩
    · exact ⟨0, fun h' => absurd h' h⟩
  refine wpIn_loop (fun a w => ∃ s, Kn N D (M s) a ∧ I s w) (fun a w => Classical.choose (hl' a w)) ⟨s0, ha.sub hs, h0⟩ fun a w hI => ?_
  obtain ⟨⟨s, hk, hi, hμ⟩, hleast⟩ := Classical.choose_spec (hl' a w) hI
  refine wpIn_mono (round s w hi a hk) fun e a' w' hq => ?_
  cases e with
  | normal =>
    obtain ⟨s', hk', hi', hlt⟩ := hq
    refine ⟨⟨s', hk', hi'⟩, ?_⟩
    have := (Classical.choose_spec (hl' a' w') ⟨s', hk', hi'⟩).2 _ ⟨s', hk', hi', rfl⟩
    omega
  | _ => exact hq

/-! ### a function's beginning and end -/
def argsL : List Value → Nat → List (Nat × Value)
  | [], _ => []
  | v :: r, i => (i, v) :: argsL r (i + 1)
theorem lk_argsL : ∀ (vs : List Value) (k t : Nat) (v : Value), lk (argsL vs k) t = some v → k ≤ t ∧ vs[t - k]? = some v
  | [], _, _, _, e => by simp [argsL, lk] at e
  | u :: r, k, t, v, e => by
    simp only [argsL, lk] at e
    cases hb : Nat.beq t k with
    | true =>
      rw [hb] at e
      simp only [cond_true, Option.some.injEq] at e
      have := Nat.eq_of_beq_eq_true hb
      subst this; subst e
      exact ⟨Nat.le_refl _, by simp⟩
    | false =>
      rw [hb] at e
      obtain ⟨h1, h2⟩ := lk_argsL r (k + 1) t v e
      refine ⟨by omega, ?_⟩
      have : t - k = (t - (k + 1)) + 1 := by omega
      rw [this]; simpa using h2

theorem kn_enter (vs : List Value) (N : Nat) (h : vs.length ≤ N) : Kn N [] (argsL vs 0) { tmps := vs.toArray ++ Array.replicate (N - vs.toArray.size) undef, defers := [] } := by
  refine ⟨by simp; omega, rfl, fun t v e => ?_⟩
  obtain ⟨_, h2⟩ := lk_argsL vs 0 t v e
  have h3 : vs[t]? = some v := by simpa using h2
  have hlt := (List.getElem?_eq_some_iff.1 h3).1
  rw [Array.getElem?_append_left (by simpa using hlt)]
  simpa using h3

theorem Calls.of_CD {R : Ending → World → Prop} {fn : Func} {k : FuncId} {vs : List Value} (hf : P.funcs[k]? = some fn) (hb : fn.body = some c) (hn : fn.ntmps = N) (hl : Nat.ble vs.length N = true)
    (h : CD P Fence.wide 0 N [] c (bodyPost P fn R) (argsL vs 0) w) : Calls P k vs.toArray w R := by
  refine callsIn_wide.1 (callsIn_of_wp (n := 0) hf hb trivial ?_)
  rw [hn]
  exact h _ (kn_enter vs N (Nat.le_of_ble_eq_true hl))
theorem Rt.of {C : Value → World → Prop} {fn : Func} {k : FuncId} {vs : List Value} (hf : P.funcs[k]? = some fn) (hb : fn.body = some c) (hn : fn.ntmps = N) (hl : Nat.ble vs.length N = true)
    (h : CD P Fence.wide 0 N [] c (bodyPost P fn (RR w C)) (argsL vs 0) w) : Rt P k vs w C := Calls.of_CD hf hb hn hl h
theorem Rg.of {C : Value → World → Prop} {fn : Func} {k : FuncId} {vs : List Value} (hf : P.funcs[k]? = some fn) (hb : fn.body = some c) (hn : fn.ntmps = N) (hl : Nat.ble vs.length N = true)
    (h : CD P Fence.wide 0 N [] c (bodyPost P fn (RG C)) (argsL vs 0) w) : Rg P k vs w C := Calls.of_CD hf hb hn hl h

theorem Kn.get {a : Act} (h : Kn N D L a) {t : Nat} (hv : lk L t = some v) : a.tmps.getD t undef = v := by
  have := h.slot t v hv
  simp [this]
theorem post1 {R : Ending → World → Prop} {fn : Func} {t : Tmp} (hr : fn.results = #[.tmp t]) (hv : lk L t = some v) (hR : R (.returned v) w) : ∀ a, Kn N [] L a → bodyPost P fn R .ret a w := fun a ha =>
  ⟨ha.defers, v, by rw [results_tmp hr, ha.get hv], hR⟩
theorem post2 {R : Ending → World → Prop} {fn : Func} {t1 t2 : Tmp} {v1 v2 : Value} (hr : fn.results = #[.tmp t1, .tmp t2]) (h1 : lk L t1 = some v1) (h2 : lk L t2 = some v2) (hR : R (.returned (.tuple #[v1, v2])) w) :
    ∀ a, Kn N [] L a → bodyPost P fn R .ret a w := fun a ha =>
  ⟨ha.defers, _, by rw [results_tmp2 hr, ha.get h1, ha.get h2], hR⟩
theorem post3 {R : Ending → World → Prop} {fn : Func} {t1 t2 t3 : Tmp} {v1 v2 v3 : Value} (hr : fn.results = #[.tmp t1, .tmp t2, .tmp t3]) (h1 : lk L t1 = some v1) (h2 : lk L t2 = some v2) (h3 : lk L t3 = some v3) (hR : R (.returned (.tuple #[v1, v2, v3])) w) :
    ∀ a, Kn N [] L a → bodyPost P fn R .ret a w := fun a ha =>
  ⟨ha.defers, _, by rw [results_tmp3 hr, ha.get h1, ha.get h2, ha.get h3], hR⟩
theorem post0 {R : Ending → World → Prop} {fn : Func} (hr : fn.results = #[]) (hR : R (.returned (.tuple #[])) w) : ∀ a, Kn N [] L a → bodyPost P fn R .ret a w := fun a ha =>
  ⟨ha.defers, _, results_none hr _ _ _, hR⟩
theorem post0n {R : Ending → World → Prop} {fn : Func} (hr : fn.results = #[]) (hR : R (.returned (.tuple #[])) w) : ∀ a, Kn N [] L a → bodyPost P fn R .normal a w := fun a ha =>
  ⟨ha.defers, _, results_none hr _ _ _, hR⟩
end
end Go.Proofs.Ytdielcpjemkngaa
