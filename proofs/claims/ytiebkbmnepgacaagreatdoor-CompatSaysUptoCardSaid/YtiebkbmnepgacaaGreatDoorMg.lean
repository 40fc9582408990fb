import Derived.Test.YtiebkbmnepgacaaGreatDoorMa
import Derived.Test.YtiebkbmnepgacaaGreatDoorMf
import Derived.Lib.Builder
import Derived.Lib.UnsafeStr
import Derived.Lib.MakeNoZero
import Derived.Laws.Externs
import Derived.RecoverIn
import Derived.Lib.Bytealg
/-
  Library functions that the evaluator takes by a rule of their own: a builder's check and its text.
-/
namespace Go.Proofs.YtiebkbmnepgacaaGreatDoor
open Go.RowKit
set_option linter.unusedVariables false

theorem run_172 (v : Value) (w : World) : (callFunc 172 #[v]).run Tryz.prog w = .ok (.value v) w := by
  rw [run_callFunc_extern Tryz.func172 (by kernel_rfl) (by kernel_rfl) (by kernel_rfl) (e := Extern.AbiNoEscape.same) (by kernel_rfl)]
  rfl
theorem run_call_ext {N : Nat} {D : List Deferred} {L : List (Nat × Value)} {dst : Option Tmp} {x : Operand} {ts : Array TypeId} {t : TypeId} {pos : String} {af : Array Edge} {g : Option (Nat × Bool)} {v : Value} (hx : ev L x = some v) (a : Act) (ha : Kn N D L a) (w : World) :
    (execOp a.eval ⟨dst, .call ⟨.value (.func 172), #[x], ts⟩, t, pos, af, g⟩).run Tryz.prog w = .ok (.value v) w := by
  have e1 := ha.eval hx
  have e2 : a.eval (.func 172) = .func (.func 172) #[] #[] := rfl
  simp only [execOp, resolve, List.map_toArray, List.map_cons, List.map_nil, e1, e2, Deferred.ofValue, Sem.run_pure, Sem.run_bind, Result.andThen, invoke, Array.append_empty, Array.empty_append, run_172]

theorem copyCheck_fresh (b : Nat) (x : Value) (w : World) (h : w.heap[b]? = some (.cells #[.pointer none, x] 101 (0, 0))) :
    Rg Tryz.prog 102 [.pointer (some ⟨b, 0, none⟩)] w fun v w' => v = .tuple #[] ∧ w' = w.setCell ⟨b, 0, none⟩ (.pointer (some ⟨b, 0, none⟩)) := by
  have c0 : w.cell? ⟨b, 0, none⟩ = some (.pointer none) := cell_of_heap h rfl
  have hsh : w.shape? b = some (101, 2) := by simp [World.shape?, h]
  obtain ⟨j, hj, hjs⟩ : ∃ j, Tryz.prog.info? 101 = some j ∧ j.size ≠ 0 := by
    have := inf101
    cases hi : Tryz.prog.info? 101 with
    | none => rw [hi] at this; cases this
    | some j =>
      rw [hi] at this
      simp only [Option.map_some, Option.some.injEq, infT, Prod.mk.injEq] at this
      exact ⟨j, rfl, by omega⟩
  refine Rg.of Tryz.func102 rfl Tryz.ntmps102 (by rfl) ?_
  refine CD.rs FW.wide rfl ?_
  refine PL.q rfl rfl (OQ.move rfl) rfl ?_
  refine PL.q rfl rfl (OQ.nilp rfl) rfl ?_
  refine PL.q rfl rfl (OQ.field0 rfl) rfl ?_
  refine PL.q rfl rfl (OQ.loadS rfl c0) rfl ?_
  refine PL.q rfl rfl (OQ.eqNN rfl rfl) rfl ?_
  refine PL.to (CD.condT rfl (CD.r FW.wide rfl ?_))
  refine PL.q rfl rfl (OQ.move rfl) rfl ?_
  refine PL.q rfl rfl (OQ.move rfl) rfl ?_
  refine PL.q (v := .pointer (some ⟨b, 0, none⟩)) rfl rfl (fun a ha W hW => ?_) rfl ?_
  · have e1 := ha.eval (x := .tmp 8) rfl
    cases hW
    simp only [execOp, e1]
    exact run_v (Lib.run_to_unsafe w ⟨b, 0, none⟩ Tryz.underlying98 Tryz.underlying307 hj hjs hsh (Nat.zero_lt_succ 1))
  refine PL.val (v := .pointer (some ⟨b, 0, none⟩)) rfl rfl (fun _ e => by cases e) FW.wide rfl (fun a ha => run_call_ext rfl a ha w) trivial ?_
  refine PL.q (v := .pointer (some ⟨b, 0, none⟩)) rfl rfl (fun a ha W hW => ?_) rfl ?_
  · have e1 := ha.eval (x := .tmp 10) rfl
    cases hW
    simp only [execOp, e1]
    exact run_v (Lib.run_from_unsafe w ⟨b, 0, none⟩ Tryz.underlying307 Tryz.underlying98 hj hsh (by kernel_rfl))
  refine PL.q rfl rfl (OQ.nilp rfl) rfl ?_
  refine PL.q rfl rfl (OQ.field0 rfl) rfl ?_
  refine PL.store FW.wide rfl rfl rfl rfl rfl rfl c0 (frozen_of_heap h 0) trivial ?_
  exact PL.nil (post0n rfl ⟨_, rfl, rfl, rfl⟩)
theorem copyCheck_used (b : Nat) (x : Value) (w : World) {ty : TypeId} (h : w.heap[b]? = some (.cells #[.pointer (some ⟨b, 0, none⟩), x] ty (0, 0))) :
    Rg Tryz.prog 102 [.pointer (some ⟨b, 0, none⟩)] w fun v w' => v = .tuple #[] ∧ w' = w := by
  have c0 : w.cell? ⟨b, 0, none⟩ = some (.pointer (some ⟨b, 0, none⟩)) := cell_of_heap h rfl
  obtain ⟨j, hj⟩ : ∃ j, Tryz.prog.info? 101 = some j := by
    have := inf101
    cases hi : Tryz.prog.info? 101 with
    | none => rw [hi] at this; cases this
    | some j => exact ⟨j, rfl⟩
  refine Rg.of Tryz.func102 rfl Tryz.ntmps102 (by rfl) ?_
  refine CD.rs FW.wide rfl ?_
  refine PL.q rfl rfl (OQ.move rfl) rfl ?_
  refine PL.q rfl rfl (OQ.nilp rfl) rfl ?_
  refine PL.q rfl rfl (OQ.field0 rfl) rfl ?_
  refine PL.q rfl rfl (OQ.loadS rfl c0) rfl ?_
  refine PL.q rfl rfl (OQ.eqNS rfl rfl) rfl ?_
  refine PL.to (CD.condF rfl (CD.rs FW.wide rfl ?_))
  refine PL.q rfl rfl (OQ.move rfl) rfl ?_
  refine PL.q rfl rfl (OQ.nilp rfl) rfl ?_
  refine PL.q rfl rfl (OQ.field0 rfl) rfl ?_
  refine PL.q rfl rfl (OQ.loadS rfl c0) rfl ?_
  refine PL.q rfl rfl (OQ.move rfl) rfl ?_
  refine PL.q rfl rfl (OQ.bin' rfl rfl rfl (v := .bool false) fun W _ => Lib.run_neq_ptr_same W _ Tryz.underlying98 hj) rfl ?_
  refine PL.to (CD.condF rfl (CD.skip (post0n rfl ⟨_, rfl, rfl, rfl⟩)))

/-- a builder's text -/
theorem str_row (b g cap : Nat) (p : Value) (cur : Array Value) (l : List UInt8) (w : World) {ty : TypeId} (h : w.heap[b]? = some (.cells #[p, .slice (some ⟨g, 0, none⟩) l.length cap] ty (0, 0))) (hg : w.heap[g]? = some (.cells cur 5 (0, 0)))
    (hl : l ≠ []) (hn : l.length ≤ cur.size) (h63 : l.length ≤ 9223372036854775807) (hc : ∀ (j : Nat) (x : UInt8), l[j]? = some x → cur[j]? = some (.int .u8 x.toNat)) (hcap : cap ≠ 0) :
    Rg Tryz.prog 48 [.pointer (some ⟨b, 0, none⟩)] w fun v w' => v = .string ⟨l.toArray⟩ ∧ ∃ w1, Ext w w1 ∧ w' = w1.freeze ⟨g, 0, none⟩ l.length := by
  refine Rg.of Tryz.func48 rfl Tryz.ntmps48 (by rfl) ?_
  refine CD.rs FW.wide rfl ?_
  refine PL.q rfl rfl (OQ.assign rfl) rfl ?_
  refine PL.to (CD.as .ext trivial FW.wide (by kernel_rfl) [(0, true), (1, true), (2, true), (3, true), (5, true), (6, true), (7, true), (8, true), (9, true), (4, true), (10, false), (11, true)] rfl rfl (by kernel_rfl) ?_)
  intro w1 hx hh
  have h1 : w1.heap[b]? = some (.cells #[p, .slice (some ⟨g, 0, none⟩) l.length cap] ty (0, 0)) := by rw [hh]; exact h
  have g1 : w1.heap[g]? = some (.cells cur 5 (0, 0)) := by rw [hh]; exact hg
  have c1 : w1.cell? ⟨b, 1, none⟩ = some (.slice (some ⟨g, 0, none⟩) l.length cap) := cell_of_heap h1 rfl
  refine PL.q rfl rfl (OQ.move rfl) rfl ?_
  refine PL.q rfl rfl (OQ.nilp rfl) rfl ?_
  refine PL.q rfl rfl (OQ.field0 rfl) rfl ?_
  refine PL.q rfl rfl (OQ.loadX rfl c1) rfl ?_
  refine PL.q rfl rfl (OQ.move rfl) rfl ?_
  refine PL.q rfl rfl (OQ.nilp rfl) rfl ?_
  refine PL.q rfl rfl (OQ.field0 rfl) rfl ?_
  refine PL.q rfl rfl (OQ.loadX rfl c1) rfl ?_
  refine PL.q rfl rfl (OQ.lenS rfl) rfl ?_
  refine PL.q (v := .pointer (some ⟨g, 0, none⟩)) rfl rfl (fun a ha W hW => ?_) rfl ?_
  · have e1 := ha.eval (x := .tmp 6) rfl
    simp only [execOp, resolve, List.map_toArray, List.map_cons, List.map_nil, e1, Sem.run_bind, Sem.run_pure, Result.andThen, invoke, builtin]
    rw [Lib.run_unsafeSliceData_row W _ _ _ _ _ hcap]
  refine PL.eff rfl rfl (fun _ e => by cases e) FW.wide fun a ha => ?_
  have e1 := ha.eval (x := .tmp 7) rfl
  have e2 := ha.eval (x := .tmp 12) rfl
  have hU := Lib.run_unsafeString_row (P := Tryz.prog) w1 209 3 9 5 Tryz.underlying209 (by kernel_rfl) g cur.size (by simp [World.shape?, g1]) l hl hn h63 (fun j x hj => by
    rw [Addr.add_lit, Nat.zero_add]; exact cell_of_heap g1 (hc j x hj))
  have hrun : ∀ (pos : String) (af : Array Edge), (execOp a.eval ⟨some 13, .call ⟨.builtin .unsafeString, #[.tmp 7, .tmp 12], #[209, 3]⟩, 9, pos, af, none⟩).run Tryz.prog w1 = .ok (.value (.string ⟨l.toArray⟩)) (w1.freeze ⟨g, 0, none⟩ l.length) := fun pos af => by
    simp only [execOp, resolve, List.map_toArray, List.map_cons, List.map_nil, e1, e2, Sem.run_bind, Sem.run_pure, Result.andThen, invoke, builtin]
    rw [hU]
  rw [hrun]
  refine ⟨.inr (by kernel_rfl), ?_⟩
  refine (PL.q (w := w1.freeze ⟨g, 0, none⟩ l.length) rfl rfl (OQ.assign rfl) rfl ?_) _ (ha.putO (by rfl) _)
  exact PL.to (CD.ret (post1 rfl rfl ⟨_, rfl, rfl, w1, hx, rfl⟩))
theorem str_nil (b : Nat) (p : Value) (w : World) {ty : TypeId} (h : w.heap[b]? = some (.cells #[p, .slice none 0 0] ty (0, 0))) :
    Rg Tryz.prog 48 [.pointer (some ⟨b, 0, none⟩)] w fun v w' => v = .string .empty ∧ Ext w w' := by
  refine Rg.of Tryz.func48 rfl Tryz.ntmps48 (by rfl) ?_
  refine CD.rs FW.wide rfl ?_
  refine PL.q rfl rfl (OQ.assign rfl) rfl ?_
  refine PL.to (CD.as .ext trivial FW.wide (by kernel_rfl) [(0, true), (1, true), (2, true), (3, true), (5, true), (6, true), (7, true), (8, true), (9, true), (4, true), (10, true), (11, true)] rfl rfl (by kernel_rfl) ?_)
  intro w1 hx hh
  have h1 : w1.heap[b]? = some (.cells #[p, .slice none 0 0] ty (0, 0)) := by rw [hh]; exact h
  have c1 : w1.cell? ⟨b, 1, none⟩ = some (.slice none 0 0) := cell_of_heap h1 rfl
  refine PL.q rfl rfl (OQ.move rfl) rfl ?_
  refine PL.q rfl rfl (OQ.nilp rfl) rfl ?_
  refine PL.q rfl rfl (OQ.field0 rfl) rfl ?_
  refine PL.q rfl rfl (OQ.loadX rfl c1) rfl ?_
  refine PL.q rfl rfl (OQ.move rfl) rfl ?_
  refine PL.q rfl rfl (OQ.nilp rfl) rfl ?_
  refine PL.q rfl rfl (OQ.field0 rfl) rfl ?_
  refine PL.q rfl rfl (OQ.loadX rfl c1) rfl ?_
  refine PL.q rfl rfl (OQ.lenS rfl) rfl ?_
  refine PL.q (v := .pointer none) rfl rfl (fun a ha W hW => ?_) rfl ?_
  · have e1 := ha.eval (x := .tmp 6) rfl
    simp only [execOp, resolve, List.map_toArray, List.map_cons, List.map_nil, e1, Sem.run_bind, Sem.run_pure, Result.andThen, invoke, builtin]
    rw [Lib.run_unsafeSliceData_nil W]
  refine PL.q (v := .string .empty) rfl rfl (fun a ha W hW => ?_) rfl ?_
  · have e1 := ha.eval (x := .tmp 7) rfl
    have e2 := ha.eval (x := .tmp 12) rfl
    simp only [execOp, resolve, List.map_toArray, List.map_cons, List.map_nil, e1, e2, Sem.run_bind, Sem.run_pure, Result.andThen, invoke, builtin]
    have hU := Lib.run_unsafeString_none (P := Tryz.prog) W 209 3 9 none
    have h0 : ((0 : Nat) : Int) = 0 := rfl
    rw [h0, hU]
  refine PL.q rfl rfl (OQ.assign rfl) rfl ?_
  exact PL.to (CD.ret (post1 rfl rfl ⟨_, rfl, rfl, hx⟩))
end Go.Proofs.YtiebkbmnepgacaaGreatDoor
/-
  Deferred functions that ask for a panic, where there is none.
-/
namespace Go.Proofs.YtiebkbmnepgacaaGreatDoor
open Go.RowKit
set_option linter.unusedVariables false

section
variable {F : Fence} {n : Nat} {P : Program} {Q : Exit → Act → List Frame → World → Prop} {a : Act} {cs : List Frame} {w : World}
/-- a region that begins with recover, where nothing panics -/
theorem region_recover {ops : Array Oper} {o : Oper} {id m : Nat} (hro : F.round = none) (hF : FW F) (ho : ops[0]? = some o) (hg : o.guard = none) (hr : ∀ W, (execOp a.eval o).run P W = .ok .recover W) (hsz : ops.size = m + 1) (hrec : recoverD cs = none)
    (h : wpOpsIn F n P ops (fun e a' w' => Q e a' cs w') (List.range' 1 m) (a.put o.dst .nilIface) w) : (Code.region id ops false).wpSIn F n P Q a cs w := by
  intro b k hb hr' hFb hroom
  have hroom' : F.room (cs.length + 1 + n) := hroom
  obtain ⟨e, a', w', hq, harr⟩ := wp_opsIn (List.range' 1 m) (a.put o.dst .nilIface) w h b k cs (hr'.trans hro.symm) hFb hroom
  have hw : Region.wanted o (yielded ops a.tmps) = true := by simp [Region.wanted, hg]
  have hgo := stepGR_op (P := P) (b := b) (k := k) (cs := cs) (w := w) (rest := List.range' 1 m) ho hw
  rw [hr', Oper.semAt_none] at hgo
  have hfin : ∀ v, (b.atR a (.inRegion ops (0 :: List.range' 1 m) :: k)).finish v = b.atR (a.put o.dst v) (.inRegion ops (List.range' 1 m) :: k) := by
    intro v; rw [Frame.finish_atR, ho]; rfl
  have hk : (b.atR a (.inRegion ops (0 :: List.range' 1 m) :: k)).kind = .deferred := hb
  have htr := tryRecover_deferred hk cs
  have h0 : (lone (b.atR a (.inRegion ops (0 :: List.range' 1 m) :: k)) cs w).fenced P F := hF.fenced P _
  have hlist : List.range ops.size = 0 :: List.range' 1 m := by
    rw [hsz, List.range_eq_range', List.range'_succ]
  refine ⟨e, a', cs, w', rfl, hq, .of_steps (.one (hF.fenced P _) stepR_region) ?_⟩
  rw [hlist]
  refine .of_steps (.one h0 (step_lone_go ?_)) harr
  rw [hgo, ← hfin]
  simp only [Frame.atR, hr'] at htr ⊢
  simp [stepG.apply, hr, htr, hrec]
end

theorem run_recover (a : Act) (dst : Option Tmp) (ats : Array TypeId) (t : TypeId) (pos : String) (af : Array Edge) (g : Option (Nat × Bool)) (W : World) :
    (execOp a.eval ⟨dst, .call ⟨.builtin .recover, #[], ats⟩, t, pos, af, g⟩).run Tryz.prog W = .ok .recover W := by
  simp only [execOp, resolve, Sem.run_bind, Sem.run_pure, Result.andThen, invoke, builtin]

/-- the evaluator without rules of its own -/
noncomputable def par0 : Ew.Par := { P := Tryz.prog, G := 0, ov := fun _ => none, quietD := fun _ => false }
theorem par0_ok : Ew.ParOK par0 := ⟨by kernel_rfl, fun f r l h v h' e => (by cases e), fun f e => (by cases e)⟩
noncomputable def val22 : Ew.R → Bool
  | .val .nilp _ => true
  | _ => false
theorem ev22 : val22 (Ew.ev par0 30 (.cl (.fn 22 [.nili] ⟨.leaf, .h⟩))) = true := by decide +kernel
instance : Pt Tryz.prog 59 := ⟨⟨_, Tryz.underlying59⟩⟩
instance : En Tryz.prog 22 := enters Tryz.func22 (by kernel_rfl) rfl
/-- bind.caught of nothing -/
theorem caught_nil (w : World) : Rt Tryz.prog 22 [.nilIface] w fun v w' => v = .pointer none := by
  have h := ev22
  unfold val22 at h
  split at h
  · rename_i h' he
    obtain ⟨_, h1⟩ := Ew.ev_calls par0_ok rfl he rfl (args := #[.nilIface]) ⟨_, _, rfl, rfl, rfl⟩ w
    exact Calls.mono' h1 fun e w' ⟨x, h2, ⟨ρ', h3⟩, h4⟩ => ⟨x, h2, h4, h3⟩
  · cases h

theorem bodyPostS_end {P : Program} {fn : Func} {c₀ : Frame} {cs : List Frame} {w0 w : World} {N : Nat} {L : List (Nat × Value)} (hr : fn.results = #[]) (hu : c₀.mode = .returning) (hx : Ext w0 w) :
    ∀ a, Kn N [] L a → bodyPostS P fn c₀ cs (fun e u w' => ∃ v, e = .returned v ∧ settle u = .returning ∧ Ext w0 w') .normal a (c₀ :: cs) w := fun a ha =>
  ⟨ha.defers, .returning, by rw [← hu], _, results_none hr _ _ _, _, rfl, rfl, hx⟩
theorem kn_args (args : Array Value) (N : Nat) (h : args.size ≤ N) : Kn N [] [] { tmps := args ++ Array.replicate (N - args.size) undef, defers := [] } := ⟨by simp; omega, rfl, fun t v e => by cases e⟩
theorem recoverD_none {c₀ : Frame} {cs : List Frame} (hu : c₀.mode = .returning) : recoverD (c₀ :: cs) = none := by simp [recoverD, hu]

theorem quiet21 (args : Array Value) (w : World) (hs : args.size ≤ 8) : CallsDIn Fence.wide 0 Tryz.prog 21 args .returning w fun e u w' => ∃ v, e = .returned v ∧ settle u = .returning ∧ Ext w w' := by
  refine callsDIn_of_wpSIn Tryz.func21 rfl trivial fun c₀ cs hu => ?_
  have hk := kn_args args 9 (by omega)
  rw [Tryz.ntmps21]
  refine wpSIn_seq (region_recover (m := 2) rfl FW.wide rfl rfl (fun W => run_recover _ _ _ _ _ _ _ W) rfl (recoverD_none hu) ?_)
  refine wpPl_seq (Q := fun e a' w' => Exit.thenS _ _ e a' (c₀ :: cs) w') FW.wide (by kernel_rfl) [(1, false), (2, false)] _ w ?_
  refine (PL.call (N := 9) (D := []) (L := putL (some 3) .nilIface []) FW.wide rfl rfl rfl rfl (caught_nil w) ?_) _ (hk.putO (dst := some 3) (by rfl) _)
  rintro v w1 hx rfl
  refine PL.q rfl rfl (OQ.assign rfl) rfl ?_
  refine PL.nil fun a ha => wpSIn_of_wpIn rfl ?_
  refine (CD.rs (D := []) FW.wide rfl ?_) a ha
  refine PL.q rfl rfl (OQ.move rfl) rfl ?_
  refine PL.q rfl rfl (OQ.neNN rfl rfl) rfl ?_
  exact PL.to (CD.condF rfl (CD.skip (bodyPostS_end rfl hu hx)))
theorem val_eqNil (t : TypeId) (W : World) : (do eqGuard .eql 20 (.tmp 5) (.const .nilIface) .nilIface .nilIface; binOp .eql 20 .nilIface .nilIface : Sem Value).run Tryz.prog W = .ok (.bool true) W := by
  have h := Ew.guard_nil (P := Tryz.prog) (w := W) (op := .eql) (t := 20) (x := .tmp 5) (y := .const .nilIface) (.inr rfl)
  rw [Sem.run_bind, h]
  simp only [Result.andThen]
  have h2 : ∀ d : Nat, (Op.equalIn (d + 1) 20 .nilIface .nilIface).run Tryz.prog W = .ok true W := fun d => by
    simp [Op.equalIn, run_underlying Tryz.underlying20]
  simp only [binOp]
  simp [Op.equal, Op.maxDepth, h2 9999]
theorem quiet178 (args : Array Value) (w : World) (hs : args.size ≤ 8) : CallsDIn Fence.wide 0 Tryz.prog 178 args .returning w fun e u w' => ∃ v, e = .returned v ∧ settle u = .returning ∧ Ext w w' := by
  refine callsDIn_of_wpSIn Tryz.func178 rfl trivial fun c₀ cs hu => ?_
  have hk := kn_args args 17 (by omega)
  rw [Tryz.ntmps178]
  refine wpSIn_seq (region_recover (m := 0) rfl FW.wide rfl rfl (fun W => run_recover _ _ _ _ _ _ _ W) rfl (recoverD_none hu) ?_)
  refine (wpSIn_of_wpIn (n := 0) rfl ?_ : Code.wpSIn Fence.wide 0 Tryz.prog _ _ _ (c₀ :: cs) w)
  refine (CD.block (N := 17) (D := []) (L := putL (some 5) .nilIface []) ?_) _ (hk.putO (dst := some 5) (by rfl) _)
  refine CD.rs FW.wide rfl ?_
  refine PL.q (v := .bool true) rfl rfl (fun a ha W hW => ?_) rfl ?_
  · have e1 := ha.eval (x := .tmp 5) rfl
    have e2 : a.eval (.const .nilIface) = .nilIface := rfl
    simp only [execOp, e1, e2]
    exact run_v (val_eqNil 20 W)
  refine PL.to (CD.condT rfl (CD.r FW.wide rfl ?_))
  refine PL.q rfl rfl (OQ.assign rfl) rfl ?_
  exact PL.nil (bodyPostS_end rfl hu (Ext.refl w))
end Go.Proofs.YtiebkbmnepgacaaGreatDoor
/-
  The rules of their own, and why they hold.
-/
namespace Go.Proofs.YtiebkbmnepgacaaGreatDoor
open Go.RowKit Ew
set_option linter.unusedVariables false
noncomputable section

def idxB (c : Nat) : List Nat → Nat → Int
  | [], _ => -1
  | x :: l, n => bif Nat.beq x c then .ofNat n else idxB c l (n + 1)
def ov430 : List AV → HP → Option (AV × HP) := fun l h => match l with
  | [.str s _, .int .u8 (.ofNat c)] => bif Nat.ble c 255 then fI (idxB c s 0) fun n => some (.int .i64 n, h) else none
  | _ => none
def ov102 : List AV → HP → Option (AV × HP) := fun l h => match l with
  | [.ptr b 0] => match h.get b with
    | some (.cells [.nilp, x] t none true) => bif Nat.beq t 101 then h.set b (some (.cells [.ptr b 0, x] t none true)) fun h => some (.tup [], h) else none
    | some (.cells [.ptr c 0, _] t none _) => bif Nat.beq t 101 && Pos.eqb b c then some (.tup [], h) else none
    | _ => none
  | _ => none
def ov48 : List AV → HP → Option (AV × HP) := fun l h => match l with
  | [.ptr b 0] => match h.get b with
    | some (.cells [_, .nils] t none _) => bif Nat.beq t 101 then some (.str [] 0, h) else none
    | some (.cells [_, .sl c 0 n _ _] t none _) => match h.get c with
      | some (.cells l u (some 1) true) => bif Nat.beq t 101 && Nat.beq u 5 && Nat.ble 1 n then takeK none n l fun l => byt none l 0 fun s m => h.set c none fun h => some (.str s m, h) else none
      | _ => none
    | _ => none
  | _ => none
def ov173 : List AV → HP → Option (AV × HP) := fun l h => match l with
  | [.int .i64 (.ofNat n)] => bif Nat.ble n 1000000 then h.new (.cells [] 5 (some 1) true) fun b h => some (.sl b 0 n 0 false, h) else none
  | _ => none
def ovs (f : FuncId) : Option (List AV → HP → Option (AV × HP)) := bif Nat.beq f 430 then some ov430 else bif Nat.beq f 102 then some ov102 else bif Nat.beq f 48 then some ov48 else bif Nat.beq f 173 then some ov173 else none
def parC (G : Nat) : Par := { P := Tryz.prog, G := G, ov := ovs, quietD := fun f => Nat.beq f 21 || Nat.beq f 178 }

theorem idxB_eq {c : Nat} (hc : c < 256) : ∀ (s : List Nat) (n : Nat), (∀ x ∈ s, x < 256) → idxB c s n = if Lib.indexByte (s.map UInt8.ofNat) (UInt8.ofNat c) = -1 then -1 else Lib.indexByte (s.map UInt8.ofNat) (UInt8.ofNat c) + n
  | [], n, _ => rfl
  | x :: s, n, h => by
    have hx := h x (by simp)
    have ih := idxB_eq hc s (n + 1) fun y hy => h y (by simp [hy])
    have hpos : ∀ (l : List UInt8) (d : UInt8), Lib.indexByte l d = -1 ∨ 0 ≤ Lib.indexByte l d := fun l d => by
      induction l with
      | nil => exact .inl rfl
      | cons y l ihl =>
        simp only [Lib.indexByte]
        split
        · exact .inr (by omega)
        · split
          · exact .inl rfl
          · rename_i h1
            have h2 : Lib.indexByte l d ≠ -1 := by simpa using h1
            have := ihl.resolve_left h2
            exact .inr (by omega)
    unfold idxB
    simp only [List.map_cons, Lib.indexByte]
    cases hb : Nat.beq x c with
    | true =>
      have := Nat.eq_of_beq_eq_true hb
      subst this
      simp
    | false =>
      have hne : x ≠ c := fun e => by subst e; rw [Nat.beq_refl] at hb; cases hb
      have hne2 : (UInt8.ofNat x == UInt8.ofNat c) = false := by
        rw [beq_eq_false_iff_ne]
        exact fun e => hne ((ofNat_inj hx hc).1 e)
      simp only [cond_false, hne2, ih]
      simp only [Bool.false_eq_true, if_false]
      rcases hpos (s.map UInt8.ofNat) (UInt8.ofNat c) with h1 | h1
      · simp [h1]
      · have h2 : Lib.indexByte (s.map UInt8.ofNat) (UInt8.ofNat c) ≠ -1 := by omega
        have h3 : Lib.indexByte (s.map UInt8.ofNat) (UInt8.ofNat c) + 1 ≠ -1 := by omega
        simp only [h2, if_false, beq_iff_eq, h3]
        push_cast
        omega

section
variable {ρ : RM} {w : World}
theorem vrl1 {x : AV} {args : Array Value} (h : VrL ρ [x] args.toList) : ∃ a, args = #[a] ∧ Vr ρ x a := by
  obtain ⟨a, r, e, h1, h2⟩ := h
  have : r = [] := h2
  subst this
  exact ⟨a, Array.toList_inj.1 e, h1⟩
theorem vrl2 {x y : AV} {args : Array Value} (h : VrL ρ [x, y] args.toList) : ∃ a b, args = #[a, b] ∧ Vr ρ x a ∧ Vr ρ y b := by
  obtain ⟨a, r, e, h1, b, r', e', h2, h3⟩ := h
  have : r' = [] := h3
  subst this; subst e'
  exact ⟨a, b, Array.toList_inj.1 e, h1, h2⟩
theorem bif_some {α : Type} {b : Bool} {x : Option α} {r : α} (h : (bif b then x else none) = some r) : b = true ∧ x = some r := by
  cases b with
  | true => exact ⟨rfl, h⟩
  | false => cases h

theorem ok430 {l : List AV} {h : HP} {v : AV} {h' : HP} (hq : ov430 l h = some (v, h')) {args : Array Value} (ha : VrL ρ l args.toList) (hr : Hr Tryz.prog ρ h.g h.nx w) : Res Tryz.prog 430 args w (Fin Tryz.prog ρ h w v h') := by
  unfold ov430 at hq
  split at hq
  · rename_i s m c
    obtain ⟨hc, hq1⟩ := bif_some hq
    have hc := Nat.le_of_ble_eq_true hc
    rw [fI_eq] at hq1
    cases hq1
    obtain ⟨a, b, rfl, ⟨h1, h2, h3⟩, h4⟩ := vrl2 ha
    have h4' : b = .int .u8 (c : Int) := h4
    subst h4'; subst h1
    refine .inr ⟨.int .i64 (Lib.indexByte (⟨(s.map UInt8.ofNat).toArray⟩ : ByteArray).data.toList (c : Int).toNat.toUInt8), w, ?_, ρ, ?_, hr, Stp.refl⟩
    · rw [run_callFunc_extern Tryz.func430 (by kernel_rfl) (by kernel_rfl) (by kernel_rfl) (e := Extern.BytealgIndexByte.indexByte) (by kernel_rfl), Lib.run_indexByteString]
      rfl
    · show Value.int .i64 _ = Value.int .i64 _
      congr 1
      rw [idxB_eq (by omega) s 0 h3]
      have e1 : (⟨(s.map UInt8.ofNat).toArray⟩ : ByteArray).data.toList = s.map UInt8.ofNat := by simp
      have e2 : (c : Int).toNat.toUInt8 = UInt8.ofNat c := rfl
      rw [e1, e2]
      by_cases hm : Lib.indexByte (s.map UInt8.ofNat) (UInt8.ofNat c) = -1
      · rw [if_pos hm, hm]
      · rw [if_neg hm]; simp
  · cases hq

theorem ok173 {l : List AV} {h : HP} {v : AV} {h' : HP} (hq : ov173 l h = some (v, h')) {args : Array Value} (ha : VrL ρ l args.toList) (hr : Hr Tryz.prog ρ h.g h.nx w) : Res Tryz.prog 173 args w (Fin Tryz.prog ρ h w v h') := by
  unfold ov173 at hq
  split at hq
  · rename_i n
    obtain ⟨hc, hq1⟩ := bif_some hq
    have hc := Nat.le_of_ble_eq_true hc
    obtain ⟨h1, e1, e2, e3⟩ := HP.new_spec h (.cells [] 5 (some 1) true) (fun b h => some (AV.sl b 0 n 0 false, h))
    rw [e1] at hq1
    cases hq1
    obtain ⟨a, rfl, h4⟩ := vrl1 ha
    have h4' : a = .int .i64 (n : Int) := h4
    subst h4'
    obtain ⟨cs, g1, g2, g3⟩ := Lib.run_makeNoZero (P := Tryz.prog) w #[3] 99 5 Tryz.underlying99 n (by omega)
    have g3 := g3 (by unfold maxLen; omega)
    obtain ⟨u1, u2, u3⟩ := hr_new (k := cs.size) (w' := w.drew.drew.alloc (.cells cs 5)) hr e2 e3 (((Ext.drew w).trans (Ext.drew _)).trans (Ext.alloc _ _)) (fun ρ' _ => OrC.or ⟨cs, World.alloc_heap_new w.drew.drew _, Nat.zero_le _, rfl, fun h => (by cases h), fun sz h => (by cases h; exact ⟨(Nat.mul_one _).symm, g3⟩)⟩)
    refine .inr ⟨_, _, ?_, _, ⟨_, _, _, upd_same _ _ _, rfl, g2, fun h => (by cases h), fun _ _ => rfl⟩, u1, u2⟩
    rw [run_callFunc_extern Tryz.func173 (by kernel_rfl) (by kernel_rfl) (by kernel_rfl) (e := Extern.BytealgMakeNoZero.makeNoZero #[3] #[99]) (by kernel_rfl), g1]
    rfl
  · cases hq

theorem cells2 {c k : Nat} {x y : AV} {t : TypeId} {wr : Bool} (h : Or Tryz.prog ρ w c k (.cells [x, y] t none wr)) : ∃ t', (wr = true → t' = t) ∧ ∃ a b, w.heap[c]? = some (.cells #[a, b] t' (0, 0)) ∧ Vr ρ x a ∧ Vr ρ y b := by
  obtain ⟨t', h0, cs, h1, h2, h3, h4, _⟩ := h
  refine ⟨t', h0, ?_⟩
  have hs := h4 rfl
  rw [List.take_of_length_le (by simp at hs ⊢; omega)] at h3
  obtain ⟨a, b, e, h5, h6⟩ := vrl2 h3
  subst e
  exact ⟨a, b, h1, h5, h6⟩
theorem ok102 {l : List AV} {h : HP} {v : AV} {h' : HP} (hq : ov102 l h = some (v, h')) {args : Array Value} (ha : VrL ρ l args.toList) (hr : Hr Tryz.prog ρ h.g h.nx w) : Res Tryz.prog 102 args w (Fin Tryz.prog ρ h w v h') := by
  unfold ov102 at hq
  split at hq
  · rename_i b
    obtain ⟨a, rfl, c, k, hρ, rfl⟩ := vrl1 ha
    split at hq
    · rename_i x t hb
      obtain ⟨ht, hq1⟩ := bif_some hq
      have ht : t = 101 := Nat.eq_of_beq_eq_true ht
      subst ht
      obtain ⟨h1, e1, e2, e3⟩ := HP.set_spec h b (some (.cells [.ptr b 0, x] 101 none true)) (fun h => some (AV.tup [], h))
      rw [e1] at hq1
      cases hq1
      rw [HP.get_eq] at hb
      have hO := hr.obj b _ c k hb hρ
      obtain ⟨_, et, p0, xv, g1, g2, g3⟩ := cells2 hO
      cases et rfl
      have g2' : p0 = .pointer none := g2
      subst g2'
      have hw := setCell_wr (o := 0) g1 (.pointer (some ⟨c, 0, none⟩))
      refine .inl ⟨(inferInstance : En Tryz.prog 102).out _ _, Calls.mono' (copyCheck_fresh c xv w g1) ?_⟩
      rintro e w' ⟨y, rfl, rfl, rfl⟩
      refine ⟨_, rfl, ρ, ⟨#[], rfl, rfl⟩, ?_, ?_⟩
      · rw [e2, e3]
        exact hr.set (Ew.Wr.w1 hw) hb hρ (OrC.or ⟨_, hw.heap, by simp [setAt_eq], ⟨_, _, rfl, ⟨c, k, hρ, rfl⟩, _, _, rfl, g3, rfl⟩, fun _ => (by simp [setAt_eq]), fun sz h => (by cases h)⟩)
      · rw [e2, e3]
        exact Stp.set hr (Ew.Wr.w1 hw) hb hρ rfl
    · rename_i d y t wr hb
      obtain ⟨ht, hq1⟩ := bif_some hq
      cases hq1
      simp only [Bool.and_eq_true] at ht
      have ht1 : t = 101 := Nat.eq_of_beq_eq_true ht.1
      have ht2 := Pos.eqb_eq.1 ht.2
      subst ht1; subst ht2
      rw [HP.get_eq] at hb
      obtain ⟨t', et, p0, xv, g1, ⟨c', k', g2, g3⟩, _⟩ := cells2 (hr.obj b _ c k hb hρ)
      rw [hρ] at g2
      cases g2
      subst g3
      refine .inl ⟨(inferInstance : En Tryz.prog 102).out _ _, Calls.mono' (copyCheck_used c xv w g1) ?_⟩
      rintro e w' ⟨y, rfl, rfl, rfl⟩
      exact ⟨_, rfl, ρ, ⟨#[], rfl, rfl⟩, hr, Stp.refl⟩
    · cases hq
  · cases hq

theorem freeze_w1 (w : World) (g n : Nat) : W1 w (w.freeze ⟨g, 0, none⟩ n) g := by
  unfold World.freeze
  split
  · exact ⟨rfl, rfl, rfl, rfl, fun _ _ => rfl⟩
  · exact ⟨rfl, rfl, rfl, by simp, fun k hk => by simp [Array.getElem?_modify, Ne.symm hk]⟩
theorem ok48 {l : List AV} {h : HP} {v : AV} {h' : HP} (hq : ov48 l h = some (v, h')) {args : Array Value} (ha : VrL ρ l args.toList) (hr : Hr Tryz.prog ρ h.g h.nx w) : Res Tryz.prog 48 args w (Fin Tryz.prog ρ h w v h') := by
  unfold ov48 at hq
  split at hq
  · rename_i b
    obtain ⟨a, rfl, c, k, hρ, rfl⟩ := vrl1 ha
    split at hq
    · rename_i x t wr hb
      obtain ⟨ht, hq1⟩ := bif_some hq
      have ht : t = 101 := Nat.eq_of_beq_eq_true ht
      subst ht
      cases hq1
      rw [HP.get_eq] at hb
      obtain ⟨t', et, p0, xv, g1, _, g3⟩ := cells2 (hr.obj b _ c k hb hρ)
      have g3' : xv = .slice none 0 0 := g3
      subst g3'
      refine .inl ⟨(inferInstance : En Tryz.prog 48).out _ _, Calls.mono' (str_nil c p0 w g1) ?_⟩
      rintro e w' ⟨y, rfl, rfl, hx⟩
      exact ⟨_, rfl, ρ, ⟨rfl, rfl, fun x hx => (by cases hx)⟩, hr.ext hx, Stp.ext hx⟩
    · rename_i x d n q ex t wr hb
      split at hq
      · rename_i l' u hd
        obtain ⟨ht, hq1⟩ := bif_some hq
        simp only [Bool.and_eq_true] at ht
        have ht1 : t = 101 := Nat.eq_of_beq_eq_true ht.1.1
        have ht2 : u = 5 := Nat.eq_of_beq_eq_true ht.1.2
        have ht3 : 1 ≤ n := Nat.le_of_ble_eq_true ht.2
        subst ht1; subst ht2
        rcases takeK_eq none n l' (fun l => byt none l 0 fun s m => h.set d none fun h => some (AV.str s m, h)) with hn | ⟨hn, he⟩
        · rw [hn] at hq1; cases hq1
        · rw [he] at hq1
          obtain ⟨s, hs1, hs2, hq2⟩ := byt_some hq1
          obtain ⟨h1, e1, e2, e3⟩ := HP.set_spec h d none (fun h => some (AV.str s (0 + s.length), h))
          rw [e1] at hq2
          cases hq2
          rw [HP.get_eq] at hb hd
          obtain ⟨t', et, p0, xv, g1, _, cd, kd, q', g2, g3, g4, _⟩ := cells2 (hr.obj b _ c k hb hρ)
          subst g3
          obtain ⟨cur, r1, r2, r3, _, r5⟩ := (hr.obj d _ cd kd hd g2).w
          have hlen : s.length = n := by
            have := congrArg List.length hs2
            simp at this; omega
          have hvals : (cur.toList.take l'.length).take n = (s.map fun x : Nat => (x : Int)).map (Value.int .u8) := by
            have := r3.take n
            rw [hs2] at this
            exact vrl_bytes this
          have hcell : ∀ (j : Nat) (x : UInt8), (s.map UInt8.ofNat)[j]? = some x → cur[j]? = some (.int .u8 x.toNat) := fun j x hj => by
            have h5 : j < s.length := by
              have := (List.getElem?_eq_some_iff.1 hj).1
              simpa using this
            have h6 := congrArg (fun z => z[j]?) hvals
            simp only [List.getElem?_take, List.getElem?_map] at h6
            rw [if_pos (by omega), if_pos (by omega)] at h6
            have h7 : s[j]? = some s[j] := List.getElem?_eq_getElem h5
            rw [h7] at h6
            simp only [List.getElem?_map, h7, Option.map_some, Option.some.injEq] at hj
            subst hj
            have h8 : (UInt8.ofNat s[j]).toNat = s[j] := toNat_ofNat (hs1 _ (List.getElem_mem h5))
            rw [h8]
            simpa using h6
          subst hlen
          have hsz : (s.map UInt8.ofNat).length = s.length := by simp
          refine .inl ⟨(inferInstance : En Tryz.prog 48).out _ _, Calls.mono' (str_row c cd q' p0 cur (s.map UInt8.ofNat) w (by rw [hsz]; exact g1) r1 (by intro e; rw [e] at hsz; simp at hsz; omega) (by rw [hsz]; omega) (by
            have q1 := (r5 1 rfl).2; have q2 := (r5 1 rfl).1; simp only [maxLen] at q1; rw [hsz]; omega) hcell (by omega)) ?_⟩
          rintro e w' ⟨y, rfl, rfl, w1, hx, rfl⟩
          obtain ⟨u1, u2⟩ := hr_drop (hr.ext hx) hd g2 rfl (freeze_w1 w1 cd (s.map UInt8.ofNat).length)
          refine ⟨_, rfl, ρ, ⟨rfl, by omega, hs1⟩, ?_, ?_⟩
          · rw [e2, e3]; exact u1
          · rw [e2, e3]; exact (Stp.ext hx).trans u2
      · cases hq
    · cases hq
  · cases hq

theorem parC_ok (G : Nat) : ParOK (parC G) where
  mix := by kernel_rfl
  ov := fun f r l h v h' hov hq ρ w args ha hr hG => by
    have hov0 : ovs f = some r := hov
    unfold ovs at hov0
    cases h1 : Nat.beq f 430 with
    | true =>
      rw [h1] at hov0
      cases hov0
      have := Nat.eq_of_beq_eq_true h1
      subst this
      exact ok430 hq ha hr
    | false =>
      rw [h1] at hov0
      cases h2 : Nat.beq f 102 with
      | true =>
        rw [h2] at hov0
        cases hov0
        have := Nat.eq_of_beq_eq_true h2
        subst this
        exact ok102 hq ha hr
      | false =>
        rw [h2] at hov0
        cases h3 : Nat.beq f 48 with
        | true =>
          rw [h3] at hov0
          cases hov0
          have := Nat.eq_of_beq_eq_true h3
          subst this
          exact ok48 hq ha hr
        | false =>
          rw [h3] at hov0
          cases h4 : Nat.beq f 173 with
          | true =>
            rw [h4] at hov0
            cases hov0
            have := Nat.eq_of_beq_eq_true h4
            subst this
            exact ok173 hq ha hr
          | false => rw [h4] at hov0; cases hov0
  qd := fun f hf args w hs => by
    have hf0 : (Nat.beq f 21 || Nat.beq f 178) = true := hf
    rcases Bool.or_eq_true _ _ ▸ hf0 with h1 | h1
    · have := Nat.eq_of_beq_eq_true h1
      subst this
      exact ⟨(enters Tryz.func21 (by kernel_rfl) rfl : En Tryz.prog 21).out _ _, quiet21 args w hs⟩
    · have := Nat.eq_of_beq_eq_true h1
      subst this
      exact ⟨(enters Tryz.func178 (by kernel_rfl) rfl : En Tryz.prog 178).out _ _, quiet178 args w hs⟩
end
end
end Go.Proofs.YtiebkbmnepgacaaGreatDoor
