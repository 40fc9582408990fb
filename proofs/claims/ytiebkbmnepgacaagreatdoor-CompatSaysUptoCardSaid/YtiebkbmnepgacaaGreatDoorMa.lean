import Derived.OrdersIn
import Derived.RangeFuncFrom
import Derived.WalkKit
import Derived.OwnWalkIn
import Derived.RangeFuncKeeps
import Derived.RangeFuncLeaves
import Derived.Maps.AppendAt
import Derived.Test.YtiebkbmnepgacaaGreatDoorProg
/-
  Framework, part 1: a region in whatever order, by one plan. Generic: nothing of a program.
-/
namespace Go.Proofs.YtiebkbmnepgacaaGreatDoor
open Go.RowKit
set_option linter.unusedVariables false

/-- Ways in which a region's worlds may go on: text order (nothing is asked); any order (whatever was there stays); any order, written from B on. -/
inductive Md where
  | seq
  | ext
  | below (S : Nat → Prop)

def Ext (w w' : World) : Prop := Below w.heap.size w w'
theorem Ext.refl (w : World) : Ext w w := Below.refl _ _
theorem Ext.trans {a b c : World} (h : Ext a b) (k : Ext b c) : Ext a c := Below.trans h (Below.mono k h.size)
theorem Ext.alloc (w : World) (o : Obj) : Ext w (w.alloc o) := (Below.refl _ _).alloc (Nat.le_refl _) o
theorem Ext.drew (w : World) : Ext w w.drew := (Below.refl _ _).drew
theorem Ext.size {w w' : World} (h : Ext w w') : w.heap.size ≤ w'.heap.size := Below.size h
theorem lt_of_cell {w : World} {a : Addr} {v : Value} (h : w.cell? a = some v) : a.block < w.heap.size := World.block_lt_of_cell? w a h
theorem Ext.cell {w w' : World} (h : Ext w w') {a : Addr} {v : Value} (hc : w.cell? a = some v) : w'.cell? a = some v := by
  rw [Below.cell h (lt_of_cell hc)]; exact hc
theorem Ext.frozen {w w' : World} (h : Ext w w') {a : Addr} (hc : a.block < w.heap.size) : w'.frozen? a = w.frozen? a := Below.frozen h hc
theorem Ext.heap {w w' : World} (h : Ext w w') {k : Nat} {o : Obj} (hk : w.heap[k]? = some o) : w'.heap[k]? = some o := by
  have := (Array.getElem?_eq_some_iff.1 hk).1
  rw [Below.block h k this]; exact hk

/-- every block of S lies as it lay; the streams are as they were; no block has gone -/
structure Bl (S : Nat → Prop) (w w' : World) : Prop where
  os : w'.os = w.os
  tape : w'.tape = w.tape
  output : w'.output = w.output
  size : w.heap.size ≤ w'.heap.size
  block : ∀ k, S k → w'.heap[k]? = w.heap[k]?
theorem Bl.refl (S : Nat → Prop) (w : World) : Bl S w w := ⟨rfl, rfl, rfl, Nat.le_refl _, fun _ _ => rfl⟩
theorem Bl.trans {S : Nat → Prop} {a b c : World} (h : Bl S a b) (k : Bl S b c) : Bl S a c :=
  ⟨k.os.trans h.os, k.tape.trans h.tape, k.output.trans h.output, Nat.le_trans h.size k.size, fun i hi => (k.block i hi).trans (h.block i hi)⟩
theorem Bl.mono {S S' : Nat → Prop} {a b : World} (h : Bl S a b) (hS : ∀ k, S' k → S k) : Bl S' a b := ⟨h.os, h.tape, h.output, h.size, fun k hk => h.block k (hS k hk)⟩
theorem Bl.cell {S : Nat → Prop} {w w' : World} (h : Bl S w w') {p : Addr} (hp : S p.block) : w'.cell? p = w.cell? p := World.cell?_of_block (w := w) (h.block p.block hp)
theorem Bl.frozen {S : Nat → Prop} {w w' : World} (h : Bl S w w') {p : Addr} (hp : S p.block) : w'.frozen? p = w.frozen? p := World.frozen?_of_block (w := w) (h.block p.block hp)
theorem Bl.heap {S : Nat → Prop} {w w' : World} (h : Bl S w w') {k : Nat} {o : Obj} (hk : S k) (e : w.heap[k]? = some o) : w'.heap[k]? = some o := (h.block k hk).trans e
theorem Bl.below {B : Nat} {w w' : World} (h : Bl (· < B) w w') : Below B w w' := ⟨h.os, h.tape, h.output, h.size, h.block⟩
theorem Bl.of_below {B : Nat} {w w' : World} (h : Below B w w') : Bl (· < B) w w' := ⟨h.os, h.tape, h.output, h.size, h.block⟩
theorem Ext.bl {w w' : World} (h : Ext w w') {S : Nat → Prop} (hS : ∀ k, S k → k < w.heap.size) : Bl S w w' := ⟨h.os, h.tape, h.output, Below.size h, fun k hk => Below.block h k (hS k hk)⟩
theorem Bl.ext {S : Nat → Prop} {w w' : World} (h : Bl S w w') (hS : ∀ k, k < w.heap.size → S k) : Ext w w' := ⟨h.os, h.tape, h.output, h.size, fun k hk => h.block k (hS k hk)⟩
theorem Ext.trans' {w0 W W' : World} (h : Ext w0 W) {S : Nat → Prop} (k : Bl S W W') (hS : ∀ k, k < w0.heap.size → S k) : Ext w0 W' :=
  ⟨k.os.trans h.os, k.tape.trans h.tape, k.output.trans h.output, Nat.le_trans (Below.size h) k.size, fun i hi => (k.block i (hS i hi)).trans (Below.block h i hi)⟩
theorem Bl.setCell {S : Nat → Prop} (w : World) {a : Addr} (v : Value) (h : ¬ S a.block) : Bl S w (w.setCell a v) :=
  ⟨rfl, rfl, rfl, by simp [World.setCell], fun k hk => Below.heap_setCell _ _ _ _ (fun e => h (e ▸ hk))⟩

/-- the relation between the world at hand and the worlds at which an operation that is taken early may run -/
def Md.R : Md → World → World → Prop
  | .seq, w, W => W = w
  | .ext, w, W => Ext w W
  | .below S, w, W => Bl S w W
/-- what an operation that turns the world owes -/
def Md.E : Md → World → World → Prop
  | .seq, _, _ => True
  | .ext, w, W => Ext w W
  | .below S, w, W => Bl S w W
theorem Md.R_refl (m : Md) (w : World) : m.R w w := by
  cases m
  · rfl
  · exact Ext.refl w
  · exact Bl.refl _ _

def NoExit : Exit → Act → World → Prop := fun _ _ _ => False

def plainOps (l : List Oper) : Bool := l.all fun o => match o.op with | .select .. => false | .defer _ => false | _ => true
theorem plainOps_spec {l : List Oper} (h : plainOps l = true) {i : Nat} {o : Oper} (hi : l[i]? = some o) : (∀ cs b, o.op ≠ .select cs b) ∧ (∀ c, o.op ≠ .defer c) := by
  have := List.all_eq_true.1 h o (List.mem_of_getElem? hi)
  constructor
  · intro cs b e; simp [e] at this
  · intro c e; simp [e] at this

section
variable {P : Program} {F : Fence} {n : Nat} {l : List Oper} {K : Act → World → Prop}

/-- A fence that lets every function in and bounds no depth. -/
structure FW (F : Fence) : Prop where
  fn : ∀ f, F.fn f
  dep : F.depth = none
  alive : F.alive = false
theorem FW.wide : FW Fence.wide := ⟨fun _ => trivial, rfl, rfl⟩
theorem FW.inRound {F : Fence} (h : FW F) (j : Nat) : FW (F.inRound j) := ⟨h.fn, h.dep, h.alive⟩
theorem FW.fenced {F : Fence} (h : FW F) (P : Program) (m : Machine) : m.fenced P F := by
  intro g _
  refine ⟨fun e => ?_, Or.inl (h.fn _), fun f _ => h.fn f, fun d e => ?_⟩
  · rw [h.alive] at e; cases e
  · rw [h.dep] at e; cases e
theorem FW.room {F : Fence} (h : FW F) (k : Nat) : F.room k := fun d e => by rw [h.dep] at e; cases e
theorem FW.hn {F : Fence} (h : FW F) {n : Nat} : F.depth.isSome = true → 1 ≤ n := fun e => by rw [h.dep] at e; cases e

/-- what an operation stands behind -/
def depsOf (l : List Oper) (j : Nat) : List Nat := match l[j]? with
  | some o => (o.after.toList.filter fun e => Region.binds .any e).map (·.on)
  | none => []
theorem mem_depsOf {l : List Oper} {j i : Nat} (h : i ∈ depsOf l j) : ∃ o e, l[j]? = some o ∧ e ∈ o.after ∧ Region.binds .any e = true ∧ e.on = i := by
  unfold depsOf at h
  split at h
  · rename_i o ho
    obtain ⟨e, he, rfl⟩ := List.mem_map.1 h
    obtain ⟨h1, h2⟩ := List.mem_filter.1 he
    exact ⟨o, e, ho, by simpa using h1, h2, rfl⟩
  · cases h
def closeDown (l : List Oper) : Nat → List Nat → List Nat
  | 0, S => S
  | i + 1, S => closeDown l i (if S.contains i then depsOf l i ++ S else S)
/-- Does every other operation stand ahead of this one, or right behind it? -/
def Last (l : List Oper) (j : Nat) : Bool := (List.range l.length).all fun i => i == j || (closeDown l j (depsOf l j)).contains i || (depsOf l i).contains j
/-- what is listed has all that it stands behind listed -/
def Closed (l : List Oper) (listed : Array Bool) : Prop := ∀ p o, l[p]? = some o → listed.getD p true = true → ∀ e ∈ o.after, Region.binds .any e = true → listed.getD e.on false = true
theorem getD_false {listed : Array Bool} {i : Nat} (h : listed.getD i true = false) : listed.getD i false = false := by
  rcases Nat.lt_or_ge i listed.size with h' | h'
  · simpa [h'] using h
  · simp [h'] 
theorem getD_true {listed : Array Bool} {i : Nat} (h : listed.getD i false = true) : listed.getD i true = true := by
  rcases Nat.lt_or_ge i listed.size with h' | h'
  · simpa [h'] using h
  · simp [h']
theorem Closed.set {l : List Oper} {listed : Array Bool} (h : Closed l listed) {j : Nat} (hj : j ∈ Region.ready .any l.toArray listed) : Closed l (listed.setIfInBounds j true) := fun p o ho hp e he hb => by
  by_cases hpj : j = p
  · subst hpj
    obtain ⟨_, o', ho', hall⟩ := mem_ready.1 hj
    have ho'' : l[j]? = some o' := by simpa using ho'
    obtain rfl : o' = o := Option.some.inj (ho''.symm.trans ho)
    exact getD_set_true (hall e he hb)
  · rw [getD_set_ne true hpj] at hp
    exact getD_set_true (h p o ho hp e he hb)
theorem closeDown_listed {l : List Oper} {listed : Array Bool} (h : Closed l listed) : ∀ (n : Nat) (S : List Nat), (∀ x ∈ S, listed.getD x false = true) → ∀ x ∈ closeDown l n S, listed.getD x false = true
  | 0, _, hS => hS
  | i + 1, S, hS => closeDown_listed h i _ fun x hx => by
    split at hx
    · rename_i hc
      rcases List.mem_append.1 hx with hx | hx
      · obtain ⟨o, e, ho, he, hb, rfl⟩ := mem_depsOf hx
        exact h i o ho (getD_true (hS i (by simpa using hc))) e he hb
      · exact hS x hx
    · exact hS x hx
theorem not_last {l : List Oper} {i j : Nat} {listed : Array Bool} (hc : Closed l listed) (hi : i ∈ Region.ready .any l.toArray listed) (hj : j ∈ Region.ready .any l.toArray listed) (hne : j ≠ i) : ¬ Last l j = true := fun hl => by
  obtain ⟨hi0, oi, hoi, hialls⟩ := mem_ready.1 hi
  obtain ⟨hj0, oj, hoj, hjall⟩ := mem_ready.1 hj
  have hoi' : l[i]? = some oi := by simpa using hoi
  have hoj' : l[j]? = some oj := by simpa using hoj
  simp only [Last, List.all_eq_true, List.mem_range] at hl
  have := hl i (List.getElem?_eq_some_iff.1 hoi').1
  simp only [Bool.or_eq_true, beq_iff_eq, List.contains_eq_mem, decide_eq_true_eq] at this
  rcases this with (e | e) | e
  · exact hne e.symm
  · have h1 := closeDown_listed hc j (depsOf l j) (fun x hx => by
      obtain ⟨o, e, ho, he, hb, rfl⟩ := mem_depsOf hx
      obtain rfl : oj = o := Option.some.inj (hoj'.symm.trans ho)
      exact hjall e he hb) i e
    rw [getD_false hi0] at h1; cases h1
  · obtain ⟨o, e2, ho, he, hb, rfl⟩ := mem_depsOf e
    obtain rfl : oi = o := Option.some.inj (hoi'.symm.trans ho)
    have h1 := hialls e2 he hb
    rw [getD_false hj0] at h1; cases h1

/-- One operation: it is passed over, or it yields its value quietly, or it is carried out. -/
def wpPl (P : Program) (F : Fence) (n : Nat) (l : List Oper) (m : Md) (K : Act → World → Prop) : List (Nat × Bool) → Act → World → Prop
  | [], a, w => K a w
  | (i, q) :: rest, a, w => ∃ o, l[i]? = some o ∧
      ((Region.wanted o (yielded l.toArray a.tmps) = false ∧ wpPl P F n l m K rest (a.put o.dst undef) w) ∨
       (Region.wanted o (yielded l.toArray a.tmps) = true ∧ ∃ v, (∀ W, m.R w W → (execOp a.eval o).run P W = .ok (.value v) W) ∧ wpPl P F n l m K rest (a.put o.dst v) w) ∨
       (q = false ∧ Region.wanted o (yielded l.toArray a.tmps) = true ∧ o.wpIn F n P a w (fun a' w' => (m.E w w' ∨ Last l i = true) ∧ wpPl P F n l m K rest a' w') NoExit))

theorem wpIn_noExit {o : Oper} {a : Act} {w : World} {N : Act → World → Prop} {Q : Exit → Act → World → Prop} (h : o.wpIn F n P a w N NoExit) : o.wpIn F n P a w N Q := by
  unfold Oper.wpIn at *
  refine ⟨h.1, ?_⟩
  have h := h.2
  generalize (o.semAt F.round a.eval).run P w = r at *
  cases r with
  | ok x w' =>
    cases x <;> simp only [Oper.uponIn] at h ⊢ <;>
      first
        | exact h
        | exact ⟨h.1, CallsIn.mono h.2 (fun e w'' he => by cases e <;> first | exact he | exact he.elim | (obtain ⟨_, _, hf⟩ := he; exact hf.elim))⟩
        | exact ⟨h.1, RoundIn.mono h.2 (fun e w'' he => by cases e <;> first | exact he | exact he.elim | (obtain ⟨_, _, hf⟩ := he; exact hf.elim))⟩
  | halt x w' => cases x <;> simp only [Oper.uponIn] at h ⊢ <;> first | exact h | exact h.elim

/-! ### in the order of the text -/
theorem wpPl_seq {Q : Exit → Act → World → Prop} (hF : FW F) (hpl : plainOps l = true) : ∀ (pl : List (Nat × Bool)) (a : Act) (w : World), wpPl P F n l .seq (Q .normal) pl a w → wpOpsIn F n P l.toArray Q (pl.map (·.1)) a w := by
  intro pl
  induction pl with
  | nil => intro a w h; exact h
  | cons iq rest ih =>
    obtain ⟨i, q⟩ := iq
    rintro a w ⟨o, ho, h⟩
    have ho' : l.toArray[i]? = some o := by simpa using ho
    obtain ⟨hs, hd⟩ := plainOps_spec hpl ho
    simp only [List.map_cons, wpOpsIn, ho']
    rcases h with ⟨hw, h⟩ | ⟨hw, v, hv, h⟩ | ⟨_, hw, h⟩
    · rw [if_neg (by simp [hw])]
      exact ⟨fun f _ => hF.fn f, ih _ _ h⟩
    · rw [if_pos hw]
      refine ⟨fun f _ => hF.fn f, ?_⟩
      rw [Oper.semAt_eq _ _ _ hd, hv w rfl]
      exact ih _ _ h
    · rw [if_pos hw]
      exact wpIn_noExit (Oper.wpIn_mono (fun a w h => ih _ _ h.2) h)

theorem range_map (k : Nat) : ((List.range k).map (fun i => (i, false))).map (·.1) = List.range k := by
  rw [List.map_map]; exact List.map_id' _

theorem region_seq {Q : Exit → Act → World → Prop} {id : Nat} {a : Act} {w : World} (hF : FW F) (hpl : plainOps l = true) (h : wpPl P F n l .seq (Q .normal) ((List.range l.length).map (fun i => (i, false))) a w) :
    (Code.region id l.toArray false).wpIn F n P Q a w := by
  refine wpIn_region ?_
  have := wpPl_seq hF hpl _ _ _ h
  rw [range_map] at this
  simpa using this

/-! ### in whatever order -/
def QuietAt (P : Program) (l : List Oper) (m : Md) (o : Oper) (v : Value) (a : Act) (w : World) : Prop :=
  (Region.wanted o (yielded l.toArray a.tmps) = true ∧ ∀ W, m.R w W → (execOp a.eval o).run P W = .ok (.value v) W) ∨
  (Region.wanted o (yielded l.toArray a.tmps) = false ∧ v = undef)

/-- whatever comes up, in whatever order, from here on -/
def wpAnyM (P : Program) (F : Fence) (n : Nat) (l : List Oper) (m : Md) (K : Act → World → Prop) : Nat → Array Bool → Act → World → Prop
  | 0, listed, a, w => Region.ready .any l.toArray listed = [] ∧ K a w
  | fuel + 1, listed, a, w => (Region.ready .any l.toArray listed = [] → K a w) ∧
    ∀ i ∈ Region.ready .any l.toArray listed, wpOpIn F n P l.toArray NoExit i (fun a' w' => (m.E w w' ∨ Last l i = true) ∧ wpAnyM P F n l m K fuel (listed.setIfInBounds i true) a' w') a w

theorem wpOpIn_noExit {Q : Exit → Act → World → Prop} {i : Nat} {a : Act} {w : World} {N : Act → World → Prop} (h : wpOpIn F n P l.toArray NoExit i N a w) : wpOpIn F n P l.toArray Q i N a w := by
  unfold wpOpIn at *
  split
  · simpa [*] using h
  · rename_i o ho
    simp only [ho] at h
    split
    · rename_i hw; simp only [hw, if_true] at h; exact wpIn_noExit h
    · rename_i hw; simp only [hw] at h; exact h

theorem wpAnyIn_of_M {Q : Exit → Act → World → Prop} {m : Md} : ∀ (fuel : Nat) (listed : Array Bool) (a : Act) (w : World), wpAnyM P F n l m (Q .normal) fuel listed a w → wpAnyIn F n P .any l.toArray Q fuel listed a w
  | 0, _, _, _, h => h
  | fuel + 1, _, _, _, h => ⟨h.1, fun i hi => wpOpIn_noExit (wpOpIn_mono (fun a' w' h' => wpAnyIn_of_M fuel _ a' w' h'.2) (h.2 i hi))⟩

theorem quiet_opIn {m : Md} {i : Nat} {o : Oper} {v : Value} {a : Act} {w : World} {N : Act → World → Prop} (hF : FW F) (hi : l[i]? = some o) (hd : ∀ c, o.op ≠ .defer c) (hq : QuietAt P l m o v a w) (h : N (a.put o.dst v) w) :
    wpOpIn F n P l.toArray NoExit i N a w := by
  have hi' : l.toArray[i]? = some o := by simpa using hi
  unfold wpOpIn
  simp only [hi']
  rcases hq with ⟨hw, hv⟩ | ⟨hw, rfl⟩
  · rw [if_pos hw]
    refine ⟨fun f _ => hF.fn f, ?_⟩
    rw [Oper.semAt_eq _ _ _ hd, hv w (m.R_refl w)]
    exact h
  · rw [if_neg (by simp [hw])]
    exact ⟨fun f _ => hF.fn f, h⟩

theorem QuietAt.of_same {m : Md} {o : Oper} {v : Value} {a a' : Act} {w w' : World} (hy : QuietAt P l m o v a w) (he : execOp a'.eval o = execOp a.eval o)
    (hw : Region.wanted o (yielded l.toArray a'.tmps) = Region.wanted o (yielded l.toArray a.tmps)) (hR : ∀ W, m.R w' W → m.R w W) : QuietAt P l m o v a' w' := by
  unfold QuietAt at *
  rw [he, hw]
  exact hy.imp (fun ⟨h1, h2⟩ => ⟨h1, fun W hW => h2 W (hR W hW)⟩) id

/-- the modes under which whatever order may be taken -/
def Md.any : Md → Prop
  | .seq => False
  | _ => True
theorem Md.R_of_E {m : Md} (hm : m.any) {w w' : World} (h : m.E w w') (W : World) (hW : m.R w' W) : m.R w W := by
  cases m
  · exact hm.elim
  · exact Ext.trans h hW
  · exact Bl.trans h hW
theorem Md.E_refl (m : Md) (w : World) : m.E w w := by
  cases m
  · trivial
  · exact Ext.refl w
  · exact Bl.refl _ _

theorem opIn_putM {m : Md} {j : Nat} {oi oj : Oper} {v : Value} (hm : m.any) (hj : l[j]? = some oj) (hap : oi.apart l.toArray oj = true)
    (hsi : ∀ cs b, oi.op ≠ .select cs b) (hsj : ∀ cs b, oj.op ≠ .select cs b) (hdj : ∀ c, oj.op ≠ .defer c) {N : Act → World → Prop} {a : Act} {w : World}
    (hy : QuietAt P l m oi v a w) (h : wpOpIn F n P l.toArray NoExit j (fun a' w' => m.E w w' ∧ N a' w') (a.put oi.dst v) w) :
    wpOpIn F n P l.toArray NoExit j (fun a' w' => m.E w w' ∧ QuietAt P l m oi v a' w' ∧ N (a'.put oi.dst v) w') a w := by
  obtain ⟨h1, h2, h3⟩ := Oper.apart_spec hap
  have hj' : l.toArray[j]? = some oj := by simpa using hj
  have keep : ∀ u w', m.E w w' → QuietAt P l m oi v (a.put oj.dst u) w' := fun u w' hE =>
    hy.of_same (execOp_put oi hsi a oj.dst u h3) (wanted_put oi a oj.dst u h3) (fun W hW => Md.R_of_E hm hE W hW)
  unfold wpOpIn at *
  simp only [hj'] at *
  rw [wanted_put oj a oi.dst v h1, about_put oj w a oi.dst v h1] at h
  split
  · rename_i hw
    simp only [hw, if_true] at h
    unfold Oper.wpIn at *
    rw [about_put oj w a oi.dst v h1] at h
    refine ⟨h.1, ?_⟩
    have h := h.2
    rw [Oper.semAt_eq _ _ _ hdj, execOp_put oj hsj a oi.dst v h1] at h
    rw [Oper.semAt_eq _ _ _ hdj]
    generalize (execOp a.eval oj).run P w = r at *
    have fin : ∀ u w', m.E w w' ∧ N ((a.put oi.dst v).put oj.dst u) w' → m.E w w' ∧ QuietAt P l m oi v (a.put oj.dst u) w' ∧ N ((a.put oj.dst u).put oi.dst v) w' :=
      fun u w' he => ⟨he.1, keep u w' he.1, by rw [← Act.put_comm a v u h2]; exact he.2⟩
    cases r with
    | ok x w' =>
      cases x <;> simp only [Oper.uponIn] at h ⊢
      case value u => exact fin u _ h
      case skip => exact fin _ _ h
      case defer d =>
        refine ⟨h.1, hy.of_same ?_ ?_ (fun W hW => Md.R_of_E hm h.1 W hW), ?_⟩
        · exact execOp_put oi hsi { a with defers := d :: a.defers } oj.dst undef h3
        · exact wanted_put oi { a with defers := d :: a.defers } oj.dst undef h3
        · have h2' := h.2
          rw [← Act.put_comm _ v undef h2, ← Act.put_defers]
          exact h2'
      case enter f args =>
        refine ⟨h.1, CallsIn.mono h.2 fun e w'' he => ?_⟩
        cases e with
        | returned u => exact fin u _ he
        | panicked c => exact he.elim
        | outgrown => obtain ⟨_, _, hf⟩ := he; exact hf.elim
      case row row args => exact ⟨h.1, RowsIn.mono h.2 fun u w'' he => fin u _ he⟩
      case round j' f tmps assign body =>
        refine ⟨h.1, RoundIn.mono h.2 fun e w'' he => ?_⟩
        cases e with
        | returned u => exact fin u _ he
        | panicked c => exact he.elim
        | outgrown => obtain ⟨_, _, hf⟩ := he; exact hf.elim
    | halt x w' =>
      cases x <;> simp only [Oper.uponIn] at h ⊢
      exact h.elim
  · rename_i hw
    simp only [hw] at h
    exact ⟨h.1, h.2.1, keep _ _ h.2.1, by rw [← Act.put_comm a v undef h2]; exact h.2.2⟩

theorem wpAnyM_first {m : Md} (hm : m.any) (hF : FW F) (hpl : plainOps l = true) {i : Nat} {oi : Oper} {v : Value} (hi : l[i]? = some oi) :
    ∀ (fuel : Nat) (listed : Array Bool) (a : Act) (w : World), Closed l listed →
      (∀ j oj, l[j]? = some oj → j ≠ i → listed.getD j true = false → (∀ e ∈ oj.after, Region.binds .any e = true → e.on ≠ i) → oi.apart l.toArray oj = true) →
      i ∈ Region.ready .any l.toArray listed → QuietAt P l m oi v a w →
      wpAnyM P F n l m K fuel (listed.setIfInBounds i true) (a.put oi.dst v) w → wpAnyM P F n l m K (fuel + 1) listed a w := by
  obtain ⟨hsi, hdi⟩ := plainOps_spec hpl hi
  intro fuel
  induction fuel with
  | zero =>
    intro listed a w hcl _ hr hy H
    refine ⟨fun h => (by rw [h] at hr; cases hr), fun j hj => ?_⟩
    by_cases hji : j = i
    · subst hji; exact quiet_opIn hF hi hdi hy ⟨.inl (m.E_refl w), H⟩
    · have := ready_mono hj hji
      rw [H.1] at this
      cases this
  | succ fuel ih =>
    intro listed a w hcl hfree hr hy H
    refine ⟨fun h => (by rw [h] at hr; cases hr), fun j hj => ?_⟩
    by_cases hji : j = i
    · subst hji; exact quiet_opIn hF hi hdi hy ⟨.inl (m.E_refl w), H⟩
    · have h1 := H.2 j (ready_mono hj hji)
      obtain ⟨hjun, oj, hoj, hall⟩ := mem_ready.1 hj
      have hoj' : l[j]? = some oj := by simpa using hoj
      have hnot : ∀ e ∈ oj.after, Region.binds .any e = true → e.on ≠ i := fun e he hb heq => by
        have h1 := hall e he hb
        have h0 := (mem_ready.1 hr).1
        rw [heq] at h1
        rcases Nat.lt_or_ge i listed.size with h' | h'
        · simp [h'] at h0 h1; rw [h0] at h1; cases h1
        · simp [Array.getElem?_eq_none h'] at h1
      obtain ⟨hsj, hdj⟩ := plainOps_spec hpl hoj'
      have h2 := opIn_putM hm hoj' (hfree j oj hoj' hji hjun hnot) hsi hsj hdj hy (wpOpIn_mono (fun a' w' h => ⟨h.1.resolve_right (not_last hcl hr hj hji), h.2⟩) h1)
      have hfree' : ∀ k ok, l[k]? = some ok → k ≠ i → (listed.setIfInBounds j true).getD k true = false →
          (∀ e ∈ ok.after, Region.binds .any e = true → e.on ≠ i) → oi.apart l.toArray ok = true := fun k ok hk hki hun hno => by
        refine hfree k ok hk hki ?_ hno
        by_cases hjk : j = k
        · subst hjk; exact hjun
        · rw [getD_set_ne true hjk] at hun; exact hun
      refine wpOpIn_mono (fun a' w' h3 => ⟨.inl h3.1, ih (listed.setIfInBounds j true) a' w' (hcl.set hj) hfree' (ready_mono hr (Ne.symm hji)) h3.2.1 ?_⟩) h2
      rw [Array.setIfInBounds_comm _ _ hji]
      exact h3.2.2

/-- May the operations be taken in this order? (true: quietly, ahead of all that may come up beside it; false: it alone may come up.) -/
def planOK (l : List Oper) : List (Nat × Bool) → Array Bool → Bool
  | [], listed => (Region.ready .any l.toArray listed).isEmpty
  | (i, true) :: rest, listed => (Region.ready .any l.toArray listed).contains i && Region.free .any l.toArray listed i && planOK l rest (listed.setIfInBounds i true)
  | (i, false) :: rest, listed => Region.ready .any l.toArray listed == [i] && planOK l rest (listed.setIfInBounds i true)

theorem wpAnyM_of_plan {m : Md} (hm : m.any) (hF : FW F) (hpl : plainOps l = true) : ∀ (pl : List (Nat × Bool)) (listed : Array Bool) (a : Act) (w : World), Closed l listed →
    planOK l pl listed = true → wpPl P F n l m K pl a w → wpAnyM P F n l m K pl.length listed a w := by
  intro pl
  induction pl with
  | nil => intro listed a w _ hok h; exact ⟨by simpa [planOK] using hok, h⟩
  | cons iq rest ih =>
    obtain ⟨i, q⟩ := iq
    rintro listed a w hcl hok ⟨o, ho, h⟩
    have ho' : l.toArray[i]? = some o := by simpa using ho
    obtain ⟨hs, hd⟩ := plainOps_spec hpl ho
    cases q with
    | true =>
      simp only [planOK, Bool.and_eq_true] at hok
      obtain ⟨⟨hr, hf⟩, hok⟩ := hok
      have hr' : i ∈ Region.ready .any l.toArray listed := by simpa using hr
      have hfr := Region.free_spec ho' hf
      have hfr' : ∀ j oj, l[j]? = some oj → j ≠ i → listed.getD j true = false → (∀ e ∈ oj.after, Region.binds .any e = true → e.on ≠ i) → o.apart l.toArray oj = true :=
        fun j oj hj => hfr j oj (by simpa using hj)
      rcases h with ⟨hw, h⟩ | ⟨hw, v, hv, h⟩ | ⟨hq, _⟩
      · exact wpAnyM_first hm hF hpl ho _ listed a w hcl hfr' hr' (.inr ⟨hw, rfl⟩) (ih _ _ _ (hcl.set hr') hok h)
      · exact wpAnyM_first hm hF hpl ho _ listed a w hcl hfr' hr' (.inl ⟨hw, hv⟩) (ih _ _ _ (hcl.set hr') hok h)
      · cases hq
    | false =>
      simp only [planOK, Bool.and_eq_true, beq_iff_eq] at hok
      obtain ⟨hr, hok⟩ := hok
      have hri : i ∈ Region.ready .any l.toArray listed := by rw [hr]; simp
      refine ⟨fun h0 => (by rw [hr] at h0; cases h0), fun j hj => ?_⟩
      rw [hr] at hj
      obtain rfl : j = i := by simpa using hj
      rcases h with ⟨hw, h⟩ | ⟨hw, v, hv, h⟩ | ⟨_, hw, h⟩
      · exact quiet_opIn (m := m) hF ho hd (.inr ⟨hw, rfl⟩) ⟨.inl (m.E_refl w), ih _ _ _ (hcl.set hri) hok h⟩
      · exact quiet_opIn hF ho hd (.inl ⟨hw, hv⟩) ⟨.inl (m.E_refl w), ih _ _ _ (hcl.set hri) hok h⟩
      · unfold wpOpIn
        simp only [ho']
        rw [if_pos hw]
        exact Oper.wpIn_mono (fun a' w' h' => ⟨h'.1, ih _ _ _ (hcl.set hri) hok h'.2⟩) h

theorem region_any {Q : Exit → Act → World → Prop} {m : Md} {id : Nat} {a : Act} {w : World} (hm : m.any) (hF : FW F) (hmix : P.follows .mixedOrders = true) (pl : List (Nat × Bool))
    (hpl : plainOps l = true) (hlen : pl.length = l.length) (hok : planOK l pl (Array.replicate l.length false) = true) (h : wpPl P F n l m (Q .normal) pl a w.drew) :
    (Code.region id l.toArray true).wpIn F n P Q a w := by
  refine wpIn_region_any hmix ?_
  have := wpAnyIn_of_M _ _ _ _ (wpAnyM_of_plan hm hF hpl pl _ a w.drew (fun p o ho hp => by
    have := (List.getElem?_eq_some_iff.1 ho).1
    simp [this] at hp) hok h)
  rw [hlen] at this
  simpa using this
end
end Go.Proofs.YtiebkbmnepgacaaGreatDoor
/-
  Framework, part 2: frames by what is known of their slots; one rule for each form of operation and of code. Generic: nothing of a program.
-/
namespace Go.Proofs.YtiebkbmnepgacaaGreatDoor
open Go.RowKit
set_option linter.unusedVariables false

/-! ### what is known of a frame -/
def lk : List (Nat × Value) → Nat → Option Value
  | [], _ => none
  | (j, v) :: r, i => bif Nat.beq i j then some v else lk r i

def ev (L : List (Nat × Value)) : Operand → Option Value
  | .tmp t => lk L t
  | .const v => some v
  | .global g => some (.pointer (some ⟨g, 0, none⟩))
  | .func f => some (.func (.func f) #[] #[])

def evs (L : List (Nat × Value)) : List Operand → Option (List Value)
  | [] => some []
  | x :: r => match ev L x, evs L r with
    | some v, some vs => some (v :: vs)
    | _, _ => none

structure Kn (n : Nat) (D : List Deferred) (L : List (Nat × Value)) (a : Act) : Prop where
  size : a.tmps.size = n
  defers : a.defers = D
  slot : ∀ t v, lk L t = some v → a.tmps[t]? = some v

theorem Kn.eval {n : Nat} {D : List Deferred} {L : List (Nat × Value)} {a : Act} (h : Kn n D L a) {x : Operand} {v : Value} (hx : ev L x = some v) : a.eval x = v := by
  cases x with
  | tmp t => have := h.slot t v hx; simp [Act.eval, this]
  | const c => exact Option.some.inj hx
  | global g => exact Option.some.inj hx
  | func f => exact Option.some.inj hx

theorem Kn.evals {n : Nat} {D : List Deferred} {L : List (Nat × Value)} {a : Act} (h : Kn n D L a) : ∀ {xs : List Operand} {vs : List Value}, evs L xs = some vs → xs.map a.eval = vs
  | [], vs, e => by simp [evs] at e; simp [e]
  | x :: r, vs, e => by
    simp only [evs] at e
    split at e
    · rename_i v ws h1 h2
      simp only [Option.some.injEq] at e
      subst e
      simp [h.eval h1, h.evals h2]
    · cases e

theorem Kn.put {n : Nat} {D : List Deferred} {L : List (Nat × Value)} {a : Act} (h : Kn n D L a) {d : Nat} (hd : Nat.blt d n = true) (v : Value) : Kn n D ((d, v) :: L) (a.put (some d) v) := by
  have hd' : d < a.tmps.size := by rw [h.size]; simp [Nat.blt] at hd; omega
  refine ⟨by simp [Act.put, h.size], by simp [Act.put, h.defers], ?_⟩
  intro t u e
  simp only [lk] at e
  by_cases ht : t = d
  · subst ht
    simp only [Nat.beq_refl, cond_true, Option.some.injEq] at e
    subst e
    simp [Act.put, hd']
  · have hb : Nat.beq t d = false := by
      cases hc : Nat.beq t d with
      | false => rfl
      | true => exact absurd (Nat.eq_of_beq_eq_true hc) ht
    rw [hb] at e
    simp only [Act.put]
    rw [Array.getElem?_setIfInBounds_ne (Ne.symm ht)]
    exact h.slot t u e

/-- a slot is forgotten -/
theorem Kn.put_any {n : Nat} {D : List Deferred} {L : List (Nat × Value)} {a : Act} (h : Kn n D L a) {d : Nat} (v : Value) (hL : lk L d = none) : Kn n D L (a.put (some d) v) := by
  refine ⟨by simp [Act.put, h.size], by simp [Act.put, h.defers], ?_⟩
  intro t u e
  have ht : t ≠ d := fun c => by subst c; rw [hL] at e; cases e
  simp only [Act.put]
  rw [Array.getElem?_setIfInBounds_ne (Ne.symm ht)]
  exact h.slot t u e

theorem Kn.put_none {n : Nat} {D : List Deferred} {L : List (Nat × Value)} {a : Act} (h : Kn n D L a) (v : Value) : Kn n D L (a.put none v) := h

/-- what is said of slots in M is so in L -/
def Sub : List (Nat × Value) → List (Nat × Value) → Prop
  | [], _ => True
  | (t, v) :: r, L => lk L t = some v ∧ Sub r L
theorem Sub.lk {L : List (Nat × Value)} : ∀ {M : List (Nat × Value)}, Sub M L → ∀ t v, lk M t = some v → lk L t = some v
  | [], _, t, v, e => by simp [Go.Proofs.YtiebkbmnepgacaaGreatDoor.lk] at e
  | (j, u) :: r, h, t, v, e => by
    simp only [Go.Proofs.YtiebkbmnepgacaaGreatDoor.lk] at e
    cases hb : Nat.beq t j with
    | true =>
      rw [hb] at e
      simp only [cond_true, Option.some.injEq] at e
      have := Nat.eq_of_beq_eq_true hb
      subst this; subst e
      exact h.1
    | false => rw [hb] at e; exact Sub.lk h.2 t v e
theorem Kn.sub {n : Nat} {D : List Deferred} {L M : List (Nat × Value)} {a : Act} (h : Kn n D L a) (hs : Sub M L) : Kn n D M a := ⟨h.size, h.defers, fun t v e => h.slot t v (hs.lk t v e)⟩

def putL (dst : Option Tmp) (v : Value) (L : List (Nat × Value)) : List (Nat × Value) :=
  match dst with
  | some d => (d, v) :: L
  | none => L
def inT (n : Nat) : Option Tmp → Bool
  | some d => Nat.blt d n
  | none => true
theorem Kn.putO {n : Nat} {D : List Deferred} {L : List (Nat × Value)} {a : Act} (h : Kn n D L a) {dst : Option Tmp} (hd : inT n dst = true) (v : Value) : Kn n D (putL dst v L) (a.put dst v) := by
  cases dst with
  | none => exact h
  | some d => exact h.put hd v

/-- is a guarded operation wanted? -/
def wantL (l : List Oper) (L : List (Nat × Value)) (o : Oper) : Option Bool :=
  match o.guard with
  | none => some true
  | some (j, want) => match (l[j]?).bind (·.dst) with
    | some t => match lk L t with
      | some (.bool b) => some (b == want)
      | some _ => some false
      | none => none
    | none => none
theorem Kn.want {n : Nat} {D : List Deferred} {l : List Oper} {L : List (Nat × Value)} {a : Act} (h : Kn n D L a) {o : Oper} {b : Bool} (hw : wantL l L o = some b) :
    Region.wanted o (yielded l.toArray a.tmps) = b := by
  unfold wantL at hw
  unfold Region.wanted
  split at hw
  · rename_i hg; rw [hg]; simpa using hw
  · rename_i j want hg
    rw [hg]
    split at hw
    · rename_i t ht
      split at hw
      · rename_i c hc
        simp only [Option.some.injEq] at hw
        have h1 := h.slot t _ hc
        have : yielded l.toArray a.tmps j = some c := by
          unfold yielded
          have e : (l.toArray[j]?).bind (·.dst) = some t := by simpa using ht
          rw [e]
          simp [h1]
        simp only [this]
        rw [← hw]
        cases c <;> cases want <;> rfl
      · rename_i u hnb hu
        simp only [Option.some.injEq] at hw
        have h1 := h.slot t _ hu
        have : yielded l.toArray a.tmps j = none := by
          unfold yielded
          have e : (l.toArray[j]?).bind (·.dst) = some t := by simpa using ht
          rw [e]
          simp only [Option.bind_some, h1]
          cases u <;> first | rfl | exact absurd rfl (hnb _)
        simp only [this]
        rw [← hw]
        rfl
      · cases hw
    · cases hw

section
variable {P : Program} {F : Fence} {n N : Nat} {D : List Deferred} {l : List Oper} {m : Md} {K : Act → World → Prop} {L : List (Nat × Value)} {w : World}

/-- the rest of a region, whatever frame fits what is known -/
def PL (P : Program) (F : Fence) (n N : Nat) (D : List Deferred) (l : List Oper) (m : Md) (K : Act → World → Prop) (pl : List (Nat × Bool)) (L : List (Nat × Value)) (w : World) : Prop :=
  ∀ a, Kn N D L a → wpPl P F n l m K pl a w
/-- code, likewise -/
def CD (P : Program) (F : Fence) (n N : Nat) (D : List Deferred) (c : Code) (Q : Exit → Act → World → Prop) (L : List (Nat × Value)) (w : World) : Prop :=
  ∀ a, Kn N D L a → c.wpIn F n P Q a w

theorem PL.nil (h : ∀ a, Kn N D L a → K a w) : PL P F n N D l m K [] L w := h

/-- an operation that yields a value and leaves the world, in every world that R lets in -/
def OQ (P : Program) (m : Md) (N : Nat) (D : List Deferred) (o : Oper) (L : List (Nat × Value)) (w : World) (v : Value) : Prop :=
  ∀ a, Kn N D L a → ∀ W, m.R w W → (execOp a.eval o).run P W = .ok (.value v) W

theorem PL.q {i : Nat} {q : Bool} {o : Oper} {v : Value} {rest : List (Nat × Bool)} (ho : l[i]? = some o) (hw : wantL l L o = some true) (hq : OQ P m N D o L w v) (hd : inT N o.dst = true)
    (h : PL P F n N D l m K rest (putL o.dst v L) w) : PL P F n N D l m K ((i, q) :: rest) L w := fun a ha =>
  ⟨o, ho, .inr (.inl ⟨ha.want hw, v, hq a ha, h _ (ha.putO hd v)⟩)⟩

theorem PL.skip {i : Nat} {q : Bool} {o : Oper} {rest : List (Nat × Bool)} (ho : l[i]? = some o) (hw : wantL l L o = some false) (hd : inT N o.dst = true)
    (h : PL P F n N D l m K rest (putL o.dst undef L) w) : PL P F n N D l m K ((i, q) :: rest) L w := fun a ha =>
  ⟨o, ho, .inl ⟨ha.want hw, h _ (ha.putO hd undef)⟩⟩

/-! ### the quiet operations -/
variable {t u : TypeId} {pos : String} {af : Array Edge} {g : Option (Nat × Bool)} {dst : Option Tmp} {x y z : Operand}

theorem OQ.move {v : Value} (hx : ev L x = some v) : OQ P m N D ⟨dst, .move x, t, pos, af, g⟩ L w v := fun a ha W _ => by
  simp [execOp, ha.eval hx, Sem.run_pure]
theorem OQ.assign {v : Value} (hx : ev L x = some v) : OQ P m N D ⟨dst, .assign x, t, pos, af, g⟩ L w v := fun a ha W _ => by
  simp [execOp, ha.eval hx, Sem.run_pure]
theorem OQ.nilp {b : Addr} (hx : ev L x = some (.pointer (some b))) : OQ P m N D ⟨dst, .nilCheck x, t, pos, af, g⟩ L w (.pointer (some b)) := fun a ha W _ => by
  simp [execOp, ha.eval hx, Sem.run_pure]
theorem OQ.nilf {f : FuncId} {vs ws : Array Value} (hx : ev L x = some (.func (.func f) vs ws)) : OQ P m N D ⟨dst, .nilCheck x, t, pos, af, g⟩ L w (.func (.func f) vs ws) := fun a ha W _ => by
  simp [execOp, ha.eval hx, Sem.run_pure]
theorem OQ.nily {f : Nat} {vs ws : Array Value} (hx : ev L x = some (.func (.yield f) vs ws)) : OQ P m N D ⟨dst, .nilCheck x, t, pos, af, g⟩ L w (.func (.yield f) vs ws) := fun a ha W _ => by
  simp [execOp, ha.eval hx, Sem.run_pure]
theorem OQ.pickT {v1 : Value} (hc : ev L z = some (.bool true)) (hx : ev L x = some v1) : OQ P m N D ⟨dst, .pick z x y, t, pos, af, g⟩ L w v1 := fun a ha W _ => by
  have e1 := ha.eval hc; have e2 := ha.eval hx
  simp only [execOp, e1, e2]; simp [go_sem]
theorem OQ.pickF {v2 : Value} (hc : ev L z = some (.bool false)) (hy : ev L y = some v2) : OQ P m N D ⟨dst, .pick z x y, t, pos, af, g⟩ L w v2 := fun a ha W _ => by
  have e1 := ha.eval hc; have e2 := ha.eval hy
  simp only [execOp, e1, e2]; simp [go_sem]

/-- facts on types, found by their numbers -/
class Sc (P : Program) (t : TypeId) : Prop where
  out : ∃ d, P.underlying t = some d ∧ (match d with | .struct _ => false | .array _ _ => false | _ => true) = true
class Fl (P : Program) (s f : Nat) (off : outParam Nat) : Prop where
  out : ∃ fs fd i, P.underlying s = some (.struct fs) ∧ fs[f]? = some fd ∧ fd.offset = off ∧ P.info? fd.type = some i ∧ i.size ≠ 0
class Sz1 (P : Program) (t : TypeId) : Prop where
  out : ∃ i, P.info? t = some i ∧ i.size = 1
class Zv (P : Program) (t : TypeId) (v : outParam Value) : Prop where
  out : ∃ i, P.info? t = some i ∧ i.zero = some v

theorem run_loadVar {t : TypeId} [h : Sc P t] {a : Addr} {v : Value} {W : World} (hc : W.cell? a = some v) : (loadVar t a).run P W = .ok v W := by
  obtain ⟨d, hd, hs⟩ := h.out
  cases d <;> simp at hs <;> simp [loadVar, isAgg, underlying, program, load, Sem.run_bind, Sem.run, hd, hc, Result.andThen]

theorem OQ.load [Sc P t] {b : Addr} {v : Value} (hx : ev L x = some (.pointer (some b))) (hc : ∀ W, m.R w W → W.cell? b = some v) : OQ P m N D ⟨dst, .load t x, u, pos, af, g⟩ L w v := fun a ha W hW => by
  have := run_loadVar (P := P) (t := t) (hc W hW)
  have e1 := ha.eval hx
  simp only [execOp, e1, Instr.loadAt, Instr.sureAddr]
  simp only [Sem.run_bind, Sem.run_pure, this, Result.andThen]

/-- which cells stay, by the mode -/
def Md.keeps : Md → Addr → Prop
  | .seq, _ => True
  | .ext, _ => True
  | .below S, a => S a.block
theorem Md.cell {m : Md} {b : Addr} {v : Value} (hk : m.keeps b) (hc : w.cell? b = some v) : ∀ W, m.R w W → W.cell? b = some v := fun W hW => by
  cases m
  · obtain rfl : W = w := hW; exact hc
  · exact Ext.cell hW hc
  · rw [Bl.cell hW hk]; exact hc
theorem OQ.loadS [Sc P t] {b : Addr} {v : Value} (hx : ev L x = some (.pointer (some b))) (hc : w.cell? b = some v) : OQ P .seq N D ⟨dst, .load t x, u, pos, af, g⟩ L w v := OQ.load hx (Md.cell trivial hc)
theorem OQ.loadX [Sc P t] {b : Addr} {v : Value} (hx : ev L x = some (.pointer (some b))) (hc : w.cell? b = some v) : OQ P .ext N D ⟨dst, .load t x, u, pos, af, g⟩ L w v := OQ.load hx (Md.cell trivial hc)

theorem OQ.field {s f off : Nat} [h : Fl P s f off] {b o : Nat} (hx : ev L x = some (.pointer (some ⟨b, o, none⟩))) : OQ P m N D ⟨dst, .fieldAddr s x f, u, pos, af, g⟩ L w (.pointer (some ⟨b, o + off, none⟩)) := fun a ha W _ => by
  obtain ⟨fs, fd, i, h1, h2, h3, h4, h5⟩ := h.out
  have e : Addr.add ⟨b, o, none⟩ off = ⟨b, o + off, none⟩ := by unfold Addr.add; split <;> simp_all
  have e1 := ha.eval hx
  simp only [execOp, e1]
  simp [Instr.fieldAt, Instr.sureAddr, fieldPlace, sizeOf, typeInfo, underlying, program, Sem.run_bind, Sem.run_pure, Sem.run, Result.andThen, h1, h2, h3, h4, h5, e]

theorem OQ.field0 {s f off : Nat} [h : Fl P s f off] {b : Nat} (hx : ev L x = some (.pointer (some ⟨b, 0, none⟩))) : OQ P m N D ⟨dst, .fieldAddr s x f, u, pos, af, g⟩ L w (.pointer (some ⟨b, off, none⟩)) := by
  have := OQ.field (P := P) (m := m) (N := N) (D := D) (dst := dst) (u := u) (pos := pos) (af := af) (g := g) (w := w) (s := s) (f := f) hx
  rwa [Nat.zero_add] at this
theorem OQ.addI {k : IntKind} {c d : Int} (hx : ev L x = some (.int k c)) (hy : ev L y = some (.int k d)) : OQ P m N D ⟨dst, .binOp .add t x y u, t, pos, af, g⟩ L w (.int k (k.wrap (c + d))) := fun a ha W _ => by
  have e1 := ha.eval hx; have e2 := ha.eval hy
  simp only [execOp, e1, e2]; simp [eqGuard, binOp, Op.intArith, go_sem]
theorem OQ.subI {k : IntKind} {c d : Int} (hx : ev L x = some (.int k c)) (hy : ev L y = some (.int k d)) : OQ P m N D ⟨dst, .binOp .sub t x y u, t, pos, af, g⟩ L w (.int k (k.wrap (c - d))) := fun a ha W _ => by
  have e1 := ha.eval hx; have e2 := ha.eval hy
  simp only [execOp, e1, e2]; simp [eqGuard, binOp, Op.intArith, go_sem]
theorem OQ.mulI {k : IntKind} {c d : Int} (hx : ev L x = some (.int k c)) (hy : ev L y = some (.int k d)) : OQ P m N D ⟨dst, .binOp .mul t x y u, t, pos, af, g⟩ L w (.int k (k.wrap (c * d))) := fun a ha W _ => by
  have e1 := ha.eval hx; have e2 := ha.eval hy
  simp only [execOp, e1, e2]; simp [eqGuard, binOp, Op.intArith, go_sem]
end
end Go.Proofs.YtiebkbmnepgacaaGreatDoor
/-
  Framework, part 3: comparisons and other quiet operations; operations that turn the world; code. Generic.
-/
namespace Go.Proofs.YtiebkbmnepgacaaGreatDoor
open Go.RowKit
set_option linter.unusedVariables false

section
variable {P : Program} {F : Fence} {n N : Nat} {D : List Deferred} {l : List Oper} {m : Md} {K : Act → World → Prop} {L : List (Nat × Value)} {w : World}
variable {t u : TypeId} {pos : String} {af : Array Edge} {g : Option (Nat × Bool)} {dst : Option Tmp} {x y z : Operand}

theorem run_v {s : Sem Value} {v : Value} {W W' : World} (h : s.run P W = .ok v W') : (do pure (Next.value (← s)) : Sem Next).run P W = .ok (.value v) W' := by
  simp only [Sem.run_bind, h, Result.andThen, Sem.run_pure]
theorem run_u {s : Sem Unit} {W W' : World} (h : s.run P W = .ok () W') : (do s; pure Next.skip : Sem Next).run P W = .ok .skip W' := by
  simp only [Sem.run_bind, h, Result.andThen, Sem.run_pure]

/-- a binary operation on two values, neither an aggregate nor a nil interface -/
def plainV : Value → Bool
  | .agg _ => false
  | .nilIface => false
  | _ => true
theorem eqGuard_plain (op : BinOp) (t : TypeId) (x y : Operand) {a : Value} (b : Value) (W : World) (hp : plainV a = true) : (eqGuard op t x y a b).run P W = .ok () W := by
  cases a <;> first | (simp [plainV] at hp; done) | (cases op <;> rfl)
theorem OQ.bin {op : BinOp} {a b v : Value} (hx : ev L x = some a) (hy : ev L y = some b) (hp : plainV a = true) (h : ∀ W, m.R w W → (binOp op t a b).run P W = .ok v W) :
    OQ P m N D ⟨dst, .binOp op t x y u, t, pos, af, g⟩ L w v := fun c hc W hW => by
  have e1 := hc.eval hx; have e2 := hc.eval hy
  simp only [execOp, e1, e2]
  have hg := eqGuard_plain (P := P) op t x y b W hp
  simp only [Sem.run_bind, hg, Result.andThen, h W hW, Sem.run_pure]
theorem OQ.bin' {op : BinOp} {t' : TypeId} {a b v : Value} (hx : ev L x = some a) (hy : ev L y = some b) (hp : plainV a = true) (h : ∀ W, m.R w W → (binOp op t a b).run P W = .ok v W) :
    OQ P m N D ⟨dst, .binOp op t x y u, t', pos, af, g⟩ L w v := fun c hc W hW => by
  have e1 := hc.eval hx; have e2 := hc.eval hy
  simp only [execOp, e1, e2]
  have hg := eqGuard_plain (P := P) op t x y b W hp
  simp only [Sem.run_bind, hg, Result.andThen, h W hW, Sem.run_pure]

variable {t' : TypeId} {k : IntKind} {c d : Int}
theorem OQ.lss (hx : ev L x = some (.int k c)) (hy : ev L y = some (.int k d)) : OQ P m N D ⟨dst, .binOp .lss t x y u, t', pos, af, g⟩ L w (.bool (decide (c < d))) :=
  OQ.bin' hx hy rfl fun W _ => by simp [binOp, Op.intCmp, Sem.run_pure]
theorem OQ.leq (hx : ev L x = some (.int k c)) (hy : ev L y = some (.int k d)) : OQ P m N D ⟨dst, .binOp .leq t x y u, t', pos, af, g⟩ L w (.bool (decide (c ≤ d))) :=
  OQ.bin' hx hy rfl fun W _ => by simp [binOp, Op.intCmp, Sem.run_pure]
theorem OQ.gtr (hx : ev L x = some (.int k c)) (hy : ev L y = some (.int k d)) : OQ P m N D ⟨dst, .binOp .gtr t x y u, t', pos, af, g⟩ L w (.bool (decide (d < c))) :=
  OQ.bin' hx hy rfl fun W _ => by simp [binOp, Op.intCmp, Sem.run_pure]
theorem OQ.geq (hx : ev L x = some (.int k c)) (hy : ev L y = some (.int k d)) : OQ P m N D ⟨dst, .binOp .geq t x y u, t', pos, af, g⟩ L w (.bool (decide (d ≤ c))) :=
  OQ.bin' hx hy rfl fun W _ => by simp [binOp, Op.intCmp, Sem.run_pure]
theorem OQ.eql (hx : ev L x = some (.int k c)) (hy : ev L y = some (.int k d)) : OQ P m N D ⟨dst, .binOp .eql t x y u, t', pos, af, g⟩ L w (.bool (decide (c = d))) :=
  OQ.bin' hx hy rfl fun W _ => by
    have : (c == d) = decide (c = d) := by rw [Bool.eq_iff_iff]; simp
    simp [binOp, Op.intCmp, Sem.run_pure, this]
theorem OQ.neq (hx : ev L x = some (.int k c)) (hy : ev L y = some (.int k d)) : OQ P m N D ⟨dst, .binOp .neq t x y u, t', pos, af, g⟩ L w (.bool (decide (c ≠ d))) :=
  OQ.bin' hx hy rfl fun W _ => by
    have : (c != d) = decide (c ≠ d) := by rw [Bool.eq_iff_iff]; simp
    simp [binOp, Op.intCmp, Sem.run_pure, this]
theorem OQ.add (hx : ev L x = some (.int k c)) (hy : ev L y = some (.int k d)) : OQ P m N D ⟨dst, .binOp .add t x y u, t', pos, af, g⟩ L w (.int k (k.wrap (c + d))) :=
  OQ.bin' hx hy rfl fun W _ => by simp [binOp, Op.intArith, Sem.run_pure]
theorem OQ.sub (hx : ev L x = some (.int k c)) (hy : ev L y = some (.int k d)) : OQ P m N D ⟨dst, .binOp .sub t x y u, t', pos, af, g⟩ L w (.int k (k.wrap (c - d))) :=
  OQ.bin' hx hy rfl fun W _ => by simp [binOp, Op.intArith, Sem.run_pure]
theorem OQ.mul (hx : ev L x = some (.int k c)) (hy : ev L y = some (.int k d)) : OQ P m N D ⟨dst, .binOp .mul t x y u, t', pos, af, g⟩ L w (.int k (k.wrap (c * d))) :=
  OQ.bin' hx hy rfl fun W _ => by simp [binOp, Op.intArith, Sem.run_pure]
theorem OQ.addW {r : Int} (hx : ev L x = some (.int k c)) (hy : ev L y = some (.int k d)) (hw : k.wrap (c + d) = r) : OQ P m N D ⟨dst, .binOp .add t x y u, t', pos, af, g⟩ L w (.int k r) := by
  rw [← hw]; exact OQ.add hx hy
theorem OQ.subW {r : Int} (hx : ev L x = some (.int k c)) (hy : ev L y = some (.int k d)) (hw : k.wrap (c - d) = r) : OQ P m N D ⟨dst, .binOp .sub t x y u, t', pos, af, g⟩ L w (.int k r) := by
  rw [← hw]; exact OQ.sub hx hy
theorem OQ.mulW {r : Int} (hx : ev L x = some (.int k c)) (hy : ev L y = some (.int k d)) (hw : k.wrap (c * d) = r) : OQ P m N D ⟨dst, .binOp .mul t x y u, t', pos, af, g⟩ L w (.int k r) := by
  rw [← hw]; exact OQ.mul hx hy
theorem OQ.rem (hx : ev L x = some (.int k c)) (hy : ev L y = some (.int k d)) (hd : d ≠ 0) (hw : k.wrap (c.tmod d) = c.tmod d) : OQ P m N D ⟨dst, .binOp .rem t x y u, t', pos, af, g⟩ L w (.int k (c.tmod d)) :=
  OQ.bin' hx hy rfl fun W _ => by simp [binOp, Op.intDiv, Sem.run_pure, hd]
theorem OQ.quo (hx : ev L x = some (.int k c)) (hy : ev L y = some (.int k d)) (hd : d ≠ 0) : OQ P m N D ⟨dst, .binOp .quo t x y u, t', pos, af, g⟩ L w (.int k (k.wrap (c.tdiv d))) :=
  OQ.bin' hx hy rfl fun W _ => by simp [binOp, Op.intDiv, Sem.run_pure, hd]

theorem OQ.sadd {a b : ByteArray} (hx : ev L x = some (.string a)) (hy : ev L y = some (.string b)) (hs : a.size + b.size ≤ 9223372036854775807) : OQ P m N D ⟨dst, .binOp .add t x y u, t', pos, af, g⟩ L w (.string (a ++ b)) :=
  OQ.bin' hx hy rfl fun W _ => by simp [binOp, run_string_add_sum W a b hs]
theorem OQ.slss {a b : ByteArray} (hx : ev L x = some (.string a)) (hy : ev L y = some (.string b)) : OQ P m N D ⟨dst, .binOp .lss t x y u, t', pos, af, g⟩ L w (.bool (Op.bytesLess a.toList b.toList)) :=
  OQ.bin' hx hy rfl fun W _ => by simp [binOp, Op.stringOp, Sem.run_pure]
theorem OQ.sleq {a b : ByteArray} (hx : ev L x = some (.string a)) (hy : ev L y = some (.string b)) : OQ P m N D ⟨dst, .binOp .leq t x y u, t', pos, af, g⟩ L w (.bool (Op.bytesLess a.toList b.toList || (a.toList == b.toList))) :=
  OQ.bin' hx hy rfl fun W _ => by simp [binOp, Op.stringOp, Sem.run_pure]
theorem OQ.sgtr {a b : ByteArray} (hx : ev L x = some (.string a)) (hy : ev L y = some (.string b)) : OQ P m N D ⟨dst, .binOp .gtr t x y u, t', pos, af, g⟩ L w (.bool (!(Op.bytesLess a.toList b.toList || (a.toList == b.toList)))) :=
  OQ.bin' hx hy rfl fun W _ => by simp [binOp, Op.stringOp, Sem.run_pure]
theorem OQ.sgeq {a b : ByteArray} (hx : ev L x = some (.string a)) (hy : ev L y = some (.string b)) : OQ P m N D ⟨dst, .binOp .geq t x y u, t', pos, af, g⟩ L w (.bool (!(Op.bytesLess a.toList b.toList))) :=
  OQ.bin' hx hy rfl fun W _ => by simp [binOp, Op.stringOp, Sem.run_pure]
theorem OQ.seql {a b : ByteArray} (hx : ev L x = some (.string a)) (hy : ev L y = some (.string b)) : OQ P m N D ⟨dst, .binOp .eql t x y u, t', pos, af, g⟩ L w (.bool (a.toList == b.toList)) :=
  OQ.bin' hx hy rfl fun W _ => by simp [binOp, Op.stringOp, Sem.run_pure]
theorem OQ.sneq {a b : ByteArray} (hx : ev L x = some (.string a)) (hy : ev L y = some (.string b)) : OQ P m N D ⟨dst, .binOp .neq t x y u, t', pos, af, g⟩ L w (.bool (!(a.toList == b.toList))) :=
  OQ.bin' hx hy rfl fun W _ => by simp [binOp, Op.stringOp, Sem.run_pure]

/-- facts on types: a pointer, a bool, a slice, a func type -/
class Pt (P : Program) (t : TypeId) : Prop where
  out : ∃ e, P.underlying t = some (.pointer e)
class Bo (P : Program) (t : TypeId) : Prop where
  out : P.underlying t = some .bool
class Sl (P : Program) (t : TypeId) (e : outParam TypeId) : Prop where
  out : P.underlying t = some (.slice e)
class St (P : Program) (t : TypeId) : Prop where
  out : P.underlying t = some .string
class Fu (P : Program) (t : TypeId) : Prop where
  out : ∃ a b c, P.underlying t = some (.func a b c)

theorem run_equal_succ {t : TypeId} {a b : Value} {W : World} {r : Bool} (h : ∀ k, (Op.equalIn (k + 1) t a b).run P W = .ok r W) : (Op.equal t a b).run P W = .ok r W := h _

theorem OQ.eqN [h : Pt P t] {p : Option Addr} (hx : ev L x = some (.pointer p)) (hy : ev L y = some (.pointer none)) : OQ P m N D ⟨dst, .binOp .eql t x y u, t', pos, af, g⟩ L w (.bool p.isNone) :=
  OQ.bin' hx hy rfl fun W _ => by
    obtain ⟨e, he⟩ := h.out
    have : (Op.equal t (.pointer p) (.pointer none)).run P W = .ok p.isNone W := run_equal_succ fun k => by
      cases p <;> simp [Op.equalIn, underlying, program, Sem.run_bind, Sem.run, Sem.run_pure, Result.andThen, he]
    cases p <;> simp [binOp, this, Result.andThen]
theorem OQ.neN [h : Pt P t] {p : Option Addr} (hx : ev L x = some (.pointer p)) (hy : ev L y = some (.pointer none)) : OQ P m N D ⟨dst, .binOp .neq t x y u, t', pos, af, g⟩ L w (.bool p.isSome) :=
  OQ.bin' hx hy rfl fun W _ => by
    obtain ⟨e, he⟩ := h.out
    have : (Op.equal t (.pointer p) (.pointer none)).run P W = .ok p.isNone W := run_equal_succ fun k => by
      cases p <;> simp [Op.equalIn, underlying, program, Sem.run_bind, Sem.run, Sem.run_pure, Result.andThen, he]
    cases p <;> simp [binOp, this, Result.andThen]
theorem OQ.eqNS [h : Pt P t] {p : Addr} (hx : ev L x = some (.pointer (some p))) (hy : ev L y = some (.pointer none)) : OQ P m N D ⟨dst, .binOp .eql t x y u, t', pos, af, g⟩ L w (.bool false) := OQ.eqN hx hy
theorem OQ.eqNN [h : Pt P t] (hx : ev L x = some (.pointer none)) (hy : ev L y = some (.pointer none)) : OQ P m N D ⟨dst, .binOp .eql t x y u, t', pos, af, g⟩ L w (.bool true) := OQ.eqN hx hy
theorem OQ.neNS [h : Pt P t] {p : Addr} (hx : ev L x = some (.pointer (some p))) (hy : ev L y = some (.pointer none)) : OQ P m N D ⟨dst, .binOp .neq t x y u, t', pos, af, g⟩ L w (.bool true) := OQ.neN hx hy
theorem OQ.neNN [h : Pt P t] (hx : ev L x = some (.pointer none)) (hy : ev L y = some (.pointer none)) : OQ P m N D ⟨dst, .binOp .neq t x y u, t', pos, af, g⟩ L w (.bool false) := OQ.neN hx hy
theorem OQ.beq [h : Bo P t] {p q : Bool} (hx : ev L x = some (.bool p)) (hy : ev L y = some (.bool q)) : OQ P m N D ⟨dst, .binOp .eql t x y u, t', pos, af, g⟩ L w (.bool (p == q)) :=
  OQ.bin' hx hy rfl fun W _ => by
    have : (Op.equal t (.bool p) (.bool q)).run P W = .ok (p == q) W := run_equal_succ fun k => by
      simp [Op.equalIn, underlying, program, Sem.run_bind, Sem.run, Sem.run_pure, Result.andThen, h.out]
    simp [binOp, this, Result.andThen]
theorem OQ.bne [h : Bo P t] {p q : Bool} (hx : ev L x = some (.bool p)) (hy : ev L y = some (.bool q)) : OQ P m N D ⟨dst, .binOp .neq t x y u, t', pos, af, g⟩ L w (.bool (p != q)) :=
  OQ.bin' hx hy rfl fun W _ => by
    have : (Op.equal t (.bool p) (.bool q)).run P W = .ok (p == q) W := run_equal_succ fun k => by
      simp [Op.equalIn, underlying, program, Sem.run_bind, Sem.run, Sem.run_pure, Result.andThen, h.out]
    have e : (p != q) = !(p == q) := rfl
    simp only [binOp, Sem.run_bind, this, Result.andThen, Sem.run_pure, e]
theorem OQ.not {p : Bool} (hx : ev L x = some (.bool p)) : OQ P m N D ⟨dst, .unOp .not t x, t', pos, af, g⟩ L w (.bool (!p)) := fun a ha W _ => by
  have e1 := ha.eval hx
  simp only [execOp, e1]
  exact run_v (by simp [Op.unary, Sem.run_pure])
/-- a function value held against nil -/
theorem OQ.eqF [h : Fu P t] {f : Fn} {a b : Array Value} (hx : ev L x = some (.func f a b)) (hy : ev L y = some .nilFunc) : OQ P m N D ⟨dst, .binOp .eql t x y u, t', pos, af, g⟩ L w (.bool false) :=
  OQ.bin' hx hy rfl fun W _ => by
    obtain ⟨p, q, r, he⟩ := h.out
    have : (Op.equal t (.func f a b) .nilFunc).run P W = .ok false W := run_equal_succ fun k => by
      simp [Op.equalIn, underlying, program, Sem.run_bind, Sem.run, Sem.run_pure, Result.andThen, he]
    simp [binOp, this, Result.andThen]
theorem OQ.neF [h : Fu P t] {f : Fn} {a b : Array Value} (hx : ev L x = some (.func f a b)) (hy : ev L y = some .nilFunc) : OQ P m N D ⟨dst, .binOp .neq t x y u, t', pos, af, g⟩ L w (.bool true) :=
  OQ.bin' hx hy rfl fun W _ => by
    obtain ⟨p, q, r, he⟩ := h.out
    have : (Op.equal t (.func f a b) .nilFunc).run P W = .ok false W := run_equal_succ fun k => by
      simp [Op.equalIn, underlying, program, Sem.run_bind, Sem.run, Sem.run_pure, Result.andThen, he]
    simp [binOp, this, Result.andThen]

theorem OQ.extract {vs : Array Value} {ix : Nat} {v : Value} (hx : ev L x = some (.tuple vs)) (hi : vs[ix]? = some v) : OQ P m N D ⟨dst, .extract x ix, t', pos, af, g⟩ L w v := fun a ha W _ => by
  have e1 := ha.eval hx
  simp only [execOp, e1]
  exact run_v (by simp [Instr.extract, hi, Sem.run_pure])

theorem OQ.makeFunc {f : Fn} {fs cs : Array Operand} {v1 v2 : List Value} (h1 : evs L fs.toList = some v1) (h2 : evs L cs.toList = some v2) :
    OQ P m N D ⟨dst, .makeFunc f fs cs, t', pos, af, g⟩ L w (.func f v1.toArray v2.toArray) := fun a ha W _ => by
  have e1 := ha.evals h1; have e2 := ha.evals h2
  have e1' : fs.map a.eval = v1.toArray := Array.toList_inj.1 (by rw [Array.toList_map]; exact e1)
  have e2' : cs.map a.eval = v2.toArray := Array.toList_inj.1 (by rw [Array.toList_map]; exact e2)
  simp only [execOp, e1', e2']
  exact run_v rfl

/-- len of a slice, of a string -/
theorem OQ.lenS {s e : TypeId} [h : Sl P s e] {b : Option Addr} {j c : Nat} (hx : ev L x = some (.slice b j c)) : OQ P m N D ⟨dst, .call ⟨.builtin .len, #[x], #[s]⟩, t', pos, af, g⟩ L w (.int .i64 j) := fun a ha W _ => by
  have e1 := ha.eval hx
  simp only [execOp, resolve, List.map_toArray, List.map_cons, List.map_nil, e1, Sem.run_bind, Sem.run_pure, Result.andThen, invoke, builtin]
  simp [Builtin.len_, underlying, program, Sem.run_bind, Sem.run, Result.andThen, h.out, goInt, Sem.run_pure]
theorem OQ.lenT {s : TypeId} [h : St P s] {b : ByteArray} (hx : ev L x = some (.string b)) : OQ P m N D ⟨dst, .call ⟨.builtin .len, #[x], #[s]⟩, t', pos, af, g⟩ L w (.int .i64 b.size) := fun a ha W _ => by
  have e1 := ha.eval hx
  simp only [execOp, resolve, List.map_toArray, List.map_cons, List.map_nil, e1, Sem.run_bind, Sem.run_pure, Result.andThen, invoke, builtin]
  simp [Builtin.len_, underlying, program, Sem.run_bind, Sem.run, Result.andThen, h.out, goInt, Sem.run_pure]
theorem OQ.max2 {ts : Array TypeId} (hx : ev L x = some (.int k c)) (hy : ev L y = some (.int k d)) : OQ P m N D ⟨dst, .call ⟨.builtin .max, #[x, y], ts⟩, t', pos, af, g⟩ L w (.int k (max c d)) := fun a ha W _ => by
  have e1 := ha.eval hx; have e2 := ha.eval hy
  simp only [execOp, resolve, List.map_toArray, List.map_cons, List.map_nil, e1, e2, Sem.run_bind, Sem.run_pure, Result.andThen, invoke, builtin]
  have : (if d > c then d else c) = max c d := by rw [Int.max_def]; split <;> split <;> omega
  simp [Builtin.max_, Builtin.max2, Sem.run_pure, this]
theorem OQ.min2 {ts : Array TypeId} (hx : ev L x = some (.int k c)) (hy : ev L y = some (.int k d)) : OQ P m N D ⟨dst, .call ⟨.builtin .min, #[x, y], ts⟩, t', pos, af, g⟩ L w (.int k (min c d)) := fun a ha W _ => by
  have e1 := ha.eval hx; have e2 := ha.eval hy
  simp only [execOp, resolve, List.map_toArray, List.map_cons, List.map_nil, e1, e2, Sem.run_bind, Sem.run_pure, Result.andThen, invoke, builtin]
  have : (if d < c then d else c) = min c d := by rw [Int.min_def]; split <;> split <;> omega
  simp [Builtin.min_, Builtin.min2, Sem.run_pure, this]

/-- from one integer kind to another -/
class In (P : Program) (t : TypeId) (k : outParam IntKind) : Prop where
  out : P.underlying t = some (.int k)
theorem OQ.convI {s : TypeId} {k' : IntKind} [h1 : In P s k] [h2 : In P t k'] (hx : ev L x = some (.int k c)) : OQ P m N D ⟨dst, .convert s t x, t', pos, af, g⟩ L w (.int k' (k'.wrap c)) := fun a ha W _ => by
  have e1 := ha.eval hx
  simp only [execOp, e1]
  exact run_v (by simp [convert, underlying, program, Sem.run_bind, Sem.run, Result.andThen, h1.out, h2.out, Conv.intToInt, Sem.run_pure])

/-- the address of an element of a slice, and its element's size -/
class SlE (P : Program) (t : TypeId) (sz : outParam Nat) : Prop where
  out : ∃ e i, P.underlying t = some (.slice e) ∧ P.info? e = some i ∧ i.size = sz
theorem Addr.add_z (b o j : Nat) : Addr.add ⟨b, o, none⟩ j = ⟨b, o + j, none⟩ := by unfold Addr.add; split <;> simp_all
theorem OQ.indexAddr {sz : Nat} [h : SlE P t sz] {b o j c i : Nat} (hx : ev L x = some (.slice (some ⟨b, o, none⟩) j c)) (hy : ev L y = some (.int k i)) (hi : i < j) :
    OQ P m N D ⟨dst, .indexAddr t x y, t', pos, af, g⟩ L w (.pointer (some ⟨b, o + i * sz, none⟩)) := fun a ha W _ => by
  have e1 := ha.eval hx; have e2 := ha.eval hy
  simp only [execOp, e1, e2]
  obtain ⟨e, inf, h1, h2, h3⟩ := h.out
  exact run_v (by simp [Instr.indexAt, asIntOf, underlying, program, sizeOf, typeInfo, Sem.run_bind, Sem.run, Result.andThen, h1, h2, h3, Sem.run_pure, hi, Addr.add_z])
theorem OQ.indexT [h : St P t] {b : ByteArray} {i : Nat} (hx : ev L x = some (.string b)) (hy : ev L y = some (.int k i)) (hi : i < b.size) :
    OQ P m N D ⟨dst, .index t x y, t', pos, af, g⟩ L w (.int .u8 (b[i]'hi).toNat) := fun a ha W _ => by
  have e1 := ha.eval hx; have e2 := ha.eval hy
  simp only [execOp, e1, e2]
  exact run_v (by simp [Instr.index, asIntOf, underlying, program, Sem.run_bind, Sem.run, Result.andThen, h.out, Sem.run_pure, hi])
end
end Go.Proofs.YtiebkbmnepgacaaGreatDoor
/-
  Framework, part 4: operations that turn the world; calls; code. Generic.
-/
namespace Go.Proofs.YtiebkbmnepgacaaGreatDoor
open Go.RowKit
set_option linter.unusedVariables false

/-! ### contracts -/
/-- a function returns v, has turned nothing that was there, and C holds -/
def RR (w : World) (C : Value → World → Prop) : Ending → World → Prop := fun e w' => ∃ v, e = .returned v ∧ Ext w w' ∧ C v w'
def Rt (P : Program) (k : FuncId) (vs : List Value) (w : World) (C : Value → World → Prop) : Prop := Calls P k vs.toArray w (RR w C)
/-- a function returns v, and C holds (which says what has become of the world) -/
def RG (C : Value → World → Prop) : Ending → World → Prop := fun e w' => ∃ v, e = .returned v ∧ C v w'
def Rg (P : Program) (k : FuncId) (vs : List Value) (w : World) (C : Value → World → Prop) : Prop := Calls P k vs.toArray w (RG C)

theorem Rt.mono {P : Program} {k : FuncId} {vs : List Value} {w : World} {C C' : Value → World → Prop} (h : Rt P k vs w C) (hC : ∀ v w', Ext w w' → C v w' → C' v w') : Rt P k vs w C' :=
  Calls.mono h fun _ _ ⟨v, e, x, c⟩ => ⟨v, e, x, hC _ _ x c⟩
theorem Calls.mono' {P : Program} {f : FuncId} {args : Array Value} {w : World} {R R' : Ending → World → Prop} (h : Calls P f args w R) (hr : ∀ e w', R e w' → R' e w') : Calls P f args w R' := h.mono hr

theorem comesIn_FW {P : Program} {F : Fence} (hF : FW F) {m m' : Machine} {e : Ending} (h : Comes P m m' e) : ComesIn (Machine.fenced P F) P m m' e := by
  have key : ∀ {a b : Machine}, Steps P a b → StepsIn (Machine.fenced P F) P a b := fun s => (StepsIn.of_steps s).mono fun m _ => hF.fenced P m
  cases e with
  | returned v => exact key h
  | panicked c => exact key h
  | outgrown => exact h
theorem callsIn_FW {P : Program} {F : Fence} (hF : FW F) {n : Nat} {f : FuncId} {args : Array Value} {w : World} {R : Ending → World → Prop} (h : Calls P f args w R) : CallsIn F n P f args w R :=
  ⟨hF.fn f, fun cs _ => let ⟨e, w', fr, r, s, x⟩ := h cs; ⟨e, w', fr, r, comesIn_FW hF s, x⟩⟩

/-- function k has a body -/
class En (P : Program) (k : FuncId) : Prop where
  out : ∀ args w, (callFunc k args).run P w = .ok (.enter k args) w

/-! ### new blocks -/
structure New (w w' : World) (b : Nat) (o : Obj) : Prop where
  eq : w' = w.alloc o
  idx : b = w.heap.size
theorem New.ext {w w' : World} {b : Nat} {o : Obj} (h : New w w' b o) : Ext w w' := by rw [h.eq]; exact Ext.alloc w o
theorem New.heap {w w' : World} {b : Nat} {o : Obj} (h : New w w' b o) : w'.heap[b]? = some o := by rw [h.eq, h.idx]; exact World.alloc_heap_new w o
theorem New.size {w w' : World} {b : Nat} {o : Obj} (h : New w w' b o) : w'.heap.size = b + 1 := by rw [h.eq, h.idx]; exact World.size_alloc w o
theorem cell_of_heap {w : World} {b : Nat} {cs : Array Value} {t : TypeId} {fr : Nat × Nat} (h : w.heap[b]? = some (.cells cs t fr)) {j : Nat} {v : Value} (hj : cs[j]? = some v) : w.cell? ⟨b, j, none⟩ = some v := by
  simp [World.cell?, h, hj]
theorem frozen_of_heap {w : World} {b : Nat} {cs : Array Value} {t : TypeId} (h : w.heap[b]? = some (.cells cs t (0, 0))) (j : Nat) : w.frozen? ⟨b, j, none⟩ = false := by
  simp [World.frozen?, h]
theorem New.cell {w w' : World} {b : Nat} {cs : Array Value} {t : TypeId} {fr : Nat × Nat} (h : New w w' b (.cells cs t fr)) {j : Nat} {v : Value} (hj : cs[j]? = some v) : w'.cell? ⟨b, j, none⟩ = some v := cell_of_heap h.heap hj
theorem New.lt {w w' : World} {b : Nat} {o : Obj} (h : New w w' b o) : b < w'.heap.size := by rw [h.size]; omega

/-- a mode under which what only adds blocks is let by -/
class ME (m : Md) : Prop where
  out : ∀ w w', Ext w w' → m.E w w'
instance : ME .seq := ⟨fun _ _ _ => trivial⟩
instance : ME .ext := ⟨fun _ _ h => h⟩

section
variable {P : Program} {F : Fence} {n N : Nat} {D : List Deferred} {l : List Oper} {m : Md} {K : Act → World → Prop} {L : List (Nat × Value)} {w : World}
variable {t u t' : TypeId} {pos : String} {af : Array Edge} {g : Option (Nat × Bool)} {dst : Option Tmp} {x y z : Operand} {i : Nat} {q : Bool} {rest : List (Nat × Bool)} {v : Value}

theorem PL.eff {o : Oper} (ho : l[i]? = some o) (hw : wantL l L o = some true) (hd : ∀ c, o.op ≠ .defer c) (hF : FW F)
    (h : ∀ a, Kn N D L a → o.uponIn F n P a (fun a' w' => (m.E w w' ∨ Last l i = true) ∧ wpPl P F n l m K rest a' w') NoExit ((execOp a.eval o).run P w)) : PL P F n N D l m K ((i, false) :: rest) L w := fun a ha =>
  ⟨o, ho, .inr (.inr ⟨rfl, ha.want hw, fun f _ => hF.fn f, by rw [Oper.semAt_eq _ _ _ hd]; exact h a ha⟩)⟩

theorem PL.val {o : Oper} {w' : World} (ho : l[i]? = some o) (hw : wantL l L o = some true) (hd : ∀ c, o.op ≠ .defer c) (hF : FW F) (hin : inT N o.dst = true)
    (hr : ∀ a, Kn N D L a → (execOp a.eval o).run P w = .ok (.value v) w') (hE : m.E w w') (h : PL P F n N D l m K rest (putL o.dst v L) w') : PL P F n N D l m K ((i, false) :: rest) L w :=
  PL.eff ho hw hd hF fun a ha => by rw [hr a ha]; exact ⟨.inl hE, h _ (ha.putO hin v)⟩
theorem PL.unit {o : Oper} {w' : World} (ho : l[i]? = some o) (hw : wantL l L o = some true) (hd : ∀ c, o.op ≠ .defer c) (hF : FW F) (hin : inT N o.dst = true)
    (hr : ∀ a, Kn N D L a → (execOp a.eval o).run P w = .ok .skip w') (hE : m.E w w') (h : PL P F n N D l m K rest (putL o.dst undef L) w') : PL P F n N D l m K ((i, false) :: rest) L w :=
  PL.eff ho hw hd hF fun a ha => by rw [hr a ha]; exact ⟨.inl hE, h _ (ha.putO hin undef)⟩

theorem PL.unitL {o : Oper} {w' : World} (ho : l[i]? = some o) (hw : wantL l L o = some true) (hd : ∀ c, o.op ≠ .defer c) (hF : FW F) (hin : inT N o.dst = true)
    (hr : ∀ a, Kn N D L a → (execOp a.eval o).run P w = .ok .skip w') (hE : m.E w w' ∨ Last l i = true) (h : PL P F n N D l m K rest (putL o.dst undef L) w') : PL P F n N D l m K ((i, false) :: rest) L w :=
  PL.eff ho hw hd hF fun a ha => by rw [hr a ha]; exact ⟨hE, h _ (ha.putO hin undef)⟩

theorem run_newVar (t : TypeId) (v : Value) (w : World) : (newVar t v).run P w = .ok ⟨w.heap.size, 0, none⟩ (w.alloc (.cells v.cells t)) := by
  simp only [newVar, newRow, newObj, Sem.run_bind, Sem.run, Result.andThen, Sem.run_pure]
  rfl

theorem PL.box [hm : ME m] (hF : FW F) (ho : l[i]? = some ⟨dst, .box t x, t', pos, af, g⟩) (hw : wantL l L ⟨dst, .box t x, t', pos, af, g⟩ = some true) (hx : ev L x = some v) (hin : inT N dst = true)
    (h : ∀ b w', New w w' b (.cells v.cells t) → PL P F n N D l m K rest (putL dst (.pointer (some ⟨b, 0, none⟩)) L) w') : PL P F n N D l m K ((i, false) :: rest) L w :=
  PL.val (v := .pointer (some ⟨w.heap.size, 0, none⟩)) (w' := w.alloc (.cells v.cells t)) ho hw (fun _ e => by cases e) hF hin (fun a ha => by
    have e1 := ha.eval hx
    simp only [execOp, e1, Instr.box]
    exact run_v (by simp only [Sem.run_bind, run_newVar, Result.andThen, Sem.run_pure])) (hm.out _ _ (Ext.alloc _ _)) (h _ _ ⟨rfl, rfl⟩)

theorem PL.alloc [hm : ME m] [hz : Zv P t v] (hF : FW F) (ho : l[i]? = some ⟨dst, .alloc t, t', pos, af, g⟩) (hw : wantL l L ⟨dst, .alloc t, t', pos, af, g⟩ = some true) (hin : inT N dst = true)
    (h : ∀ b w', New w w' b (.cells v.cells t) → PL P F n N D l m K rest (putL dst (.pointer (some ⟨b, 0, none⟩)) L) w') : PL P F n N D l m K ((i, false) :: rest) L w :=
  PL.val (v := .pointer (some ⟨w.heap.size, 0, none⟩)) (w' := w.alloc (.cells v.cells t)) ho hw (fun _ e => by cases e) hF hin (fun a ha => by
    obtain ⟨i, h1, h2⟩ := hz.out
    have h3 : (zeroValue t).run P w = .ok v w := by simp [zeroValue, typeInfo, program, Sem.run_bind, Sem.run, Result.andThen, h1, h2, Sem.run_pure]
    simp only [execOp]
    exact run_v (by simp only [Instr.alloc, Sem.run_bind, h3, run_newVar, Result.andThen, Sem.run_pure])) (hm.out _ _ (Ext.alloc _ _)) (h _ _ ⟨rfl, rfl⟩)

/-- a value of one cell -/
def oneV : Value → Bool
  | .agg _ => false
  | .tuple _ => false
  | _ => true
theorem run_store1 {b : Addr} {v old : Value} {w : World} (h1 : oneV v = true) (hc : w.cell? b = some old) (hf : w.frozen? b = false) : (store b v).run P w = .ok () (w.setCell b v) := by
  cases v <;> simp [oneV] at h1 <;> simp [store, Sem.run, hc, hf]
theorem run_storeVar1 [hs : Sz1 P t] {b : Addr} {v old : Value} {w : World} (h1 : oneV v = true) (hc : w.cell? b = some old) (hf : w.frozen? b = false) : (storeVar t b v).run P w = .ok () (w.setCell b v) := by
  obtain ⟨i, h2, h3⟩ := hs.out
  have h4 : v.cells = #[v] := by cases v <;> first | rfl | (simp [oneV] at h1)
  have h5 := run_store1 (P := P) h1 hc hf
  have h6 : b.add 0 = b := rfl
  simp [storeVar, sizeOf, typeInfo, program, Sem.run_bind, Sem.run, Result.andThen, h2, h3, h4, storeCells, h6, h5]

theorem PL.store [Sz1 P t] {b : Addr} {old : Value} (hF : FW F) (ho : l[i]? = some ⟨dst, .store t x y, t', pos, af, g⟩) (hw : wantL l L ⟨dst, .store t x y, t', pos, af, g⟩ = some true)
    (hx : ev L x = some (.pointer (some b))) (hy : ev L y = some v) (h1 : oneV v = true) (hin : inT N dst = true) (hc : w.cell? b = some old) (hf : w.frozen? b = false) (hE : m.E w (w.setCell b v))
    (h : PL P F n N D l m K rest (putL dst undef L) (w.setCell b v)) : PL P F n N D l m K ((i, false) :: rest) L w :=
  PL.unit ho hw (fun _ e => by cases e) hF hin (fun a ha => by
    have e1 := ha.eval hx; have e2 := ha.eval hy
    simp only [execOp, e1, e2, Instr.storeAt, Instr.sureAddr]
    exact run_u (by simp only [Sem.run_bind, Sem.run_pure, Result.andThen]; exact run_storeVar1 h1 hc hf)) hE h

/-- a struct, written out -/
theorem OQ.build {ps : Array (Nat × Operand)} {vs : List (Nat × Value)} {fs : Array Field} {zero : TypeInfo} {zv : Value} {pl : Array (Nat × Nat)} {cs : Array Value}
    (hu : P.underlying t = some (.struct fs)) (hz : P.info? t = some zero) (hz' : zero.zero = some zv) (hpl : ∀ W, (fs.mapM fun f => (do pure (f.offset, ← sizeOf f.type) : Sem (Nat × Nat))).run P W = .ok pl W)
    (hv : ∀ a, Kn N D L a → (ps.map fun (i, x) => (i, a.eval x)).toList = vs) (hc : Instr.fill (pl[·]?) zv.cells vs = some cs) : OQ P m N D ⟨dst, .build t ps, t', pos, af, g⟩ L w (.agg cs) := fun a ha W _ => by
  have h3 : (zeroValue t).run P W = .ok zv W := by simp [zeroValue, typeInfo, program, Sem.run_bind, Sem.run, Result.andThen, hz, hz', Sem.run_pure]
  simp only [execOp]
  refine run_v ?_
  have := hv a ha
  simp only [Instr.build, Sem.run_bind, h3, Result.andThen, underlying, program, Sem.run, hu, Sem.run_pure, hpl, this, hc]

/-! ### calls -/
theorem PL.callL {k : FuncId} [hk : En P k] {args : Array Operand} {ts : Array TypeId} {vs : List Value} {C : Value → World → Prop} (hF : FW F)
    (ho : l[i]? = some ⟨dst, .call ⟨.value (.func k), args, ts⟩, t', pos, af, g⟩) (hw : wantL l L ⟨dst, .call ⟨.value (.func k), args, ts⟩, t', pos, af, g⟩ = some true)
    (ha : evs L args.toList = some vs) (hin : inT N dst = true) (hc : Rg P k vs w C) (hE : ∀ v w', C v w' → m.E w w' ∨ Last l i = true)
    (h : ∀ v w', C v w' → PL P F n N D l m K rest (putL dst v L) w') : PL P F n N D l m K ((i, false) :: rest) L w :=
  PL.eff ho hw (fun _ e => by cases e) hF fun a hka => by
    have e1 : args.map a.eval = vs.toArray := Array.toList_inj.1 (by rw [Array.toList_map]; exact hka.evals ha)
    have e2 : a.eval (.func k) = .func (.func k) #[] #[] := rfl
    simp only [execOp, resolve, e1, e2, Deferred.ofValue, Sem.run_pure, Sem.run_bind, Result.andThen, invoke, Array.append_empty, Array.empty_append, hk.out, Oper.uponIn]
    refine ⟨hF.hn, CallsIn.mono (callsIn_FW hF hc) ?_⟩
    rintro e w' ⟨v, rfl, hC⟩
    exact ⟨hE v w' hC, h v w' hC _ (hka.putO hin v)⟩
theorem PL.callG {k : FuncId} [hk : En P k] {args : Array Operand} {ts : Array TypeId} {vs : List Value} {C : Value → World → Prop} (hF : FW F)
    (ho : l[i]? = some ⟨dst, .call ⟨.value (.func k), args, ts⟩, t', pos, af, g⟩) (hw : wantL l L ⟨dst, .call ⟨.value (.func k), args, ts⟩, t', pos, af, g⟩ = some true)
    (ha : evs L args.toList = some vs) (hin : inT N dst = true) (hc : Rg P k vs w C) (hE : ∀ v w', C v w' → m.E w w')
    (h : ∀ v w', C v w' → PL P F n N D l m K rest (putL dst v L) w') : PL P F n N D l m K ((i, false) :: rest) L w :=
  PL.callL hF ho hw ha hin hc (fun v w' hC => .inl (hE v w' hC)) h
theorem PL.call {k : FuncId} [En P k] [hm : ME m] {args : Array Operand} {ts : Array TypeId} {vs : List Value} {C : Value → World → Prop} (hF : FW F)
    (ho : l[i]? = some ⟨dst, .call ⟨.value (.func k), args, ts⟩, t', pos, af, g⟩) (hw : wantL l L ⟨dst, .call ⟨.value (.func k), args, ts⟩, t', pos, af, g⟩ = some true)
    (ha : evs L args.toList = some vs) (hin : inT N dst = true) (hc : Rt P k vs w C)
    (h : ∀ v w', Ext w w' → C v w' → PL P F n N D l m K rest (putL dst v L) w') : PL P F n N D l m K ((i, false) :: rest) L w :=
  PL.callG (C := fun v w' => Ext w w' ∧ C v w') hF ho hw ha hin hc (fun v w' hC => hm.out _ _ hC.1) (fun v w' hC => h v w' hC.1 hC.2)

/-- a call of a function value: a closure -/
theorem PL.callV {k : FuncId} [hk : En P k] {fv : Operand} {args : Array Operand} {ts : Array TypeId} {vs : List Value} {fs cs : List Value} {C : Value → World → Prop} (hF : FW F)
    (ho : l[i]? = some ⟨dst, .call ⟨.value fv, args, ts⟩, t', pos, af, g⟩) (hw : wantL l L ⟨dst, .call ⟨.value fv, args, ts⟩, t', pos, af, g⟩ = some true)
    (hfv : ev L fv = some (.func (.func k) fs.toArray cs.toArray)) (ha : evs L args.toList = some vs) (hin : inT N dst = true) (hc : Rg P k (fs ++ vs ++ cs) w C) (hE : ∀ v w', C v w' → m.E w w')
    (h : ∀ v w', C v w' → PL P F n N D l m K rest (putL dst v L) w') : PL P F n N D l m K ((i, false) :: rest) L w :=
  PL.eff ho hw (fun _ e => by cases e) hF fun a hka => by
    have e1 : args.map a.eval = vs.toArray := Array.toList_inj.1 (by rw [Array.toList_map]; exact hka.evals ha)
    have e2 := hka.eval hfv
    have e3 : fs.toArray ++ vs.toArray ++ cs.toArray = (fs ++ vs ++ cs).toArray := by simp
    simp only [execOp, resolve, e1, e2, Deferred.ofValue, Sem.run_pure, Sem.run_bind, Result.andThen, invoke, hk.out, Oper.uponIn, e3]
    refine ⟨hF.hn, CallsIn.mono (callsIn_FW hF hc) ?_⟩
    rintro e w' ⟨v, rfl, hC⟩
    exact ⟨.inl (hE v w' hC), h v w' hC _ (hka.putO hin v)⟩

/-- a call of a loop body's yield -/
theorem PL.yield {j : Nat} {fv : Operand} {args : Array Operand} {ts : Array TypeId} {vs : List Value} {C : Value → World → Prop} (hF : FW F)
    (ho : l[i]? = some ⟨dst, .call ⟨.value fv, args, ts⟩, t', pos, af, g⟩) (hw : wantL l L ⟨dst, .call ⟨.value fv, args, ts⟩, t', pos, af, g⟩ = some true)
    (hfv : ev L fv = some (.func (.yield j) #[] #[])) (ha : evs L args.toList = some vs) (hin : inT N dst = true) (hc : YieldAt F (n - 1) P j vs.toArray w (RG C)) (hE : ∀ v w', C v w' → m.E w w')
    (h : ∀ v w', C v w' → PL P F n N D l m K rest (putL dst v L) w') : PL P F n N D l m K ((i, false) :: rest) L w :=
  PL.eff ho hw (fun _ e => by cases e) hF fun a hka => by
    have e1 : args.map a.eval = vs.toArray := Array.toList_inj.1 (by rw [Array.toList_map]; exact hka.evals ha)
    have e2 := hka.eval hfv
    obtain ⟨fn, tmps, assign, body, hy, hR⟩ := hc
    simp only [execOp, resolve, e1, e2, Deferred.ofValue, Sem.run_pure, Sem.run_bind, Result.andThen, invoke, Array.empty_append, hy, Oper.uponIn]
    refine ⟨hF.hn, RoundIn.mono hR ?_⟩
    rintro e w' ⟨v, rfl, hC⟩
    exact ⟨.inl (hE v w' hC), h v w' hC _ (hka.putO hin v)⟩

/-! ### code -/
variable {Q : Exit → Act → World → Prop} {id : Nat} {c c1 c2 : Code}

def mkPlan : List Oper → Nat → List (Nat × Bool)
  | [], _ => []
  | _ :: r, i => (i, false) :: mkPlan r (i + 1)
theorem mkPlan_eq : ∀ (l : List Oper) (k : Nat), mkPlan l k = (List.range' k l.length).map (fun i => (i, false))
  | [], _ => rfl
  | _ :: r, k => by simp [mkPlan, mkPlan_eq r (k + 1), List.range'_succ]

/-- a region in the order of the text, code behind it -/
theorem CD.rs (hF : FW F) (hpl : plainOps l = true) (h : PL P F n N D l .seq (fun a w' => c.wpIn F n P Q a w') (mkPlan l 0) L w) : CD P F n N D (.seq (.region id l.toArray false) c) Q L w := fun a ha =>
  wpIn_seq (region_seq hF hpl (by
    have := h a ha
    rw [mkPlan_eq, ← List.range_eq_range'] at this
    exact this))
/-- a region alone -/
theorem CD.r (hF : FW F) (hpl : plainOps l = true) (h : PL P F n N D l .seq (Q .normal) (mkPlan l 0) L w) : CD P F n N D (.region id l.toArray false) Q L w := fun a ha =>
  region_seq hF hpl (by
    have := h a ha
    rw [mkPlan_eq, ← List.range_eq_range'] at this
    exact this)
/-- a region in whatever order, by a plan -/
theorem CD.as (m : Md) (hm : m.any) (hF : FW F) (hmix : P.follows .mixedOrders = true) (pl : List (Nat × Bool)) (hpl : plainOps l = true) (hlen : pl.length = l.length) (hok : planOK l pl (Array.replicate l.length false) = true)
    (h : ∀ w1, Ext w w1 → w1.heap = w.heap → PL P F n N D l m (fun a w' => c.wpIn F n P Q a w') pl L w1) : CD P F n N D (.seq (.region id l.toArray true) c) Q L w := fun a ha =>
  wpIn_seq (region_any (m := m) hm hF hmix pl hpl hlen hok (h w.drew (Ext.drew w) rfl a ha))
theorem CD.a (m : Md) (hm : m.any) (hF : FW F) (hmix : P.follows .mixedOrders = true) (pl : List (Nat × Bool)) (hpl : plainOps l = true) (hlen : pl.length = l.length) (hok : planOK l pl (Array.replicate l.length false) = true)
    (h : ∀ w1, Ext w w1 → w1.heap = w.heap → PL P F n N D l m (Q .normal) pl L w1) : CD P F n N D (.region id l.toArray true) Q L w := fun a ha =>
  region_any (m := m) hm hF hmix pl hpl hlen hok (h w.drew (Ext.drew w) rfl a ha)

theorem PL.to (h : CD P F n N D c Q L w) : PL P F n N D l m (fun a w' => c.wpIn F n P Q a w') [] L w := h

theorem CD.seq (h : CD P F n N D c1 (Exit.then (fun a w' => c2.wpIn F n P Q a w') Q) L w) : CD P F n N D (.seq c1 c2) Q L w := fun a ha => wpIn_seq (h a ha)
/-- the ways through c1 meet again: what is known behind it is said by M and C -/
theorem CD.cut {α : Type} (M : α → List (Nat × Value)) (C : α → World → Prop) (h : CD P F n N D c1 (Exit.then (fun a w' => ∃ s, Kn N D (M s) a ∧ C s w') Q) L w) (h2 : ∀ s w', C s w' → CD P F n N D c2 Q (M s) w') :
    CD P F n N D (.seq c1 c2) Q L w := fun a ha => wpIn_seq (wpIn_mono (h a ha) fun e a' w' hq => by
      cases e with
      | normal => obtain ⟨s, hk, hc⟩ := hq; exact h2 s w' hc a' hk
      | _ => exact hq)
theorem CD.block (h : CD P F n N D c (Exit.inBlock id Q) L w) : CD P F n N D (.block id c) Q L w := fun a ha => wpIn_block (h a ha)
theorem CD.cond {b : Bool} (hx : ev L x = some (.bool b)) (ht : b = true → CD P F n N D c1 Q L w) (hf : b = false → CD P F n N D c2 Q L w) : CD P F n N D (.cond x c1 c2) Q L w := fun a ha =>
  wpIn_cond_split (ha.eval hx) (fun e => ht e a ha) (fun e => hf e a ha)
theorem CD.condT (hx : ev L x = some (.bool true)) (ht : CD P F n N D c1 Q L w) : CD P F n N D (.cond x c1 c2) Q L w := fun a ha => wpIn_cond (ha.eval hx) (ht a ha)
theorem CD.condF (hx : ev L x = some (.bool false)) (hf : CD P F n N D c2 Q L w) : CD P F n N D (.cond x c1 c2) Q L w := fun a ha => wpIn_cond (ha.eval hx) (hf a ha)
theorem CD.condD {p : Prop} [Decidable p] (hx : ev L x = some (.bool (decide p))) (ht : p → CD P F n N D c1 Q L w) (hf : ¬ p → CD P F n N D c2 Q L w) : CD P F n N D (.cond x c1 c2) Q L w :=
  CD.cond hx (fun e => ht (of_decide_eq_true e)) (fun e => hf (of_decide_eq_false e))
theorem CD.skip (h : ∀ a, Kn N D L a → Q .normal a w) : CD P F n N D .skip Q L w := fun a ha => wpIn_skip (h a ha)
theorem CD.exit (h : ∀ a, Kn N D L a → Q (.exit id) a w) : CD P F n N D (.exit id) Q L w := fun a ha => wpIn_exit (h a ha)
theorem CD.ret (h : ∀ a, Kn N D L a → Q .ret a w) : CD P F n N D .ret Q L w := fun a ha => wpIn_ret (h a ha)
/-- forget slots -/
theorem CD.sub (M : List (Nat × Value)) (hs : Sub M L) (h : CD P F n N D c Q M w) : CD P F n N D c Q L w := fun a ha => h a (ha.sub hs)
theorem PL.sub {pl : List (Nat × Bool)} (M : List (Nat × Value)) (hs : Sub M L) (h : PL P F n N D l m K pl M w) : PL P F n N D l m K pl L w := fun a ha => h a (ha.sub hs)

theorem exists_least (p : Nat → Prop) : ∀ k, p k → ∃ j, p j ∧ ∀ i, p i → j ≤ i := by
  intro k
  induction k using Nat.strongRecOn with
  | _ k ih =>
    intro hk
    by_cases h : ∃ i, i < k ∧ p i
    · obtain ⟨i, hi, hp⟩ := h; exact ih i hi hp
    · exact ⟨k, hk, fun i hi => Nat.le_of_not_lt fun hlt => h ⟨i, hlt, hi⟩⟩
theorem CD.loop {α : Type} (M : α → List (Nat × Value)) (I : α → World → Prop) (μ : α → Nat) (s0 : α) (hs : Sub (M s0) L) (h0 : I s0 w)
    (round : ∀ s w, I s w → CD P F n N D c (Exit.then (fun a w' => ∃ s', Kn N D (M s') a ∧ I s' w' ∧ μ s' < μ s) Q) (M s) w) : CD P F n N D (.loop c) Q L w := fun a ha => by
  have hl : ∀ a w, (∃ s, Kn N D (M s) a ∧ I s w) → ∃ j, (∃ s, Kn N D (M s) a ∧ I s w ∧ μ s = j) ∧ ∀ i, (∃ s, Kn N D (M s) a ∧ I s w ∧ μ s = i) → j ≤ i :=
    fun a w ⟨s, h1, h2⟩ => exists_least (fun j => ∃ s, Kn N D (M s) a ∧ I s w ∧ μ s = j) (μ s) ⟨s, h1, h2, rfl⟩
  have hl' : ∀ a w, ∃ j, (∃ s, Kn N D (M s) a ∧ I s w) → (∃ s, Kn N D (M s) a ∧ I s w ∧ μ s = j) ∧ ∀ i, (∃ s, Kn N D (M s) a ∧ I s w ∧ μ s = i) → j ≤ i := fun a w => by
    by_cases h : ∃ s, Kn N D (M s) a ∧ I s w
    · obtain ⟨j, hj⟩ := hl a w h; exact ⟨j, fun _ => hj⟩
    · exact ⟨0, fun h' => absurd h' h⟩
  refine wpIn_loop (fun a w => ∃ s, Kn N D (M s) a ∧ I s w) (fun a w => Classical.choose (hl' a w)) ⟨s0, ha.sub hs, h0⟩ fun a w hI => ?_
  obtain ⟨⟨s, hk, hi, hμ⟩, hleast⟩ := Classical.choose_spec (hl' a w) hI
  refine wpIn_mono (round s w hi a hk) fun e a' w' hq => ?_
  cases e with
  | normal =>
    obtain ⟨s', hk', hi', hlt⟩ := hq
    refine ⟨⟨s', hk', hi'⟩, ?_⟩
    have := (Classical.choose_spec (hl' a' w') ⟨s', hk', hi'⟩).2 _ ⟨s', hk', hi', rfl⟩
    omega
  | _ => exact hq

/-! ### a function's beginning and end -/
def argsL : List Value → Nat → List (Nat × Value)
  | [], _ => []
  | v :: r, i => (i, v) :: argsL r (i + 1)
theorem lk_argsL : ∀ (vs : List Value) (k t : Nat) (v : Value), lk (argsL vs k) t = some v → k ≤ t ∧ vs[t - k]? = some v
  | [], _, _, _, e => by simp [argsL, lk] at e
  | u :: r, k, t, v, e => by
    simp only [argsL, lk] at e
    cases hb : Nat.beq t k with
    | true =>
      rw [hb] at e
      simp only [cond_true, Option.some.injEq] at e
      have := Nat.eq_of_beq_eq_true hb
      subst this; subst e
      exact ⟨Nat.le_refl _, by simp⟩
    | false =>
      rw [hb] at e
      obtain ⟨h1, h2⟩ := lk_argsL r (k + 1) t v e
      refine ⟨by omega, ?_⟩
      have : t - k = (t - (k + 1)) + 1 := by omega
      rw [this]; simpa using h2

theorem kn_enter (vs : List Value) (N : Nat) (h : vs.length ≤ N) : Kn N [] (argsL vs 0) { tmps := vs.toArray ++ Array.replicate (N - vs.toArray.size) undef, defers := [] } := by
  refine ⟨by simp; omega, rfl, fun t v e => ?_⟩
  obtain ⟨_, h2⟩ := lk_argsL vs 0 t v e
  have h3 : vs[t]? = some v := by simpa using h2
  have hlt := (List.getElem?_eq_some_iff.1 h3).1
  rw [Array.getElem?_append_left (by simpa using hlt)]
  simpa using h3

theorem Calls.of_CD {R : Ending → World → Prop} {fn : Func} {k : FuncId} {vs : List Value} (hf : P.funcs[k]? = some fn) (hb : fn.body = some c) (hn : fn.ntmps = N) (hl : Nat.ble vs.length N = true)
    (h : CD P Fence.wide 0 N [] c (bodyPost P fn R) (argsL vs 0) w) : Calls P k vs.toArray w R := by
  refine callsIn_wide.1 (callsIn_of_wp (n := 0) hf hb trivial ?_)
  rw [hn]
  exact h _ (kn_enter vs N (Nat.le_of_ble_eq_true hl))
theorem Rt.of {C : Value → World → Prop} {fn : Func} {k : FuncId} {vs : List Value} (hf : P.funcs[k]? = some fn) (hb : fn.body = some c) (hn : fn.ntmps = N) (hl : Nat.ble vs.length N = true)
    (h : CD P Fence.wide 0 N [] c (bodyPost P fn (RR w C)) (argsL vs 0) w) : Rt P k vs w C := Calls.of_CD hf hb hn hl h
theorem Rg.of {C : Value → World → Prop} {fn : Func} {k : FuncId} {vs : List Value} (hf : P.funcs[k]? = some fn) (hb : fn.body = some c) (hn : fn.ntmps = N) (hl : Nat.ble vs.length N = true)
    (h : CD P Fence.wide 0 N [] c (bodyPost P fn (RG C)) (argsL vs 0) w) : Rg P k vs w C := Calls.of_CD hf hb hn hl h

theorem Kn.get {a : Act} (h : Kn N D L a) {t : Nat} (hv : lk L t = some v) : a.tmps.getD t undef = v := by
  have := h.slot t v hv
  simp [this]
theorem post1 {R : Ending → World → Prop} {fn : Func} {t : Tmp} (hr : fn.results = #[.tmp t]) (hv : lk L t = some v) (hR : R (.returned v) w) : ∀ a, Kn N [] L a → bodyPost P fn R .ret a w := fun a ha =>
  ⟨ha.defers, v, by rw [results_tmp hr, ha.get hv], hR⟩
theorem post2 {R : Ending → World → Prop} {fn : Func} {t1 t2 : Tmp} {v1 v2 : Value} (hr : fn.results = #[.tmp t1, .tmp t2]) (h1 : lk L t1 = some v1) (h2 : lk L t2 = some v2) (hR : R (.returned (.tuple #[v1, v2])) w) :
    ∀ a, Kn N [] L a → bodyPost P fn R .ret a w := fun a ha =>
  ⟨ha.defers, _, by rw [results_tmp2 hr, ha.get h1, ha.get h2], hR⟩
theorem post3 {R : Ending → World → Prop} {fn : Func} {t1 t2 t3 : Tmp} {v1 v2 v3 : Value} (hr : fn.results = #[.tmp t1, .tmp t2, .tmp t3]) (h1 : lk L t1 = some v1) (h2 : lk L t2 = some v2) (h3 : lk L t3 = some v3) (hR : R (.returned (.tuple #[v1, v2, v3])) w) :
    ∀ a, Kn N [] L a → bodyPost P fn R .ret a w := fun a ha =>
  ⟨ha.defers, _, by rw [results_tmp3 hr, ha.get h1, ha.get h2, ha.get h3], hR⟩
theorem post0 {R : Ending → World → Prop} {fn : Func} (hr : fn.results = #[]) (hR : R (.returned (.tuple #[])) w) : ∀ a, Kn N [] L a → bodyPost P fn R .ret a w := fun a ha =>
  ⟨ha.defers, _, results_none hr _ _ _, hR⟩
theorem post0n {R : Ending → World → Prop} {fn : Func} (hr : fn.results = #[]) (hR : R (.returned (.tuple #[])) w) : ∀ a, Kn N [] L a → bodyPost P fn R .normal a w := fun a ha =>
  ⟨ha.defers, _, results_none hr _ _ _, hR⟩
end
end Go.Proofs.YtiebkbmnepgacaaGreatDoor
/-
  Framework, part 5: structs written out; slices made and appended to; facts on types. Generic.
-/
namespace Go.Proofs.YtiebkbmnepgacaaGreatDoor
open Go.RowKit
set_option linter.unusedVariables false

abbrev infT (i : TypeInfo) : Option Value × Nat × Nat := (i.zero, i.size, i.bytes)
theorem inf_of {P : Program} {t : TypeId} {z : Option Value} {s b : Nat} (h : (P.info? t).map infT = some (z, s, b)) : ∃ i, P.info? t = some i ∧ i.zero = z ∧ i.size = s ∧ i.bytes = b := by
  cases hi : P.info? t with
  | none => rw [hi] at h; cases h
  | some i => rw [hi] at h; simp only [Option.map_some, Option.some.injEq, infT, Prod.mk.injEq] at h; exact ⟨i, rfl, h.1, h.2.1, h.2.2⟩
theorem Sz1.of {P : Program} {t : TypeId} {z : Option Value} {b : Nat} (h : (P.info? t).map infT = some (z, 1, b)) : Sz1 P t := ⟨let ⟨i, h1, _, h2, _⟩ := inf_of h; ⟨i, h1, h2⟩⟩
theorem Zv.of {P : Program} {t : TypeId} {z : Value} {s b : Nat} (h : (P.info? t).map infT = some (some z, s, b)) : Zv P t z := ⟨let ⟨i, h1, h2, _⟩ := inf_of h; ⟨i, h1, h2⟩⟩
theorem Fl.of {P : Program} {s f off : Nat} {fs : Array Field} {fd : Field} {z : Option Value} {sz b : Nat} (hu : P.underlying s = some (.struct fs)) (hf : fs[f]? = some fd) (ho : fd.offset = off)
    (h : (P.info? fd.type).map infT = some (z, sz, b)) (hne : sz ≠ 0) : Fl P s f off := ⟨let ⟨i, h1, _, h2, _⟩ := inf_of h; ⟨fs, fd, i, hu, hf, ho, h1, by rw [h2]; exact hne⟩⟩
theorem SlE.of {P : Program} {t e : TypeId} {z : Option Value} {s b : Nat} (hu : P.underlying t = some (.slice e)) (h : (P.info? e).map infT = some (z, s, b)) : SlE P t s := ⟨let ⟨i, h1, _, h2, _⟩ := inf_of h; ⟨e, i, hu, h1, h2⟩⟩

theorem enters {P : Program} {k : FuncId} {fn : Func} (hf : P.funcs[k]? = some fn) (hn : (fn.name == "runtime.NumGoroutine") = false) (hb : fn.body.isNone = false) : En P k := ⟨fun args w => by
  simp only [callFunc, program, Sem.run_bind, Sem.run, Result.andThen, hf, hn, hb]; rfl⟩

/-- how a struct is written out: its zero cells; where its fields lie -/
class Bd (P : Program) (t : TypeId) (zc : outParam (Array Value)) (pl : outParam (Array (Nat × Nat))) : Prop where
  out : ∃ fs i zv, P.underlying t = some (.struct fs) ∧ P.info? t = some i ∧ i.zero = some zv ∧ zv.cells = zc ∧ ∀ W, (fs.mapM fun f => (do pure (f.offset, ← sizeOf f.type) : Sem (Nat × Nat))).run P W = .ok pl W
theorem Bd.of {P : Program} {t : TypeId} {zc : Array Value} {pl : Array (Nat × Nat)} {fs : Array Field} {s b : Nat} (hu : P.underlying t = some (.struct fs)) (h : (P.info? t).map infT = some (some (.agg zc), s, b))
    (hp : ∀ W, (fs.mapM fun f => (do pure (f.offset, ← sizeOf f.type) : Sem (Nat × Nat))).run P W = .ok pl W) : Bd P t zc pl := ⟨let ⟨i, h1, h2, _⟩ := inf_of h; ⟨fs, i, .agg zc, hu, h1, h2, rfl, hp⟩⟩

/-- a struct whose fields are of one cell each -/
def setAt : List Value → Nat → Value → List Value
  | [], _, _ => []
  | _ :: r, 0, v => v :: r
  | x :: r, i + 1, v => x :: setAt r i v
def sets : List Value → List (Nat × Value) → List Value
  | zs, [] => zs
  | zs, (i, v) :: r => sets (setAt zs i v) r
def okParts (n : Nat) : List (Nat × Value) → Bool
  | [] => true
  | (i, v) :: r => Nat.blt i n && oneV v && okParts n r
theorem setAt_eq : ∀ (zs : List Value) (i : Nat) (v : Value), setAt zs i v = zs.set i v
  | [], _, _ => rfl
  | _ :: _, 0, _ => rfl
  | x :: r, i + 1, v => by simp [setAt, setAt_eq r i v]
theorem cells_one {v : Value} (h : oneV v = true) : v.cells = #[v] := by cases v <;> first | rfl | (simp [oneV] at h)
theorem fill_one (n : Nat) (pl : Array (Nat × Nat)) (hp : ∀ i, i < n → pl[i]? = some (i, 1)) : ∀ (vs : List (Nat × Value)) (zs : List Value), zs.length = n → okParts n vs = true → Instr.fill (pl[·]?) zs.toArray vs = some (sets zs vs).toArray
  | [], zs, _, _ => rfl
  | (i, v) :: r, zs, hz, hok => by
    simp only [okParts, Bool.and_eq_true] at hok
    have hi : i < n := by have := hok.1.1; simp [Nat.blt] at this; omega
    have hc := cells_one hok.1.2
    simp only [Instr.fill, hp i hi, hc]
    have : ¬ ((#[v] : Array Value).size ≠ 1 || decide (i + (#[v] : Array Value).size > zs.toArray.size)) = true := by simp; omega
    rw [if_neg this]
    have e : Array.foldl (fun (cs : Array Value) (x : Value × Nat) => cs.setIfInBounds (i + x.2) x.1) zs.toArray (#[v] : Array Value).zipIdx = (setAt zs i v).toArray := by
      simp [setAt_eq]
    have e2 := fill_one n pl hp r (setAt zs i v) (by rw [setAt_eq, List.length_set]; exact hz) hok.2
    simp only [sets]
    rw [← e2, ← e]
class Bd1 (P : Program) (t : TypeId) (zs : outParam (List Value)) : Prop where
  out : ∃ pl, Bd P t zs.toArray pl ∧ ∀ i, i < zs.length → pl[i]? = some (i, 1)
theorem Bd1.of {P : Program} {t : TypeId} {zs : List Value} {pl : Array (Nat × Nat)} (h : Bd P t zs.toArray pl) (hp : pl.toList = (List.range zs.length).map (fun i => (i, 1))) : Bd1 P t zs :=
  ⟨pl, h, fun i hi => by
    have : pl[i]? = pl.toList[i]? := by simp
    rw [this, hp]; simp [hi]⟩

def evp (L : List (Nat × Value)) : List (Nat × Operand) → Option (List (Nat × Value))
  | [] => some []
  | (i, x) :: r => match ev L x, evp L r with
    | some v, some vs => some ((i, v) :: vs)
    | _, _ => none
theorem Kn.evalp {n : Nat} {D : List Deferred} {L : List (Nat × Value)} {a : Act} (h : Kn n D L a) : ∀ {xs : List (Nat × Operand)} {vs : List (Nat × Value)}, evp L xs = some vs → xs.map (fun p => (p.1, a.eval p.2)) = vs
  | [], vs, e => by simp [evp] at e; simp [e]
  | (i, x) :: r, vs, e => by
    simp only [evp] at e
    split at e
    · rename_i v ws h1 h2
      simp only [Option.some.injEq] at e
      subst e
      simp [h.eval h1, h.evalp h2]
    · cases e

/-- a slice's element: type, zero, cells, bytes -/
class Se (P : Program) (t : TypeId) (e : outParam TypeId) (z : outParam Value) (sz by' : outParam Nat) : Prop where
  out : P.underlying t = some (.slice e) ∧ ∃ i, P.info? e = some i ∧ i.zero = some z ∧ i.size = sz ∧ i.bytes = by' ∧ z.cells.size = sz
theorem Se.of {P : Program} {t e : TypeId} {z : Value} {s b : Nat} (hu : P.underlying t = some (.slice e)) (h : (P.info? e).map infT = some (some z, s, b)) (hz : z.cells.size = s) : Se P t e z s b :=
  ⟨hu, let ⟨i, h1, h2, h3, h4⟩ := inf_of h; ⟨i, h1, h2, h3, h4, hz⟩⟩

section
variable {P : Program} {F : Fence} {n N : Nat} {D : List Deferred} {l : List Oper} {m : Md} {K : Act → World → Prop} {L : List (Nat × Value)} {w : World}
variable {t u t' : TypeId} {pos : String} {af : Array Edge} {g : Option (Nat × Bool)} {dst : Option Tmp} {x y z : Operand} {i : Nat} {q : Bool} {rest : List (Nat × Bool)} {v : Value}

theorem OQ.buildC {ps : Array (Nat × Operand)} {vs : List (Nat × Value)} {zc : Array Value} {pl : Array (Nat × Nat)} [h : Bd P t zc pl] {cs : Array Value}
    (hv : evp L ps.toList = some vs) (hc : Instr.fill (pl[·]?) zc vs = some cs) : OQ P m N D ⟨dst, .build t ps, t', pos, af, g⟩ L w (.agg cs) := by
  obtain ⟨fs, i, zv, h1, h2, h3, h4, h5⟩ := h.out
  refine OQ.build h1 h2 h3 h5 (vs := vs) (fun a ha => ?_) (by rw [h4]; exact hc)
  rw [Array.toList_map]
  exact ha.evalp hv

theorem OQ.build1 {ps : Array (Nat × Operand)} {vs : List (Nat × Value)} {zs : List Value} [h : Bd1 P t zs]
    (hv : evp L ps.toList = some vs) (hok : okParts zs.length vs = true) : OQ P m N D ⟨dst, .build t ps, t', pos, af, g⟩ L w (.agg (sets zs vs).toArray) := by
  obtain ⟨pl, hb, hp⟩ := h.out
  exact OQ.buildC hv (fill_one zs.length pl hp vs zs rfl hok)

/-- []T{x, y, ..} -/
theorem PL.buildSliceE (hE : ∀ w', Ext w w' → m.E w w') {e : TypeId} {zv : Value} {sz byt k : Nat} [h : Se P t e zv sz byt] {ps : Array (Nat × Operand)} {vs : List (Nat × Value)} {cs : Array Value} (hF : FW F)
    (ho : l[i]? = some ⟨dst, .buildSlice t k ps, t', pos, af, g⟩) (hw : wantL l L ⟨dst, .buildSlice t k ps, t', pos, af, g⟩ = some true)
    (hv : evp L ps.toList = some vs) (hk : k * sz ≤ 16777216) (hk0 : k * sz ≠ 0) (hc : Instr.fill (fun i => some (i * sz, sz)) (madeCells zv.cells (k * sz)) vs = some cs) (hin : inT N dst = true)
    (hh : ∀ b w', New w w' b (.cells cs e) → PL P F n N D l m K rest (putL dst (.slice (some ⟨b, 0, none⟩) k k) L) w') : PL P F n N D l m K ((i, false) :: rest) L w :=
  PL.val (v := .slice (some ⟨w.heap.size, 0, none⟩) k k) (w' := w.alloc (.cells cs e)) ho hw (fun _ e => by cases e) hF hin (fun a ha => by
    obtain ⟨h1, i, h2, h3, h4, h5, h6⟩ := h.out
    have e1 : (ps.map fun (i, x) => (i, a.eval x)).toList = vs := by rw [Array.toList_map]; exact ha.evalp hv
    have e2 : Instr.fill (fun i => some (i * sz, sz)) ((Array.range (k * sz)).map (zv.cells[· % zv.cells.size]!)) (ps.map fun (i, x) => (i, a.eval x)).toList = some cs := by rw [e1]; exact hc
    simp only [execOp]
    refine run_v ?_
    have e3 : ¬ k * sz > 2 ^ 24 := by have : (2 : Nat) ^ 24 = 16777216 := by decide
                                      omega
    simp only [Instr.buildSlice, underlying, program, sizeOf, typeInfo, zeroValue, Sem.run_bind, Sem.run, Result.andThen, h1, h2, h3, h4, Sem.run_pure, if_neg e3, if_neg hk0, e2, newRow, newObj]
    rfl) (hE _ (Ext.alloc _ _)) (hh _ _ ⟨rfl, rfl⟩)
theorem PL.buildSlice [hm : ME m] {e : TypeId} {zv : Value} {sz byt k : Nat} [h : Se P t e zv sz byt] {ps : Array (Nat × Operand)} {vs : List (Nat × Value)} {cs : Array Value} (hF : FW F)
    (ho : l[i]? = some ⟨dst, .buildSlice t k ps, t', pos, af, g⟩) (hw : wantL l L ⟨dst, .buildSlice t k ps, t', pos, af, g⟩ = some true)
    (hv : evp L ps.toList = some vs) (hk : k * sz ≤ 16777216) (hk0 : k * sz ≠ 0) (hc : Instr.fill (fun i => some (i * sz, sz)) (madeCells zv.cells (k * sz)) vs = some cs) (hin : inT N dst = true)
    (hh : ∀ b w', New w w' b (.cells cs e) → PL P F n N D l m K rest (putL dst (.slice (some ⟨b, 0, none⟩) k k) L) w') : PL P F n N D l m K ((i, false) :: rest) L w := PL.buildSliceE (fun _ h => hm.out _ _ h) hF ho hw hv hk hk0 hc hin hh
end
theorem take_set_succ (arr : List Value) (k : Nat) (a : Value) (h : k < arr.length) : (arr.set k a).take (k + 1) = arr.take k ++ [a] := by
  apply List.ext_getElem
  · simp; omega
  · intro j h1 h2
    simp only [List.length_take, List.length_set] at h1
    rw [List.getElem_take, List.getElem_set, List.getElem_append]
    split
    · rename_i e; subst e
      rw [dif_neg (by simp; omega)]; simp
    · rename_i e
      rw [dif_pos (by simp; omega)]; simp
theorem foldl_set (l : List Value) : ∀ (k : Nat) (arr : List Value), arr.length = k + l.length → (l.zipIdx k).foldl (fun (cs : Array Value) (x : Value × Nat) => cs.setIfInBounds (0 + x.2) x.1) arr.toArray = (arr.take k ++ l).toArray := by
  induction l with
  | nil => intro k arr h; simp at h; simp [← h]
  | cons a r ih =>
    intro k arr h
    simp only [List.length_cons] at h
    have e : arr.toArray.setIfInBounds (0 + k) a = (arr.set k a).toArray := by simp
    simp only [List.zipIdx_cons, List.foldl_cons, e]
    rw [ih (k + 1) (arr.set k a) (by simp; omega), take_set_succ arr k a (by omega)]
    simp
section
variable {P : Program} {F : Fence} {n N : Nat} {D : List Deferred} {l : List Oper} {m : Md} {K : Act → World → Prop} {L : List (Nat × Value)} {w : World}
variable {t u t' : TypeId} {pos : String} {af : Array Edge} {g : Option (Nat × Bool)} {dst : Option Tmp} {x y z : Operand} {i : Nat} {q : Bool} {rest : List (Nat × Bool)} {v : Value}
/-- []T{x} -/
theorem PL.slice1E (hE : ∀ w', Ext w w' → m.E w w') {e : TypeId} {zv : Value} {sz byt : Nat} [h : Se P t e zv sz byt] {v : Value} (hF : FW F)
    (ho : l[i]? = some ⟨dst, .buildSlice t 1 #[(0, x)], t', pos, af, g⟩) (hw : wantL l L ⟨dst, .buildSlice t 1 #[(0, x)], t', pos, af, g⟩ = some true)
    (hx : ev L x = some v) (hk : (Nat.ble sz 16777216 && Nat.blt 0 sz) = true) (hc : v.cells.size = sz) (hin : inT N dst = true)
    (hh : ∀ b w', New w w' b (.cells v.cells e) → PL P F n N D l m K rest (putL dst (.slice (some ⟨b, 0, none⟩) 1 1) L) w') : PL P F n N D l m K ((i, false) :: rest) L w := by
  have h1 : sz ≤ 16777216 ∧ 0 < sz := by
    simp only [Bool.and_eq_true] at hk
    exact ⟨Nat.le_of_ble_eq_true hk.1, by have := hk.2; simp [Nat.blt] at this; omega⟩
  refine PL.buildSliceE hE (vs := [(0, v)]) (cs := v.cells) hF ho hw (by simp only [evp, hx]) (by omega) (by omega) ?_ hin hh
  simp only [Instr.fill, Nat.zero_mul, Nat.one_mul, hc, size_madeCells]
  rw [if_neg (by simp)]
  congr 1
  have := foldl_set v.cells.toList 0 (madeCells zv.cells sz).toList (by simp [size_madeCells, hc])
  simp only [List.take_zero, List.nil_append, Array.toArray_toList] at this
  rw [← Array.foldl_toList, Array.toList_zipIdx]
  exact this
theorem PL.slice1 [hm : ME m] {e : TypeId} {zv : Value} {sz byt : Nat} [h : Se P t e zv sz byt] {v : Value} (hF : FW F)
    (ho : l[i]? = some ⟨dst, .buildSlice t 1 #[(0, x)], t', pos, af, g⟩) (hw : wantL l L ⟨dst, .buildSlice t 1 #[(0, x)], t', pos, af, g⟩ = some true)
    (hx : ev L x = some v) (hk : (Nat.ble sz 16777216 && Nat.blt 0 sz) = true) (hc : v.cells.size = sz) (hin : inT N dst = true)
    (hh : ∀ b w', New w w' b (.cells v.cells e) → PL P F n N D l m K rest (putL dst (.slice (some ⟨b, 0, none⟩) 1 1) L) w') : PL P F n N D l m K ((i, false) :: rest) L w := PL.slice1E (fun _ h => hm.out _ _ h) hF ho hw hx hk hc hin hh

end
end Go.Proofs.YtiebkbmnepgacaaGreatDoor
/-
  Framework, part 6: a range over a function. Generic.
-/
namespace Go.Proofs.YtiebkbmnepgacaaGreatDoor
open Go.RowKit
set_option linter.unusedVariables false

/-- every block of cells lies as it lay -/
structure CExt (W W' : World) : Prop where
  os : W'.os = W.os
  tape : W'.tape = W.tape
  output : W'.output = W.output
  size : W.heap.size ≤ W'.heap.size
  cells : ∀ (k : Nat) (c : Array Value) (t : TypeId) (f : Nat × Nat), W.heap[k]? = some (.cells c t f) → W'.heap[k]? = some (.cells c t f)
theorem CExt.refl (W : World) : CExt W W := ⟨rfl, rfl, rfl, Nat.le_refl _, fun _ _ _ _ e => e⟩
theorem Ext.cext {W W' : World} (h : Ext W W') : CExt W W' := ⟨h.os, h.tape, h.output, Below.size h, fun _ _ _ _ e => h.heap e⟩
theorem CExt.putObj {W : World} {l : Nat} {o o' : Obj} (h : W.heap[l]? = some o) (ho : o.isCells = false) : CExt W (W.putObj l o') :=
  ⟨rfl, rfl, rfl, by simp, fun k c t f e => by
    have hne : k ≠ l := fun c => by subst c; rw [h] at e; cases e; simp [Obj.isCells] at ho
    rw [World.putObj_heap_other hne]; exact e⟩
theorem CExt.trans {A B C : World} (h : CExt A B) (k : CExt B C) : CExt A C := ⟨k.os.trans h.os, k.tape.trans h.tape, k.output.trans h.output, Nat.le_trans h.size k.size, fun i c t f e => k.cells i c t f (h.cells i c t f e)⟩
theorem CExt.cell {W W' : World} (h : CExt W W') {a : Addr} {v : Value} (hc : W.cell? a = some v) : W'.cell? a = some v := by
  unfold World.cell? at hc ⊢
  split at hc
  · rename_i c t f e; rw [h.cells _ _ _ _ e]; exact hc
  · cases hc
theorem CExt.frozen {W W' : World} (h : CExt W W') {a : Addr} {v : Value} (hc : W.cell? a = some v) : W'.frozen? a = W.frozen? a := by
  unfold World.cell? at hc
  unfold World.frozen?
  split at hc
  · rename_i c t f e; rw [h.cells _ _ _ _ e, e]
  · cases hc

/-- what a round keeps: every block of S; whatever is no cells -/
structure Kb (B : Nat → Prop) (W W' : World) : Prop where
  below : Bl B W W'
  others : KeepsOthers W W'
theorem Kb.refl (B : Nat → Prop) (W : World) : Kb B W W := ⟨Bl.refl _ _, KeepsOthers.refl _⟩
theorem Kb.trans {B : Nat → Prop} {A C E : World} (h : Kb B A C) (k : Kb B C E) : Kb B A E := ⟨h.below.trans k.below, h.others.trans k.others⟩
theorem Ext.kb {B : Nat → Prop} {W W' : World} (h : Ext W W') (hB : ∀ k, B k → k < W.heap.size) : Kb B W W' := ⟨h.bl hB, ⟨Below.size h, fun _ _ e _ => h.heap e⟩⟩
theorem Kb.setCell {B : Nat → Prop} (W : World) {a : Addr} (v : Value) (h : ¬ B a.block) : Kb B W (W.setCell a v) := ⟨Bl.setCell W v h, KeepsOthers.setCell W a v⟩
theorem Kb.size {B : Nat → Prop} {W W' : World} (h : Kb B W W') : W.heap.size ≤ W'.heap.size := h.below.size

/-- **An iterator's contract**: it hands the elements of xs to yield, in this order, till yield says no; it turns no block of B by itself. -/
def It {α : Type} (P : Program) (gf : FuncId) (caps : List Value) (encs : α → List Value) (xs : List α) (B : Nat → Prop) (w : World) : Prop :=
  ∀ (j : Nat) (J Jx : List α → World → Prop) (W : World), Bl B w W → (∀ k, B k → k < W.heap.size) →
    (∀ pre W W', Ext W W' → J pre W → J pre W') → (∀ pre W W', Ext W W' → Jx pre W → Jx pre W') →
    (∀ pre x W, pre ++ [x] <+: xs → J pre W → Bl B w W → (∀ k, B k → k < W.heap.size) → YieldAt Fence.wide 0 P j (encs x).toArray W (RG fun v W' => Bl B W W' ∧ ((v = .bool true ∧ J (pre ++ [x]) W') ∨ (v = .bool false ∧ Jx (pre ++ [x]) W')))) →
    J [] W → Rg P gf (.func (.yield j) #[] #[] :: caps) W fun _ W' => Bl B W W' ∧ (J xs W' ∨ ∃ pre, pre <+: xs ∧ Jx pre W')

def rPost {α : Type} (B : Nat → Prop) (I : List α → World → Prop) (Ix : Code → List α → World → Prop) (pre : List α) (W : World) : Exit → Act → World → Prop
  | .normal, _, W' => Kb B W W' ∧ I pre W'
  | .ret, _, W' => Kb B W W' ∧ Ix .ret pre W'
  | .exit id, _, W' => Kb B W W' ∧ Ix (.exit id) pre W'
  | .goto t, _, W' => Kb B W W' ∧ Ix (.goto t) pre W'
  | .panic _, _, _ => False
  | .outgrown, _, _ => False

abbrev mark (B : Nat) : Deferred := { target := .collected B, args := #[] }

def zipL : List Tmp → List Value → List (Nat × Value) → List (Nat × Value)
  | p :: ps, v :: vs, L => zipL ps vs ((p, v) :: L)
  | _, _, L => L
theorem kn_zip {N : Nat} {D : List Deferred} : ∀ (ps : List Tmp) (vs : List Value) (L : List (Nat × Value)) (a : Act), Kn N D L a → ps.all (fun p => Nat.blt p N) = true →
    Kn N D (zipL ps vs L) { a with tmps := (ps.zip vs).foldl (fun t (p, v) => t.setIfInBounds p v) a.tmps }
  | [], _, _, a, h, _ => by simpa [zipL] using h
  | _ :: _, [], _, a, h, _ => by simpa [zipL] using h
  | p :: ps, v :: vs, L, a, h, hp => by
    simp only [List.all_cons, Bool.and_eq_true] at hp
    exact kn_zip ps vs ((p, v) :: L) (a.put (some p) v) (h.put hp.1 v) hp.2

section
variable {P : Program} {N : Nat} {D : List Deferred} {L : List (Nat × Value)} {w : World} {Q : Exit → Act → World → Prop}

/-- **An outermost range over a function**; the body is told of its loop's record. -/
theorem CD.rangeL {α : Type} {g : Operand} {gf : FuncId} [hen : En P gf] {caps : List Value} {encs : α → List Value} {xs : List α} {B : Nat → Prop} {ps : Array Tmp} {assign body : Code}
    (hg : ev L g = some (.func (.func gf) #[] caps.toArray)) (hit : It P gf caps encs xs B w) (hB : ∀ k, B k → k < w.heap.size) (hps : ∀ x, (encs x).length = ps.size) (hpin : ps.toList.all (fun p => Nat.blt p N) = true)
    (I : List α → World → Prop) (Ix : Code → List α → World → Prop) (hI : ∀ pre W W', CExt W W' → I pre W → I pre W') (hIx : ∀ c pre W W', CExt W W' → Ix c pre W → Ix c pre W') (h0 : I [] w)
    (La : α → List (Nat × Value))
    (hassign : ∀ l x W, CD P (Fence.wide.inRound l) 0 N [] assign (Exit.then (fun a w' => w' = W ∧ Kn N [] (La x) a) NoExit) (zipL ps.toList (encs x) L) W)
    (hbody : ∀ l pre x W, pre ++ [x] <+: xs → I pre W → Bl B w W → w.heap.size < W.heap.size → (∃ r, W.heap[l]? = some (.loop r)) → CD P (Fence.wide.inRound l) 0 N [] body (rPost B I Ix (pre ++ [x]) W) (La x) W)
    (hdone : ∀ M W, I xs W → Bl B w W → w.heap.size ≤ M → W.heap[M]? = some (.deferred (some [])) → ∀ a, Kn N (mark M :: D) L a → Q .normal a W)
    (hstop : ∀ M c pre W, pre <+: xs → Ix c pre W → Bl B w W → w.heap.size ≤ M → W.heap[M]? = some (.deferred (some [])) → CD P Fence.wide 0 N (mark M :: D) c Q L W) :
    CD P Fence.wide 0 N D (.rangeFunc g ps assign body) Q L w := by
  intro a ha
  refine wpIn_rangeFunc ?_
  intro fn _
  obtain ⟨rec, hrec⟩ : ∃ rec : LoopState → Option Code → Loop, rec = fun st pe => { state := st, pending := pe, fn, tmps := a.tmps, params := ps, assign, body, defers := w.heap.size } := ⟨_, rfl⟩
  obtain ⟨W1, hW1⟩ : ∃ W1, (w.alloc (.deferred (some []))).alloc (.loop (rec .ready none)) = W1 := ⟨_, rfl⟩
  have hL1 : W1.heap[w.heap.size + 1]? = some (.loop (rec .ready none)) := by
    rw [← hW1]; have := World.alloc_heap_new (w.alloc (.deferred (some []))) (.loop (rec .ready none)); rwa [World.size_alloc] at this
  have hx1 : Ext w W1 := by rw [← hW1]; exact (Ext.alloc _ _).trans (Ext.alloc _ _)
  have hK1 : W1.heap[w.heap.size]? = some (.deferred (some [])) := by
    rw [← hW1]; exact (Ext.alloc _ _).heap (World.alloc_heap_new w _)
  have hb1 : Bl B w W1 := hx1.bl hB
  have hBs : ∀ {V : World}, w.heap.size ≤ V.heap.size → ∀ k, B k → k < V.heap.size := fun h k hk => Nat.lt_of_lt_of_le (hB k hk) h
  have hs1 : w.heap.size + 1 < W1.heap.size := (Array.getElem?_eq_some_iff.1 hL1).1
  refine ⟨w.heap.size + 1, [mark w.heap.size], W1, { target := .fn (.func gf) caps.toArray, args := #[.func (.yield (w.heap.size + 1)) #[] #[]] }, W1, gf,
    (Value.func (.yield (w.heap.size + 1)) #[] #[] :: caps).toArray, W1, ?_, ?_, fun _ _ => trivial, ?_, FW.wide.hn, ?_⟩
  · rw [← hW1, hrec]; exact run_enterLoop_outer _ _ _ _ _
  · have e1 := ha.eval hg
    simp only [resolve, e1]
    simp [go_sem, Deferred.ofValue]
  · have e : #[Value.func (.yield (w.heap.size + 1)) #[] #[]] ++ caps.toArray = (Value.func (.yield (w.heap.size + 1)) #[] #[] :: caps).toArray := by simp
    simp only [invoke, e]; exact hen.out _ _
  · -- the iterator's contract
    refine CallsIn.mono (callsIn_FW FW.wide (hit (w.heap.size + 1)
      (fun pre W => I pre W ∧ W.heap[w.heap.size + 1]? = some (.loop (rec .ready none)) ∧ W.heap[w.heap.size]? = some (.deferred (some [])) ∧ Bl B w W)
      (fun pre W => ∃ c, Ix c pre W ∧ W.heap[w.heap.size + 1]? = some (.loop (rec .done (some c))) ∧ W.heap[w.heap.size]? = some (.deferred (some [])) ∧ Bl B w W)
      W1 hb1 (hBs (by omega))
      (fun pre W W' hx h => ⟨hI _ _ _ hx.cext h.1, hx.heap h.2.1, hx.heap h.2.2.1, h.2.2.2.trans (hx.bl (hBs h.2.2.2.size))⟩)
      (fun pre W W' hx h => let ⟨c, h1, h2, h3, h4⟩ := h; ⟨c, hIx _ _ _ _ hx.cext h1, hx.heap h2, hx.heap h3, h4.trans (hx.bl (hBs h4.size))⟩)
      ?_ ⟨hI _ _ _ hx1.cext h0, hL1, hK1, hb1⟩)) ?_
    · -- one round
      rintro pre x W hpre ⟨hi, hl, hk, hb⟩ _ _
      have hlt : w.heap.size + 1 < W.heap.size := (Array.getElem?_eq_some_iff.1 hl).1
      have hy := run_yield (P := P) (args := (encs x).toArray) hl (by rw [hrec]; simpa using hps x)
      rw [hrec] at hy
      have ha0 : Kn N [] L { tmps := a.tmps, defers := [] } := ⟨ha.size, rfl, ha.slot⟩
      have hz := kn_zip ps.toList (encs x) L _ ha0 hpin
      have hzt : (ps.zip (encs x).toArray).foldl (fun t (p, v) => t.setIfInBounds p v) a.tmps = (ps.toList.zip (encs x)).foldl (fun t (p, v) => t.setIfInBounds p v) a.tmps := by
        rw [← Array.foldl_toList]; simp
      simp only [hzt] at hy
      refine ⟨fn, _, assign, body, hy, roundIn_of_wpIn trivial (wpIn_mono (hassign (w.heap.size + 1) x W _ hz) fun e a3 w3 hq => ?_)⟩
      cases e with
      | normal =>
        obtain ⟨rfl, hkn⟩ := hq
        refine ⟨_, run_beginRound hl (by rw [hrec]), ?_⟩
        have hl2 : (w3.putObj (w.heap.size + 1) (.loop { rec .ready none with state := .busy })).heap[w.heap.size + 1]? = some (.loop { rec .ready none with state := .busy }) := World.putObj_heap_same hlt
        have hk2 : (w3.putObj (w.heap.size + 1) (.loop { rec .ready none with state := .busy })).heap[w.heap.size]? = some (.deferred (some [])) := (World.putObj_heap_other (by omega)).trans hk
        have hc2 : CExt w3 (w3.putObj (w.heap.size + 1) (.loop { rec .ready none with state := .busy })) := CExt.putObj hl rfl
        have putB : ∀ (V : World) (o : Obj), w.heap.size + 1 < V.heap.size → Bl B V (V.putObj (w.heap.size + 1) o) := fun V o _ =>
          ⟨rfl, rfl, rfl, by simp, fun k hk => World.putObj_heap_other (by have := hB k hk; omega)⟩
        have hb2 := putB w3 (.loop { rec .ready none with state := .busy }) hlt
        refine wpIn_mono (hbody _ pre x _ hpre (hI _ _ _ hc2 hi) (hb.trans hb2) (by simp; omega) ⟨_, hl2⟩ a3 hkn) ?_
        have fin : ∀ (jump : Option Code) (W3 : World), KeepsOthers (w3.putObj (w.heap.size + 1) (.loop { rec .ready none with state := .busy })) W3 →
            (Instr.endRound (w.heap.size + 1) jump).run P W3 = .ok (.bool jump.isNone) (W3.putObj (w.heap.size + 1) (.loop (rec (if jump.isNone then .ready else .done) jump))) ∧
            W3.heap[w.heap.size + 1]? = some (.loop { rec .ready none with state := .busy }) ∧
            (W3.putObj (w.heap.size + 1) (.loop (rec (if jump.isNone then .ready else .done) jump))).heap[w.heap.size + 1]? = some (.loop (rec (if jump.isNone then .ready else .done) jump)) ∧
            (W3.putObj (w.heap.size + 1) (.loop (rec (if jump.isNone then .ready else .done) jump))).heap[w.heap.size]? = some (.deferred (some [])) := fun jump W3 hk3 => by
          have hl3 := hk3.same _ _ hl2 rfl
          have := run_endRound (P := P) jump hl3
          rw [hrec] at this ⊢
          exact ⟨this, by rw [hrec] at hl3; exact hl3, World.putObj_heap_same (Array.getElem?_eq_some_iff.1 hl3).1, (World.putObj_heap_other (by omega)).trans (hk3.same _ _ hk2 rfl)⟩
        have bel : ∀ (W3 : World) (o : Obj), Kb B (w3.putObj (w.heap.size + 1) (.loop { rec .ready none with state := .busy })) W3 → Bl B w3 (W3.putObj (w.heap.size + 1) o) := fun W3 o hk3 =>
          (hb2.trans hk3.below).trans (putB W3 o (by have := hk3.size; simp at this; omega))
        rintro e a4 W3 hp
        cases e with
        | normal =>
          obtain ⟨hk3, hi3⟩ := hp
          obtain ⟨hr, hl3, hl4, hk4⟩ := fin none W3 hk3.others
          exact ⟨_, _, hr, _, rfl, bel _ _ hk3, .inl ⟨rfl, hI _ _ _ (CExt.putObj hl3 rfl) hi3, hl4, hk4, hb.trans (bel _ _ hk3)⟩⟩
        | ret =>
          obtain ⟨hk3, hi3⟩ := hp
          obtain ⟨hr, hl3, hl4, hk4⟩ := fin (some .ret) W3 hk3.others
          exact ⟨_, _, hr, _, rfl, bel _ _ hk3, .inr ⟨rfl, .ret, hIx _ _ _ _ (CExt.putObj hl3 rfl) hi3, hl4, hk4, hb.trans (bel _ _ hk3)⟩⟩
        | exit id =>
          obtain ⟨hk3, hi3⟩ := hp
          obtain ⟨hr, hl3, hl4, hk4⟩ := fin (some (.exit id)) W3 hk3.others
          exact ⟨_, _, hr, _, rfl, bel _ _ hk3, .inr ⟨rfl, .exit id, hIx _ _ _ _ (CExt.putObj hl3 rfl) hi3, hl4, hk4, hb.trans (bel _ _ hk3)⟩⟩
        | goto t =>
          obtain ⟨hk3, hi3⟩ := hp
          obtain ⟨hr, hl3, hl4, hk4⟩ := fin (some (.goto t)) W3 hk3.others
          exact ⟨_, _, hr, _, rfl, bel _ _ hk3, .inr ⟨rfl, .goto t, hIx _ _ _ _ (CExt.putObj hl3 rfl) hi3, hl4, hk4, hb.trans (bel _ _ hk3)⟩⟩
        | panic ch => exact hp.elim
        | outgrown => exact hp.elim
      | ret => exact hq
      | exit id => exact hq
      | goto t => exact hq
      | panic c => exact hq
      | outgrown => exact hq
    · -- behind the iterator
      have putB : ∀ (V : World) (o : Obj), Bl B V (V.putObj (w.heap.size + 1) o) := fun V o => ⟨rfl, rfl, rfl, by simp, fun k hk => World.putObj_heap_other (by have := hB k hk; omega)⟩
      have hka : Kn N (mark w.heap.size :: D) L { a with defers := [mark w.heap.size] ++ a.defers } := ⟨ha.size, by simp [ha.defers], ha.slot⟩
      rintro e W2 ⟨v, rfl, hb2, (⟨hi, hl, hk, hb⟩ | ⟨pre, hpre, c, hi, hl, hk, hb⟩)⟩
      · exact ⟨none, _, by have := run_endLoop (P := P) hl (by rw [hrec]; simp); rw [hrec] at this; exact this,
          hdone _ _ (hI _ _ _ (CExt.putObj hl rfl) hi) (hb.trans (putB _ _)) (Nat.le_refl _) ((World.putObj_heap_other (by omega)).trans hk) _ hka⟩
      · exact ⟨some c, _, by have := run_endLoop (P := P) hl (by rw [hrec]; simp); rw [hrec] at this; exact this,
          hstop _ c pre _ hpre (hIx _ _ _ _ (CExt.putObj hl rfl) hi) (hb.trans (putB _ _)) (Nat.le_refl _) ((World.putObj_heap_other (by omega)).trans hk) _ hka⟩
/-- **An outermost range over a function.** -/
theorem CD.range {α : Type} {g : Operand} {gf : FuncId} [hen : En P gf] {caps : List Value} {encs : α → List Value} {xs : List α} {B : Nat → Prop} {ps : Array Tmp} {assign body : Code}
    (hg : ev L g = some (.func (.func gf) #[] caps.toArray)) (hit : It P gf caps encs xs B w) (hB : ∀ k, B k → k < w.heap.size) (hps : ∀ x, (encs x).length = ps.size) (hpin : ps.toList.all (fun p => Nat.blt p N) = true)
    (I : List α → World → Prop) (Ix : Code → List α → World → Prop) (hI : ∀ pre W W', CExt W W' → I pre W → I pre W') (hIx : ∀ c pre W W', CExt W W' → Ix c pre W → Ix c pre W') (h0 : I [] w)
    (La : α → List (Nat × Value))
    (hassign : ∀ l x W, CD P (Fence.wide.inRound l) 0 N [] assign (Exit.then (fun a w' => w' = W ∧ Kn N [] (La x) a) NoExit) (zipL ps.toList (encs x) L) W)
    (hbody : ∀ l pre x W, pre ++ [x] <+: xs → I pre W → Bl B w W → w.heap.size < W.heap.size → CD P (Fence.wide.inRound l) 0 N [] body (rPost B I Ix (pre ++ [x]) W) (La x) W)
    (hdone : ∀ M W, I xs W → Bl B w W → w.heap.size ≤ M → W.heap[M]? = some (.deferred (some [])) → ∀ a, Kn N (mark M :: D) L a → Q .normal a W)
    (hstop : ∀ M c pre W, pre <+: xs → Ix c pre W → Bl B w W → w.heap.size ≤ M → W.heap[M]? = some (.deferred (some [])) → CD P Fence.wide 0 N (mark M :: D) c Q L W) :
    CD P Fence.wide 0 N D (.rangeFunc g ps assign body) Q L w :=
  CD.rangeL hg hit hB hps hpin I Ix hI hIx h0 La hassign (fun l pre x W h1 h2 h3 h4 _ => hbody l pre x W h1 h2 h3 h4) hdone hstop
end
end Go.Proofs.YtiebkbmnepgacaaGreatDoor
/-
  Framework, part 7: a function's end behind ranges over functions; make and append; a range within a round. Generic.
-/
namespace Go.Proofs.YtiebkbmnepgacaaGreatDoor
open Go.RowKit
set_option linter.unusedVariables false

section
variable {P : Program} {N : Nat} {D : List Deferred} {L : List (Nat × Value)} {w : World} {v : Value}

/-- the blocks for the rounds' deferred calls are shut -/
def shut : List Nat → World → World
  | [], w => w
  | M :: r, w => shut r (w.putObj M (.deferred none))
theorem shut_spec : ∀ (Ms : List Nat) (w : World) (B : Nat → Prop), (∀ M ∈ Ms, ¬ B M ∧ w.heap[M]? = some (.deferred (some []))) → Ms.Nodup → CExt w (shut Ms w) ∧ Bl B w (shut Ms w)
  | [], w, B, _, _ => ⟨(Ext.refl w).cext, Bl.refl _ _⟩
  | M :: r, w, B, h, hn => by
    obtain ⟨hB, hM⟩ := h M (by simp)
    have hr := (List.nodup_cons.1 hn)
    have := shut_spec r (w.putObj M (.deferred none)) B (fun M' hM' => by
      obtain ⟨h1, h2⟩ := h M' (by simp [hM'])
      refine ⟨h1, ?_⟩
      have hne : M' ≠ M := fun e => by subst e; exact hr.1 hM'
      rw [World.putObj_heap_other hne]; exact h2) hr.2
    have hb : Bl B w (w.putObj M (.deferred none)) := ⟨rfl, rfl, rfl, by simp, fun k hk => World.putObj_heap_other (fun e => hB (e ▸ hk))⟩
    exact ⟨(CExt.putObj hM rfl).trans this.1, hb.trans this.2⟩

theorem leavesM {n : Nat} {F : Fence} {fn : Func} {tmps : Array Value} {R : Ending → World → Prop} : ∀ (Ms : List Nat) (w : World), (∀ M ∈ Ms, w.heap[M]? = some (.deferred (some []))) → Ms.Nodup →
    (∃ v, (results fn tmps).run P (shut Ms w) = .ok v (shut Ms w) ∧ R (.returned v) (shut Ms w)) → LeavesInM F n P fn tmps R (Ms.map mark) .returning w
  | [], w, _, _, h => h
  | M :: r, w, hM, hn, h => by
    have hr := (List.nodup_cons.1 hn)
    refine ⟨by simp, .inl ⟨M, _, rfl, run_takeDeferred (hM M (by simp)), ?_⟩⟩
    refine leavesM r _ (fun M' hM' => ?_) hr.2 h
    have hne : M' ≠ M := fun e => by subst e; exact hr.1 hM'
    rw [World.putObj_heap_other hne]; exact hM M' (by simp [hM'])

/-- one result, in a slot -/
theorem postM1 {R : Ending → World → Prop} {fn : Func} {t : Tmp} {Ms : List Nat} {B : Nat → Prop} (hr : fn.results = #[.tmp t]) (hv : lk L t = some v) (hM : ∀ M ∈ Ms, ¬ B M ∧ w.heap[M]? = some (.deferred (some []))) (hn : Ms.Nodup)
    (hR : ∀ w', CExt w w' → Bl B w w' → R (.returned v) w') : ∀ a, Kn N (Ms.map mark) L a → bodyPostM Fence.wide 0 P fn R .ret a w := fun a ha => by
  show LeavesInM Fence.wide 0 P fn a.tmps R a.defers .returning w
  rw [ha.defers]
  obtain ⟨h1, h2⟩ := shut_spec Ms w B hM hn
  exact leavesM Ms w (fun M h => (hM M h).2) hn ⟨v, by rw [results_tmp hr, ha.get hv], hR _ h1 h2⟩
/-- no result -/
theorem postM0 {R : Ending → World → Prop} {fn : Func} {Ms : List Nat} {B : Nat → Prop} (hr : fn.results = #[]) (hM : ∀ M ∈ Ms, ¬ B M ∧ w.heap[M]? = some (.deferred (some []))) (hn : Ms.Nodup)
    (hR : ∀ w', CExt w w' → Bl B w w' → R (.returned (.tuple #[])) w') : ∀ a, Kn N (Ms.map mark) L a → bodyPostM Fence.wide 0 P fn R .ret a w := fun a ha => by
  show LeavesInM Fence.wide 0 P fn a.tmps R a.defers .returning w
  rw [ha.defers]
  obtain ⟨h1, h2⟩ := shut_spec Ms w B hM hn
  exact leavesM Ms w (fun M h => (hM M h).2) hn ⟨_, results_none hr _ _ _, hR _ h1 h2⟩
/-- one result, in a cell -/
theorem run_results_cell {fn : Func} {t : Tmp} {ty : TypeId} [Sc P ty] {tmps : Array Value} {b : Addr} {W : World} (hr : fn.results = #[.cell t ty]) (ht : tmps.getD t undef = .pointer (some b)) (hc : W.cell? b = some v) :
    (results fn tmps).run P W = .ok v W := by
  have := run_loadVar (P := P) (t := ty) hc
  simp only [results, hr]
  have ht' : tmps[t]?.getD undef = .pointer (some b) := by simpa using ht
  simp [ht', asAddr, this]
theorem postMC {R : Ending → World → Prop} {fn : Func} {t : Tmp} {ty : TypeId} [Sc P ty] {Ms : List Nat} {B : Nat → Prop} {b : Addr} (hr : fn.results = #[.cell t ty]) (hv : lk L t = some (.pointer (some b))) (hc : w.cell? b = some v)
    (hM : ∀ M ∈ Ms, ¬ B M ∧ w.heap[M]? = some (.deferred (some []))) (hn : Ms.Nodup) (hR : ∀ w', CExt w w' → Bl B w w' → R (.returned v) w') : ∀ a, Kn N (Ms.map mark) L a → bodyPostM Fence.wide 0 P fn R .ret a w := fun a ha => by
  show LeavesInM Fence.wide 0 P fn a.tmps R a.defers .returning w
  rw [ha.defers]
  obtain ⟨h1, h2⟩ := shut_spec Ms w B hM hn
  exact leavesM Ms w (fun M h => (hM M h).2) hn ⟨v, run_results_cell hr (ha.get hv) (h1.cell hc), hR _ h1 h2⟩

theorem Calls.of_CDM {R : Ending → World → Prop} {fn : Func} {c : Code} {k : FuncId} {vs : List Value} (hf : P.funcs[k]? = some fn) (hb : fn.body = some c) (hn : fn.ntmps = N) (hl : Nat.ble vs.length N = true)
    (h : CD P Fence.wide 0 N [] c (bodyPostM Fence.wide 0 P fn R) (argsL vs 0) w) : Calls P k vs.toArray w R := by
  refine callsIn_wide.1 (callsIn_of_wp_marks (n := 0) hf hb trivial ?_)
  rw [hn]
  exact h _ (kn_enter vs N (Nat.le_of_ble_eq_true hl))
theorem Rt.ofM {C : Value → World → Prop} {fn : Func} {c : Code} {k : FuncId} {vs : List Value} (hf : P.funcs[k]? = some fn) (hb : fn.body = some c) (hn : fn.ntmps = N) (hl : Nat.ble vs.length N = true)
    (h : CD P Fence.wide 0 N [] c (bodyPostM Fence.wide 0 P fn (RR w C)) (argsL vs 0) w) : Rt P k vs w C := Calls.of_CDM hf hb hn hl h
end

/-! ### slices that the call itself has made -/
section
variable {P : Program} {F : Fence} {n N : Nat} {D : List Deferred} {l : List Oper} {m : Md} {K : Act → World → Prop} {L : List (Nat × Value)} {w : World}
variable {t u t' : TypeId} {pos : String} {af : Array Edge} {g : Option (Nat × Bool)} {dst : Option Tmp} {x y z : Operand} {i : Nat} {q : Bool} {rest : List (Nat × Bool)} {v : Value}

/-- v is a slice of n elements of type e that owns its array (in a block from B on): xs: its cells -/
abbrev Own (w : World) (B : Nat) (e : TypeId) (sz : Nat) (v : Value) (n : Nat) (xs : List Value) : Prop := w.ownsRow B e sz v n xs

theorem grown_ext {w w' : World} (h : w.grownBy w' none) : Ext w w' := ⟨h.os, h.tape, h.output, h.size, fun k hk => h.block k hk (by simp)⟩
theorem own_grown_kb {w w' : World} {B : Nat → Prop} {B' : Nat} {e : TypeId} {sz k : Nat} {v : Value} {xs : List Value} (ho : Own w B' e sz v k xs) (hB : ∀ b, v.ownBlock = some b → ¬ B b) (hB2 : ∀ k, B k → k < w.heap.size) (hg : w.grownBy w' v.ownBlock) : Kb B w w' := by
  refine ⟨⟨hg.os, hg.tape, hg.output, hg.size, fun k hk => hg.block k (hB2 k hk) (fun e => hB k e.symm hk)⟩, KeepsOthers.of_grownBy hg (fun j o hj hw => ?_)⟩
  rcases ho.2 with ⟨rfl, _⟩ | ⟨g, cap, cur, rfl, _, hgg, _⟩
  · simp [Value.ownBlock] at hj
  · simp only [Value.ownBlock, Option.some.injEq] at hj
    subst hj
    rw [hgg] at hw; cases hw; rfl

/-- an owned slice is kept by whatever keeps its block -/
theorem Own.keep {w w' : World} {B : Nat} {e : TypeId} {sz k : Nat} {v : Value} {xs : List Value} (h : Own w B e sz v k xs) (hk : ∀ b, v.ownBlock = some b → w'.heap[b]? = w.heap[b]?) : Own w' B e sz v k xs := by
  refine ⟨h.1, ?_⟩
  rcases h.2 with hn | ⟨g, cap, cur, rfl, hb, hgg, rest⟩
  · exact .inl hn
  · exact .inr ⟨g, cap, cur, rfl, hb, (hk g rfl).trans hgg, rest⟩
theorem Own.cext {w w' : World} {B : Nat} {e : TypeId} {sz k : Nat} {v : Value} {xs : List Value} (h : Own w B e sz v k xs) (hc : CExt w w') : Own w' B e sz v k xs := by
  refine ⟨h.1, ?_⟩
  rcases h.2 with hn | ⟨g, cap, cur, rfl, hb, hgg, rest⟩
  · exact .inl hn
  · exact .inr ⟨g, cap, cur, rfl, hb, hc.cells _ _ _ _ hgg, rest⟩

/-- an owned array is no block of another type -/
theorem own_ne {w : World} {B : Nat} {e t : TypeId} {sz k : Nat} {v : Value} {xs : List Value} (h : Own w B e sz v k xs) {b : Nat} {c : Array Value} {f : Nat × Nat} (hb : w.heap[b]? = some (.cells c t f)) (ht : t ≠ e) : v.ownBlock ≠ some b := by
  rcases h.2 with ⟨rfl, _⟩ | ⟨g, cap, cur, rfl, _, hgg, _⟩
  · simp [Value.ownBlock]
  · intro e'
    simp only [Value.ownBlock, Option.some.injEq] at e'
    subst e'
    rw [hb] at hgg
    simp only [Option.some.injEq, Obj.cells.injEq] at hgg
    exact ht hgg.2.1
/-- a variable's block behind a store into it, and any other block -/
theorem heap_setCell_one {w : World} {b : Nat} {u : Value} {t : TypeId} {f : Nat × Nat} (h : w.heap[b]? = some (.cells #[u] t f)) (v : Value) : (w.setCell ⟨b, 0, none⟩ v).heap[b]? = some (.cells #[v] t f) := by
  obtain ⟨hlt, hk⟩ := Array.getElem?_eq_some_iff.1 h
  show (w.heap.modify b _)[b]? = _
  rw [Array.getElem?_eq_getElem (by rw [Array.size_modify]; exact hlt), Array.getElem_modify_self, hk]
  rfl
theorem heap_setCell_ne {w : World} {b c : Nat} (v : Value) (h : c ≠ b) : (w.setCell ⟨b, 0, none⟩ v).heap[c]? = w.heap[c]? := Below.heap_setCell _ _ _ _ h

theorem one_of_oneV {v : Value} (h : oneV v = true) : v.oneCell' = true := by cases v <;> first | rfl | (simp [oneV] at h)

/-- make([]T, 0, c) -/
theorem PL.make0 [hm : ME m] {e : TypeId} {zv : Value} {sz byt c : Nat} {k k' : IntKind} (B : Nat) [h : Se P t e zv sz byt] (hF : FW F)
    (ho : l[i]? = some ⟨dst, .makeSlice t x y, t', pos, af, g⟩) (hw : wantL l L ⟨dst, .makeSlice t x y, t', pos, af, g⟩ = some true) (hx : ev L x = some (.int k 0)) (hy : ev L y = some (.int k' (c : Int))) (hin : inT N dst = true)
    (hb : byt * c ≤ 281474976710656) (h63 : c ≤ 9223372036854775807) (hB : B ≤ w.heap.size)
    (hh : ∀ w' v, Own w' B e sz v 0 [] → Ext w w' → v ≠ .slice none 0 0 → (∀ b, v.ownBlock = some b → w.heap.size ≤ b) → (∃ b, v = .slice (some ⟨b, 0, none⟩) 0 c) → PL P F n N D l m K rest (putL dst v L) w') : PL P F n N D l m K ((i, false) :: rest) L w := by
  obtain ⟨h1, inf, h2, h3, h4, h5, h6⟩ := h.out
  obtain ⟨w', hr, hown, hg⟩ := run_make_own (P := P) w B t e inf zv sz h1 h2 h3 h4 k k' c (by rw [h5]; exact hb) (by unfold maxLen; omega) hB
  refine PL.val (v := .slice (some ⟨w.heap.size, 0, none⟩) 0 c) (w' := w') ho hw (fun _ e => by cases e) hF hin (fun a ha => ?_) (hm.out _ _ (grown_ext hg)) (hh w' _ hown (grown_ext hg) (by simp) (by simp [Value.ownBlock]) ⟨_, rfl⟩)
  have e1 := ha.eval hx; have e2 := ha.eval hy
  simp only [execOp, e1, e2]
  exact run_v hr

/-- s = append(s, ys...) on an owned slice; ys given by its cells -/
theorem PL.append {e : TypeId} {zv : Value} {sz byt k c o : Nat} {b : Nat} {sv : Value} {ns : Nat} {xs news : List Value} {B : Nat} [h : Se P t e zv sz byt] (hF : FW F)
    (ho : l[i]? = some ⟨dst, .call ⟨.builtin .append, #[x, y], #[t, t]⟩, t', pos, af, g⟩) (hw : wantL l L ⟨dst, .call ⟨.builtin .append, #[x, y], #[t, t]⟩, t', pos, af, g⟩ = some true)
    (hx : ev L x = some sv) (hown : Own w B e sz sv ns xs) (hy : ev L y = some (.slice (some ⟨b, o, none⟩) k c)) (hin : inT N dst = true)
    (hl : news.length = k * sz) (hn : ∀ j u, news[j]? = some u → w.cell? ⟨b, o + j, none⟩ = some u) (h1 : ∀ u ∈ news, oneV u = true) (hsz : 0 < sz)
    (hb : (ns + k) * byt ≤ 140737488355328) (h63 : ns + k ≤ 9223372036854775807) (hB : B ≤ w.heap.size) (hE : ∀ w', w.grownBy w' sv.ownBlock → m.E w w')
    (hh : ∀ v' w', Own w' B e sz v' (ns + k) (xs ++ news) → w.grownBy w' sv.ownBlock → (v' = .slice none 0 0 ↔ sv = .slice none 0 0 ∧ k = 0) → PL P F n N D l m K rest (putL dst v' L) w') : PL P F n N D l m K ((i, false) :: rest) L w := by
  obtain ⟨h1', inf, h2, h3, h4, h5, h6⟩ := h.out
  obtain ⟨v', w', hr, hown', hg, hnil⟩ := run_append_own (P := P) w B t t' e inf zv sz byt h1' h2 h3 h4 h5 h6 hsz sv ns xs hown ⟨b, o, none⟩ k c news hl
    (fun j u hj => by rw [Addr.add_z]; exact hn j u hj) (fun u hu => one_of_oneV (h1 u hu)) (by unfold maxLen; omega) hb hB
  refine PL.val (v := v') (w' := w') ho hw (fun _ e => by cases e) hF hin (fun a ha => ?_) (hE w' hg) (hh v' w' hown' hg hnil)
  have e1 := ha.eval hx; have e2 := ha.eval hy
  simp only [execOp, resolve, List.map_toArray, List.map_cons, List.map_nil, e1, e2, Sem.run_bind, Sem.run_pure, Result.andThen, invoke, builtin]
  simp only [hr]

/-- a cell of an owned slice -/
theorem Own.cell {B : Nat} {e : TypeId} {sz k b c : Nat} {xs : List Value} (h : Own w B e sz (.slice (some ⟨b, 0, none⟩) k c) k xs) {j : Nat} (hj : j < k * sz) : w.cell? ⟨b, j, none⟩ = xs[j]? := h.cellAt j hj
theorem Own.lt1 {B : Nat} {e : TypeId} {sz k b c : Nat} {xs : List Value} (h : Own w B e sz (.slice (some ⟨b, 0, none⟩) k c) k xs) : B ≤ b ∧ b < w.heap.size := World.ownsRow.lt h b rfl
/-- the form of an owned slice -/
theorem Own.form {B : Nat} {e : TypeId} {sz k : Nat} {v : Value} {xs : List Value} (h : Own w B e sz v k xs) : (v = .slice none 0 0 ∧ k = 0) ∨ ∃ b c, v = .slice (some ⟨b, 0, none⟩) k c ∧ B ≤ b ∧ b < w.heap.size := by
  rcases h.2 with hn | ⟨g, cap, cur, rfl, hb, hgg, rest⟩
  · exact .inl hn
  · exact .inr ⟨g, cap, rfl, hb, (Array.getElem?_eq_some_iff.1 hgg).1⟩
end
end Go.Proofs.YtiebkbmnepgacaaGreatDoor
/-
  Framework, part 8: slices that are read. Generic.
-/
namespace Go.Proofs.YtiebkbmnepgacaaGreatDoor
open Go.RowKit
set_option linter.unusedVariables false

/-- a value told in other words -/
theorem OQ.cast {P : Program} {m : Md} {N : Nat} {D : List Deferred} {o : Oper} {L : List (Nat × Value)} {w : World} {v v' : Value} (hq : OQ P m N D o L w v) (h : v = v') : OQ P m N D o L w v' := h ▸ hq
theorem OQ.yes {P : Program} {m : Md} {N : Nat} {D : List Deferred} {o : Oper} {L : List (Nat × Value)} {w : World} {b : Bool} (hq : OQ P m N D o L w (.bool b)) (h : b = true) : OQ P m N D o L w (.bool true) := h ▸ hq
theorem OQ.no {P : Program} {m : Md} {N : Nat} {D : List Deferred} {o : Oper} {L : List (Nat × Value)} {w : World} {b : Bool} (hq : OQ P m N D o L w (.bool b)) (h : b = false) : OQ P m N D o L w (.bool false) := h ▸ hq

/-- the cells behind a slice's address: elements of one cell -/
def Cells (w : World) (a : Option Addr) (cs : List Value) : Prop := ∀ i u, cs[i]? = some u → ∃ b o, a = some ⟨b, o, none⟩ ∧ w.cell? ⟨b, o + i * 1, none⟩ = some u
theorem Cells.nil (w : World) (a : Option Addr) : Cells w a [] := fun i u h => by simp at h
theorem Cells.ext {w w' : World} {a : Option Addr} {cs : List Value} (h : Cells w a cs) (hx : Ext w w') : Cells w' a cs := fun i u hu => let ⟨b, o, e, c⟩ := h i u hu; ⟨b, o, e, hx.cell c⟩
theorem Cells.cext {w w' : World} {a : Option Addr} {cs : List Value} (h : Cells w a cs) (hx : CExt w w') : Cells w' a cs := fun i u hu => let ⟨b, o, e, c⟩ := h i u hu; ⟨b, o, e, hx.cell c⟩
/-- whole numbers -/
abbrev IntsAt (w : World) (k : IntKind) (a : Option Addr) (z : List Int) : Prop := Cells w a (z.map fun x => .int k x)
theorem IntsAt.at {w : World} {k : IntKind} {a : Option Addr} {z : List Int} (h : IntsAt w k a z) (i : Nat) (hi : i < z.length) : ∃ b o, a = some ⟨b, o, none⟩ ∧ w.cell? ⟨b, o + i * 1, none⟩ = some (.int k z[i]) :=
  h i _ (by simp [hi])
/-- an owned slice, as one that is read -/
theorem Own.slc {w : World} {B : Nat} {e : TypeId} {k : Nat} {v : Value} {xs : List Value} (h : Own w B e 1 v k xs) : ∃ a c, v = .slice a k c ∧ Cells w a xs ∧ xs.length = k := by
  have hl : xs.length = k := by have := h.1; omega
  rcases h.form with ⟨rfl, rfl⟩ | ⟨b, c, rfl, h1, h2⟩
  · exact ⟨none, 0, rfl, by cases xs with | nil => exact Cells.nil _ _ | cons _ _ => simp at hl, hl⟩
  · refine ⟨_, c, rfl, fun i u hu => ⟨b, 0, rfl, ?_⟩, hl⟩
    have hi : i < xs.length := (List.getElem?_eq_some_iff.1 hu).1
    rw [Nat.zero_add, h.cell (by omega), Nat.mul_one]; exact hu
end Go.Proofs.YtiebkbmnepgacaaGreatDoor
/-
  Framework, part 9: variables of several cells: loads, stores; slices of elements of several cells. Generic.
-/
namespace Go.Proofs.YtiebkbmnepgacaaGreatDoor
open Go.RowKit
set_option linter.unusedVariables false

/-- one block is turned -/
structure Wr (w w' : World) (b : Nat) (o : Obj) : Prop where
  os : w'.os = w.os
  tape : w'.tape = w.tape
  output : w'.output = w.output
  size : w'.heap.size = w.heap.size
  heap : w'.heap[b]? = some o
  other : ∀ k, k ≠ b → w'.heap[k]? = w.heap[k]?
theorem Wr.bl {w w' : World} {b : Nat} {o : Obj} (h : Wr w w' b o) {S : Nat → Prop} (hS : ¬ S b) : Bl S w w' := ⟨h.os, h.tape, h.output, Nat.le_of_eq h.size.symm, fun k hk => h.other k (fun e => hS (e ▸ hk))⟩
theorem Wr.ext {w0 w w' : World} {b : Nat} {o : Obj} (h : Wr w w' b o) (hx : Ext w0 w) (hb : w0.heap.size ≤ b) : Ext w0 w' := hx.trans' (S := (· < w0.heap.size)) (h.bl (by simp; omega)) (fun _ h => h)
theorem Wr.ne {w w' : World} {b : Nat} {o : Obj} (h : Wr w w' b o) {k : Nat} {o' : Obj} (hk : w.heap[k]? = some o') (hne : k ≠ b) : w'.heap[k]? = some o' := (h.other k hne).trans hk
theorem Wr.kb {w w' : World} {b : Nat} {c c' : Array Value} {t t' : TypeId} {f f' : Nat × Nat} (h : Wr w w' b (.cells c' t' f')) (hb : w.heap[b]? = some (.cells c t f)) {S : Nat → Prop} (hS : ¬ S b) : Kb S w w' :=
  ⟨h.bl hS, ⟨Nat.le_of_eq h.size.symm, fun k o e ho => by
    have hne : k ≠ b := fun e' => by subst e'; rw [hb] at e; cases e; simp [Obj.isCells] at ho
    exact h.ne e hne⟩⟩
/-- trees and other things of types that differ stay -/
theorem Wr.keep {w w' : World} {b : Nat} {c c' : Array Value} {t nt : TypeId} {f f' : Nat × Nat} (h : Wr w w' b (.cells c' t f')) (hb : w.heap[b]? = some (.cells c t f)) (ht : t ≠ nt) :
    ∀ (k : Nat) (c : Array Value) (f : Nat × Nat), w.heap[k]? = some (.cells c nt f) → w'.heap[k]? = some (.cells c nt f) := fun k c2 f2 e => by
  have hne : k ≠ b := fun e' => by subst e'; rw [hb] at e; simp only [Option.some.injEq, Obj.cells.injEq] at e; exact ht e.2.1
  exact h.ne e hne
theorem Own.wr {w w' : World} {B : Nat} {e t : TypeId} {sz k b : Nat} {v : Value} {xs : List Value} {c c' : Array Value} {f f' : Nat × Nat} (h : Own w B e sz v k xs) (hw : Wr w w' b (.cells c' t f')) (hb : w.heap[b]? = some (.cells c t f)) (ht : t ≠ e) : Own w' B e sz v k xs :=
  h.keep fun j hj => hw.other j (fun e' => by subst e'; exact own_ne h hb ht hj)

def putAt : List Value → Nat → List Value → List Value
  | cs, _, [] => cs
  | cs, o, v :: r => putAt (setAt cs o v) (o + 1) r

theorem setCell_wr {w : World} {b o : Nat} {cs : Array Value} {e : TypeId} {f : Nat × Nat} (hb : w.heap[b]? = some (.cells cs e f)) (v : Value) : Wr w (w.setCell ⟨b, o, none⟩ v) b (.cells (setAt cs.toList o v).toArray e f) := by
  obtain ⟨hlt, hk⟩ := Array.getElem?_eq_some_iff.1 hb
  refine ⟨rfl, rfl, rfl, by simp [World.setCell], ?_, fun k hk => Below.heap_setCell _ _ _ _ hk⟩
  show (w.heap.modify b _)[b]? = _
  rw [Array.getElem?_eq_getElem (by rw [Array.size_modify]; exact hlt), Array.getElem_modify_self, hk]
  simp only [Option.isSome_none, Bool.false_eq_true, if_false]
  rw [setAt_eq]
  congr 2
  apply Array.toList_inj.1
  rw [Array.toList_setIfInBounds]

section
variable {P : Program}
theorem run_storeCells {b o : Nat} {e : TypeId} : ∀ (vs : List Value) (i : Nat) (cs : Array Value) (w : World), w.heap[b]? = some (.cells cs e (0, 0)) → vs.all oneV = true → o + i + vs.length ≤ cs.size →
    ∃ w', (storeCells ⟨b, o, none⟩ vs i).run P w = .ok () w' ∧ Wr w w' b (.cells (putAt cs.toList (o + i) vs).toArray e (0, 0))
  | [], i, cs, w, hb, _, _ => ⟨w, by simp [storeCells, Sem.run_pure], rfl, rfl, rfl, rfl, by simpa [putAt] using hb, fun _ _ => rfl⟩
  | v :: r, i, cs, w, hb, h1, hl => by
    simp only [List.all_cons, Bool.and_eq_true] at h1
    simp only [List.length_cons] at hl
    have hc : w.cell? ⟨b, o + i, none⟩ = some cs[o + i] := cell_of_heap hb (by simp)
    have h2 := run_store1 (P := P) (b := ⟨b, o + i, none⟩) h1.1 hc (frozen_of_heap hb _)
    have hw := setCell_wr (o := o + i) hb v
    obtain ⟨w', hr, hw'⟩ := run_storeCells (o := o) r (i + 1) _ _ hw.heap h1.2 (by simp [setAt_eq]; omega)
    refine ⟨w', ?_, hw'.os.trans hw.os, hw'.tape.trans hw.tape, hw'.output.trans hw.output, hw'.size.trans hw.size, ?_, fun k hk => (hw'.other k hk).trans (hw.other k hk)⟩
    · simp only [storeCells, Addr.add_z, Sem.run_bind, h2, Result.andThen, hr]
    · have := hw'.heap
      simpa [putAt, Nat.add_assoc] using this

def CellsAt (w : World) (b o : Nat) (cs : List Value) : Prop := ∀ j u, cs[j]? = some u → w.cell? ⟨b, o + j, none⟩ = some u
theorem CellsAt.of_heap {w : World} {b : Nat} {cs : Array Value} {t : TypeId} {f : Nat × Nat} (h : w.heap[b]? = some (.cells cs t f)) : CellsAt w b 0 cs.toList := fun j u hj => by
  rw [Nat.zero_add]; exact cell_of_heap h (by simpa using hj)
theorem run_loadCells {b o : Nat} {W : World} : ∀ (cs : List Value) (i : Nat) (acc : Array Value), (∀ j u, cs[j]? = some u → W.cell? ⟨b, o + (i + j), none⟩ = some u) →
    (loadCellsFrom ⟨b, o, none⟩ i cs.length acc).run P W = .ok (acc ++ cs.toArray) W
  | [], i, acc, _ => by simp [loadCellsFrom, Sem.run_pure]
  | v :: r, i, acc, h => by
    have h0 := h 0 v (by simp)
    have ih := run_loadCells r (i + 1) (acc.push v) (fun j u hj => by
      have := h (j + 1) u (by simpa using hj)
      rw [show i + 1 + j = i + (j + 1) by omega]; exact this)
    have h1 : (load (Addr.add ⟨b, o, none⟩ i)).run P W = .ok v W := by
      rw [Addr.add_z]; simp [load, Sem.run]; rw [Nat.add_zero] at h0; rw [h0]
    simp only [List.length_cons, loadCellsFrom, Sem.run_bind, h1, Result.andThen, ih]
    simp

class SzN (P : Program) (t : TypeId) (n : outParam Nat) : Prop where
  out : ∃ i, P.info? t = some i ∧ i.size = n
theorem SzN.of {P : Program} {t : TypeId} {z : Option Value} {s b : Nat} (h : (P.info? t).map infT = some (z, s, b)) : SzN P t s := ⟨let ⟨i, h1, _, h2, _⟩ := inf_of h; ⟨i, h1, h2⟩⟩
class Ag (P : Program) (t : TypeId) : Prop where
  out : ∃ d, P.underlying t = some d ∧ (match d with | .struct _ => true | .array _ _ => true | _ => false) = true

theorem run_loadVarA {t : TypeId} {n : Nat} [h : Ag P t] [hs : SzN P t n] {b o : Nat} {cs : List Value} {W : World} (hl : cs.length = n) (hc : CellsAt W b o cs) : (loadVar t ⟨b, o, none⟩).run P W = .ok (.agg cs.toArray) W := by
  obtain ⟨d, hd, ha⟩ := h.out
  obtain ⟨i, h1, h2⟩ := hs.out
  have h3 := run_loadCells (P := P) (b := b) (o := o) (W := W) cs 0 #[] (fun j u hj => by rw [Nat.zero_add]; exact hc j u hj)
  rw [hl] at h3
  cases d <;> simp at ha <;> simp [loadVar, isAgg, underlying, program, sizeOf, typeInfo, loadCells, Sem.run_bind, Sem.run, hd, h1, h2, h3, Result.andThen]
end

section
variable {P : Program} {F : Fence} {n N : Nat} {D : List Deferred} {l : List Oper} {m : Md} {K : Act → World → Prop} {L : List (Nat × Value)} {w : World}
variable {t u t' : TypeId} {pos : String} {af : Array Edge} {g : Option (Nat × Bool)} {dst : Option Tmp} {x y z : Operand} {i : Nat} {q : Bool} {rest : List (Nat × Bool)} {v : Value}

theorem CellsAt.ext {w w' : World} {b o : Nat} {cs : List Value} (h : CellsAt w b o cs) (hx : Ext w w') : CellsAt w' b o cs := fun j u hj => hx.cell (h j u hj)
theorem CellsAt.cext {w w' : World} {b o : Nat} {cs : List Value} (h : CellsAt w b o cs) (hx : CExt w w') : CellsAt w' b o cs := fun j u hj => hx.cell (h j u hj)
theorem OQ.loadA {k : Nat} [Ag P t] [SzN P t k] {b o : Nat} {cs : List Value} (hx : ev L x = some (.pointer (some ⟨b, o, none⟩))) (hl : cs.length = k) (hk : m.keeps ⟨b, o, none⟩) (hc : CellsAt w b o cs) : OQ P m N D ⟨dst, .load t x, u, pos, af, g⟩ L w (.agg cs.toArray) := fun a ha W hW => by
  have hc' : CellsAt W b o cs := fun j u hj => Md.cell (m := m) (by cases m <;> first | trivial | exact hk) (hc j u hj) W hW
  have := run_loadVarA (P := P) (t := t) hl hc'
  have e1 := ha.eval hx
  simp only [execOp, e1, Instr.loadAt, Instr.sureAddr]
  simp only [Sem.run_bind, Sem.run_pure, this, Result.andThen]
theorem OQ.loadAS {k : Nat} [Ag P t] [SzN P t k] {b o : Nat} {cs : List Value} (hx : ev L x = some (.pointer (some ⟨b, o, none⟩))) (hl : cs.length = k) (hc : CellsAt w b o cs) : OQ P .seq N D ⟨dst, .load t x, u, pos, af, g⟩ L w (.agg cs.toArray) := OQ.loadA hx hl trivial hc
theorem OQ.loadAX {k : Nat} [Ag P t] [SzN P t k] {b o : Nat} {cs : List Value} (hx : ev L x = some (.pointer (some ⟨b, o, none⟩))) (hl : cs.length = k) (hc : CellsAt w b o cs) : OQ P .ext N D ⟨dst, .load t x, u, pos, af, g⟩ L w (.agg cs.toArray) := OQ.loadA hx hl trivial hc
/-- of a whole variable -/
theorem OQ.loadH {k : Nat} [Ag P t] [SzN P t k] {b : Nat} {cs : List Value} {e : TypeId} {f : Nat × Nat} (hx : ev L x = some (.pointer (some ⟨b, 0, none⟩))) (hl : cs.length = k) (hk : m.keeps ⟨b, 0, none⟩) (hb : w.heap[b]? = some (.cells cs.toArray e f)) : OQ P m N D ⟨dst, .load t x, u, pos, af, g⟩ L w (.agg cs.toArray) :=
  OQ.loadA hx hl hk (CellsAt.of_heap hb)

theorem PL.put {k b o : Nat} {e : TypeId} {cs : Array Value} {vs : List Value} [hs : SzN P t k] (hF : FW F) (ho : l[i]? = some ⟨dst, .store t x y, t', pos, af, g⟩) (hw : wantL l L ⟨dst, .store t x y, t', pos, af, g⟩ = some true)
    (hx : ev L x = some (.pointer (some ⟨b, o, none⟩))) (hy : ev L y = some v) (hin : inT N dst = true) (hb : w.heap[b]? = some (.cells cs e (0, 0))) (hv : v.cells.toList = vs) (hk : vs.length = k) (h1 : vs.all oneV = true) (hsz : Nat.ble (o + k) cs.size = true)
    (hE : ∀ w', Wr w w' b (.cells (putAt cs.toList o vs).toArray e (0, 0)) → m.E w w' ∨ Last l i = true)
    (h : ∀ w', Wr w w' b (.cells (putAt cs.toList o vs).toArray e (0, 0)) → PL P F n N D l m K rest (putL dst undef L) w') : PL P F n N D l m K ((i, false) :: rest) L w := by
  obtain ⟨inf, h2, h3⟩ := hs.out
  obtain ⟨w', hr, hwr⟩ := run_storeCells (P := P) (o := o) vs 0 cs w hb h1 (by have := Nat.le_of_ble_eq_true hsz; omega)
  refine PL.unitL ho hw (fun _ e => by cases e) hF hin (fun a ha => ?_) (hE w' hwr) (h w' hwr)
  have e1 := ha.eval hx; have e2 := ha.eval hy
  have h4 : v.cells.size = inf.size := by rw [h3, ← hk, ← hv]; simp
  simp only [execOp, e1, e2, Instr.storeAt, Instr.sureAddr]
  refine run_u ?_
  simp [storeVar, sizeOf, typeInfo, program, Sem.run_bind, Sem.run, Result.andThen, h2, h4, hv, hr]

/-- s = append(s, ys...) on an owned slice: where the new slice lies -/
theorem PL.app {e : TypeId} {zv : Value} {sz byt k c o : Nat} {b : Nat} {sv : Value} {ns : Nat} {xs : List Value} (news : List Value) {B : Nat} [h : Se P t e zv sz byt] (hF : FW F)
    (ho : l[i]? = some ⟨dst, .call ⟨.builtin .append, #[x, y], #[t, t]⟩, t', pos, af, g⟩) (hw : wantL l L ⟨dst, .call ⟨.builtin .append, #[x, y], #[t, t]⟩, t', pos, af, g⟩ = some true)
    (hx : ev L x = some sv) (hy : ev L y = some (.slice (some ⟨b, o, none⟩) k c)) (hin : inT N dst = true)
    (hown : Own w B e sz sv ns xs) (hn : CellsAt w b o news) (hl : news.length = k * sz) (h1 : news.all oneV = true) (hsz : 0 < sz)
    (hb : (ns + k) * byt ≤ 140737488355328) (h63 : ns + k ≤ 9223372036854775807) (hB : B ≤ w.heap.size) (hE : ∀ w', w.grownBy w' sv.ownBlock → m.E w w' ∨ Last l i = true)
    (hh : ∀ v' w', Own w' B e sz v' (ns + k) (xs ++ news) → w.grownBy w' sv.ownBlock → (v'.ownBlock = sv.ownBlock ∨ v'.ownBlock = some w.heap.size) → PL P F n N D l m K rest (putL dst v' L) w') : PL P F n N D l m K ((i, false) :: rest) L w := by
  obtain ⟨h1', inf, h2, h3, h4, h5, h6⟩ := h.out
  obtain ⟨v', w', hr, hown', hg, _, hat⟩ := run_append_own_at (P := P) w B t t' e inf zv sz byt h1' h2 h3 h4 h5 h6 hsz sv ns xs hown ⟨b, o, none⟩ k c news hl
    (fun j u hj => by rw [Addr.add_z]; exact hn j u hj) (fun u hu => one_of_oneV (List.all_eq_true.1 h1 u hu)) (by unfold maxLen; omega) hb hB
  refine PL.eff ho hw (fun _ e => by cases e) hF fun a ha => ?_
  have e1 := ha.eval hx; have e2 := ha.eval hy
  have e3 : (execOp a.eval ⟨dst, .call ⟨.builtin .append, #[x, y], #[t, t]⟩, t', pos, af, g⟩).run P w = .ok (.value v') w' := by
    simp only [execOp, resolve, List.map_toArray, List.map_cons, List.map_nil, e1, e2, Sem.run_bind, Sem.run_pure, Result.andThen, invoke, builtin]
    simp only [hr]
  rw [e3]
  exact ⟨hE w' hg, hh v' w' hown' hg hat _ (ha.putO hin v')⟩
theorem grown_bl {w w' : World} {row : Option Nat} (hg : w.grownBy w' row) {S : Nat → Prop} (hS : ∀ k, S k → k < w.heap.size ∧ row ≠ some k) : Bl S w w' :=
  ⟨hg.os, hg.tape, hg.output, hg.size, fun k hk => hg.block k (hS k hk).1 (fun e => (hS k hk).2 e.symm)⟩
theorem grown_heap {w w' : World} {row : Option Nat} (hg : w.grownBy w' row) {k : Nat} {o : Obj} (h : w.heap[k]? = some o) (hne : row ≠ some k) : w'.heap[k]? = some o := by
  rw [hg.block k (Array.getElem?_eq_some_iff.1 h).1 (fun e => hne e.symm)]; exact h
end

/-! ### results of which one lies in a variable of several cells -/
section
variable {P : Program} {N : Nat} {L : List (Nat × Value)} {w : World}
theorem run_results_cellA {fn : Func} {t s : Tmp} {ty : TypeId} {k : Nat} [Ag P ty] [SzN P ty k] {tmps : Array Value} {b : Nat} {cs : List Value} {u : Value} {W : World} (hr : fn.results = #[.cell t ty, .tmp s]) (ht : tmps.getD t undef = .pointer (some ⟨b, 0, none⟩)) (hs : tmps.getD s undef = u) (hl : cs.length = k) (hc : CellsAt W b 0 cs) :
    (results fn tmps).run P W = .ok (.tuple #[.agg cs.toArray, u]) W := by
  have := run_loadVarA (P := P) (t := ty) hl hc
  have ht' : tmps[t]?.getD undef = .pointer (some ⟨b, 0, none⟩) := by simpa using ht
  have hs' : tmps[s]?.getD undef = u := by simpa using hs
  simp only [results, hr]
  simp [ht', hs', asAddr, this]
theorem postCT {R : Ending → World → Prop} {fn : Func} {t s : Tmp} {ty : TypeId} {k : Nat} [Ag P ty] [SzN P ty k] {b : Nat} {cs : List Value} {u : Value} {e : TypeId} {f : Nat × Nat} (hr : fn.results = #[.cell t ty, .tmp s]) (hv : lk L t = some (.pointer (some ⟨b, 0, none⟩))) (hu : lk L s = some u) (hl : cs.length = k)
    (hh : w.heap[b]? = some (.cells cs.toArray e f)) (hR : R (.returned (.tuple #[.agg cs.toArray, u])) w) : ∀ a, Kn N [] L a → bodyPost P fn R .ret a w := fun a ha =>
  ⟨ha.defers, _, run_results_cellA hr (ha.get hv) (ha.get hu) hl (CellsAt.of_heap hh), hR⟩
end
end Go.Proofs.YtiebkbmnepgacaaGreatDoor
/-
  Framework, part 10: what stays while blocks of one type are turned; owned slices of elements of several cells. Generic.
-/
namespace Go.Proofs.YtiebkbmnepgacaaGreatDoor
open Go.RowKit
set_option linter.unusedVariables false

/-- every block of cells of another type lies as it lay -/
structure KT (e : TypeId) (w w' : World) : Prop where
  out : ∀ (k : Nat) (c : Array Value) (t : TypeId) (f : Nat × Nat), t ≠ e → w.heap[k]? = some (.cells c t f) → w'.heap[k]? = some (.cells c t f)
theorem KT.refl (e : TypeId) (w : World) : KT e w w := ⟨fun _ _ _ _ _ h => h⟩
theorem KT.trans {e : TypeId} {a b c : World} (h : KT e a b) (k : KT e b c) : KT e a c := ⟨fun i cs t f ht hi => k.out i cs t f ht (h.out i cs t f ht hi)⟩
theorem CExt.kt {e : TypeId} {w w' : World} (h : CExt w w') : KT e w w' := ⟨fun k c t f _ hk => h.cells k c t f hk⟩
theorem Ext.kt {e : TypeId} {w w' : World} (h : Ext w w') : KT e w w' := h.cext.kt
theorem Wr.kt {w w' : World} {b : Nat} {o : Obj} {c : Array Value} {e : TypeId} {f : Nat × Nat} (h : Wr w w' b o) (hb : w.heap[b]? = some (.cells c e f)) : KT e w w' := ⟨fun k c2 t f2 ht hk => by
  have hne : k ≠ b := fun e' => by subst e'; rw [hb] at hk; simp only [Option.some.injEq, Obj.cells.injEq] at hk; exact ht hk.2.1.symm
  exact h.ne hk hne⟩
theorem grown_kt {w w' : World} {B : Nat} {e : TypeId} {sz n : Nat} {v : Value} {xs : List Value} (h : Own w B e sz v n xs) (hg : w.grownBy w' v.ownBlock) : KT e w w' := ⟨fun k c t f ht hk => grown_heap hg hk (own_ne h hk ht)⟩
theorem Own.kt {w w' : World} {e : TypeId} (h : KT e w w') {B : Nat} {e' : TypeId} {sz n : Nat} {v : Value} {xs : List Value} (ho : Own w B e' sz v n xs) (hne : e' ≠ e) : Own w' B e' sz v n xs := by
  refine ⟨ho.1, ?_⟩
  rcases ho.2 with hn | ⟨g, cap, cur, rfl, hb, hgg, rest⟩
  · exact .inl hn
  · exact .inr ⟨g, cap, cur, rfl, hb, h.out _ _ _ _ hne hgg, rest⟩
theorem Own.base {w : World} {B B' : Nat} {e : TypeId} {sz n : Nat} {v : Value} {xs : List Value} (ho : Own w B e sz v n xs) (hB : B' ≤ B) : Own w B' e sz v n xs := by
  refine ⟨ho.1, ?_⟩
  rcases ho.2 with hn | ⟨g, cap, cur, rfl, hb, hgg, rest⟩
  · exact .inl hn
  · exact .inr ⟨g, cap, cur, rfl, by omega, hgg, rest⟩

theorem flatMap_at {α : Type} {sz : Nat} (f : α → List Value) (hf : ∀ x, (f x).length = sz) : ∀ (l : List α) (j : Nat) (hj : j < l.length) (i : Nat), i < sz → (l.flatMap f)[j * sz + i]? = (f l[j])[i]?
  | x :: r, 0, _, i, hi => by simp only [List.flatMap_cons, Nat.zero_mul, Nat.zero_add, List.getElem_cons_zero]; rw [List.getElem?_append_left (by rw [hf]; exact hi)]
  | x :: r, j + 1, hj, i, hi => by
    have ih := flatMap_at f hf r j (by simpa using hj) i hi
    simp only [List.flatMap_cons, List.getElem_cons_succ]
    rw [List.getElem?_append_right (by rw [hf, Nat.add_mul]; omega), ← ih, hf]
    congr 1
    rw [Nat.add_mul]; omega
theorem length_flatMap {α : Type} {sz : Nat} (f : α → List Value) (hf : ∀ x, (f x).length = sz) (l : List α) : (l.flatMap f).length = l.length * sz := by
  induction l with
  | nil => simp
  | cons x r ih => simp only [List.flatMap_cons, List.length_append, ih, hf, List.length_cons, Nat.add_mul]; omega
theorem Own.atN {α : Type} {w : World} {B : Nat} {e : TypeId} {sz n c : Nat} {a : Option Addr} {f : α → List Value} {l : List α} (h : Own w B e sz (.slice a n c) n (l.flatMap f)) (hf : ∀ x, (f x).length = sz) (hn : l.length = n) (j : Nat) (hj : j < l.length) :
    ∃ g, a = some ⟨g, 0, none⟩ ∧ CellsAt w g (0 + j * sz) (f l[j]) := by
  rcases h.form with ⟨he, h0⟩ | ⟨g, cap, he, _, _⟩
  · omega
  · simp only [Value.slice.injEq, true_and] at he
    obtain ⟨rfl, rfl⟩ := he
    refine ⟨g, rfl, fun i u hu => ?_⟩
    have hi : i < sz := by have := (List.getElem?_eq_some_iff.1 hu).1; rw [hf] at this; exact this
    have hlt : j * sz + i < n * sz := by
      have := Nat.mul_le_mul_right sz (show j + 1 ≤ n by omega)
      rw [Nat.add_mul] at this; omega
    rw [Nat.zero_add, h.cell hlt, flatMap_at f hf l j hj i hi]
    exact hu
/-- elements of several cells -/
def Elems {α : Type} (w : World) (a : Option Addr) (sz : Nat) (f : α → List Value) (l : List α) : Prop := ∀ (j : Nat) (hj : j < l.length), ∃ b o, a = some ⟨b, o, none⟩ ∧ CellsAt w b (o + j * sz) (f l[j])
theorem Elems.ext {α : Type} {w w' : World} {a : Option Addr} {sz : Nat} {f : α → List Value} {l : List α} (h : Elems w a sz f l) (hx : Ext w w') : Elems w' a sz f l := fun j hj => let ⟨b, o, e, c⟩ := h j hj; ⟨b, o, e, c.ext hx⟩
theorem CellsAt.at {w : World} {b o : Nat} {cs : List Value} (h : CellsAt w b o cs) (j : Nat) {u : Value} (hj : cs[j]? = some u) : w.cell? ⟨b, o + j, none⟩ = some u := h j u hj
end Go.Proofs.YtiebkbmnepgacaaGreatDoor
/-
  Framework, part 11: typed elements of slices; cutting a slice; loops whose rounds leave marks. Generic.
-/
namespace Go.Proofs.YtiebkbmnepgacaaGreatDoor
open Go.RowKit
set_option linter.unusedVariables false

/-- elements of several cells, in a block whose elements are of type e -/
def ElT {α : Type} (w : World) (e : TypeId) (a : Option Addr) (sz : Nat) (f : α → List Value) (l : List α) : Prop :=
  ∀ (j : Nat) (hj : j < l.length), ∃ b o, a = some ⟨b, o, none⟩ ∧ CellsAt w b (o + j * sz) (f l[j]) ∧ ∃ c fr, w.heap[b]? = some (.cells c e fr)
theorem ElT.nil {α : Type} {w : World} {e : TypeId} {a : Option Addr} {sz : Nat} {f : α → List Value} : ElT w e a sz f [] := fun j hj => by simp at hj
theorem cellsAt_of {w w' : World} {b o : Nat} {cs : List Value} (h : CellsAt w b o cs) (hb : w'.heap[b]? = w.heap[b]?) : CellsAt w' b o cs := fun j u hj => by
  rw [World.cell?_of_block (w := w) (a := ⟨b, o + j, none⟩) hb]; exact h j u hj
theorem ElT.cext {α : Type} {w w' : World} {e : TypeId} {a : Option Addr} {sz : Nat} {f : α → List Value} {l : List α} (h : ElT w e a sz f l) (hx : CExt w w') : ElT w' e a sz f l := fun j hj =>
  let ⟨b, o, e', hc, c, fr, hb⟩ := h j hj; ⟨b, o, e', hc.cext hx, c, fr, hx.cells _ _ _ _ hb⟩
theorem ElT.ext {α : Type} {w w' : World} {e : TypeId} {a : Option Addr} {sz : Nat} {f : α → List Value} {l : List α} (h : ElT w e a sz f l) (hx : Ext w w') : ElT w' e a sz f l := h.cext hx.cext
theorem ElT.kt {α : Type} {w w' : World} {e e1 : TypeId} (hk : KT e1 w w') {a : Option Addr} {sz : Nat} {f : α → List Value} {l : List α} (h : ElT w e a sz f l) (hne : e ≠ e1) : ElT w' e a sz f l := fun j hj =>
  let ⟨b, o, e', hc, c, fr, hb⟩ := h j hj; ⟨b, o, e', cellsAt_of hc ((hk.out _ _ _ _ hne hb).trans hb.symm), c, fr, hk.out _ _ _ _ hne hb⟩
theorem Own.elT {α : Type} {w : World} {B : Nat} {e : TypeId} {sz n c : Nat} {a : Option Addr} {f : α → List Value} {l : List α} (h : Own w B e sz (.slice a n c) n (l.flatMap f)) (hf : ∀ x, (f x).length = sz) (hn : l.length = n) : ElT w e a sz f l := fun j hj => by
  obtain ⟨g, rfl, hc⟩ := h.atN hf hn j hj
  refine ⟨g, 0, rfl, hc, ?_⟩
  rcases h.2 with ⟨he, _⟩ | ⟨g', cap, cur, he, _, hgg, _⟩
  · simp at he
  · simp only [Value.slice.injEq, Option.some.injEq, Addr.mk.injEq] at he
    obtain ⟨⟨rfl, _⟩, _⟩ := he
    exact ⟨_, _, hgg⟩
theorem Own.cap {w : World} {B : Nat} {e : TypeId} {sz n k c : Nat} {a : Option Addr} {xs : List Value} (h : Own w B e sz (.slice a k c) n xs) : k ≤ c := by
  rcases h.2 with ⟨he, hn⟩ | ⟨g', cap, cur, he, _, hgg, hle, _⟩
  · simp only [Value.slice.injEq] at he; omega
  · simp only [Value.slice.injEq] at he; omega
/-- behind m[k:] -/
theorem ElT.drop {α : Type} {w : World} {e : TypeId} {a : Option Addr} {sz : Nat} {f : α → List Value} {l : List α} (h : ElT w e a sz f l) (k c : Nat) (hk : k ≤ l.length) (hc : l.length ≤ c) : ElT w e (if c = k then a else a.map (·.add (k * sz))) sz f (l.drop k) := fun j hj => by
  simp only [List.length_drop] at hj
  obtain ⟨b, o, rfl, hcl, hb⟩ := h (k + j) (by omega)
  rw [if_neg (by omega)]
  refine ⟨b, o + k * sz, by simp [Addr.add_z], ?_, hb⟩
  have e1 : o + k * sz + j * sz = o + (k + j) * sz := by rw [Nat.add_mul]; omega
  rw [e1, List.getElem_drop]; exact hcl
/-- behind m[:k] -/
theorem ElT.take {α : Type} {w : World} {e : TypeId} {a : Option Addr} {sz : Nat} {f : α → List Value} {l : List α} (h : ElT w e a sz f l) (k : Nat) : ElT w e a sz f (l.take k) := fun j hj => by
  simp only [List.length_take] at hj
  obtain ⟨b, o, e', hcl, hb⟩ := h j (by omega)
  exact ⟨b, o, e', by rw [List.getElem_take]; exact hcl, hb⟩

section
variable {P : Program} {F : Fence} {n N : Nat} {D : List Deferred} {l : List Oper} {m : Md} {K : Act → World → Prop} {L : List (Nat × Value)} {w : World}
variable {t u t' : TypeId} {pos : String} {af : Array Edge} {g : Option (Nat × Bool)} {dst : Option Tmp} {x y z : Operand} {i : Nat} {q : Bool} {rest : List (Nat × Bool)} {v : Value} {k : IntKind}

theorem run_sliceBound {v : Value} {k : IntKind} {i y : Nat} {code : BoundsCode} {W : World} (hv : v = .int k (i : Int)) (hi : i ≤ y) : (Instr.sliceBound v y code).run P W = .ok i W := by
  subst hv
  simp [Instr.sliceBound, asIntOf, Sem.run_pure, hi]
/-- m[lo:] -/
theorem OQ.sliceLo {sz : Nat} [h : SlE P t sz] {a : Option Addr} {j c lo : Nat} (hx : ev L x = some (.slice a j c)) (hy : ev L y = some (.int k (lo : Int))) (hlo : lo ≤ j) (hc : j ≤ c) :
    OQ P m N D ⟨dst, .slice t x (some y) none none, t', pos, af, g⟩ L w (.slice (if c = lo then a else a.map (·.add (lo * sz))) (j - lo) (c - lo)) := fun b hb W _ => by
  have e1 := hb.eval hx; have e2 := hb.eval hy
  obtain ⟨e, inf, h1, h2, h3⟩ := h.out
  have h4 := run_sliceBound (P := P) (W := W) (code := .sliceB) (k := k) (rfl : Value.int k (lo : Int) = .int k (lo : Int)) hlo
  simp only [execOp, Option.map_some, Option.map_none, e1, e2]
  refine run_v ?_
  simp [Instr.sliceAt, Instr.slice, Instr.sliceBounds, underlying, program, sizeOf, typeInfo, Sem.run_bind, Sem.run, Result.andThen, h1, h2, h3, h4, Sem.run_pure]
/-- m[:hi] -/
theorem OQ.sliceHi {sz : Nat} [h : SlE P t sz] {a : Option Addr} {j c hi : Nat} (hx : ev L x = some (.slice a j c)) (hy : ev L y = some (.int k (hi : Int))) (hc : hi ≤ c) :
    OQ P m N D ⟨dst, .slice t x none (some y) none, t', pos, af, g⟩ L w (.slice a hi c) := fun b hb W _ => by
  have e1 := hb.eval hx; have e2 := hb.eval hy
  obtain ⟨e, inf, h1, h2, h3⟩ := h.out
  have h4 := run_sliceBound (P := P) (W := W) (code := .sliceAcap) (k := k) (rfl : Value.int k (hi : Int) = .int k (hi : Int)) hc
  have h5 : (if c = 0 then a else a.map (·.add (0 * sz))) = a := by
    split
    · rfl
    · cases a <;> simp [Addr.add]
  simp only [execOp, Option.map_some, Option.map_none, e1, e2]
  refine run_v ?_
  simp [Instr.sliceAt, Instr.slice, Instr.sliceBounds, underlying, program, sizeOf, typeInfo, Sem.run_bind, Sem.run, Result.andThen, h1, h2, h4, Sem.run_pure]
  cases a <;> simp [Addr.add]

variable {Q : Exit → Act → World → Prop} {c : Code}
/-- a loop whose rounds may leave marks -/
theorem CD.loopD {α : Type} (Dd : α → List Deferred) (M : α → List (Nat × Value)) (I : α → World → Prop) (μ : α → Nat) (s0 : α) (hD : Dd s0 = D) (hs : Sub (M s0) L) (h0 : I s0 w)
    (round : ∀ s w, I s w → CD P F n N (Dd s) c (Exit.then (fun a w' => ∃ s', Kn N (Dd s') (M s') a ∧ I s' w' ∧ μ s' < μ s) Q) (M s) w) : CD P F n N D (.loop c) Q L w := fun a ha => by
  have hl : ∀ a w, (∃ s, Kn N (Dd s) (M s) a ∧ I s w) → ∃ j, (∃ s, Kn N (Dd s) (M s) a ∧ I s w ∧ μ s = j) ∧ ∀ i, (∃ s, Kn N (Dd s) (M s) a ∧ I s w ∧ μ s = i) → j ≤ i :=
    fun a w ⟨s, h1, h2⟩ => exists_least (fun j => ∃ s, Kn N (Dd s) (M s) a ∧ I s w ∧ μ s = j) (μ s) ⟨s, h1, h2, rfl⟩
  have hl' : ∀ a w, ∃ j, (∃ s, Kn N (Dd s) (M s) a ∧ I s w) → (∃ s, Kn N (Dd s) (M s) a ∧ I s w ∧ μ s = j) ∧ ∀ i, (∃ s, Kn N (Dd s) (M s) a ∧ I s w ∧ μ s = i) → j ≤ i := fun a w => by
    by_cases h : ∃ s, Kn N (Dd s) (M s) a ∧ I s w
    · obtain ⟨j, hj⟩ := hl a w h; exact ⟨j, fun _ => hj⟩
    · exact ⟨0, fun h' => absurd h' h⟩
  refine wpIn_loop (fun a w => ∃ s, Kn N (Dd s) (M s) a ∧ I s w) (fun a w => Classical.choose (hl' a w)) ⟨s0, by rw [hD]; exact ha.sub hs, h0⟩ fun a w hI => ?_
  obtain ⟨⟨s, hk, hi, hμ⟩, hleast⟩ := Classical.choose_spec (hl' a w) hI
  refine wpIn_mono (round s w hi a hk) fun e a' w' hq => ?_
  cases e with
  | normal =>
    obtain ⟨s', hk', hi', hlt⟩ := hq
    refine ⟨⟨s', hk', hi'⟩, ?_⟩
    have := (Classical.choose_spec (hl' a' w') ⟨s', hk', hi'⟩).2 _ ⟨s', hk', hi', rfl⟩
    omega
  | _ => exact hq
/-- a stretch of code that may leave marks -/
theorem CD.cutD {α : Type} {c1 c2 : Code} (Dd : α → List Deferred) (M : α → List (Nat × Value)) (C : α → World → Prop) (h : CD P F n N D c1 (Exit.then (fun a w' => ∃ s, Kn N (Dd s) (M s) a ∧ C s w') Q) L w) (h2 : ∀ s w', C s w' → CD P F n N (Dd s) c2 Q (M s) w') :
    CD P F n N D (.seq c1 c2) Q L w := fun a ha => wpIn_seq (wpIn_mono (h a ha) fun e a' w' hq => by
      cases e with
      | normal => obtain ⟨s, hk, hc⟩ := hq; exact h2 s w' hc a' hk
      | _ => exact hq)
end
end Go.Proofs.YtiebkbmnepgacaaGreatDoor
/-
  Facts on the types and functions of this cut, by program (gen/tool.py insts).
-/
namespace Go.Proofs.YtiebkbmnepgacaaGreatDoor
open Go.RowKit

theorem inf1 : (Tryz.prog.info? 1).map infT = some (some .nilFunc, 1, 8) := by kernel_rfl
theorem inf2 : (Tryz.prog.info? 2).map infT = some (some (.int .i64 0), 1, 8) := by kernel_rfl
theorem inf3 : (Tryz.prog.info? 3).map infT = some (some (.int .i64 0), 1, 8) := by kernel_rfl
theorem inf4 : (Tryz.prog.info? 4).map infT = some (some (.bool Bool.false), 1, 1) := by kernel_rfl
theorem inf5 : (Tryz.prog.info? 5).map infT = some (some (.int .u8 0), 1, 1) := by kernel_rfl
theorem inf6 : (Tryz.prog.info? 6).map infT = some (some (.int .u8 0), 1, 1) := by kernel_rfl
theorem inf7 : (Tryz.prog.info? 7).map infT = some (some (.agg #[(.int .i64 0), (.int .i64 0), (.bool Bool.false), (.int .u8 0)]), 4, 24) := by kernel_rfl
theorem inf9 : (Tryz.prog.info? 9).map infT = some (some (.string ByteArray.empty), 1, 16) := by kernel_rfl
theorem inf17 : (Tryz.prog.info? 17).map infT = some (some (.pointer none), 1, 8) := by kernel_rfl
theorem inf20 : (Tryz.prog.info? 20).map infT = some (some .nilIface, 1, 16) := by kernel_rfl
theorem inf22 : (Tryz.prog.info? 22).map infT = some (some (.slice none 0 0), 1, 24) := by kernel_rfl
theorem inf26 : (Tryz.prog.info? 26).map infT = some (some (.agg #[(.int .i64 0), (.string ByteArray.empty), (.string ByteArray.empty), (.int .i64 0), (.int .i64 0), (.string ByteArray.empty), (.int .i64 0), (.int .i64 0)]), 8, 88) := by kernel_rfl
theorem inf28 : (Tryz.prog.info? 28).map infT = some (some (.slice none 0 0), 1, 24) := by kernel_rfl
theorem inf29 : (Tryz.prog.info? 29).map infT = some (some (.slice none 0 0), 1, 24) := by kernel_rfl
theorem inf31 : (Tryz.prog.info? 31).map infT = some (some (.agg #[(.int .i64 0), (.slice none 0 0), (.string ByteArray.empty), (.string ByteArray.empty)]), 4, 64) := by kernel_rfl
theorem inf41 : (Tryz.prog.info? 41).map infT = some (some (.slice none 0 0), 1, 24) := by kernel_rfl
theorem inf49 : (Tryz.prog.info? 49).map infT = some (some (.slice none 0 0), 1, 24) := by kernel_rfl
theorem inf51 : (Tryz.prog.info? 51).map infT = some (some .nilFunc, 1, 8) := by kernel_rfl
theorem inf53 : (Tryz.prog.info? 53).map infT = some (some (.agg #[(.int .i64 0), .nilFunc]), 2, 16) := by kernel_rfl
theorem inf55 : (Tryz.prog.info? 55).map infT = some (some (.slice none 0 0), 1, 24) := by kernel_rfl
theorem inf90 : (Tryz.prog.info? 90).map infT = some (some (.agg #[(.string ByteArray.empty), (.string ByteArray.empty)]), 2, 32) := by kernel_rfl
theorem inf98 : (Tryz.prog.info? 98).map infT = some (some (.pointer none), 1, 8) := by kernel_rfl
theorem inf99 : (Tryz.prog.info? 99).map infT = some (some (.slice none 0 0), 1, 24) := by kernel_rfl
theorem inf101 : (Tryz.prog.info? 101).map infT = some (some (.agg #[(.pointer none), (.slice none 0 0)]), 2, 32) := by kernel_rfl
theorem inf104 : (Tryz.prog.info? 104).map infT = some (some .nilIface, 1, 16) := by kernel_rfl
theorem inf204 : (Tryz.prog.info? 204).map infT = some (some (.slice none 0 0), 1, 24) := by kernel_rfl
theorem inf206 : (Tryz.prog.info? 206).map infT = some (some (.agg #[(.slice none 0 0), (.slice none 0 0)]), 2, 48) := by kernel_rfl
theorem inf209 : (Tryz.prog.info? 209).map infT = some (some (.pointer none), 1, 8) := by kernel_rfl
theorem inf267 : (Tryz.prog.info? 267).map infT = some (some (.int .u64 0), 1, 8) := by kernel_rfl
theorem inf302 : (Tryz.prog.info? 302).map infT = some (some (.int .u64 0), 1, 8) := by kernel_rfl
theorem inf307 : (Tryz.prog.info? 307).map infT = some (some (.pointer none), 1, 8) := by kernel_rfl
theorem inf366 : (Tryz.prog.info? 366).map infT = some (some (.int .u32 0), 1, 4) := by kernel_rfl
instance : Sc Tryz.prog 1 := ⟨⟨_, Tryz.underlying1, rfl⟩⟩
instance : Sz1 Tryz.prog 1 := .of inf1
instance : Zv Tryz.prog 1 .nilFunc := .of inf1
instance : Fu Tryz.prog 1 := ⟨⟨_, _, _, Tryz.underlying1⟩⟩
instance : Sc Tryz.prog 2 := ⟨⟨_, Tryz.underlying2, rfl⟩⟩
instance : Sz1 Tryz.prog 2 := .of inf2
instance : Zv Tryz.prog 2 (.int .i64 0) := .of inf2
instance : In Tryz.prog 2 .i64 := ⟨Tryz.underlying2⟩
instance : Sc Tryz.prog 3 := ⟨⟨_, Tryz.underlying3, rfl⟩⟩
instance : Sz1 Tryz.prog 3 := .of inf3
instance : Zv Tryz.prog 3 (.int .i64 0) := .of inf3
instance : In Tryz.prog 3 .i64 := ⟨Tryz.underlying3⟩
instance : Sc Tryz.prog 4 := ⟨⟨_, Tryz.underlying4, rfl⟩⟩
instance : Sz1 Tryz.prog 4 := .of inf4
instance : Zv Tryz.prog 4 (.bool Bool.false) := .of inf4
instance : Bo Tryz.prog 4 := ⟨Tryz.underlying4⟩
instance : Sc Tryz.prog 5 := ⟨⟨_, Tryz.underlying5, rfl⟩⟩
instance : Sz1 Tryz.prog 5 := .of inf5
instance : Zv Tryz.prog 5 (.int .u8 0) := .of inf5
instance : In Tryz.prog 5 .u8 := ⟨Tryz.underlying5⟩
instance : Sc Tryz.prog 6 := ⟨⟨_, Tryz.underlying6, rfl⟩⟩
instance : Sz1 Tryz.prog 6 := .of inf6
instance : Zv Tryz.prog 6 (.int .u8 0) := .of inf6
instance : In Tryz.prog 6 .u8 := ⟨Tryz.underlying6⟩
instance : Zv Tryz.prog 7 (.agg #[(.int .i64 0), (.int .i64 0), (.bool Bool.false), (.int .u8 0)]) := .of inf7
instance : Fl Tryz.prog 7 0 0 := .of Tryz.underlying7 rfl rfl inf2 (by decide)
instance : Fl Tryz.prog 7 1 1 := .of Tryz.underlying7 rfl rfl inf3 (by decide)
instance : Fl Tryz.prog 7 2 2 := .of Tryz.underlying7 rfl rfl inf4 (by decide)
instance : Fl Tryz.prog 7 3 3 := .of Tryz.underlying7 rfl rfl inf6 (by decide)
instance : Bd Tryz.prog 7 #[(.int .i64 0), (.int .i64 0), (.bool Bool.false), (.int .u8 0)] #[(0, 1), (1, 1), (2, 1), (3, 1)] := .of Tryz.underlying7 inf7 (fun _ => by kernel_rfl)
instance : Bd1 Tryz.prog 7 [(.int .i64 0), (.int .i64 0), (.bool Bool.false), (.int .u8 0)] := .of (inferInstance : Bd Tryz.prog 7 #[(.int .i64 0), (.int .i64 0), (.bool Bool.false), (.int .u8 0)] #[(0, 1), (1, 1), (2, 1), (3, 1)]) rfl
instance : Sc Tryz.prog 9 := ⟨⟨_, Tryz.underlying9, rfl⟩⟩
instance : Sz1 Tryz.prog 9 := .of inf9
instance : Zv Tryz.prog 9 (.string ByteArray.empty) := .of inf9
instance : St Tryz.prog 9 := ⟨Tryz.underlying9⟩
instance : Sc Tryz.prog 17 := ⟨⟨_, Tryz.underlying17, rfl⟩⟩
instance : Sz1 Tryz.prog 17 := .of inf17
instance : Zv Tryz.prog 17 (.pointer none) := .of inf17
instance : Pt Tryz.prog 17 := ⟨⟨_, Tryz.underlying17⟩⟩
instance : Sc Tryz.prog 20 := ⟨⟨_, Tryz.underlying20, rfl⟩⟩
instance : Sz1 Tryz.prog 20 := .of inf20
instance : Zv Tryz.prog 20 .nilIface := .of inf20
instance : Sc Tryz.prog 22 := ⟨⟨_, Tryz.underlying22, rfl⟩⟩
instance : Sz1 Tryz.prog 22 := .of inf22
instance : Zv Tryz.prog 22 (.slice none 0 0) := .of inf22
instance : Sl Tryz.prog 22 26 := ⟨Tryz.underlying22⟩
instance : SlE Tryz.prog 22 8 := .of Tryz.underlying22 inf26
instance : Se Tryz.prog 22 26 (.agg #[(.int .i64 0), (.string ByteArray.empty), (.string ByteArray.empty), (.int .i64 0), (.int .i64 0), (.string ByteArray.empty), (.int .i64 0), (.int .i64 0)]) 8 88 := .of Tryz.underlying22 inf26 rfl
instance : Zv Tryz.prog 26 (.agg #[(.int .i64 0), (.string ByteArray.empty), (.string ByteArray.empty), (.int .i64 0), (.int .i64 0), (.string ByteArray.empty), (.int .i64 0), (.int .i64 0)]) := .of inf26
instance : Fl Tryz.prog 26 0 0 := .of Tryz.underlying26 rfl rfl inf3 (by decide)
instance : Fl Tryz.prog 26 1 1 := .of Tryz.underlying26 rfl rfl inf9 (by decide)
instance : Fl Tryz.prog 26 2 2 := .of Tryz.underlying26 rfl rfl inf9 (by decide)
instance : Fl Tryz.prog 26 3 3 := .of Tryz.underlying26 rfl rfl inf3 (by decide)
instance : Fl Tryz.prog 26 4 4 := .of Tryz.underlying26 rfl rfl inf3 (by decide)
instance : Fl Tryz.prog 26 5 5 := .of Tryz.underlying26 rfl rfl inf9 (by decide)
instance : Fl Tryz.prog 26 6 6 := .of Tryz.underlying26 rfl rfl inf3 (by decide)
instance : Fl Tryz.prog 26 7 7 := .of Tryz.underlying26 rfl rfl inf3 (by decide)
instance : Bd Tryz.prog 26 #[(.int .i64 0), (.string ByteArray.empty), (.string ByteArray.empty), (.int .i64 0), (.int .i64 0), (.string ByteArray.empty), (.int .i64 0), (.int .i64 0)] #[(0, 1), (1, 1), (2, 1), (3, 1), (4, 1), (5, 1), (6, 1), (7, 1)] := .of Tryz.underlying26 inf26 (fun _ => by kernel_rfl)
instance : Bd1 Tryz.prog 26 [(.int .i64 0), (.string ByteArray.empty), (.string ByteArray.empty), (.int .i64 0), (.int .i64 0), (.string ByteArray.empty), (.int .i64 0), (.int .i64 0)] := .of (inferInstance : Bd Tryz.prog 26 #[(.int .i64 0), (.string ByteArray.empty), (.string ByteArray.empty), (.int .i64 0), (.int .i64 0), (.string ByteArray.empty), (.int .i64 0), (.int .i64 0)] #[(0, 1), (1, 1), (2, 1), (3, 1), (4, 1), (5, 1), (6, 1), (7, 1)]) rfl
instance : Sc Tryz.prog 28 := ⟨⟨_, Tryz.underlying28, rfl⟩⟩
instance : Sz1 Tryz.prog 28 := .of inf28
instance : Zv Tryz.prog 28 (.slice none 0 0) := .of inf28
instance : Sl Tryz.prog 28 31 := ⟨Tryz.underlying28⟩
instance : SlE Tryz.prog 28 4 := .of Tryz.underlying28 inf31
instance : Se Tryz.prog 28 31 (.agg #[(.int .i64 0), (.slice none 0 0), (.string ByteArray.empty), (.string ByteArray.empty)]) 4 64 := .of Tryz.underlying28 inf31 rfl
instance : Sc Tryz.prog 29 := ⟨⟨_, Tryz.underlying29, rfl⟩⟩
instance : Sz1 Tryz.prog 29 := .of inf29
instance : Zv Tryz.prog 29 (.slice none 0 0) := .of inf29
instance : Sl Tryz.prog 29 3 := ⟨Tryz.underlying29⟩
instance : SlE Tryz.prog 29 1 := .of Tryz.underlying29 inf3
instance : Se Tryz.prog 29 3 (.int .i64 0) 1 8 := .of Tryz.underlying29 inf3 rfl
instance : Zv Tryz.prog 31 (.agg #[(.int .i64 0), (.slice none 0 0), (.string ByteArray.empty), (.string ByteArray.empty)]) := .of inf31
instance : Fl Tryz.prog 31 0 0 := .of Tryz.underlying31 rfl rfl inf3 (by decide)
instance : Fl Tryz.prog 31 1 1 := .of Tryz.underlying31 rfl rfl inf29 (by decide)
instance : Fl Tryz.prog 31 2 2 := .of Tryz.underlying31 rfl rfl inf9 (by decide)
instance : Fl Tryz.prog 31 3 3 := .of Tryz.underlying31 rfl rfl inf9 (by decide)
instance : Bd Tryz.prog 31 #[(.int .i64 0), (.slice none 0 0), (.string ByteArray.empty), (.string ByteArray.empty)] #[(0, 1), (1, 1), (2, 1), (3, 1)] := .of Tryz.underlying31 inf31 (fun _ => by kernel_rfl)
instance : Bd1 Tryz.prog 31 [(.int .i64 0), (.slice none 0 0), (.string ByteArray.empty), (.string ByteArray.empty)] := .of (inferInstance : Bd Tryz.prog 31 #[(.int .i64 0), (.slice none 0 0), (.string ByteArray.empty), (.string ByteArray.empty)] #[(0, 1), (1, 1), (2, 1), (3, 1)]) rfl
instance : Sc Tryz.prog 41 := ⟨⟨_, Tryz.underlying41, rfl⟩⟩
instance : Sz1 Tryz.prog 41 := .of inf41
instance : Zv Tryz.prog 41 (.slice none 0 0) := .of inf41
instance : Sl Tryz.prog 41 90 := ⟨Tryz.underlying41⟩
instance : SlE Tryz.prog 41 2 := .of Tryz.underlying41 inf90
instance : Se Tryz.prog 41 90 (.agg #[(.string ByteArray.empty), (.string ByteArray.empty)]) 2 32 := .of Tryz.underlying41 inf90 rfl
instance : Sc Tryz.prog 49 := ⟨⟨_, Tryz.underlying49, rfl⟩⟩
instance : Sz1 Tryz.prog 49 := .of inf49
instance : Zv Tryz.prog 49 (.slice none 0 0) := .of inf49
instance : Sl Tryz.prog 49 53 := ⟨Tryz.underlying49⟩
instance : SlE Tryz.prog 49 2 := .of Tryz.underlying49 inf53
instance : Se Tryz.prog 49 53 (.agg #[(.int .i64 0), .nilFunc]) 2 16 := .of Tryz.underlying49 inf53 rfl
instance : Sc Tryz.prog 51 := ⟨⟨_, Tryz.underlying51, rfl⟩⟩
instance : Sz1 Tryz.prog 51 := .of inf51
instance : Zv Tryz.prog 51 .nilFunc := .of inf51
instance : Fu Tryz.prog 51 := ⟨⟨_, _, _, Tryz.underlying51⟩⟩
instance : Zv Tryz.prog 53 (.agg #[(.int .i64 0), .nilFunc]) := .of inf53
instance : Fl Tryz.prog 53 0 0 := .of Tryz.underlying53 rfl rfl inf3 (by decide)
instance : Fl Tryz.prog 53 1 1 := .of Tryz.underlying53 rfl rfl inf51 (by decide)
instance : Bd Tryz.prog 53 #[(.int .i64 0), .nilFunc] #[(0, 1), (1, 1)] := .of Tryz.underlying53 inf53 (fun _ => by kernel_rfl)
instance : Bd1 Tryz.prog 53 [(.int .i64 0), .nilFunc] := .of (inferInstance : Bd Tryz.prog 53 #[(.int .i64 0), .nilFunc] #[(0, 1), (1, 1)]) rfl
instance : Sc Tryz.prog 55 := ⟨⟨_, Tryz.underlying55, rfl⟩⟩
instance : Sz1 Tryz.prog 55 := .of inf55
instance : Zv Tryz.prog 55 (.slice none 0 0) := .of inf55
instance : Sl Tryz.prog 55 9 := ⟨Tryz.underlying55⟩
instance : SlE Tryz.prog 55 1 := .of Tryz.underlying55 inf9
instance : Se Tryz.prog 55 9 (.string ByteArray.empty) 1 16 := .of Tryz.underlying55 inf9 rfl
instance : Zv Tryz.prog 90 (.agg #[(.string ByteArray.empty), (.string ByteArray.empty)]) := .of inf90
instance : Fl Tryz.prog 90 0 0 := .of Tryz.underlying90 rfl rfl inf9 (by decide)
instance : Fl Tryz.prog 90 1 1 := .of Tryz.underlying90 rfl rfl inf9 (by decide)
instance : Bd Tryz.prog 90 #[(.string ByteArray.empty), (.string ByteArray.empty)] #[(0, 1), (1, 1)] := .of Tryz.underlying90 inf90 (fun _ => by kernel_rfl)
instance : Bd1 Tryz.prog 90 [(.string ByteArray.empty), (.string ByteArray.empty)] := .of (inferInstance : Bd Tryz.prog 90 #[(.string ByteArray.empty), (.string ByteArray.empty)] #[(0, 1), (1, 1)]) rfl
instance : Sc Tryz.prog 98 := ⟨⟨_, Tryz.underlying98, rfl⟩⟩
instance : Sz1 Tryz.prog 98 := .of inf98
instance : Zv Tryz.prog 98 (.pointer none) := .of inf98
instance : Pt Tryz.prog 98 := ⟨⟨_, Tryz.underlying98⟩⟩
instance : Sc Tryz.prog 99 := ⟨⟨_, Tryz.underlying99, rfl⟩⟩
instance : Sz1 Tryz.prog 99 := .of inf99
instance : Zv Tryz.prog 99 (.slice none 0 0) := .of inf99
instance : Sl Tryz.prog 99 5 := ⟨Tryz.underlying99⟩
instance : SlE Tryz.prog 99 1 := .of Tryz.underlying99 inf5
instance : Se Tryz.prog 99 5 (.int .u8 0) 1 1 := .of Tryz.underlying99 inf5 rfl
instance : Zv Tryz.prog 101 (.agg #[(.pointer none), (.slice none 0 0)]) := .of inf101
instance : Fl Tryz.prog 101 0 0 := .of Tryz.underlying101 rfl rfl inf98 (by decide)
instance : Fl Tryz.prog 101 1 1 := .of Tryz.underlying101 rfl rfl inf99 (by decide)
instance : Bd Tryz.prog 101 #[(.pointer none), (.slice none 0 0)] #[(0, 1), (1, 1)] := .of Tryz.underlying101 inf101 (fun _ => by kernel_rfl)
instance : Bd1 Tryz.prog 101 [(.pointer none), (.slice none 0 0)] := .of (inferInstance : Bd Tryz.prog 101 #[(.pointer none), (.slice none 0 0)] #[(0, 1), (1, 1)]) rfl
instance : Sc Tryz.prog 104 := ⟨⟨_, Tryz.underlying104, rfl⟩⟩
instance : Sz1 Tryz.prog 104 := .of inf104
instance : Zv Tryz.prog 104 .nilIface := .of inf104
instance : Sc Tryz.prog 204 := ⟨⟨_, Tryz.underlying204, rfl⟩⟩
instance : Sz1 Tryz.prog 204 := .of inf204
instance : Zv Tryz.prog 204 (.slice none 0 0) := .of inf204
instance : Sl Tryz.prog 204 206 := ⟨Tryz.underlying204⟩
instance : SlE Tryz.prog 204 2 := .of Tryz.underlying204 inf206
instance : Se Tryz.prog 204 206 (.agg #[(.slice none 0 0), (.slice none 0 0)]) 2 48 := .of Tryz.underlying204 inf206 rfl
instance : Zv Tryz.prog 206 (.agg #[(.slice none 0 0), (.slice none 0 0)]) := .of inf206
instance : Fl Tryz.prog 206 0 0 := .of Tryz.underlying206 rfl rfl inf29 (by decide)
instance : Fl Tryz.prog 206 1 1 := .of Tryz.underlying206 rfl rfl inf29 (by decide)
instance : Bd Tryz.prog 206 #[(.slice none 0 0), (.slice none 0 0)] #[(0, 1), (1, 1)] := .of Tryz.underlying206 inf206 (fun _ => by kernel_rfl)
instance : Bd1 Tryz.prog 206 [(.slice none 0 0), (.slice none 0 0)] := .of (inferInstance : Bd Tryz.prog 206 #[(.slice none 0 0), (.slice none 0 0)] #[(0, 1), (1, 1)]) rfl
instance : Sc Tryz.prog 209 := ⟨⟨_, Tryz.underlying209, rfl⟩⟩
instance : Sz1 Tryz.prog 209 := .of inf209
instance : Zv Tryz.prog 209 (.pointer none) := .of inf209
instance : Pt Tryz.prog 209 := ⟨⟨_, Tryz.underlying209⟩⟩
instance : Sc Tryz.prog 267 := ⟨⟨_, Tryz.underlying267, rfl⟩⟩
instance : Sz1 Tryz.prog 267 := .of inf267
instance : Zv Tryz.prog 267 (.int .u64 0) := .of inf267
instance : In Tryz.prog 267 .u64 := ⟨Tryz.underlying267⟩
instance : Sc Tryz.prog 302 := ⟨⟨_, Tryz.underlying302, rfl⟩⟩
instance : Sz1 Tryz.prog 302 := .of inf302
instance : Zv Tryz.prog 302 (.int .u64 0) := .of inf302
instance : In Tryz.prog 302 .u64 := ⟨Tryz.underlying302⟩
instance : Sc Tryz.prog 307 := ⟨⟨_, Tryz.underlying307, rfl⟩⟩
instance : Sz1 Tryz.prog 307 := .of inf307
instance : Zv Tryz.prog 307 (.pointer none) := .of inf307
instance : Sc Tryz.prog 366 := ⟨⟨_, Tryz.underlying366, rfl⟩⟩
instance : Sz1 Tryz.prog 366 := .of inf366
instance : Zv Tryz.prog 366 (.int .u32 0) := .of inf366
instance : In Tryz.prog 366 .u32 := ⟨Tryz.underlying366⟩
instance : En Tryz.prog 3 := enters Tryz.func3 (by kernel_rfl) rfl
instance : En Tryz.prog 4 := enters Tryz.func4 (by kernel_rfl) rfl
instance : En Tryz.prog 5 := enters Tryz.func5 (by kernel_rfl) rfl
instance : En Tryz.prog 7 := enters Tryz.func7 (by kernel_rfl) rfl
instance : En Tryz.prog 8 := enters Tryz.func8 (by kernel_rfl) rfl
instance : En Tryz.prog 9 := enters Tryz.func9 (by kernel_rfl) rfl
instance : En Tryz.prog 10 := enters Tryz.func10 (by kernel_rfl) rfl
instance : En Tryz.prog 11 := enters Tryz.func11 (by kernel_rfl) rfl
instance : En Tryz.prog 13 := enters Tryz.func13 (by kernel_rfl) rfl
instance : En Tryz.prog 16 := enters Tryz.func16 (by kernel_rfl) rfl
instance : En Tryz.prog 17 := enters Tryz.func17 (by kernel_rfl) rfl
instance : En Tryz.prog 18 := enters Tryz.func18 (by kernel_rfl) rfl
instance : En Tryz.prog 19 := enters Tryz.func19 (by kernel_rfl) rfl
instance : En Tryz.prog 20 := enters Tryz.func20 (by kernel_rfl) rfl
instance : En Tryz.prog 39 := enters Tryz.func39 (by kernel_rfl) rfl
instance : En Tryz.prog 40 := enters Tryz.func40 (by kernel_rfl) rfl
instance : En Tryz.prog 41 := enters Tryz.func41 (by kernel_rfl) rfl
instance : En Tryz.prog 42 := enters Tryz.func42 (by kernel_rfl) rfl
instance : En Tryz.prog 43 := enters Tryz.func43 (by kernel_rfl) rfl
instance : En Tryz.prog 44 := enters Tryz.func44 (by kernel_rfl) rfl
instance : En Tryz.prog 45 := enters Tryz.func45 (by kernel_rfl) rfl
instance : En Tryz.prog 46 := enters Tryz.func46 (by kernel_rfl) rfl
instance : En Tryz.prog 47 := enters Tryz.func47 (by kernel_rfl) rfl
instance : En Tryz.prog 48 := enters Tryz.func48 (by kernel_rfl) rfl
instance : En Tryz.prog 99 := enters Tryz.func99 (by kernel_rfl) rfl
instance : En Tryz.prog 100 := enters Tryz.func100 (by kernel_rfl) rfl
instance : En Tryz.prog 101 := enters Tryz.func101 (by kernel_rfl) rfl
instance : En Tryz.prog 102 := enters Tryz.func102 (by kernel_rfl) rfl
instance : En Tryz.prog 103 := enters Tryz.func103 (by kernel_rfl) rfl
instance : En Tryz.prog 132 := enters Tryz.func132 (by kernel_rfl) rfl
instance : En Tryz.prog 167 := enters Tryz.func167 (by kernel_rfl) rfl
instance : En Tryz.prog 168 := enters Tryz.func168 (by kernel_rfl) rfl
instance : En Tryz.prog 169 := enters Tryz.func169 (by kernel_rfl) rfl
instance : En Tryz.prog 170 := enters Tryz.func170 (by kernel_rfl) rfl
instance : En Tryz.prog 171 := enters Tryz.func171 (by kernel_rfl) rfl
end Go.Proofs.YtiebkbmnepgacaaGreatDoor
/-
  More facts on the types of this cut, by program (gen/tool.py insts2).
-/
namespace Go.Proofs.YtiebkbmnepgacaaGreatDoor
open Go.RowKit

instance : SzN Tryz.prog 1 1 := .of inf1
instance : SzN Tryz.prog 2 1 := .of inf2
instance : SzN Tryz.prog 3 1 := .of inf3
instance : SzN Tryz.prog 4 1 := .of inf4
instance : SzN Tryz.prog 5 1 := .of inf5
instance : SzN Tryz.prog 6 1 := .of inf6
instance : SzN Tryz.prog 7 4 := .of inf7
instance : Ag Tryz.prog 7 := ⟨⟨_, Tryz.underlying7, rfl⟩⟩
instance : SzN Tryz.prog 9 1 := .of inf9
instance : SzN Tryz.prog 17 1 := .of inf17
instance : SzN Tryz.prog 20 1 := .of inf20
instance : SzN Tryz.prog 22 1 := .of inf22
instance : SzN Tryz.prog 26 8 := .of inf26
instance : Ag Tryz.prog 26 := ⟨⟨_, Tryz.underlying26, rfl⟩⟩
instance : SzN Tryz.prog 28 1 := .of inf28
instance : SzN Tryz.prog 29 1 := .of inf29
instance : SzN Tryz.prog 31 4 := .of inf31
instance : Ag Tryz.prog 31 := ⟨⟨_, Tryz.underlying31, rfl⟩⟩
instance : SzN Tryz.prog 41 1 := .of inf41
instance : SzN Tryz.prog 49 1 := .of inf49
instance : SzN Tryz.prog 51 1 := .of inf51
instance : SzN Tryz.prog 53 2 := .of inf53
instance : Ag Tryz.prog 53 := ⟨⟨_, Tryz.underlying53, rfl⟩⟩
instance : SzN Tryz.prog 55 1 := .of inf55
instance : SzN Tryz.prog 90 2 := .of inf90
instance : Ag Tryz.prog 90 := ⟨⟨_, Tryz.underlying90, rfl⟩⟩
instance : SzN Tryz.prog 98 1 := .of inf98
instance : SzN Tryz.prog 99 1 := .of inf99
instance : SzN Tryz.prog 101 2 := .of inf101
instance : Ag Tryz.prog 101 := ⟨⟨_, Tryz.underlying101, rfl⟩⟩
instance : SzN Tryz.prog 104 1 := .of inf104
instance : SzN Tryz.prog 204 1 := .of inf204
instance : SzN Tryz.prog 206 2 := .of inf206
instance : Ag Tryz.prog 206 := ⟨⟨_, Tryz.underlying206, rfl⟩⟩
instance : SzN Tryz.prog 209 1 := .of inf209
instance : SzN Tryz.prog 267 1 := .of inf267
instance : SzN Tryz.prog 302 1 := .of inf302
instance : SzN Tryz.prog 307 1 := .of inf307
instance : SzN Tryz.prog 366 1 := .of inf366
end Go.Proofs.YtiebkbmnepgacaaGreatDoor
