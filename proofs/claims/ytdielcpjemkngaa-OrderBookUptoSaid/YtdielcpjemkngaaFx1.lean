/-
  Framework, part 1: a region in whatever order, by one plan. Generic: nothing of a program.
-/
import Derived.OrdersIn
import Derived.RangeFuncFrom
import Derived.WalkKit
import Derived.OwnWalkIn
namespace Go.Proofs.Ytdielcpjemkngaa
open Go.RowKit
set_option linter.unusedVariables false

/-- Ways in which a region's worlds may go on: text order (nothing is asked); any order (whatever was there stays); any order, written from B on. -/
inductive Md where
  | seq
  | ext
  | below (S : Nat → Prop)

def Ext (w w' : World) : Prop := Below w.heap.size w w'
theorem Ext.refl (w : World) : Ext w w := Below.refl _ _
theorem Ext.trans {a b c : World} (h : Ext a b) (k : Ext b c) : Ext a c := Below.trans h (Below.mono k h.size)
theorem Ext.alloc (w : World) (o : Obj) : Ext w (w.alloc o) := (Below.refl _ _).alloc (Nat.le_refl _) o
theorem Ext.drew (w : World) : Ext w w.drew := (Below.refl _ _).drew
theorem Ext.size {w w' : World} (h : Ext w w') : w.heap.size ≤ w'.heap.size := Below.size h
theorem lt_of_cell {w : World} {a : Addr} {v : Value} (h : w.cell? a = some v) : a.block < w.heap.size := World.block_lt_of_cell? w a h
theorem Ext.cell {w w' : World} (h : Ext w w') {a : Addr} {v : Value} (hc : w.cell? a = some v) : w'.cell? a = some v := by
  rw [Below.cell h (lt_of_cell hc)]; exact hc
theorem Ext.frozen {w w' : World} (h : Ext w w') {a : Addr} (hc : a.block < w.heap.size) : w'.frozen? a = w.frozen? a := Below.frozen h hc
theorem Ext.heap {w w' : World} (h : Ext w w') {k : Nat} {o : Obj} (hk : w.heap[k]? = some o) : w'.heap[k]? = some o := by
  have := (Array.getElem?_eq_some_iff.1 hk).1
  rw [Below.block h k this]; exact hk

/-- every block of S lies as it lay; the streams are as they were; no block has gone -/
structure Bl (S : Nat → Prop) (w w' : World) : Prop where
  os : w'.os = w.os
  tape : w'.tape = w.tape
  output : w'.output = w.output
  size : w.heap.size ≤ w'.heap.size
  block : ∀ k, S k → w'.heap[k]? = w.heap[k]?
theorem Bl.refl (S : Nat → Prop) (w : World) : Bl S w w := ⟨rfl, rfl, rfl, Nat.le_refl _, fun _ _ => rfl⟩
theorem Bl.trans {S : Nat → Prop} {a b c : World} (h : Bl S a b) (k : Bl S b c) : Bl S a c :=
  ⟨k.os.trans h.os, k.tape.trans h.tape, k.output.trans h.output, Nat.le_trans h.size k.size, fun i hi => (k.block i hi).trans (h.block i hi)⟩
theorem Bl.mono {S S' : Nat → Prop} {a b : World} (h : Bl S a b) (hS : ∀ k, S' k → S k) : Bl S' a b := ⟨h.os, h.tape, h.output, h.size, fun k hk => h.block k (hS k hk)⟩
theorem Bl.cell {S : Nat → Prop} {w w' : World} (h : Bl S w w') {p : Addr} (hp : S p.block) : w'.cell? p = w.cell? p := World.cell?_of_block (w := w) (h.block p.block hp)
theorem Bl.frozen {S : Nat → Prop} {w w' : World} (h : Bl S w w') {p : Addr} (hp : S p.block) : w'.frozen? p = w.frozen? p := World.frozen?_of_block (w := w) (h.block p.block hp)
theorem Bl.heap {S : Nat → Prop} {w w' : World} (h : Bl S w w') {k : Nat} {o : Obj} (hk : S k) (e : w.heap[k]? = some o) : w'.heap[k]? = some o := (h.block k hk).trans e
theorem Bl.below {B : Nat} {w w' : World} (h : Bl (· < B) w w') : Below B w w' := ⟨h.os, h.tape, h.output, h.size, h.block⟩
theorem Bl.of_below {B : Nat} {w w' : World} (h : Below B w w') : Bl (· < B) w w' := ⟨h.os, h.tape, h.output, h.size, h.block⟩
theorem Ext.bl {w w' : World} (h : Ext w w') {S : Nat → Prop} (hS : ∀ k, S k → k < w.heap.size) : Bl S w w' := ⟨h.os, h.tape, h.output, Below.size h, fun k hk => Below.block h k (hS k hk)⟩
theorem Bl.ext {S : Nat → Prop} {w w' : World} (h : Bl S w w') (hS : ∀ k, k < w.heap.size → S k) : Ext w w' := ⟨h.os, h.tape, h.output, h.size, fun k hk => h.block k (hS k hk)⟩
theorem Ext.trans' {w0 W W' : World} (h : Ext w0 W) {S : Nat → Prop} (k : Bl S W W') (hS : ∀ k, k < w0.heap.size → S k) : Ext w0 W' :=
  ⟨k.os.trans h.os, k.tape.trans h.tape, k.output.trans h.output, Nat.le_trans (Below.size h) k.size, fun i hi => (k.block i (hS i hi)).trans (Below.block h i hi)⟩
theorem Bl.setCell {S : Nat → Prop} (w : World) {a : Addr} (v : Value) (h : ¬ S a.block) : Bl S w (w.setCell a v) :=
  ⟨rfl, rfl, rfl, by simp [World.setCell], fun k hk => Below.heap_setCell _ _ _ _ (fun e => h (e ▸ hk))⟩

/-- the relation between the world at hand and the worlds at which an operation that is taken early may run -/
def Md.R : Md → World → World → Prop
  | .seq, w, W => W = w
  | .ext, w, W => Ext w W
  | .below S, w, W => Bl S w W
/-- what an operation that turns the world owes -/
def Md.E : Md → World → World → Prop
  | .seq, _, _ => True
  | .ext, w, W => Ext w W
  | .below S, w, W => Bl S w W
theorem Md.R_refl (m : Md) (w : World) : m.R w w := by
  cases m
  · rfl
  · exact Ext.refl w
  · exact Bl.refl _ _

def NoExit : Exit → Act → World → Prop := fun _ _ _ => False

def plainOps (l : List Oper) : Bool := l.all fun o => match o.op with | .select .. => false | .defer _ => false | _ => true
theorem plainOps_spec {l : List Oper} (h : plainOps l = true) {i : Nat} {o : Oper} (hi : l[i]? = some o) : (∀ cs b, o.op ≠ .select cs b) ∧ (∀ c, o.op ≠ .defer c) := by
  have := List.all_eq_true.1 h o (List.mem_of_getElem? hi)
  constructor
  · intro cs b e; simp [e] at this
  · intro c e; simp [e] at this

section
variable {P : Program} {F : Fence} {n : Nat} {l : List Oper} {K : Act → World → Prop}

/-- A fence that lets every function in and bounds no depth. -/
structure FW (F : Fence) : Prop where
  fn : ∀ f, F.fn f
  dep : F.depth = none
  alive : F.alive = false
theorem FW.wide : FW Fence.wide := ⟨fun _ => trivial, rfl, rfl⟩
theorem FW.inRound {F : Fence} (h : FW F) (j : Nat) : FW (F.inRound j) := ⟨h.fn, h.dep, h.alive⟩
theorem FW.fenced {F : Fence} (h : FW F) (P : Program) (m : Machine) : m.fenced P F := by
  intro g _
  refine ⟨fun e => ?_, Or.inl (h.fn _), fun f _ => h.fn f, fun d e => ?_⟩
  · rw [h.alive] at e; cases e
  · rw [h.dep] at e; cases e
theorem FW.room {F : Fence} (h : FW F) (k : Nat) : F.room k := fun d e => by rw [h.dep] at e; cases e
theorem FW.hn {F : Fence} (h : FW F) {n : Nat} : F.depth.isSome = true → 1 ≤ n := fun e => by rw [h.dep] at e; cases e

/-- what an operation stands behind -/
def depsOf (l : List Oper) (j : Nat) : List Nat := match l[j]? with
  | some o => (o.after.toList.filter fun e => Region.binds .any e).map (·.on)
  | none => []
theorem mem_depsOf {l : List Oper} {j i : Nat} (h : i ∈ depsOf l j) : ∃ o e, l[j]? = some o ∧ e ∈ o.after ∧ Region.binds .any e = true ∧ e.on = i := by
  unfold depsOf at h
  split at h
  · rename_i o ho
    obtain ⟨e, he, rfl⟩ := List.mem_map.1 h
    obtain ⟨h1, h2⟩ := List.mem_filter.1 he
    exact ⟨o, e, ho, by simpa using h1, h2, rfl⟩
  · cases h
def closeDown (l : List Oper) : Nat → List Nat → List Nat
  | 0, S => S
  | i + 1, S => closeDown l i (if S.contains i then depsOf l i ++ S else S)
/-- Does every other operation stand ahead of this one, or right behind it? -/
def Last (l : List Oper) (j : Nat) : Bool := (List.range l.length).all fun i => i == j || (closeDown l j (depsOf l j)).contains i || (depsOf l i).contains j
/-- what is listed has all that it stands behind listed -/
def Closed (l : List Oper) (listed : Array Bool) : Prop := ∀ p o, l[p]? = some o → listed.getD p true = true → ∀ e ∈ o.after, Region.binds .any e = true → listed.getD e.on false = true
theorem getD_false {listed : Array Bool} {i : Nat} (h : listed.getD i true = false) : listed.getD i false = false := by
  rcases Nat.lt_or_ge i listed.size with h' | h'
  · simpa [h'] using h
  · simp [h'] 
theorem getD_true {listed : Array Bool} {i : Nat} (h : listed.getD i false = true) : listed.getD i true = true := by
  rcases Nat.lt_or_ge i listed.size with h' | h'
  · simpa [h'] using h
  · simp [h']
theorem Closed.set {l : List Oper} {listed : Array Bool} (h : Closed l listed) {j : Nat} (hj : j ∈ Region.ready .any l.toArray listed) : Closed l (listed.setIfInBounds j true) := fun p o ho hp e he hb => by
  by_cases hpj : j = p
  · subst hpj
    obtain ⟨_, o', ho', hall⟩ := mem_ready.1 hj
    have ho'' : l[j]? = some o' := by simpa using ho'
    obtain rfl : o' = o := Option.some.inj (ho''.symm.trans ho)
    exact getD_set_true (hall e he hb)
  · rw [getD_set_ne true hpj] at hp
    exact getD_set_true (h p o ho hp e he hb)
theorem closeDown_listed {l : List Oper} {listed : Array Bool} (h : Closed l listed) : ∀ (n : Nat) (S : List Nat), (∀ x ∈ S, listed.getD x false = true) → ∀ x ∈ closeDown l n S, listed.getD x false = true
  | 0, _, hS => hS
  | i + 1, S, hS => closeDown_listed h i _ fun x hx => by
    split at hx
    · rename_i hc
      rcases List.mem_append.1 hx with hx | hx
      · obtain ⟨o, e, ho, he, hb, rfl⟩ := mem_depsOf hx
        exact h i o ho (getD_true (hS i (by simpa using hc))) e he hb
      · exact hS x hx
    · exact hS x hx
theorem not_last {l : List Oper} {i j : Nat} {listed : Array Bool} (hc : Closed l listed) (hi : i ∈ Region.ready .any l.toArray listed) (hj : j ∈ Region.ready .any l.toArray listed) (hne : j ≠ i) : ¬ Last l j = true := fun hl => by
  obtain ⟨hi0, oi, hoi, hialls⟩ := mem_ready.1 hi
  obtain ⟨hj0, oj, hoj, hjall⟩ := mem_ready.1 hj
  have hoi' : l[i]? = some oi := by simpa using hoi
  have hoj' : l[j]? = some oj := by simpa using hoj
  simp only [Last, List.all_eq_true, List.mem_range] at hl
  have := hl i (List.getElem?_eq_some_iff.1 hoi').1
  simp only [Bool.or_eq_true, beq_iff_eq, List.contains_eq_mem, decide_eq_true_eq] at this
  rcases this with (e | e) | e
  · exact hne e.symm
  · have h1 := closeDown_listed hc j (depsOf l j) (fun x hx => by
      obtain ⟨o, e, ho, he, hb, rfl⟩ := mem_depsOf hx
      obtain rfl : oj = o := Option.some.inj (hoj'.symm.trans ho)
      exact hjall e he hb) i e
    rw [getD_false hi0] at h1; cases h1
  · obtain ⟨o, e2, ho, he, hb, rfl⟩ := mem_depsOf e
    obtain rfl : oi = o := Option.some.inj (hoi'.symm.trans ho)
    have h1 := hialls e2 he hb
    rw [getD_false hj0] at h1; cases h1

/-- One operation: it is passed over, or it yields its value quietly, or it is carried out. -/
def wpPl (P : Program) (F : Fence) (n : Nat) (l : List Oper) (m : Md) (K : Act → World → Prop) : List (Nat × Bool) → Act → World → Prop
  | [], a, w => K a w
  | (i, q) :: rest, a, w => ∃ o, l[i]? = some o ∧
      ((Region.wanted o (yielded l.toArray a.tmps) = false ∧ wpPl P F n l m K rest (a.put o.dst undef) w) ∨
       (Region.wanted o (yielded l.toArray a.tmps) = true ∧ ∃ v, (∀ W, m.R w W → (execOp a.eval o).run P W = .ok (.value v) W) ∧ wpPl P F n l m K rest (a.put o.dst v) w) ∨
       (q = false ∧ Region.wanted o (yielded l.toArray a.tmps) = true ∧ o.wpIn F n P a w (fun a' w' => (m.E w w' ∨ Last l i = true) ∧ wpPl P F n l m K rest a' w') NoExit))

theorem wpIn_noExit {o : Oper} {a : Act} {w : World} {N : Act → World → Prop} {Q : Exit → Act → World → Prop} (h : o.wpIn F n P a w N NoExit) : o.wpIn F n P a w N Q := by
  unfold Oper.wpIn at *
  refine ⟨h.1, ?_⟩
  have h := h.2
  generalize (o.semAt F.round a.eval).run P w = r at *
  cases r with
  | ok x w' =>
    cases x <;> simp only [Oper.uponIn] at h ⊢ <;>
      first
        | exact h
        | exact ⟨h.1, CallsIn.mono h.2 (fun e w'' he => by cases e <;> first | exact he | exact he.elim | (obtain ⟨_, _, hf⟩ := he; exact hf.elim))⟩
        | exact ⟨h.1, RoundIn.mono h.2 (fun e w'' he => by cases e <;> first | exact he | exact he.elim | (obtain ⟨_, _, hf⟩ := he; exact hf.elim))⟩
  | halt x w' => cases x <;> simp only [Oper.uponIn] at h ⊢ <;> first | exact h | exact h.elim

/-! ### in the order of the text -/
theorem wpPl_seq {Q : Exit → Act → World → Prop} (hF : FW F) (hpl : plainOps l = true) : ∀ (pl : List (Nat × Bool)) (a : Act) (w : World), wpPl P F n l .seq (Q .normal) pl a w → wpOpsIn F n P l.toArray Q (pl.map (·.1)) a w := by
  intro pl
  induction pl with
  | nil => intro a w h; exact h
  | cons iq rest ih =>
    obtain ⟨i, q⟩ := iq
    rintro a w ⟨o, ho, h⟩
    have ho' : l.toArray[i]? = some o := by simpa using ho
    obtain ⟨hs, hd⟩ := plainOps_spec hpl ho
    simp only [List.map_cons, wpOpsIn, ho']
    rcases h with ⟨hw, h⟩ | ⟨hw, v, hv, h⟩ | ⟨_, hw, h⟩
    · rw [if_neg (by simp [hw])]
      exact ⟨fun f _ => hF.fn f, ih _ _ h⟩
    · rw [if_pos hw]
      refine ⟨fun f _ => hF.fn f, ?_⟩
      rw [Oper.semAt_eq _ _ _ hd, hv w rfl]
      exact ih _ _ h
    · rw [if_pos hw]
      exact wpIn_noExit (Oper.wpIn_mono (fun a w h => ih _ _ h.2) h)

theorem range_map (k : Nat) : ((List.range k).map (fun i => (i, false))).map (·.1) = List.range k := by
  rw [List.map_map]; exact List.map_id' _

theorem region_seq {Q : Exit → Act → World → Prop} {id : Nat} {a : Act} {w : World} (hF : FW F) (hpl : plainOps l = true) (h : wpPl P F n l .seq (Q .normal) ((List.range l.length).map (fun i => (i, false))) a w) :
    (Code.region id l.toArray false).wpIn F n P Q a w := by
  refine wpIn_region ?_
  have := wpPl_seq hF hpl _ _ _ h
  rw [range_map] at this
  simpa using this

/-! ### in whatever order -/
def QuietAt (P : Program) (l : List Oper) (m : Md) (o : Oper) (v : Value) (a : Act) (w : World) : Prop :=
  (Region.wanted o (yielded l.toArray a.tmps) = true ∧ ∀ W, m.R w W → (execOp a.eval o).run P W = .ok (.value v) W) ∨
  (Region.wanted o (yielded l.toArray a.tmps) = false ∧ v = undef)

/-- whatever comes up, in whatever order, from here on -/
def wpAnyM (P : Program) (F : Fence) (n : Nat) (l : List Oper) (m : Md) (K : Act → World → Prop) : Nat → Array Bool → Act → World → Prop
  | 0, listed, a, w => Region.ready .any l.toArray listed = [] ∧ K a w
  | fuel + 1, listed, a, w => (Region.ready .any l.toArray listed = [] → K a w) ∧
    ∀ i ∈ Region.ready .any l.toArray listed, wpOpIn F n P l.toArray NoExit i (fun a' w' => (m.E w w' ∨ Last l i = true) ∧ wpAnyM P F n l m K fuel (listed.setIfInBounds i true) a' w') a w

theorem wpOpIn_noExit {Q : Exit → Act → World → Prop} {i : Nat} {a : Act} {w : World} {N : Act → World → Prop} (h : wpOpIn F n P l.toArray NoExit i N a w) : wpOpIn F n P l.toArray Q i N a w := by
  unfold wpOpIn at *
  split
  · simpa [*] using h
  · rename_i o ho
    simp only [ho] at h
    split
    · rename_i hw; simp only [hw, if_true] at h; exact wpIn_noExit h
    · rename_i hw; simp only [hw] at h; exact h

theorem wpAnyIn_of_M {Q : Exit → Act → World → Prop} {m : Md} : ∀ (fuel : Nat) (listed : Array Bool) (a : Act) (w : World), wpAnyM P F n l m (Q .normal) fuel listed a w → wpAnyIn F n P .any l.toArray Q fuel listed a w
  | 0, _, _, _, h => h
  | fuel + 1, _, _, _, h => ⟨h.1, fun i hi => wpOpIn_noExit (wpOpIn_mono (fun a' w' h' => wpAnyIn_of_M fuel _ a' w' h'.2) (h.2 i hi))⟩

theorem quiet_opIn {m : Md} {i : Nat} {o : Oper} {v : Value} {a : Act} {w : World} {N : Act → World → Prop} (hF : FW F) (hi : l[i]? = some o) (hd : ∀ c, o.op ≠ .defer c) (hq : QuietAt P l m o v a w) (h : N (a.put o.dst v) w) :
    wpOpIn F n P l.toArray NoExit i N a w := by
  have hi' : l.toArray[i]? = some o := by simpa using hi
  unfold wpOpIn
  simp only [hi']
  rcases hq with ⟨hw, hv⟩ | ⟨hw, rfl⟩
  · rw [if_pos hw]
    refine ⟨fun f _ => hF.fn f, ?_⟩
    rw [Oper.semAt_eq _ _ _ hd, hv w (m.R_refl w)]
    exact h
  · rw [if_neg (by simp [hw])]
    exact ⟨fun f _ => hF.fn f, h⟩

theorem QuietAt.of_same {m : Md} {o : Oper} {v : Value} {a a' : Act} {w w' : World} (hy : QuietAt P l m o v a w) (he : execOp a'.eval o = execOp a.eval o)
    (hw : Region.wanted o (yielded l.toArray a'.tmps) = Region.wanted o (yielded l.toArray a.tmps)) (hR : ∀ W, m.R w' W → m.R w W) : QuietAt P l m o v a' w' := by
  unfold QuietAt at *
  rw [he, hw]
  exact hy.imp (fun ⟨h1, h2⟩ => ⟨h1, fun W hW => h2 W (hR W hW)⟩) id

/-- the modes under which whatever order may be taken -/
def Md.any : Md → Prop
  | .seq => False
  | _ => True
theorem Md.R_of_E {m : Md} (hm : m.any) {w w' : World} (h : m.E w w') (W : World) (hW : m.R w' W) : m.R w W := by
  cases m
  · exact hm.elim
  · exact Ext.trans h hW
  · exact Bl.trans h hW
theorem Md.E_refl (m : Md) (w : World) : m.E w w := by
  cases m
  · trivial
  · exact Ext.refl w
  · exact Bl.refl _ _

theorem opIn_putM {m : Md} {j : Nat} {oi oj : Oper} {v : Value} (hm : m.any) (hj : l[j]? = some oj) (hap : oi.apart l.toArray oj = true)
    (hsi : ∀ cs b, oi.op ≠ .select cs b) (hsj : ∀ cs b, oj.op ≠ .select cs b) (hdj : ∀ c, oj.op ≠ .defer c) {N : Act → World → Prop} {a : Act} {w : World}
    (hy : QuietAt P l m oi v a w) (h : wpOpIn F n P l.toArray NoExit j (fun a' w' => m.E w w' ∧ N a' w') (a.put oi.dst v) w) :
    wpOpIn F n P l.toArray NoExit j (fun a' w' => m.E w w' ∧ QuietAt P l m oi v a' w' ∧ N (a'.put oi.dst v) w') a w := by
  obtain ⟨h1, h2, h3⟩ := Oper.apart_spec hap
  have hj' : l.toArray[j]? = some oj := by simpa using hj
  have keep : ∀ u w', m.E w w' → QuietAt P l m oi v (a.put oj.dst u) w' := fun u w' hE =>
    hy.of_same (execOp_put oi hsi a oj.dst u h3) (wanted_put oi a oj.dst u h3) (fun W hW => Md.R_of_E hm hE W hW)
  unfold wpOpIn at *
  simp only [hj'] at *
  rw [wanted_put oj a oi.dst v h1, about_put oj w a oi.dst v h1] at h
  split
  · rename_i hw
    simp only [hw, if_true] at h
    unfold Oper.wpIn at *
    rw [about_put oj w a oi.dst v h1] at h
    refine ⟨h.1, ?_⟩
    have h := h.2
    rw [Oper.semAt_eq _ _ _ hdj, execOp_put oj hsj a oi.dst v h1] at h
    rw [Oper.semAt_eq _ _ _ hdj]
    generalize (execOp a.eval oj).run P w = r at *
    have fin : ∀ u w', m.E w w' ∧ N ((a.put oi.dst v).put oj.dst u) w' → m.E w w' ∧ QuietAt P l m oi v (a.put oj.dst u) w' ∧ N ((a.put oj.dst u).put oi.dst v) w' :=
      fun u w' he => ⟨he.1, keep u w' he.1, by rw [← Act.put_comm a v u h2]; exact he.2⟩
    cases r with
    | ok x w' =>
      cases x <;> simp only [Oper.uponIn] at h ⊢
      case value u => exact fin u _ h
      case skip => exact fin _ _ h
      case defer d =>
        refine ⟨h.1, hy.of_same ?_ ?_ (fun W hW => Md.R_of_E hm h.1 W hW), ?_⟩
        · exact execOp_put oi hsi { a with defers := d :: a.defers } oj.dst undef h3
        · exact wanted_put oi { a with defers := d :: a.defers } oj.dst undef h3
        · have h2' := h.2
          rw [← Act.put_comm _ v undef h2, ← Act.put_defers]
          exact h2'
      case enter f args =>
        refine ⟨h.1, CallsIn.mono h.2 fun e w'' he => ?_⟩
        cases e with
        | returned u => exact fin u _ he
        | panicked c => exact he.elim
        | outgrown => obtain ⟨_, _, hf⟩ := he; exact hf.elim
      case row row args => exact ⟨h.1, RowsIn.mono h.2 fun u w'' he => fin u _ he⟩
      case round j' f tmps assign body =>
        refine ⟨h.1, RoundIn.mono h.2 fun e w'' he => ?_⟩
        cases e with
        | returned u => exact fin u _ he
        | panicked c => exact he.elim
        | outgrown => obtain ⟨_, _, hf⟩ := he; exact hf.elim
    | halt x w' =>
      cases x <;> simp only [Oper.uponIn] at h ⊢
      exact h.elim
  · rename_i hw
    simp only [hw] at h
    exact ⟨h.1, h.2.1, keep _ _ h.2.1, by rw [← Act.put_comm a v undef h2]; exact h.2.2⟩

theorem wpAnyM_first {m : Md} (hm : m.any) (hF : FW F) (hpl : plainOps l = true) {i : Nat} {oi : Oper} {v : Value} (hi : l[i]? = some oi) :
    ∀ (fuel : Nat) (listed : Array Bool) (a : Act) (w : World), Closed l listed →
      (∀ j oj, l[j]? = some oj → j ≠ i → listed.getD j true = false → (∀ e ∈ oj.after, Region.binds .any e = true → e.on ≠ i) → oi.apart l.toArray oj = true) →
      i ∈ Region.ready .any l.toArray listed → QuietAt P l m oi v a w →
      wpAnyM P F n l m K fuel (listed.setIfInBounds i true) (a.put oi.dst v) w → wpAnyM P F n l m K (fuel + 1) listed a w := by
  obtain ⟨hsi, hdi⟩ := plainOps_spec hpl hi
  intro fuel
  induction fuel with
  | zero =>
    intro listed a w hcl _ hr hy H
    refine ⟨fun h => (by rw [h] at hr; cases hr), fun j hj => ?_⟩
    by_cases hji : j = i
    · subst hji; exact quiet_opIn hF hi hdi hy ⟨.inl (m.E_refl w), H⟩
    · have := ready_mono hj hji
      rw [H.1] at this
      cases this
  | succ fuel ih =>
    intro listed a w hcl hfree hr hy H
    refine ⟨fun h => (by rw [h] at hr; cases hr), fun j hj => ?_⟩
    by_cases hji : j = i
    · subst hji; exact quiet_opIn hF hi hdi hy ⟨.inl (m.E_refl w), H⟩
    · have h1 := H.2 j (ready_mono hj hji)
      obtain ⟨hjun, oj, hoj, hall⟩ := mem_ready.1 hj
      have hoj' : l[j]? = some oj := by simpa using hoj
      have hnot : ∀ e ∈ oj.after, Region.binds .any e = true → e.on ≠ i := fun e he hb heq => by
        have h1 := hall e he hb
        have h0 := (mem_ready.1 hr).1
        rw [heq] at h1
        rcases Nat.lt_or_ge i listed.size with h' | h'
        · simp [h'] at h0 h1; rw [h0] at h1; cases h1
        · simp [Array.getElem?_eq_none h'] at h1
      obtain ⟨hsj, hdj⟩ := plainOps_spec hpl hoj'
      have h2 := opIn_putM hm hoj' (hfree j oj hoj' hji hjun hnot) hsi hsj hdj hy (wpOpIn_mono (fun a' w' h => ⟨h.1.resolve_right (not_last hcl hr hj hji), h.2⟩) h1)
      have hfree' : ∀ k ok, l[k]? = some ok → k ≠ i → (listed.setIfInBounds j true).getD k true = false →
          (∀ e ∈ ok.after, Region.binds .any e = true → e.on ≠ i) → oi.apart l.toArray ok = true := fun k ok hk hki hun hno => by
        refine hfree k ok hk hki ?_ hno
        by_cases hjk : j = k
        · subst hjk; exact hjun
        · rw [getD_set_ne true hjk] at hun; exact hun
      refine wpOpIn_mono (fun a' w' h3 => ⟨.inl h3.1, ih (listed.setIfInBounds j true) a' w' (hcl.set hj) hfree' (ready_mono hr (Ne.symm hji)) h3.2.1 ?_⟩) h2
      rw [Array.setIfInBounds_comm _ _ hji]
      exact h3.2.2

/-- May the operations be taken in this order? (true: quietly, ahead of all that may come up beside it; false: it alone may come up.) -/
def planOK (l : List Oper) : List (Nat × Bool) → Array Bool → Bool
  | [], listed => (Region.ready .any l.toArray listed).isEmpty
  | (i, true) :: rest, listed => (Region.ready .any l.toArray listed).contains i && Region.free .any l.toArray listed i && planOK l rest (listed.setIfInBounds i true)
  | (i, false) :: rest, listed => Region.ready .any l.toArray listed == [i] && planOK l rest (listed.setIfInBounds i true)

theorem wpAnyM_of_plan {m : Md} (hm : m.any) (hF : FW F) (hpl : plainOps l = true) : ∀ (pl : List (Nat × Bool)) (listed : Array Bool) (a : Act) (w : World), Closed l listed →
    planOK l pl listed = true → wpPl P F n l m K pl a w → wpAnyM P F n l m K pl.length listed a w := by
  intro pl
  induction pl with
  | nil => intro listed a w _ hok h; exact ⟨by simpa [planOK] using hok, h⟩
  | cons iq rest ih =>
    obtain ⟨i, q⟩ := iq
    rintro listed a w hcl hok ⟨o, ho, h⟩
    have ho' : l.toArray[i]? = some o := by simpa using ho
    obtain ⟨hs, hd⟩ := plainOps_spec hpl ho
    cases q with
    | true =>
      simp only [planOK, Bool.and_eq_true] at hok
      obtain ⟨⟨hr, hf⟩, hok⟩ := hok
      have hr' : i ∈ Region.ready .any l.toArray listed := by simpa using hr
      have hfr := Region.free_spec ho' hf
      have hfr' : ∀ j oj, l[j]? = some oj → j ≠ i → listed.getD j true = false → (∀ e ∈ oj.after, Region.binds .any e = true → e.on ≠ i) → o.apart l.toArray oj = true :=
        fun j oj hj => hfr j oj (by simpa using hj)
      rcases h with ⟨hw, h⟩ | ⟨hw, v, hv, h⟩ | ⟨hq, _⟩
      · exact wpAnyM_first hm hF hpl ho _ listed a w hcl hfr' hr' (.inr ⟨hw, rfl⟩) (ih _ _ _ (hcl.set hr') hok h)
      · exact wpAnyM_first hm hF hpl ho _ listed a w hcl hfr' hr' (.inl ⟨hw, hv⟩) (ih _ _ _ (hcl.set hr') hok h)
      · cases hq
    | false =>
      simp only [planOK, Bool.and_eq_true, beq_iff_eq] at hok
      obtain ⟨hr, hok⟩ := hok
      have hri : i ∈ Region.ready .any l.toArray listed := by rw [hr]; simp
      refine ⟨fun h0 => (by rw [hr] at h0; cases h0), fun j hj => ?_⟩
      rw [hr] at hj
      obtain rfl : j = i := by simpa using hj
      rcases h with ⟨hw, h⟩ | ⟨hw, v, hv, h⟩ | ⟨_, hw, h⟩
      · exact quiet_opIn (m := m) hF ho hd (.inr ⟨hw, rfl⟩) ⟨.inl (m.E_refl w), ih _ _ _ (hcl.set hri) hok h⟩
      · exact quiet_opIn hF ho hd (.inl ⟨hw, hv⟩) ⟨.inl (m.E_refl w), ih _ _ _ (hcl.set hri) hok h⟩
      · unfold wpOpIn
        simp only [ho']
        rw [if_pos hw]
        exact Oper.wpIn_mono (fun a' w' h' => ⟨h'.1, ih _ _ _ (hcl.set hri) hok h'.2⟩) h

theorem region_any {Q : Exit → Act → World → Prop} {m : Md} {id : Nat} {a : Act} {w : World} (hm : m.any) (hF : FW F) (hmix : P.follows .mixedOrders = true) (pl : List (Nat × Bool))
    (hpl : plainOps l = true) (hlen : pl.length = l.length) (hok : planOK l pl (Array.replicate l.length false) = true) (h : wpPl P F n l m (Q .normal) pl a w.drew) :
    (Code.region id l.toArray true).wpIn F n P Q a w := by
  refine wpIn_region_any hmix ?_
  have := wpAnyIn_of_M _ _ _ _ (wpAnyM_of_plan hm hF hpl pl _ a w.drew (fun p o ho hp => by
    have := (List.getElem?_eq_some_iff.1 ho).1
    simp [this] at hp) hok h)
  rw [hlen] at this
  simpa using this
end
end Go.Proofs.Ytdielcpjemkngaa
