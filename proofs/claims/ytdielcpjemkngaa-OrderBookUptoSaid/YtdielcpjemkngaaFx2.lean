/-
  Framework, part 2: frames by what is known of their slots; one rule for each form of operation and of code. Generic: nothing of a program.
-/
import Derived.Test.YtdielcpjemkngaaFx1
import Derived.RangeFuncKeeps
import Derived.RangeFuncLeaves
namespace Go.Proofs.Ytdielcpjemkngaa
open Go.RowKit
set_option linter.unusedVariables false

/-! ### what is known of a frame -/
def lk : List (Nat × Value) → Nat → Option Value
  | [], _ => none
  | (j, v) :: r, i => bif Nat.beq i j then some v else lk r i

def ev (L : List (Nat × Value)) : Operand → Option Value
  | .tmp t => lk L t
  | .const v => some v
  | .global g => some (.pointer (some ⟨g, 0, none⟩))
  | .func f => some (.func (.func f) #[] #[])

def evs (L : List (Nat × Value)) : List Operand → Option (List Value)
  | [] => some []
  | x :: r => match ev L x, evs L r with
    | some v, some vs => some (v :: vs)
    | _, _ => none

structure Kn (n : Nat) (D : List Deferred) (L : List (Nat × Value)) (a : Act) : Prop where
  size : a.tmps.size = n
  defers : a.defers = D
  slot : ∀ t v, lk L t = some v → a.tmps[t]? = some v

theorem Kn.eval {n : Nat} {D : List Deferred} {L : List (Nat × Value)} {a : Act} (h : Kn n D L a) {x : Operand} {v : Value} (hx : ev L x = some v) : a.eval x = v := by
  cases x with
  | tmp t => have := h.slot t v hx; simp [Act.eval, this]
  | const c => exact Option.some.inj hx
  | global g => exact Option.some.inj hx
  | func f => exact Option.some.inj hx

theorem Kn.evals {n : Nat} {D : List Deferred} {L : List (Nat × Value)} {a : Act} (h : Kn n D L a) : ∀ {xs : List Operand} {vs : List Value}, evs L xs = some vs → xs.map a.eval = vs
  | [], vs, e => by simp [evs] at e; simp [e]
  | x :: r, vs, e => by
    simp only [evs] at e
    split at e
    · rename_i v ws h1 h2
      simp only [Option.some.injEq] at e
      subst e
      simp [h.eval h1, h.evals h2]
    · cases e

theorem Kn.put {n : Nat} {D : List Deferred} {L : List (Nat × Value)} {a : Act} (h : Kn n D L a) {d : Nat} (hd : Nat.blt d n = true) (v : Value) : Kn n D ((d, v) :: L) (a.put (some d) v) := by
  have hd' : d < a.tmps.size := by rw [h.size]; simp [Nat.blt] at hd; omega
  refine ⟨by simp [Act.put, h.size], by simp [Act.put, h.defers], ?_⟩
  intro t u e
  simp only [lk] at e
  by_cases ht : t = d
  · subst ht
    simp only [Nat.beq_refl, cond_true, Option.some.injEq] at e
    subst e
    simp [Act.put, hd']
  · have hb : Nat.beq t d = false := by
      cases hc : Nat.beq t d with
      | false => rfl
      | true => exact absurd (Nat.eq_of_beq_eq_true hc) ht
    rw [hb] at e
    simp only [Act.put]
    rw [Array.getElem?_setIfInBounds_ne (Ne.symm ht)]
    exact h.slot t u e

/-- a slot is forgotten -/
theorem Kn.put_any {n : Nat} {D : List Deferred} {L : List (Nat × Value)} {a : Act} (h : Kn n D L a) {d : Nat} (v : Value) (hL : lk L d = none) : Kn n D L (a.put (some d) v) := by
  refine ⟨by simp [Act.put, h.size], by simp [Act.put, h.defers], ?_⟩
  intro t u e
  have ht : t ≠ d := fun c => by subst c; rw [hL] at e; cases e
  simp only [Act.put]
  rw [Array.getElem?_setIfInBounds_ne (Ne.symm ht)]
  exact h.slot t u e

theorem Kn.put_none {n : Nat} {D : List Deferred} {L : List (Nat × Value)} {a : Act} (h : Kn n D L a) (v : Value) : Kn n D L (a.put none v) := h

/-- what is said of slots in M is so in L -/
def Sub : List (Nat × Value) → List (Nat × Value) → Prop
  | [], _ => True
  | (t, v) :: r, L => lk L t = some v ∧ Sub r L
theorem Sub.lk {L : List (Nat × Value)} : ∀ {M : List (Nat × Value)}, Sub M L → ∀ t v, lk M t = some v → lk L t = some v
  | [], _, t, v, e => by simp [Go.Proofs.Ytdielcpjemkngaa.lk] at e
  | (j, u) :: r, h, t, v, e => by
    simp only [Go.Proofs.Ytdielcpjemkngaa.lk] at e
    cases hb : Nat.beq t j with
    | true =>
      rw [hb] at e
      simp only [cond_true, Option.some.injEq] at e
      have := Nat.eq_of_beq_eq_true hb
      subst this; subst e
      exact h.1
    | false => rw [hb] at e; exact Sub.lk h.2 t v e
theorem Kn.sub {n : Nat} {D : List Deferred} {L M : List (Nat × Value)} {a : Act} (h : Kn n D L a) (hs : Sub M L) : Kn n D M a := ⟨h.size, h.defers, fun t v e => h.slot t v (hs.lk t v e)⟩

def putL (dst : Option Tmp) (v : Value) (L : List (Nat × Value)) : List (Nat × Value) :=
  match dst with
  | some d => (d, v) :: L
  | none => L
def inT (n : Nat) : Option Tmp → Bool
  | some d => Nat.blt d n
  | none => true
theorem Kn.putO {n : Nat} {D : List Deferred} {L : List (Nat × Value)} {a : Act} (h : Kn n D L a) {dst : Option Tmp} (hd : inT n dst = true) (v : Value) : Kn n D (putL dst v L) (a.put dst v) := by
  cases dst with
  | none => exact h
  | some d => exact h.put hd v

/-- is a guarded operation wanted? -/
def wantL (l : List Oper) (L : List (Nat × Value)) (o : Oper) : Option Bool :=
  match o.guard with
  | none => some true
  | some (j, want) => match (l[j]?).bind (·.dst) with
    | some t => match lk L t with
      | some (.bool b) => some (b == want)
      | some _ => some false
      | none => none
    | none => none
theorem Kn.want {n : Nat} {D : List Deferred} {l : List Oper} {L : List (Nat × Value)} {a : Act} (h : Kn n D L a) {o : Oper} {b : Bool} (hw : wantL l L o = some b) :
    Region.wanted o (yielded l.toArray a.tmps) = b := by
  unfold wantL at hw
  unfold Region.wanted
  split at hw
  · rename_i hg; rw [hg]; simpa using hw
  · rename_i j want hg
    rw [hg]
    split at hw
    · rename_i t ht
      split at hw
      · rename_i c hc
        simp only [Option.some.injEq] at hw
        have h1 := h.slot t _ hc
        have : yielded l.toArray a.tmps j = some c := by
          unfold yielded
          have e : (l.toArray[j]?).bind (·.dst) = some t := by simpa using ht
          rw [e]
          simp [h1]
        simp only [this]
        rw [← hw]
        cases c <;> cases want <;> rfl
      · rename_i u hnb hu
        simp only [Option.some.injEq] at hw
        have h1 := h.slot t _ hu
        have : yielded l.toArray a.tmps j = none := by
          unfold yielded
          have e : (l.toArray[j]?).bind (·.dst) = some t := by simpa using ht
          rw [e]
          simp only [Option.bind_some, h1]
          cases u <;> first | rfl | exact absurd rfl (hnb _)
        simp only [this]
        rw [← hw]
        rfl
      · cases hw
    · cases hw

section
variable {P : Program} {F : Fence} {n N : Nat} {D : List Deferred} {l : List Oper} {m : Md} {K : Act → World → Prop} {L : List (Nat × Value)} {w : World}

/-- the rest of a region, whatever frame fits what is known -/
def PL (P : Program) (F : Fence) (n N : Nat) (D : List Deferred) (l : List Oper) (m : Md) (K : Act → World → Prop) (pl : List (Nat × Bool)) (L : List (Nat × Value)) (w : World) : Prop :=
  ∀ a, Kn N D L a → wpPl P F n l m K pl a w
/-- code, likewise -/
def CD (P : Program) (F : Fence) (n N : Nat) (D : List Deferred) (c : Code) (Q : Exit → Act → World → Prop) (L : List (Nat × Value)) (w : World) : Prop :=
  ∀ a, Kn N D L a → c.wpIn F n P Q a w

theorem PL.nil (h : ∀ a, Kn N D L a → K a w) : PL P F n N D l m K [] L w := h

/-- an operation that yields a value and leaves the world, in every world that R lets in -/
def OQ (P : Program) (m : Md) (N : Nat) (D : List Deferred) (o : Oper) (L : List (Nat × Value)) (w : World) (v : Value) : Prop :=
  ∀ a, Kn N D L a → ∀ W, m.R w W → (execOp a.eval o).run P W = .ok (.value v) W

theorem PL.q {i : Nat} {q : Bool} {o : Oper} {v : Value} {rest : List (Nat × Bool)} (ho : l[i]? = some o) (hw : wantL l L o = some true) (hq : OQ P m N D o L w v) (hd : inT N o.dst = true)
    (h : PL P F n N D l m K rest (putL o.dst v L) w) : PL P F n N D l m K ((i, q) :: rest) L w := fun a ha =>
  ⟨o, ho, .inr (.inl ⟨ha.want hw, v, hq a ha, h _ (ha.putO hd v)⟩)⟩

theorem PL.skip {i : Nat} {q : Bool} {o : Oper} {rest : List (Nat × Bool)} (ho : l[i]? = some o) (hw : wantL l L o = some false) (hd : inT N o.dst = true)
    (h : PL P F n N D l m K rest (putL o.dst undef L) w) : PL P F n N D l m K ((i, q) :: rest) L w := fun a ha =>
  ⟨o, ho, .inl ⟨ha.want hw, h _ (ha.putO hd undef)⟩⟩

/-! ### the quiet operations -/
variable {t u : TypeId} {pos : String} {af : Array Edge} {g : Option (Nat × Bool)} {dst : Option Tmp} {x y z : Operand}

theorem OQ.move {v : Value} (hx : ev L x = some v) : OQ P m N D ⟨dst, .move x, t, pos, af, g⟩ L w v := fun a ha W _ => by
  simp [execOp, ha.eval hx, Sem.run_pure]
theorem OQ.assign {v : Value} (hx : ev L x = some v) : OQ P m N D ⟨dst, .assign x, t, pos, af, g⟩ L w v := fun a ha W _ => by
  simp [execOp, ha.eval hx, Sem.run_pure]
theorem OQ.nilp {b : Addr} (hx : ev L x = some (.pointer (some b))) : OQ P m N D ⟨dst, .nilCheck x, t, pos, af, g⟩ L w (.pointer (some b)) := fun a ha W _ => by
  simp [execOp, ha.eval hx, Sem.run_pure]
theorem OQ.nilf {f : FuncId} {vs ws : Array Value} (hx : ev L x = some (.func (.func f) vs ws)) : OQ P m N D ⟨dst, .nilCheck x, t, pos, af, g⟩ L w (.func (.func f) vs ws) := fun a ha W _ => by
  simp [execOp, ha.eval hx, Sem.run_pure]
theorem OQ.nily {f : Nat} {vs ws : Array Value} (hx : ev L x = some (.func (.yield f) vs ws)) : OQ P m N D ⟨dst, .nilCheck x, t, pos, af, g⟩ L w (.func (.yield f) vs ws) := fun a ha W _ => by
  simp [execOp, ha.eval hx, Sem.run_pure]
theorem OQ.pickT {v1 : Value} (hc : ev L z = some (.bool true)) (hx : ev L x = some v1) : OQ P m N D ⟨dst, .pick z x y, t, pos, af, g⟩ L w v1 := fun a ha W _ => by
  have e1 := ha.eval hc; have e2 := ha.eval hx
  simp only [execOp, e1, e2]; simp [go_sem]
theorem OQ.pickF {v2 : Value} (hc : ev L z = some (.bool false)) (hy : ev L y = some v2) : OQ P m N D ⟨dst, .pick z x y, t, pos, af, g⟩ L w v2 := fun a ha W _ => by
  have e1 := ha.eval hc; have e2 := ha.eval hy
  simp only [execOp, e1, e2]; simp [go_sem]

/-- facts on types, found by their numbers -/
class Sc (P : Program) (t : TypeId) : Prop where
  out : ∃ d, P.underlying t = some d ∧ (match d with | .struct _ => false | .array _ _ => false | _ => true) = true
class Fl (P : Program) (s f : Nat) (off : outParam Nat) : Prop where
  out : ∃ fs fd i, P.underlying s = some (.struct fs) ∧ fs[f]? = some fd ∧ fd.offset = off ∧ P.info? fd.type = some i ∧ i.size ≠ 0
class Sz1 (P : Program) (t : TypeId) : Prop where
  out : ∃ i, P.info? t = some i ∧ i.size = 1
class Zv (P : Program) (t : TypeId) (v : outParam Value) : Prop where
  out : ∃ i, P.info? t = some i ∧ i.zero = some v

theorem run_loadVar {t : TypeId} [h : Sc P t] {a : Addr} {v : Value} {W : World} (hc : W.cell? a = some v) : (loadVar t a).run P W = .ok v W := by
  obtain ⟨d, hd, hs⟩ := h.out
  cases d <;> simp at hs <;> simp [loadVar, isAgg, underlying, program, load, Sem.run_bind, Sem.run, hd, hc, Result.andThen]

theorem OQ.load [Sc P t] {b : Addr} {v : Value} (hx : ev L x = some (.pointer (some b))) (hc : ∀ W, m.R w W → W.cell? b = some v) : OQ P m N D ⟨dst, .load t x, u, pos, af, g⟩ L w v := fun a ha W hW => by
  have := run_loadVar (P := P) (t := t) (hc W hW)
  have e1 := ha.eval hx
  simp only [execOp, e1, Instr.loadAt, Instr.sureAddr]
  simp only [Sem.run_bind, Sem.run_pure, this, Result.andThen]

/-- which cells stay, by the mode -/
def Md.keeps : Md → Addr → Prop
  | .seq, _ => True
  | .ext, _ => True
  | .below S, a => S a.block
theorem Md.cell {m : Md} {b : Addr} {v : Value} (hk : m.keeps b) (hc : w.cell? b = some v) : ∀ W, m.R w W → W.cell? b = some v := fun W hW => by
  cases m
  · obtain rfl : W = w := hW; exact hc
  · exact Ext.cell hW hc
  · rw [Bl.cell hW hk]; exact hc
theorem OQ.loadS [Sc P t] {b : Addr} {v : Value} (hx : ev L x = some (.pointer (some b))) (hc : w.cell? b = some v) : OQ P .seq N D ⟨dst, .load t x, u, pos, af, g⟩ L w v := OQ.load hx (Md.cell trivial hc)
theorem OQ.loadX [Sc P t] {b : Addr} {v : Value} (hx : ev L x = some (.pointer (some b))) (hc : w.cell? b = some v) : OQ P .ext N D ⟨dst, .load t x, u, pos, af, g⟩ L w v := OQ.load hx (Md.cell trivial hc)

theorem OQ.field {s f off : Nat} [h : Fl P s f off] {b o : Nat} (hx : ev L x = some (.pointer (some ⟨b, o, none⟩))) : OQ P m N D ⟨dst, .fieldAddr s x f, u, pos, af, g⟩ L w (.pointer (some ⟨b, o + off, none⟩)) := fun a ha W _ => by
  obtain ⟨fs, fd, i, h1, h2, h3, h4, h5⟩ := h.out
  have e : Addr.add ⟨b, o, none⟩ off = ⟨b, o + off, none⟩ := by unfold Addr.add; split <;> simp_all
  have e1 := ha.eval hx
  simp only [execOp, e1]
  simp [Instr.fieldAt, Instr.sureAddr, fieldPlace, sizeOf, typeInfo, underlying, program, Sem.run_bind, Sem.run_pure, Sem.run, Result.andThen, h1, h2, h3, h4, h5, e]

theorem OQ.field0 {s f off : Nat} [h : Fl P s f off] {b : Nat} (hx : ev L x = some (.pointer (some ⟨b, 0, none⟩))) : OQ P m N D ⟨dst, .fieldAddr s x f, u, pos, af, g⟩ L w (.pointer (some ⟨b, off, none⟩)) := by
  have := OQ.field (P := P) (m := m) (N := N) (D := D) (dst := dst) (u := u) (pos := pos) (af := af) (g := g) (w := w) (s := s) (f := f) hx
  rwa [Nat.zero_add] at this
theorem OQ.addI {k : IntKind} {c d : Int} (hx : ev L x = some (.int k c)) (hy : ev L y = some (.int k d)) : OQ P m N D ⟨dst, .binOp .add t x y u, t, pos, af, g⟩ L w (.int k (k.wrap (c + d))) := fun a ha W _ => by
  have e1 := ha.eval hx; have e2 := ha.eval hy
  simp only [execOp, e1, e2]; simp [eqGuard, binOp, Op.intArith, go_sem]
theorem OQ.subI {k : IntKind} {c d : Int} (hx : ev L x = some (.int k c)) (hy : ev L y = some (.int k d)) : OQ P m N D ⟨dst, .binOp .sub t x y u, t, pos, af, g⟩ L w (.int k (k.wrap (c - d))) := fun a ha W _ => by
  have e1 := ha.eval hx; have e2 := ha.eval hy
  simp only [execOp, e1, e2]; simp [eqGuard, binOp, Op.intArith, go_sem]
theorem OQ.mulI {k : IntKind} {c d : Int} (hx : ev L x = some (.int k c)) (hy : ev L y = some (.int k d)) : OQ P m N D ⟨dst, .binOp .mul t x y u, t, pos, af, g⟩ L w (.int k (k.wrap (c * d))) := fun a ha W _ => by
  have e1 := ha.eval hx; have e2 := ha.eval hy
  simp only [execOp, e1, e2]; simp [eqGuard, binOp, Op.intArith, go_sem]
end
end Go.Proofs.Ytdielcpjemkngaa
