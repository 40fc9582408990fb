/-
  Framework, part 3: comparisons and other quiet operations; operations that turn the world; code. Generic.
-/
import Derived.Test.YtdielcpjemkngaaFx2
namespace Go.Proofs.Ytdielcpjemkngaa
open Go.RowKit
set_option linter.unusedVariables false

section
variable {P : Program} {F : Fence} {n N : Nat} {D : List Deferred} {l : List Oper} {m : Md} {K : Act → World → Prop} {L : List (Nat × Value)} {w : World}
variable {t u : TypeId} {pos : String} {af : Array Edge} {g : Option (Nat × Bool)} {dst : Option Tmp} {x y z : Operand}

theorem run_v {s : Sem Value} {v : Value} {W W' : World} (h : s.run P W = .ok v W') : (do pure (Next.value (← s)) : Sem Next).run P W = .ok (.value v) W' := by
  simp only [Sem.run_bind, h, Result.andThen, Sem.run_pure]
theorem run_u {s : Sem Unit} {W W' : World} (h : s.run P W = .ok () W') : (do s; pure Next.skip : Sem Next).run P W = .ok .skip W' := by
  simp only [Sem.run_bind, h, Result.andThen, Sem.run_pure]

/-- a binary operation on two values, neither an aggregate nor a nil interface -/
def plainV : Value → Bool
  | .agg _ => false
  | .nilIface => false
  | _ => true
theorem eqGuard_plain (op : BinOp) (t : TypeId) (x y : Operand) {a : Value} (b : Value) (W : World) (hp : plainV a = true) : (eqGuard op t x y a b).run P W = .ok () W := by
  cases a <;> first | (simp [plainV] at hp; done) | (cases op <;> rfl)
theorem OQ.bin {op : BinOp} {a b v : Value} (hx : ev L x = some a) (hy : ev L y = some b) (hp : plainV a = true) (h : ∀ W, m.R w W → (binOp op t a b).run P W = .ok v W) :
    OQ P m N D ⟨dst, .binOp op t x y u, t, pos, af, g⟩ L w v := fun c hc W hW => by
  have e1 := hc.eval hx; have e2 := hc.eval hy
  simp only [execOp, e1, e2]
  have hg := eqGuard_plain (P := P) op t x y b W hp
  simp only [Sem.run_bind, hg, Result.andThen, h W hW, Sem.run_pure]
theorem OQ.bin' {op : BinOp} {t' : TypeId} {a b v : Value} (hx : ev L x = some a) (hy : ev L y = some b) (hp : plainV a = true) (h : ∀ W, m.R w W → (binOp op t a b).run P W = .ok v W) :
    OQ P m N D ⟨dst, .binOp op t x y u, t', pos, af, g⟩ L w v := fun c hc W hW => by
  have e1 := hc.eval hx; have e2 := hc.eval hy
  simp only [execOp, e1, e2]
  have hg := eqGuard_plain (P := P) op t x y b W hp
  simp only [Sem.run_bind, hg, Result.andThen, h W hW, Sem.run_pure]

variable {t' : TypeId} {k : IntKind} {c d : Int}
theorem OQ.lss (hx : ev L x = some (.int k c)) (hy : ev L y = some (.int k d)) : OQ P m N D ⟨dst, .binOp .lss t x y u, t', pos, af, g⟩ L w (.bool (decide (c < d))) :=
  OQ.bin' hx hy rfl fun W _ => by simp [binOp, Op.intCmp, Sem.run_pure]
theorem OQ.leq (hx : ev L x = some (.int k c)) (hy : ev L y = some (.int k d)) : OQ P m N D ⟨dst, .binOp .leq t x y u, t', pos, af, g⟩ L w (.bool (decide (c ≤ d))) :=
  OQ.bin' hx hy rfl fun W _ => by simp [binOp, Op.intCmp, Sem.run_pure]
theorem OQ.gtr (hx : ev L x = some (.int k c)) (hy : ev L y = some (.int k d)) : OQ P m N D ⟨dst, .binOp .gtr t x y u, t', pos, af, g⟩ L w (.bool (decide (d < c))) :=
  OQ.bin' hx hy rfl fun W _ => by simp [binOp, Op.intCmp, Sem.run_pure]
theorem OQ.geq (hx : ev L x = some (.int k c)) (hy : ev L y = some (.int k d)) : OQ P m N D ⟨dst, .binOp .geq t x y u, t', pos, af, g⟩ L w (.bool (decide (d ≤ c))) :=
  OQ.bin' hx hy rfl fun W _ => by simp [binOp, Op.intCmp, Sem.run_pure]
theorem OQ.eql (hx : ev L x = some (.int k c)) (hy : ev L y = some (.int k d)) : OQ P m N D ⟨dst, .binOp .eql t x y u, t', pos, af, g⟩ L w (.bool (decide (c = d))) :=
  OQ.bin' hx hy rfl fun W _ => by
    have : (c == d) = decide (c = d) := by rw [Bool.eq_iff_iff]; simp
    simp [binOp, Op.intCmp, Sem.run_pure, this]
theorem OQ.neq (hx : ev L x = some (.int k c)) (hy : ev L y = some (.int k d)) : OQ P m N D ⟨dst, .binOp .neq t x y u, t', pos, af, g⟩ L w (.bool (decide (c ≠ d))) :=
  OQ.bin' hx hy rfl fun W _ => by
    have : (c != d) = decide (c ≠ d) := by rw [Bool.eq_iff_iff]; simp
    simp [binOp, Op.intCmp, Sem.run_pure, this]
theorem OQ.add (hx : ev L x = some (.int k c)) (hy : ev L y = some (.int k d)) : OQ P m N D ⟨dst, .binOp .add t x y u, t', pos, af, g⟩ L w (.int k (k.wrap (c + d))) :=
  OQ.bin' hx hy rfl fun W _ => by simp [binOp, Op.intArith, Sem.run_pure]
theorem OQ.sub (hx : ev L x = some (.int k c)) (hy : ev L y = some (.int k d)) : OQ P m N D ⟨dst, .binOp .sub t x y u, t', pos, af, g⟩ L w (.int k (k.wrap (c - d))) :=
  OQ.bin' hx hy rfl fun W _ => by simp [binOp, Op.intArith, Sem.run_pure]
theorem OQ.mul (hx : ev L x = some (.int k c)) (hy : ev L y = some (.int k d)) : OQ P m N D ⟨dst, .binOp .mul t x y u, t', pos, af, g⟩ L w (.int k (k.wrap (c * d))) :=
  OQ.bin' hx hy rfl fun W _ => by simp [binOp, Op.intArith, Sem.run_pure]
theorem OQ.addW {r : Int} (hx : ev L x = some (.int k c)) (hy : ev L y = some (.int k d)) (hw : k.wrap (c + d) = r) : OQ P m N D ⟨dst, .binOp .add t x y u, t', pos, af, g⟩ L w (.int k r) := by
  rw [← hw]; exact OQ.add hx hy
theorem OQ.subW {r : Int} (hx : ev L x = some (.int k c)) (hy : ev L y = some (.int k d)) (hw : k.wrap (c - d) = r) : OQ P m N D ⟨dst, .binOp .sub t x y u, t', pos, af, g⟩ L w (.int k r) := by
  rw [← hw]; exact OQ.sub hx hy
theorem OQ.mulW {r : Int} (hx : ev L x = some (.int k c)) (hy : ev L y = some (.int k d)) (hw : k.wrap (c * d) = r) : OQ P m N D ⟨dst, .binOp .mul t x y u, t', pos, af, g⟩ L w (.int k r) := by
  rw [← hw]; exact OQ.mul hx hy
theorem OQ.rem (hx : ev L x = some (.int k c)) (hy : ev L y = some (.int k d)) (hd : d ≠ 0) (hw : k.wrap (c.tmod d) = c.tmod d) : OQ P m N D ⟨dst, .binOp .rem t x y u, t', pos, af, g⟩ L w (.int k (c.tmod d)) :=
  OQ.bin' hx hy rfl fun W _ => by simp [binOp, Op.intDiv, Sem.run_pure, hd]
theorem OQ.quo (hx : ev L x = some (.int k c)) (hy : ev L y = some (.int k d)) (hd : d ≠ 0) : OQ P m N D ⟨dst, .binOp .quo t x y u, t', pos, af, g⟩ L w (.int k (k.wrap (c.tdiv d))) :=
  OQ.bin' hx hy rfl fun W _ => by simp [binOp, Op.intDiv, Sem.run_pure, hd]

theorem OQ.sadd {a b : ByteArray} (hx : ev L x = some (.string a)) (hy : ev L y = some (.string b)) (hs : a.size + b.size ≤ 9223372036854775807) : OQ P m N D ⟨dst, .binOp .add t x y u, t', pos, af, g⟩ L w (.string (a ++ b)) :=
  OQ.bin' hx hy rfl fun W _ => by simp [binOp, run_string_add_sum W a b hs]
theorem OQ.slss {a b : ByteArray} (hx : ev L x = some (.string a)) (hy : ev L y = some (.string b)) : OQ P m N D ⟨dst, .binOp .lss t x y u, t', pos, af, g⟩ L w (.bool (Op.bytesLess a.toList b.toList)) :=
  OQ.bin' hx hy rfl fun W _ => by simp [binOp, Op.stringOp, Sem.run_pure]
theorem OQ.sleq {a b : ByteArray} (hx : ev L x = some (.string a)) (hy : ev L y = some (.string b)) : OQ P m N D ⟨dst, .binOp .leq t x y u, t', pos, af, g⟩ L w (.bool (Op.bytesLess a.toList b.toList || (a.toList == b.toList))) :=
  OQ.bin' hx hy rfl fun W _ => by simp [binOp, Op.stringOp, Sem.run_pure]
theorem OQ.sgtr {a b : ByteArray} (hx : ev L x = some (.string a)) (hy : ev L y = some (.string b)) : OQ P m N D ⟨dst, .binOp .gtr t x y u, t', pos, af, g⟩ L w (.bool (!(Op.bytesLess a.toList b.toList || (a.toList == b.toList)))) :=
  OQ.bin' hx hy rfl fun W _ => by simp [binOp, Op.stringOp, Sem.run_pure]
theorem OQ.sgeq {a b : ByteArray} (hx : ev L x = some (.string a)) (hy : ev L y = some (.string b)) : OQ P m N D ⟨dst, .binOp .geq t x y u, t', pos, af, g⟩ L w (.bool (!(Op.bytesLess a.toList b.toList))) :=
  OQ.bin' hx hy rfl fun W _ => by simp [binOp, Op.stringOp, Sem.run_pure]
theorem OQ.seql {a b : ByteArray} (hx : ev L x = some (.string a)) (hy : ev L y = some (.string b)) : OQ P m N D ⟨dst, .binOp .eql t x y u, t', pos, af, g⟩ L w (.bool (a.toList == b.toList)) :=
  OQ.bin' hx hy rfl fun W _ => by simp [binOp, Op.stringOp, Sem.run_pure]
theorem OQ.sneq {a b : ByteArray} (hx : ev L x = some (.string a)) (hy : ev L y = some (.string b)) : OQ P m N D ⟨dst, .binOp .neq t x y u, t', pos, af, g⟩ L w (.bool (!(a.toList == b.toList))) :=
  OQ.bin' hx hy rfl fun W _ => by simp [binOp, Op.stringOp, Sem.run_pure]

/-- facts on types: a pointer, a bool, a slice, a func type -/
class Pt (P : Program) (t : TypeId) : Prop where
  out : ∃ e, P.underlying t = some (.pointer e)
class Bo (P : Program) (t : TypeId) : Prop where
  out : P.underlying t = some .bool
class Sl (P : Program) (t : TypeId) (e : outParam TypeId) : Prop where
  out : P.underlying t = some (.slice e)
class St (P : Program) (t : TypeId) : Prop where
  out : P.underlying t = some .string
class Fu (P : Program) (t : TypeId) : Prop where
  out : ∃ a b c, P.underlying t = some (.func a b c)

theorem run_equal_succ {t : TypeId} {a b : Value} {W : World} {r : Bool} (h : ∀ k, (Op.equalIn (k + 1) t a b).run P W = .ok r W) : (Op.equal t a b).run P W = .ok r W := h _

theorem OQ.eqN [h : Pt P t] {p : Option Addr} (hx : ev L x = some (.pointer p)) (hy : ev L y = some (.pointer none)) : OQ P m N D ⟨dst, .binOp .eql t x y u, t', pos, af, g⟩ L w (.bool p.isNone) :=
  OQ.bin' hx hy rfl fun W _ => by
    obtain ⟨e, he⟩ := h.out
    have : (Op.equal t (.pointer p) (.pointer none)).run P W = .ok p.isNone W := run_equal_succ fun k => by
      cases p <;> simp [Op.equalIn, underlying, program, Sem.run_bind, Sem.run, Sem.run_pure, Result.andThen, he]
    cases p <;> simp [binOp, this, Result.andThen]
theorem OQ.neN [h : Pt P t] {p : Option Addr} (hx : ev L x = some (.pointer p)) (hy : ev L y = some (.pointer none)) : OQ P m N D ⟨dst, .binOp .neq t x y u, t', pos, af, g⟩ L w (.bool p.isSome) :=
  OQ.bin' hx hy rfl fun W _ => by
    obtain ⟨e, he⟩ := h.out
    have : (Op.equal t (.pointer p) (.pointer none)).run P W = .ok p.isNone W := run_equal_succ fun k => by
      cases p <;> simp [Op.equalIn, underlying, program, Sem.run_bind, Sem.run, Sem.run_pure, Result.andThen, he]
    cases p <;> simp [binOp, this, Result.andThen]
theorem OQ.eqNS [h : Pt P t] {p : Addr} (hx : ev L x = some (.pointer (some p))) (hy : ev L y = some (.pointer none)) : OQ P m N D ⟨dst, .binOp .eql t x y u, t', pos, af, g⟩ L w (.bool false) := OQ.eqN hx hy
theorem OQ.eqNN [h : Pt P t] (hx : ev L x = some (.pointer none)) (hy : ev L y = some (.pointer none)) : OQ P m N D ⟨dst, .binOp .eql t x y u, t', pos, af, g⟩ L w (.bool true) := OQ.eqN hx hy
theorem OQ.neNS [h : Pt P t] {p : Addr} (hx : ev L x = some (.pointer (some p))) (hy : ev L y = some (.pointer none)) : OQ P m N D ⟨dst, .binOp .neq t x y u, t', pos, af, g⟩ L w (.bool true) := OQ.neN hx hy
theorem OQ.neNN [h : Pt P t] (hx : ev L x = some (.pointer none)) (hy : ev L y = some (.pointer none)) : OQ P m N D ⟨dst, .binOp .neq t x y u, t', pos, af, g⟩ L w (.bool false) := OQ.neN hx hy
theorem OQ.beq [h : Bo P t] {p q : Bool} (hx : ev L x = some (.bool p)) (hy : ev L y = some (.bool q)) : OQ P m N D ⟨dst, .binOp .eql t x y u, t', pos, af, g⟩ L w (.bool (p == q)) :=
  OQ.bin' hx hy rfl fun W _ => by
    have : (Op.equal t (.bool p) (.bool q)).run P W = .ok (p == q) W := run_equal_succ fun k => by
      simp [Op.equalIn, underlying, program, Sem.run_bind, Sem.run, Sem.run_pure, Result.andThen, h.out]
    simp [binOp, this, Result.andThen]
theorem OQ.bne [h : Bo P t] {p q : Bool} (hx : ev L x = some (.bool p)) (hy : ev L y = some (.bool q)) : OQ P m N D ⟨dst, .binOp .neq t x y u, t', pos, af, g⟩ L w (.bool (p != q)) :=
  OQ.bin' hx hy rfl fun W _ => by
    have : (Op.equal t (.bool p) (.bool q)).run P W = .ok (p == q) W := run_equal_succ fun k => by
      simp [Op.equalIn, underlying, program, Sem.run_bind, Sem.run, Sem.run_pure, Result.andThen, h.out]
    have e : (p != q) = !(p == q) := rfl
    simp only [binOp, Sem.run_bind, this, Result.andThen, Sem.run_pure, e]
theorem OQ.not {p : Bool} (hx : ev L x = some (.bool p)) : OQ P m N D ⟨dst, .unOp .not t x, t', pos, af, g⟩ L w (.bool (!p)) := fun a ha W _ => by
  have e1 := ha.eval hx
  simp only [execOp, e1]
  exact run_v (by simp [Op.unary, Sem.run_pure])
/-- a function value held against nil -/
theorem OQ.eqF [h : Fu P t] {f : Fn} {a b : Array Value} (hx : ev L x = some (.func f a b)) (hy : ev L y = some .nilFunc) : OQ P m N D ⟨dst, .binOp .eql t x y u, t', pos, af, g⟩ L w (.bool false) :=
  OQ.bin' hx hy rfl fun W _ => by
    obtain ⟨p, q, r, he⟩ := h.out
    have : (Op.equal t (.func f a b) .nilFunc).run P W = .ok false W := run_equal_succ fun k => by
      simp [Op.equalIn, underlying, program, Sem.run_bind, Sem.run, Sem.run_pure, Result.andThen, he]
    simp [binOp, this, Result.andThen]
theorem OQ.neF [h : Fu P t] {f : Fn} {a b : Array Value} (hx : ev L x = some (.func f a b)) (hy : ev L y = some .nilFunc) : OQ P m N D ⟨dst, .binOp .neq t x y u, t', pos, af, g⟩ L w (.bool true) :=
  OQ.bin' hx hy rfl fun W _ => by
    obtain ⟨p, q, r, he⟩ := h.out
    have : (Op.equal t (.func f a b) .nilFunc).run P W = .ok false W := run_equal_succ fun k => by
      simp [Op.equalIn, underlying, program, Sem.run_bind, Sem.run, Sem.run_pure, Result.andThen, he]
    simp [binOp, this, Result.andThen]

theorem OQ.extract {vs : Array Value} {ix : Nat} {v : Value} (hx : ev L x = some (.tuple vs)) (hi : vs[ix]? = some v) : OQ P m N D ⟨dst, .extract x ix, t', pos, af, g⟩ L w v := fun a ha W _ => by
  have e1 := ha.eval hx
  simp only [execOp, e1]
  exact run_v (by simp [Instr.extract, hi, Sem.run_pure])

theorem OQ.makeFunc {f : Fn} {fs cs : Array Operand} {v1 v2 : List Value} (h1 : evs L fs.toList = some v1) (h2 : evs L cs.toList = some v2) :
    OQ P m N D ⟨dst, .makeFunc f fs cs, t', pos, af, g⟩ L w (.func f v1.toArray v2.toArray) := fun a ha W _ => by
  have e1 := ha.evals h1; have e2 := ha.evals h2
  have e1' : fs.map a.eval = v1.toArray := Array.toList_inj.1 (by rw [Array.toList_map]; exact e1)
  have e2' : cs.map a.eval = v2.toArray := Array.toList_inj.1 (by rw [Array.toList_map]; exact e2)
  simp only [execOp, e1', e2']
  exact run_v rfl

/-- len of a slice, of a string -/
theorem OQ.lenS {s e : TypeId} [h : Sl P s e] {b : Option Addr} {j c : Nat} (hx : ev L x = some (.slice b j c)) : OQ P m N D ⟨dst, .call ⟨.builtin .len, #[x], #[s]⟩, t', pos, af, g⟩ L w (.int .i64 j) := fun a ha W _ => by
  have e1 := ha.eval hx
  simp only [execOp, resolve, List.map_toArray, List.map_cons, List.map_nil, e1, Sem.run_bind, Sem.run_pure, Result.andThen, invoke, builtin]
  simp [Builtin.len_, underlying, program, Sem.run_bind, Sem.run, Result.andThen, h.out, goInt, Sem.run_pure]
theorem OQ.lenT {s : TypeId} [h : St P s] {b : ByteArray} (hx : ev L x = some (.string b)) : OQ P m N D ⟨dst, .call ⟨.builtin .len, #[x], #[s]⟩, t', pos, af, g⟩ L w (.int .i64 b.size) := fun a ha W _ => by
  have e1 := ha.eval hx
  simp only [execOp, resolve, List.map_toArray, List.map_cons, List.map_nil, e1, Sem.run_bind, Sem.run_pure, Result.andThen, invoke, builtin]
  simp [Builtin.len_, underlying, program, Sem.run_bind, Sem.run, Result.andThen, h.out, goInt, Sem.run_pure]
theorem OQ.max2 {ts : Array TypeId} (hx : ev L x = some (.int k c)) (hy : ev L y = some (.int k d)) : OQ P m N D ⟨dst, .call ⟨.builtin .max, #[x, y], ts⟩, t', pos, af, g⟩ L w (.int k (max c d)) := fun a ha W _ => by
  have e1 := ha.eval hx; have e2 := ha.eval hy
  simp only [execOp, resolve, List.map_toArray, List.map_cons, List.map_nil, e1, e2, Sem.run_bind, Sem.run_pure, Result.andThen, invoke, builtin]
  have : (if d > c then d else c) = max c d := by rw [Int.max_def]; split <;> split <;> omega
  simp [Builtin.max_, Builtin.max2, Sem.run_pure, this]
theorem OQ.min2 {ts : Array TypeId} (hx : ev L x = some (.int k c)) (hy : ev L y = some (.int k d)) : OQ P m N D ⟨dst, .call ⟨.builtin .min, #[x, y], ts⟩, t', pos, af, g⟩ L w (.int k (min c d)) := fun a ha W _ => by
  have e1 := ha.eval hx; have e2 := ha.eval hy
  simp only [execOp, resolve, List.map_toArray, List.map_cons, List.map_nil, e1, e2, Sem.run_bind, Sem.run_pure, Result.andThen, invoke, builtin]
  have : (if d < c then d else c) = min c d := by rw [Int.min_def]; split <;> split <;> omega
  simp [Builtin.min_, Builtin.min2, Sem.run_pure, this]

/-- from one integer kind to another -/
class In (P : Program) (t : TypeId) (k : outParam IntKind) : Prop where
  out : P.underlying t = some (.int k)
theorem OQ.convI {s : TypeId} {k' : IntKind} [h1 : In P s k] [h2 : In P t k'] (hx : ev L x = some (.int k c)) : OQ P m N D ⟨dst, .convert s t x, t', pos, af, g⟩ L w (.int k' (k'.wrap c)) := fun a ha W _ => by
  have e1 := ha.eval hx
  simp only [execOp, e1]
  exact run_v (by simp [convert, underlying, program, Sem.run_bind, Sem.run, Result.andThen, h1.out, h2.out, Conv.intToInt, Sem.run_pure])

/-- the address of an element of a slice, and its element's size -/
class SlE (P : Program) (t : TypeId) (sz : outParam Nat) : Prop where
  out : ∃ e i, P.underlying t = some (.slice e) ∧ P.info? e = some i ∧ i.size = sz
theorem Addr.add_z (b o j : Nat) : Addr.add ⟨b, o, none⟩ j = ⟨b, o + j, none⟩ := by unfold Addr.add; split <;> simp_all
theorem OQ.indexAddr {sz : Nat} [h : SlE P t sz] {b o j c i : Nat} (hx : ev L x = some (.slice (some ⟨b, o, none⟩) j c)) (hy : ev L y = some (.int k i)) (hi : i < j) :
    OQ P m N D ⟨dst, .indexAddr t x y, t', pos, af, g⟩ L w (.pointer (some ⟨b, o + i * sz, none⟩)) := fun a ha W _ => by
  have e1 := ha.eval hx; have e2 := ha.eval hy
  simp only [execOp, e1, e2]
  obtain ⟨e, inf, h1, h2, h3⟩ := h.out
  exact run_v (by simp [Instr.indexAt, asIntOf, underlying, program, sizeOf, typeInfo, Sem.run_bind, Sem.run, Result.andThen, h1, h2, h3, Sem.run_pure, hi, Addr.add_z])
theorem OQ.indexT [h : St P t] {b : ByteArray} {i : Nat} (hx : ev L x = some (.string b)) (hy : ev L y = some (.int k i)) (hi : i < b.size) :
    OQ P m N D ⟨dst, .index t x y, t', pos, af, g⟩ L w (.int .u8 (b[i]'hi).toNat) := fun a ha W _ => by
  have e1 := ha.eval hx; have e2 := ha.eval hy
  simp only [execOp, e1, e2]
  exact run_v (by simp [Instr.index, asIntOf, underlying, program, Sem.run_bind, Sem.run, Result.andThen, h.out, Sem.run_pure, hi])
end
end Go.Proofs.Ytdielcpjemkngaa
