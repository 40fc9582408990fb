/-
  The sorted tables as plain trees; what the code's nodes are in memory. No function of the program.
-/
import Derived.Test.YtdielcpjemkngaaFx4
namespace Go.Proofs.Ytdielcpjemkngaa
open Go.RowKit
set_option linter.unusedVariables false

/-- a tree with keys of κ and numbers as values -/
inductive Tr (κ : Type) where
  | leaf
  | node (l : Tr κ) (k : κ) (v : Int) (r : Tr κ)
namespace Tr
variable {κ : Type}
def size : Tr κ → Nat
  | leaf => 0
  | node l _ _ r => l.size + 1 + r.size
def height : Tr κ → Nat
  | leaf => 0
  | node l _ _ r => max l.height r.height + 1
theorem height_le : ∀ t : Tr κ, t.height ≤ t.size
  | leaf => Nat.le_refl _
  | node l _ _ r => by have := height_le l; have := height_le r; simp only [size, height]; omega
/-- the entry (k, v) over two trees of which one may be higher by two -/
def over (l : Tr κ) (k : κ) (v : Int) (r : Tr κ) : Tr κ :=
  if r.height + 1 < l.height then
    match l with
    | leaf => node l k v r
    | node ll lk lv lr =>
      if ll.height < lr.height then
        match lr with
        | leaf => node l k v r
        | node ml mk mv mr => node (node ll lk lv ml) mk mv (node mr k v r)
      else node ll lk lv (node lr k v r)
  else if l.height + 1 < r.height then
    match r with
    | leaf => node l k v r
    | node rl rk rv rr =>
      if rr.height < rl.height then
        match rl with
        | leaf => node l k v r
        | node ml mk mv mr => node (node l k v ml) mk mv (node mr rk rv rr)
      else node (node l k v rl) rk rv rr
  else node l k v r
def put (lt : κ → κ → Bool) (k : κ) (v : Int) : Tr κ → Tr κ
  | leaf => node leaf k v leaf
  | node l k' v' r => if lt k k' then (l.put lt k v).over k' v' r else if lt k' k then l.over k' v' (r.put lt k v) else node l k v r
/-- the first entry, of a tree with entries -/
def first (k : κ) (v : Int) : Tr κ → κ × Int
  | leaf => (k, v)
  | node l k' v' _ => l.first k' v'
def drop (lt : κ → κ → Bool) (k : κ) : Tr κ → Tr κ
  | leaf => leaf
  | node l k' v' r =>
    if lt k k' then (l.drop lt k).over k' v' r
    else if lt k' k then l.over k' v' (r.drop lt k)
    else match r with
      | leaf => l
      | node rl rk rv rr => l.over (rl.first rk rv).1 (rl.first rk rv).2 ((node rl rk rv rr).drop lt (rl.first rk rv).1)
def toL : Tr κ → List (κ × Int)
  | leaf => []
  | node l k v r => l.toL ++ (k, v) :: r.toL
theorem length_toL : ∀ t : Tr κ, t.toL.length = t.size
  | leaf => rfl
  | node l _ _ r => by simp [toL, size, length_toL l, length_toL r]; omega
theorem toL_over (l : Tr κ) (k : κ) (v : Int) (r : Tr κ) : (l.over k v r).toL = l.toL ++ (k, v) :: r.toL := by
  unfold over
  repeat' split
  all_goals simp [toL]
theorem size_over (l : Tr κ) (k : κ) (v : Int) (r : Tr κ) : (l.over k v r).size = l.size + 1 + r.size := by
  rw [← length_toL, toL_over]; simp [length_toL]; omega
theorem size_put (lt : κ → κ → Bool) (k : κ) (v : Int) : ∀ t : Tr κ, (t.put lt k v).size ≤ t.size + 1
  | leaf => by simp [put, size]
  | node l k' v' r => by
    have := size_put lt k v l; have := size_put lt k v r
    simp only [put]; repeat' split
    all_goals (simp only [size_over, size]; omega)
theorem size_drop (lt : κ → κ → Bool) (k : κ) : ∀ t : Tr κ, (t.drop lt k).size ≤ t.size
  | leaf => by simp [drop]
  | node l k' v' leaf => by
    have := size_drop lt k l
    simp only [drop]; repeat' split
    all_goals (simp only [size_over, size]; omega)
  | node l k' v' (node rl rk rv rr) => by
    have := size_drop lt k l; have h1 := size_drop lt k (node rl rk rv rr); have h2 := size_drop lt (rl.first rk rv).1 (node rl rk rv rr)
    rw [drop]; repeat' split
    all_goals (simp only [size_over, size] at *; omega)
end Tr

section
variable {κ : Type} (kv : κ → Value) (nt : TypeId)
/-- the tree t stands at p -/
def IsT (w : World) : Option Addr → Tr κ → Prop
  | p, .leaf => p = none
  | p, .node l k v r => ∃ b pl pr, p = some ⟨b, 0, none⟩ ∧
      w.heap[b]? = some (.cells #[kv k, .int .i64 v, .pointer pl, .pointer pr, .int .i64 ((Tr.node l k v r).size : Nat), .int .i64 ((Tr.node l k v r).height : Nat)] nt (0, 0)) ∧ IsT w pl l ∧ IsT w pr r
end
variable {κ : Type} {kv : κ → Value} {nt : TypeId}
theorem IsT.ext {w w' : World} (h : Ext w w') : ∀ {p : Option Addr} {t : Tr κ}, IsT kv nt w p t → IsT kv nt w' p t
  | _, .leaf, e => e
  | _, .node _ _ _ _, ⟨b, pl, pr, hp, hb, hl, hr⟩ => ⟨b, pl, pr, hp, h.heap hb, hl.ext h, hr.ext h⟩
/-- a tree stands as long as the blocks of its nodes' type do -/
theorem IsT.keep {w w' : World} (h : ∀ (k : Nat) (c : Array Value) (f : Nat × Nat), w.heap[k]? = some (.cells c nt f) → w'.heap[k]? = some (.cells c nt f)) : ∀ {p : Option Addr} {t : Tr κ}, IsT kv nt w p t → IsT kv nt w' p t
  | _, .leaf, e => e
  | _, .node _ _ _ _, ⟨b, pl, pr, hp, hb, hl, hr⟩ => ⟨b, pl, pr, hp, h _ _ _ hb, hl.keep h, hr.keep h⟩
theorem IsT.setCell {w : World} {b : Nat} {c : Array Value} {t : TypeId} {f : Nat × Nat} (hb : w.heap[b]? = some (.cells c t f)) (ht : t ≠ nt) (v : Value) {p : Option Addr} {u : Tr κ} (h : IsT kv nt w p u) : IsT kv nt (w.setCell ⟨b, 0, none⟩ v) p u :=
  h.keep fun k c' f' e => by
    have hne : k ≠ b := fun e' => by subst e'; rw [hb] at e; simp only [Option.some.injEq, Obj.cells.injEq] at e; exact ht e.2.1
    rw [Below.heap_setCell _ _ _ _ hne]; exact e
theorem IsT.below {B : Nat} {w w' : World} (hs : w.heap.size ≤ B) (h : Below B w w') {p : Option Addr} {t : Tr κ} (ht : IsT kv nt w p t) : IsT kv nt w' p t := ht.ext (h.mono hs)

/-! ### texts byte by byte -/
theorem bl_irrefl : ∀ x : List UInt8, Op.bytesLess x x = false
  | [] => rfl
  | a :: x => by simp [Op.bytesLess, bl_irrefl x]
theorem bl_asymm : ∀ x y : List UInt8, Op.bytesLess x y = true → Op.bytesLess y x = false
  | [], [], _ => rfl
  | [], _ :: _, _ => rfl
  | _ :: _, [], h => by simp [Op.bytesLess] at h
  | a :: x, b :: y, h => by
    simp only [Op.bytesLess, Bool.or_eq_true, decide_eq_true_eq, Bool.and_eq_true, beq_iff_eq] at h
    rcases h with h | ⟨h, h'⟩
    · have h1 : ¬ b < a := fun c => by have := UInt8.lt_iff_toNat_lt.1 h; have := UInt8.lt_iff_toNat_lt.1 c; omega
      have h2 : ¬ b = a := fun c => by subst c; exact absurd h (by simp)
      simp [Op.bytesLess, h1, h2]
    · subst h
      simp [Op.bytesLess, bl_asymm x y h']
theorem bl_trans : ∀ x y z : List UInt8, Op.bytesLess x y = true → Op.bytesLess y z = true → Op.bytesLess x z = true
  | _, [], _, h, _ => by cases ‹List UInt8› <;> simp [Op.bytesLess] at h
  | _, _ :: _, [], _, h => by simp [Op.bytesLess] at h
  | [], _ :: _, _ :: _, _, _ => rfl
  | a :: x, b :: y, c :: z, h, k => by
    simp only [Op.bytesLess, Bool.or_eq_true, decide_eq_true_eq, Bool.and_eq_true, beq_iff_eq] at h k ⊢
    rcases h with h | ⟨h, h'⟩
    · rcases k with k | ⟨k, k'⟩
      · exact .inl (UInt8.lt_iff_toNat_lt.2 (by have := UInt8.lt_iff_toNat_lt.1 h; have := UInt8.lt_iff_toNat_lt.1 k; omega))
      · subst k; exact .inl h
    · subst h
      rcases k with k | ⟨k, k'⟩
      · exact .inl k
      · exact .inr ⟨k, bl_trans x y z h' k'⟩
theorem bl_total : ∀ x y : List UInt8, Op.bytesLess x y = false → Op.bytesLess y x = false → x = y
  | [], [], _, _ => rfl
  | [], _ :: _, h, _ => by simp [Op.bytesLess] at h
  | _ :: _, [], _, h => by simp [Op.bytesLess] at h
  | a :: x, b :: y, h, k => by
    simp only [Op.bytesLess, Bool.or_eq_false_iff, decide_eq_false_iff_not, Bool.and_eq_false_iff, beq_eq_false_iff_ne] at h k
    have e : a = b := by
      have h1 := h.1; have k1 := k.1
      rw [UInt8.lt_iff_toNat_lt] at h1 k1
      exact UInt8.toNat_inj.1 (by omega)
    subst e
    rw [bl_total x y (h.2.resolve_left (by simp)) (k.2.resolve_left (by simp))]

theorem wrapI (x : Int) (h1 : -9223372036854775808 ≤ x) (h2 : x ≤ 9223372036854775807) : IntKind.i64.wrap x = x := IntWalk.i64_in x ⟨h1, h2⟩
/-- sums of sizes stay ints -/
theorem wrap_size {a b : Nat} (h : a + 1 + b ≤ 4611686018427387904) : IntKind.i64.wrap ((a : Int) + 1) = ((a + 1 : Nat) : Int) ∧ IntKind.i64.wrap (((a + 1 : Nat) : Int) + (b : Int)) = ((a + 1 + b : Nat) : Int) := by
  constructor
  · rw [wrapI _ (by omega) (by omega)]; omega
  · rw [wrapI _ (by omega) (by omega)]; omega
theorem wrap_height {a b : Nat} (ha : a ≤ 4611686018427387904) (hb : b ≤ 4611686018427387904) : IntKind.i64.wrap (max (a : Int) (b : Int) + 1) = ((max a b + 1 : Nat) : Int) := by
  rw [wrapI _ (by omega) (by omega)]; omega
theorem wrap_succ {a : Nat} (ha : a ≤ 4611686018427387904) : IntKind.i64.wrap ((a : Int) + 1) = ((a + 1 : Nat) : Int) := by
  rw [wrapI _ (by omega) (by omega)]; omega
end Go.Proofs.Ytdielcpjemkngaa
