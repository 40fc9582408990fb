import Derived.Test.YtiebkbmnepgacaaGreatDoorMb
import Derived.Laws.BytesString
/-
  Evaluator, part 7: quiet operations: numbers, texts, comparisons.
-/
namespace Go.Proofs.YtiebkbmnepgacaaGreatDoor.Ew
open Go Go.Proofs.YtiebkbmnepgacaaGreatDoor Go.RowKit
set_option linter.unusedVariables false

/-- an operand's value is what the evaluator has of it -/
def OpR (G : Nat) (ρ : RM) (e : Env) (V : Operand → Value) (x : Operand) : Prop := ∀ f a, cX G x = some f → f e = some a → Vr ρ a (V x)
/-- an operation yields a value that fits, and turns nothing -/
def Ans (P : Program) (V : Operand → Value) (o : Oper) (w : World) (ρ : RM) (r : AV) : Prop := ∃ c, (execOp V o).run P w = .ok (.value c) w ∧ Vr ρ r c

section
variable {P : Program} {G : Nat} {ρ : RM} {e : Env} {h : HP} {w : World} {V : Operand → Value} {o : Oper} {r : AV}

theorem run_und {t : TypeId} {d : TypeDesc} (hd : P.underlying t = some d) : (underlying t).run P w = .ok d w := by
  simp [underlying, program, Sem.run_bind, Sem.run, Result.andThen, hd, Sem.run_pure]
theorem run_inf {t : TypeId} {i : TypeInfo} (hi : P.info? t = some i) : (typeInfo t).run P w = .ok i w := by
  simp [typeInfo, program, Sem.run_bind, Sem.run, Result.andThen, hi, Sem.run_pure]
theorem szOf_some {t : TypeId} {n : Nat} (hs : szOf P t = some n) : ∃ i, P.info? t = some i ∧ i.size = n := by
  obtain ⟨i, h1, h2⟩ := ob_some hs
  rw [fN_eq] at h2
  exact ⟨i, h1, Option.some.inj h2⟩
theorem run_szOf {t : TypeId} {n : Nat} (hs : szOf P t = some n) : (sizeOf t).run P w = .ok n w := by
  obtain ⟨i, h1, h2⟩ := szOf_some hs
  simp [sizeOf, run_inf h1, Result.andThen, h2]
theorem isAg_some {t : TypeId} {b : Bool} (hs : isAg P t = some b) : ∃ d, P.underlying t = some d ∧ (match d with | .struct _ => true | .array _ _ => true | _ => false) = b := by
  obtain ⟨d, h1, h2⟩ := ob_some hs
  refine ⟨d, h1, ?_⟩
  cases d <;> exact Option.some.inj h2
theorem run_isAgg {t : TypeId} {b : Bool} (hs : isAg P t = some b) : (isAgg t).run P w = .ok b w := by
  obtain ⟨d, h1, h2⟩ := isAg_some hs
  cases d <;> simp [isAgg, Sem.run_bind, run_und h1, Result.andThen, Sem.run_pure] <;> simpa using h2

/-! ### two numbers -/
theorem q_int_some {k : IntKind} {f : IF} {x y : X} (hq : q_int k f x y e h = some r) : ∃ a b, x e = some (.int k a) ∧ y e = some (.int k b) ∧ f a b = some r := by
  obtain ⟨u, hu, hq⟩ := ob_some hq
  obtain ⟨k1, a, rfl, hq⟩ := AV.kInt_some hq (by simp)
  obtain ⟨v, hv, hq⟩ := ob_some hq
  obtain ⟨k2, b, rfl, hq⟩ := AV.kInt_some hq (by simp)
  obtain ⟨h1, hq⟩ := bf_some hq
  obtain ⟨h2, hq⟩ := bf_some hq
  rw [← eqk_eq h1] at hu; rw [← eqk_eq h2] at hv
  exact ⟨a, b, hu, hv, hq⟩
theorem q_sh_some {k : IntKind} {f : IF} {x y : X} (hq : q_sh k f x y e h = some r) : ∃ k' a b, x e = some (.int k a) ∧ y e = some (.int k' b) ∧ f a b = some r := by
  obtain ⟨u, hu, hq⟩ := ob_some hq
  obtain ⟨k1, a, rfl, hq⟩ := AV.kInt_some hq (by simp)
  obtain ⟨v, hv, hq⟩ := ob_some hq
  obtain ⟨k2, b, rfl, hq⟩ := AV.kInt_some hq (by simp)
  obtain ⟨h1, hq⟩ := bf_some hq
  rw [← eqk_eq h1] at hu
  exact ⟨k2, a, b, hu, hv, hq⟩
theorem run_bin {op : BinOp} {t ty : TypeId} {x y : Operand} {a b v : Value} (ho : o.op = .binOp op t x y ty) (hx : V x = a) (hy : V y = b) (hp : plainV a = true) (hb : (binOp op t a b).run P w = .ok v w) :
    (execOp V o).run P w = .ok (.value v) w := by
  have hg := eqGuard_plain (P := P) op t x y b w hp
  simp only [execOp, ho, hx, hy, Sem.run_bind, hg, Result.andThen, hb, Sem.run_pure]
/-- a binary operation on two numbers of a kind -/
def BinI (op : BinOp) (k : IntKind) (f : IF) : Prop := ∀ a b r, f a b = some r → ∃ v, (∀ (P : Program) (t : TypeId) (w : World), (binOp op t (.int k a) (.int k b)).run P w = .ok v w) ∧ ∀ ρ, Vr ρ r v
theorem BinI.ans {op : BinOp} {k : IntKind} {f : IF} (hb : BinI op k f) {t ty : TypeId} {x y : Operand} {fx fy : X} (ho : o.op = .binOp op t x y ty) (hX : OpR G ρ e V x) (hY : OpR G ρ e V y) (hx : cX G x = some fx) (hy : cX G y = some fy)
    (hq : q_int k f fx fy e h = some r) : Ans P V o w ρ r := by
  obtain ⟨a, b, h1, h2, h3⟩ := q_int_some hq
  obtain ⟨v, h4, h5⟩ := hb a b r h3
  exact ⟨v, run_bin ho (hX _ _ hx h1) (hY _ _ hy h2) rfl (h4 _ _ _), h5 ρ⟩
theorem bi_add (k : IntKind) : BinI .add k (i_add k (halfOf k) (modOf k)) := fun a b r hr => by
  rw [bI_some hr, wrapI_eq]
  exact ⟨_, fun P t w => by simp [binOp, Op.intArith, Sem.run_pure], fun ρ => rfl⟩
theorem bi_sub (k : IntKind) : BinI .sub k (i_sub k (halfOf k) (modOf k)) := fun a b r hr => by
  rw [bI_some hr, wrapI_eq, show Int.sub a b = a - b from rfl]
  exact ⟨_, fun P t w => by simp [binOp, Op.intArith, Sem.run_pure], fun ρ => rfl⟩
theorem bi_mul (k : IntKind) : BinI .mul k (i_mul k (halfOf k) (modOf k)) := fun a b r hr => by
  rw [bI_some hr, wrapI_eq]
  exact ⟨_, fun P t w => by simp [binOp, Op.intArith, Sem.run_pure], fun ρ => rfl⟩
theorem nn2 {F : Nat → Nat → Option AV} {a b : Int} {r : AV} (hr : (nn a none fun a => nn b none fun b => F a b) = some r) : ∃ m n : Nat, a = (m : Int) ∧ b = (n : Int) ∧ F m n = some r := by
  obtain ⟨m, hm, h1⟩ := nn_some hr
  obtain ⟨n, hn, h2⟩ := nn_some h1
  exact ⟨m, n, hm, hn, h2⟩
theorem bi_quo (k : IntKind) : BinI .quo k (i_quo k (halfOf k) (modOf k)) := fun a b r hr => by
  obtain ⟨m, n, rfl, rfl, h'⟩ := nn2 hr
  obtain ⟨hb, h''⟩ := bf_some h'
  clear hr h'
  have hb := Nat.le_of_ble_eq_true hb
  rw [fN_eq] at h''
  rw [bI_some h'', wrapI_eq]
  have hne : ¬ ((n : Int) = 0) := by omega
  exact ⟨_, fun P t w => by simp [binOp, Op.intDiv, Sem.run_pure, show n ≠ 0 by omega]; rfl, fun ρ => rfl⟩
theorem bi_rem (k : IntKind) : BinI .rem k (i_rem k) := fun a b r hr => by
  obtain ⟨m, n, rfl, rfl, h'⟩ := nn2 hr
  obtain ⟨hb, h''⟩ := bf_some h'
  clear hr h'
  have hb := Nat.le_of_ble_eq_true hb
  rw [fN_eq] at h''
  cases h''
  exact ⟨_, fun P t w => by simp [binOp, Op.intDiv, Sem.run_pure, show n ≠ 0 by omega]; rfl, fun ρ => rfl⟩
theorem bit_back {k : IntKind} {a b : Nat} {g : Nat → Nat → Nat} {r : AV} (hr : i_bit g k (halfOf k) (a : Int) (b : Int) = some r) : a < halfOf k ∧ b < halfOf k ∧ r = .int k (g a b : Nat) := by
  obtain ⟨a', ha, hr1⟩ := nn_some hr
  obtain ⟨b', hb, hr2⟩ := nn_some hr1
  obtain ⟨h1, hr3⟩ := bf_some hr2
  obtain ⟨h2, hr4⟩ := bf_some hr3
  clear hr hr1 hr2 hr3
  have h1 := Nat.le_of_ble_eq_true h1
  have h2 := Nat.le_of_ble_eq_true h2
  rw [fN_eq] at hr4
  have ea : a' = a := by omega
  have eb : b' = b := by omega
  subst ea; subst eb
  exact ⟨by omega, by omega, (Option.some.inj hr4).symm⟩
theorem half_mod {k : IntKind} {a : Nat} (h : a < halfOf k) : a % 2 ^ k.bits = a := Nat.mod_eq_of_lt (Nat.lt_of_lt_of_le h (half_le k))
theorem bi_and (k : IntKind) : BinI .and k (i_bit Nat.land k (halfOf k)) := fun a b r hr => by
  obtain ⟨m, n, rfl, rfl, h'⟩ := nn2 hr
  clear h'
  obtain ⟨h1, h2, rfl⟩ := bit_back hr
  have h3 : m &&& n < halfOf k := Nat.lt_of_le_of_lt Nat.and_le_left h1
  refine ⟨.int k ((m &&& n : Nat) : Int), fun P t w => ?_, fun ρ => rfl⟩
  have := wrap_lt h3
  simp [binOp, Op.intBits, Sem.run_pure, half_mod h1, half_mod h2, BitVec.toNat_and, this]
theorem bi_or (k : IntKind) : BinI .or k (i_bit Nat.lor k (halfOf k)) := fun a b r hr => by
  obtain ⟨m, n, rfl, rfl, h'⟩ := nn2 hr
  clear h'
  obtain ⟨h1, h2, rfl⟩ := bit_back hr
  have h3 : m ||| n < halfOf k := by
    obtain ⟨j, hj⟩ := half_pow k
    rw [hj] at h1 h2 ⊢; exact Nat.or_lt_two_pow h1 h2
  refine ⟨.int k ((m ||| n : Nat) : Int), fun P t w => ?_, fun ρ => rfl⟩
  have := wrap_lt h3
  simp [binOp, Op.intBits, Sem.run_pure, half_mod h1, half_mod h2, BitVec.toNat_or, this]
theorem bi_xor (k : IntKind) : BinI .xor k (i_bit Nat.xor k (halfOf k)) := fun a b r hr => by
  obtain ⟨m, n, rfl, rfl, h'⟩ := nn2 hr
  clear h'
  obtain ⟨h1, h2, rfl⟩ := bit_back hr
  have h3 : m ^^^ n < halfOf k := by
    obtain ⟨j, hj⟩ := half_pow k
    rw [hj] at h1 h2 ⊢; exact Nat.xor_lt_two_pow h1 h2
  refine ⟨.int k ((m ^^^ n : Nat) : Int), fun P t w => ?_, fun ρ => rfl⟩
  have := wrap_lt h3
  simp [binOp, Op.intBits, Sem.run_pure, half_mod h1, half_mod h2, BitVec.toNat_xor, this]
theorem bi_cmp {op : BinOp} {k : IntKind} {f : IF} {c : Int → Int → Bool} (hf : ∀ a b, f a b = some (.bool (c a b))) (hb : ∀ a b (P : Program) (t : TypeId) (w : World), (binOp op t (.int k a) (.int k b)).run P w = .ok (.bool (c a b)) w) : BinI op k f := fun a b r hr => by
  rw [hf] at hr; cases hr
  exact ⟨_, hb a b, fun ρ => rfl⟩
theorem bi_eql (k : IntKind) : BinI .eql k i_eql := bi_cmp (c := fun a b => decide (a = b)) (fun a b => by unfold i_eql; rw [fB_eq, eqI_eq]) fun a b P t w => by
  have : (a == b) = decide (a = b) := by rw [Bool.eq_iff_iff]; simp
  simp [binOp, Op.intCmp, Sem.run_pure, this]
theorem bi_neq (k : IntKind) : BinI .neq k i_neq := bi_cmp (c := fun a b => !decide (a = b)) (fun a b => by unfold i_neq; rw [fB_eq, eqI_eq]) fun a b P t w => by
  have : (a != b) = !decide (a = b) := by rw [Bool.eq_iff_iff]; simp
  simp [binOp, Op.intCmp, Sem.run_pure, this]
theorem bi_lss (k : IntKind) : BinI .lss k i_lss := bi_cmp (c := fun a b => decide (a < b)) (fun a b => by unfold i_lss; rw [fB_eq, ltI_eq]) fun a b P t w => by simp [binOp, Op.intCmp, Sem.run_pure]
theorem not_lt_dec (a b : Int) : (!decide (b < a)) = decide (a ≤ b) := by rw [Bool.eq_iff_iff]; simp
theorem bi_leq (k : IntKind) : BinI .leq k i_leq := bi_cmp (c := fun a b => decide (a ≤ b)) (fun a b => by unfold i_leq; rw [fB_eq, ltI_eq, not_lt_dec]) fun a b P t w => by simp [binOp, Op.intCmp, Sem.run_pure]
theorem bi_gtr (k : IntKind) : BinI .gtr k i_gtr := bi_cmp (c := fun a b => decide (b < a)) (fun a b => by unfold i_gtr; rw [fB_eq, ltI_eq]) fun a b P t w => by simp [binOp, Op.intCmp, Sem.run_pure]
theorem bi_geq (k : IntKind) : BinI .geq k i_geq := bi_cmp (c := fun a b => decide (b ≤ a)) (fun a b => by unfold i_geq; rw [fB_eq, ltI_eq, not_lt_dec]) fun a b P t w => by simp [binOp, Op.intCmp, Sem.run_pure]

/-! ### shifts -/
def BinS (op : BinOp) (k : IntKind) (f : IF) : Prop := ∀ k' a b r, f a b = some r → ∃ v, (∀ (P : Program) (t : TypeId) (w : World), (binOp op t (.int k a) (.int k' b)).run P w = .ok v w) ∧ ∀ ρ, Vr ρ r v
theorem BinS.ans {op : BinOp} {k : IntKind} {f : IF} (hb : BinS op k f) {t ty : TypeId} {x y : Operand} {fx fy : X} (ho : o.op = .binOp op t x y ty) (hX : OpR G ρ e V x) (hY : OpR G ρ e V y) (hx : cX G x = some fx) (hy : cX G y = some fy)
    (hq : q_sh k f fx fy e h = some r) : Ans P V o w ρ r := by
  obtain ⟨k', a, b, h1, h2, h3⟩ := q_sh_some hq
  obtain ⟨v, h4, h5⟩ := hb k' a b r h3
  exact ⟨v, run_bin ho (hX _ _ hx h1) (hY _ _ hy h2) rfl (h4 _ _ _), h5 ρ⟩
theorem bs_shl (k : IntKind) : BinS .shl k (i_shl k (bitsK k) (halfOf k) (modOf k)) := fun k' a b r hr => by
  obtain ⟨m, n, rfl, rfl, h'⟩ := nn2 hr
  obtain ⟨hb, h''⟩ := bf_some h'
  clear hr h'
  have hb := Nat.le_of_ble_eq_true hb
  rw [bitsK_eq] at hb
  rw [fN_eq] at h''
  rw [bI_some h'', wrapI_eq]
  refine ⟨.int k (k.wrap ((m * 2 ^ n : Nat) : Int)), fun P t w => ?_, fun ρ => rfl⟩
  have h1 : ¬ ((n : Int) < 0) := by omega
  simp [binOp, Op.shift, h1, Sem.run_pure, Nat.min_eq_left hb]
theorem bs_shr (k : IntKind) : BinS .shr k (i_shr k (bitsK k)) := fun k' a b r hr => by
  obtain ⟨m, n, rfl, rfl, h'⟩ := nn2 hr
  obtain ⟨hb, h''⟩ := bf_some h'
  clear hr h'
  have hb := Nat.le_of_ble_eq_true hb
  rw [bitsK_eq] at hb
  rw [fN_eq] at h''
  cases h''
  refine ⟨.int k ((m / 2 ^ n : Nat) : Int), fun P t w => ?_, fun ρ => rfl⟩
  have h1 : ¬ ((n : Int) < 0) := by omega
  have h2 : Int.fdiv (m : Int) (2 ^ n) = ((m / 2 ^ n : Nat) : Int) := by
    rw [Int.fdiv_eq_ediv_of_nonneg _ (by exact Int.le_of_lt (Int.pow_pos (by decide)))]
    simp
  simp [binOp, Op.shift, h1, Sem.run_pure, Nat.min_eq_left hb, h2]

/-- what an operation on two numbers is turned to fits -/
theorem cInt_ans {op : BinOp} {k : IntKind} {t ty : TypeId} {x y : Operand} {fx fy : X} {f : Q} {ld : Bool} (ho : o.op = .binOp op t x y ty) (hX : OpR G ρ e V x) (hY : OpR G ρ e V y) (hx : cX G x = some fx) (hy : cX G y = some fy)
    (hc : cInt op k fx fy = some (.q f ld)) (hq : f e h = some r) : Ans P V o w ρ r := by
  unfold cInt at hc
  rw [fN_eq, fN_eq, fN_eq] at hc
  cases op <;> simp only [Option.some.injEq, OpK.q.injEq, reduceCtorEq] at hc
  all_goals obtain ⟨rfl, rfl⟩ := hc
  · exact (bi_add k).ans ho hX hY hx hy hq
  · exact (bi_sub k).ans ho hX hY hx hy hq
  · exact (bi_mul k).ans ho hX hY hx hy hq
  · exact (bi_quo k).ans ho hX hY hx hy hq
  · exact (bi_rem k).ans ho hX hY hx hy hq
  all_goals first
    | exact (bi_and k).ans ho hX hY hx hy hq
    | exact (bi_or k).ans ho hX hY hx hy hq
    | exact (bi_xor k).ans ho hX hY hx hy hq
    | exact (bs_shl k).ans ho hX hY hx hy hq
    | exact (bs_shr k).ans ho hX hY hx hy hq
    | exact (bi_eql k).ans ho hX hY hx hy hq
    | exact (bi_neq k).ans ho hX hY hx hy hq
    | exact (bi_lss k).ans ho hX hY hx hy hq
    | exact (bi_leq k).ans ho hX hY hx hy hq
    | exact (bi_gtr k).ans ho hX hY hx hy hq
    | exact (bi_geq k).ans ho hX hY hx hy hq
end
end Go.Proofs.YtiebkbmnepgacaaGreatDoor.Ew
/-
  Evaluator, part 8: quiet operations: texts, truth values, nil; what reads no memory.
-/
namespace Go.Proofs.YtiebkbmnepgacaaGreatDoor.Ew
open Go Go.Proofs.YtiebkbmnepgacaaGreatDoor Go.RowKit
set_option linter.unusedVariables false

section
variable {P : Program} {G : Nat} {ρ : RM} {e : Env} {h : HP} {w : World} {V : Operand → Value} {o : Oper} {r : AV}

/-! ### texts -/
theorem q_str_some {f : SF} {x y : X} (hq : q_str f x y e h = some r) : ∃ a n b m, x e = some (.str a n) ∧ y e = some (.str b m) ∧ f a n b m = some r := by
  obtain ⟨u, hu, hq⟩ := ob_some hq
  obtain ⟨a, n, rfl, hq⟩ := AV.kStr_some hq (by simp)
  obtain ⟨v, hv, hq⟩ := ob_some hq
  obtain ⟨b, m, rfl, hq⟩ := AV.kStr_some hq (by simp)
  exact ⟨a, n, b, m, hu, hv, hq⟩
def BinT (op : BinOp) (f : SF) : Prop := ∀ (a b : List Nat) r, (∀ c ∈ a, c < 256) → (∀ c ∈ b, c < 256) → f a a.length b b.length = some r → ∃ v, (∀ (P : Program) (t : TypeId) (w : World), (binOp op t (.string (tx a)) (.string (tx b))).run P w = .ok v w) ∧ ∀ ρ, Vr ρ r v
theorem BinT.ans {op : BinOp} {f : SF} (hb : BinT op f) {t ty : TypeId} {x y : Operand} {fx fy : X} (ho : o.op = .binOp op t x y ty) (hX : OpR G ρ e V x) (hY : OpR G ρ e V y) (hx : cX G x = some fx) (hy : cX G y = some fy)
    (hq : q_str f fx fy e h = some r) : Ans P V o w ρ r := by
  obtain ⟨a, n, b, m, h1, h2, h3⟩ := q_str_some hq
  obtain ⟨hx1, hx2, hx3⟩ := hX _ _ hx h1
  obtain ⟨hy1, hy2, hy3⟩ := hY _ _ hy h2
  subst hx2; subst hy2
  obtain ⟨v, h4, h5⟩ := hb a b r hx3 hy3 h3
  exact ⟨v, run_bin ho hx1 hy1 rfl (h4 _ _ _), h5 ρ⟩
theorem bt_add : BinT .add s_add := fun a b r ha hb hr => by
  obtain ⟨h1, h2⟩ := bf_some hr
  have h1 := Nat.le_of_ble_eq_true h1
  have h1 : a.length + b.length ≤ 1000000000 := h1
  rw [appK_eq, fN_eq] at h2
  cases h2
  refine ⟨.string (tx (a ++ b)), fun P t w => ?_, fun ρ => ⟨rfl, by simp, fun c hc => ?_⟩⟩
  · simp only [binOp]
    rw [run_string_add_sum w (tx a) (tx b) (by rw [tx_size, tx_size]; omega), tx_append]
  · rcases List.mem_append.1 hc with hc | hc
    · exact ha c hc
    · exact hb c hc
theorem bt_eql : BinT .eql s_eql := fun a b r ha hb hr => by
  unfold s_eql at hr
  rw [fB_eq, eqS_eq a b ha hb] at hr; cases hr
  exact ⟨_, fun P t w => by simp only [binOp, Op.stringOp, Sem.run_pure, tx_toList], fun ρ => rfl⟩
theorem bt_neq : BinT .neq s_neq := fun a b r ha hb hr => by
  unfold s_neq at hr
  rw [fB_eq, eqS_eq a b ha hb] at hr; cases hr
  exact ⟨_, fun P t w => by simp only [binOp, Op.stringOp, Sem.run_pure, tx_toList], fun ρ => rfl⟩
theorem bt_lss : BinT .lss s_lss := fun a b r ha hb hr => by
  unfold s_lss at hr
  rw [fB_eq, ltS_eq a b ha hb] at hr; cases hr
  exact ⟨_, fun P t w => by simp only [binOp, Op.stringOp, Sem.run_pure, tx_toList], fun ρ => rfl⟩
theorem bt_geq : BinT .geq s_geq := fun a b r ha hb hr => by
  unfold s_geq at hr
  rw [fB_eq, ltS_eq a b ha hb] at hr; cases hr
  exact ⟨_, fun P t w => by simp only [binOp, Op.stringOp, Sem.run_pure, tx_toList], fun ρ => rfl⟩
theorem bt_leq : BinT .leq s_leq := fun a b r ha hb hr => by
  unfold s_leq at hr
  rw [fB_eq, fB_eq, eqS_eq a b ha hb, ltS_eq a b ha hb] at hr
  refine ⟨.bool (Op.bytesLess (a.map UInt8.ofNat) (b.map UInt8.ofNat) || (a.map UInt8.ofNat == b.map UInt8.ofNat)), fun P t w => by simp only [binOp, Op.stringOp, Sem.run_pure, tx_toList], fun ρ => ?_⟩
  cases hl : Op.bytesLess (a.map UInt8.ofNat) (b.map UInt8.ofNat) with
  | true => rw [hl] at hr; cases hr; rfl
  | false => rw [hl] at hr; cases hr; simp only [Bool.false_or]; rfl
theorem bt_gtr : BinT .gtr s_gtr := fun a b r ha hb hr => by
  unfold s_gtr at hr
  rw [fB_eq, fB_eq, eqS_eq a b ha hb, ltS_eq a b ha hb] at hr
  refine ⟨.bool (!(Op.bytesLess (a.map UInt8.ofNat) (b.map UInt8.ofNat) || (a.map UInt8.ofNat == b.map UInt8.ofNat))), fun P t w => by simp only [binOp, Op.stringOp, Sem.run_pure, tx_toList], fun ρ => ?_⟩
  cases hl : Op.bytesLess (a.map UInt8.ofNat) (b.map UInt8.ofNat) with
  | true => rw [hl] at hr; cases hr; rfl
  | false => rw [hl] at hr; cases hr; simp only [Bool.false_or]; rfl
theorem cStr_ans {op : BinOp} {t ty : TypeId} {x y : Operand} {fx fy : X} {f : Q} {ld : Bool} (ho : o.op = .binOp op t x y ty) (hX : OpR G ρ e V x) (hY : OpR G ρ e V y) (hx : cX G x = some fx) (hy : cX G y = some fy)
    (hc : cStr op fx fy = some (.q f ld)) (hq : f e h = some r) : Ans P V o w ρ r := by
  unfold cStr at hc
  cases op <;> simp only [Option.some.injEq, OpK.q.injEq, reduceCtorEq] at hc
  all_goals obtain ⟨rfl, rfl⟩ := hc
  all_goals first
    | exact bt_add.ans ho hX hY hx hy hq
    | exact bt_eql.ans ho hX hY hx hy hq
    | exact bt_neq.ans ho hX hY hx hy hq
    | exact bt_lss.ans ho hX hY hx hy hq
    | exact bt_leq.ans ho hX hY hx hy hq
    | exact bt_gtr.ans ho hX hY hx hy hq
    | exact bt_geq.ans ho hX hY hx hy hq

/-! ### equality by type -/
/-- of two values, not both numbers, texts .. -/
theorem run_eqV {op : BinOp} {neg : Bool} (hop : (op = .eql ∧ neg = false) ∨ (op = .neq ∧ neg = true)) {t ty : TypeId} {x y : Operand} {a b : Value} {c : Bool} (ho : o.op = .binOp op t x y ty) (hx : V x = a) (hy : V y = b)
    (hg : (eqGuard op t x y a b).run P w = .ok () w) (hs : ∀ op', (op' = .eql → binOp op' t a b = (do pure (.bool (← Op.equal t a b)))) ∧ (op' = .neq → binOp op' t a b = (do pure (.bool (!(← Op.equal t a b))))))
    (he : (Op.equal t a b).run P w = .ok c w) : (execOp V o).run P w = .ok (.value (.bool (eqB neg (!c)))) w := by
  have hb : (binOp op t a b).run P w = .ok (.bool (eqB neg (!c))) w := by
    rcases hop with ⟨rfl, rfl⟩ | ⟨rfl, rfl⟩
    · rw [(hs .eql).1 rfl]; simp [he, Result.andThen, eqB]
    · rw [(hs .neq).2 rfl]; simp [he, Result.andThen, eqB]
  simp only [execOp, ho, hx, hy, Sem.run_bind, hg, Result.andThen, hb, Sem.run_pure]
theorem cBool_ans {op : BinOp} {neg : Bool} (hop : (op = .eql ∧ neg = false) ∨ (op = .neq ∧ neg = true)) {t ty : TypeId} {x y : Operand} {fx fy : X} (ho : o.op = .binOp op t x y ty) (ht : P.underlying t = some .bool) (hX : OpR G ρ e V x) (hY : OpR G ρ e V y) (hx : cX G x = some fx) (hy : cX G y = some fy)
    (hq : q_bb neg fx fy e h = some r) : Ans P V o w ρ r := by
  obtain ⟨u, hu, hq⟩ := ob_some hq
  obtain ⟨a, rfl, hq⟩ := AV.kBool_some hq (by simp)
  obtain ⟨v, hv, hq⟩ := ob_some hq
  obtain ⟨b, rfl, hq'⟩ := AV.kBool_some hq (by simp)
  rw [fB_eq] at hq'
  have h1 : V x = .bool a := hX _ _ hx hu
  have h2 : V y = .bool b := hY _ _ hy hv
  have he : (Op.equal t (.bool a) (.bool b)).run P w = .ok (a == b) w := run_equal_succ fun k => by
    simp [Op.equalIn, Sem.run_bind, run_und ht, Sem.run_pure, Result.andThen]
  refine ⟨_, run_eqV hop ho h1 h2 (eqGuard_plain op t x y _ w rfl) (fun op' => ⟨fun e' => by subst e'; rfl, fun e' => by subst e'; rfl⟩) he, ?_⟩
  cases hq'
  have : eqB a b = (a == b) := by cases a <;> cases b <;> rfl
  rw [this]; rfl

def isConstO : Operand → Bool
  | .const _ => true
  | _ => false
theorem guard_nil {op : BinOp} {t : TypeId} {x y : Operand} (hc : isConstO x = true ∨ isConstO y = true) : (eqGuard op t x y .nilIface .nilIface).run P w = .ok () w := by
  cases op <;> first
    | rfl
    | (rcases hc with hc | hc
       · cases x <;> simp [isConstO] at hc; rfl
       · cases y <;> simp [isConstO] at hc; cases x <;> rfl)

/-- held against nil, either way round -/
theorem cNil_ans {nc : Operand → Bool} {nf : AV → Option Bool} {nil : Value} {op : BinOp} {neg : Bool} {f : Q} {ld : Bool} (hop : (op = .eql ∧ neg = false) ∨ (op = .neq ∧ neg = true)) {t ty : TypeId} {x y : Operand}
    (hnc : ∀ z, nc z = true → z = .const nil) (hV : ∀ v, V (.const v) = v)
    (hnf : ∀ a b v, nf a = some b → Vr ρ a v → (Op.equal t v nil).run P w = .ok b w ∧ (Op.equal t nil v).run P w = .ok b w ∧
      (∀ z, (eqGuard op t z (.const nil) v nil).run P w = .ok () w ∧ (eqGuard op t (.const nil) z nil v).run P w = .ok () w) ∧
      (∀ op', (op' = .eql → binOp op' t v nil = (do pure (.bool (← Op.equal t v nil)))) ∧ (op' = .neq → binOp op' t v nil = (do pure (.bool (!(← Op.equal t v nil)))))) ∧
      (∀ op', (op' = .eql → binOp op' t nil v = (do pure (.bool (← Op.equal t nil v)))) ∧ (op' = .neq → binOp op' t nil v = (do pure (.bool (!(← Op.equal t nil v)))))))
    (ho : o.op = .binOp op t x y ty) (hX : OpR G ρ e V x) (hY : OpR G ρ e V y)
    (hc : cNil G nc nf neg x y = some (.q f ld)) (hq : f e h = some r) : Ans P V o w ρ r := by
  have fin : ∀ (z : Operand) (fz : X), OpR G ρ e V z → cX G z = some fz → q_nil nf neg fz e h = some r → ∃ b, (∃ a, nf a = some b ∧ Vr ρ a (V z)) ∧ r = .bool (eqB neg (!b)) := fun z fz hZ hz hq => by
    obtain ⟨a, ha, hq⟩ := ob_some hq
    cases hb : nf a with
    | none => rw [hb] at hq; cases hq
    | some b => rw [hb] at hq; cases hq; exact ⟨b, ⟨a, hb, hZ _ _ hz ha⟩, rfl⟩
  unfold cNil at hc
  rcases bf_or hc with ⟨hy, hc⟩ | ⟨_, hc⟩
  · obtain ⟨fx, hx, hc⟩ := ob_some hc
    cases hc
    obtain ⟨b, ⟨a, h1, h2⟩, rfl⟩ := fin x fx hX hx hq
    obtain ⟨h3, _, h4, h5, _⟩ := hnf a b _ h1 h2
    have ey := hnc y hy
    subst ey
    exact ⟨_, run_eqV hop ho rfl (hV nil) (h4 x).1 h5 h3, rfl⟩
  · obtain ⟨hx, hc⟩ := bf_some hc
    obtain ⟨fy, hy, hc⟩ := ob_some hc
    cases hc
    obtain ⟨b, ⟨a, h1, h2⟩, rfl⟩ := fin y fy hY hy hq
    obtain ⟨_, h3, h4, _, h5⟩ := hnf a b _ h1 h2
    have ex := hnc x hx
    subst ex
    exact ⟨_, run_eqV hop ho (hV nil) rfl (h4 y).2 h5 h3, rfl⟩

theorem n_ptr_some {a : AV} {b : Bool} {v : Value} (hn : n_ptr a = some b) (hv : Vr ρ a v) : ∃ p, v = .pointer p ∧ b = p.isNone := by
  unfold n_ptr at hn
  cases a <;> first | (cases hn; done) | skip
  · obtain ⟨c, k, _, rfl⟩ := hv; cases hn; exact ⟨_, rfl, rfl⟩
  · cases hn; exact ⟨none, hv, rfl⟩
theorem n_sl_some {a : AV} {b : Bool} {v : Value} (hn : n_sl a = some b) (hv : Vr ρ a v) : ∃ p n q, v = .slice p n q ∧ b = p.isNone := by
  unfold n_sl at hn
  cases a <;> first | (cases hn; done) | skip
  · obtain ⟨c, k, q', _, rfl, _⟩ := hv; cases hn; exact ⟨_, _, _, rfl, rfl⟩
  · obtain ⟨p, q, rfl⟩ := hv; cases hn; exact ⟨_, _, _, rfl, rfl⟩
  · cases hn; exact ⟨none, 0, 0, hv, rfl⟩
theorem n_fn_some {a : AV} {b : Bool} {v : Value} (hn : n_fn a = some b) (hv : Vr ρ a v) : (v = .nilFunc ∧ b = true) ∨ ∃ f x y, v = .func f x y ∧ b = false := by
  unfold n_fn at hn
  cases a <;> first | (cases hn; done) | skip
  · obtain ⟨x, y, rfl, _⟩ := hv; cases hn; exact .inr ⟨_, _, _, rfl, rfl⟩
  · obtain ⟨c, k, _, rfl⟩ := hv; cases hn; exact .inr ⟨_, _, _, rfl, rfl⟩
  · cases hn; exact .inl ⟨hv, rfl⟩
theorem n_if_some {a : AV} {b : Bool} {v : Value} (hn : n_if a = some b) (hv : Vr ρ a v) : (v = .nilIface ∧ b = true) ∨ ∃ t x, v = .iface t x ∧ b = false := by
  unfold n_if at hn
  cases a <;> first | (cases hn; done) | skip
  · obtain ⟨x, rfl, _⟩ := hv; cases hn; exact .inr ⟨_, _, rfl, rfl⟩
  · cases hn; exact .inl ⟨hv, rfl⟩

theorem cBin_ans {op : BinOp} {t ty : TypeId} {x y : Operand} {f : Q} {ld : Bool} (hV : ∀ v, V (.const v) = v) (ho : o.op = .binOp op t x y ty) (hX : OpR G ρ e V x) (hY : OpR G ρ e V y)
    (hc : cBin P G op t x y = some (.q f ld)) (hq : f e h = some r) : Ans P V o w ρ r := by
  obtain ⟨d, hd, hc⟩ := ob_some hc
  cases d with
  | int k =>
    obtain ⟨fx, hx, hc⟩ := ob_some hc
    obtain ⟨fy, hy, hc⟩ := ob_some hc
    exact cInt_ans ho hX hY hx hy hc hq
  | string =>
    obtain ⟨fx, hx, hc⟩ := ob_some hc
    obtain ⟨fy, hy, hc⟩ := ob_some hc
    exact cStr_ans ho hX hY hx hy hc hq
  | bool =>
    obtain ⟨fx, hx, hc⟩ := ob_some hc
    obtain ⟨fy, hy, hc⟩ := ob_some hc
    cases op <;> first | (cases hc; done) | skip
    all_goals
      simp only [Option.some.injEq, OpK.q.injEq] at hc
      obtain ⟨rfl, rfl⟩ := hc
    · exact cBool_ans (.inl ⟨rfl, rfl⟩) ho hd hX hY hx hy hq
    · exact cBool_ans (.inr ⟨rfl, rfl⟩) ho hd hX hY hx hy hq
  | pointer el =>
    have key : ∀ (op' : BinOp) (neg : Bool), ((op' = .eql ∧ neg = false) ∨ (op' = .neq ∧ neg = true)) → o.op = .binOp op' t x y ty → cNil G isNilP n_ptr neg x y = some (.q f ld) → Ans P V o w ρ r := fun op' neg hop ho hc =>
      cNil_ans (nil := .pointer none) hop (fun z hz => by unfold isNilP at hz; split at hz <;> first | rfl | cases hz) hV (fun a b v hb hv => by
        obtain ⟨p, rfl, rfl⟩ := n_ptr_some hb hv
        refine ⟨run_equal_succ fun k => ?_, run_equal_succ fun k => ?_, fun z => ⟨eqGuard_plain _ _ _ _ _ _ rfl, eqGuard_plain _ _ _ _ _ _ rfl⟩, fun op' => ⟨fun e' => by subst e'; rfl, fun e' => by subst e'; rfl⟩, fun op' => ⟨fun e' => by subst e'; rfl, fun e' => by subst e'; rfl⟩⟩
        · cases p <;> simp [Op.equalIn, Sem.run_bind, run_und hd, Sem.run_pure, Result.andThen]
        · simp [Op.equalIn, Sem.run_bind, run_und hd, Sem.run_pure, Result.andThen]) ho hX hY hc hq
    cases op <;> first | (cases hc; done) | exact key _ _ (.inl ⟨rfl, rfl⟩) ho hc | exact key _ _ (.inr ⟨rfl, rfl⟩) ho hc
  | slice el =>
    have key : ∀ (op' : BinOp) (neg : Bool), ((op' = .eql ∧ neg = false) ∨ (op' = .neq ∧ neg = true)) → o.op = .binOp op' t x y ty → cNil G isNilS n_sl neg x y = some (.q f ld) → Ans P V o w ρ r := fun op' neg hop ho hc =>
      cNil_ans (nil := .slice none 0 0) hop (fun z hz => by unfold isNilS at hz; split at hz <;> first | rfl | cases hz) hV (fun a b v hb hv => by
        obtain ⟨p, n, q, rfl, rfl⟩ := n_sl_some hb hv
        refine ⟨run_equal_succ fun k => ?_, run_equal_succ fun k => ?_, fun z => ⟨eqGuard_plain _ _ _ _ _ _ rfl, eqGuard_plain _ _ _ _ _ _ rfl⟩, fun op' => ⟨fun e' => by subst e'; rfl, fun e' => by subst e'; rfl⟩, fun op' => ⟨fun e' => by subst e'; rfl, fun e' => by subst e'; rfl⟩⟩
        · cases p <;> simp [Op.equalIn, Sem.run_bind, run_und hd, Sem.run_pure, Result.andThen]
        · simp [Op.equalIn, Sem.run_bind, run_und hd, Sem.run_pure, Result.andThen]) ho hX hY hc hq
    cases op <;> first | (cases hc; done) | exact key _ _ (.inl ⟨rfl, rfl⟩) ho hc | exact key _ _ (.inr ⟨rfl, rfl⟩) ho hc
  | func ps rs va =>
    have key : ∀ (op' : BinOp) (neg : Bool), ((op' = .eql ∧ neg = false) ∨ (op' = .neq ∧ neg = true)) → o.op = .binOp op' t x y ty → cNil G isNilF n_fn neg x y = some (.q f ld) → Ans P V o w ρ r := fun op' neg hop ho hc =>
      cNil_ans (nil := .nilFunc) hop (fun z hz => by unfold isNilF at hz; split at hz <;> first | rfl | cases hz) hV (fun a b v hb hv => by
        rcases n_fn_some hb hv with ⟨rfl, rfl⟩ | ⟨f', x', y', rfl, rfl⟩
        all_goals
          refine ⟨run_equal_succ fun k => ?_, run_equal_succ fun k => ?_, fun z => ⟨eqGuard_plain _ _ _ _ _ _ rfl, eqGuard_plain _ _ _ _ _ _ rfl⟩, fun op' => ⟨fun e' => by subst e'; rfl, fun e' => by subst e'; rfl⟩, fun op' => ⟨fun e' => by subst e'; rfl, fun e' => by subst e'; rfl⟩⟩ <;>
          simp [Op.equalIn, Sem.run_bind, run_und hd, Sem.run_pure, Result.andThen]) ho hX hY hc hq
    cases op <;> first | (cases hc; done) | exact key _ _ (.inl ⟨rfl, rfl⟩) ho hc | exact key _ _ (.inr ⟨rfl, rfl⟩) ho hc
  | interface ms =>
    have key : ∀ (op' : BinOp) (neg : Bool), ((op' = .eql ∧ neg = false) ∨ (op' = .neq ∧ neg = true)) → o.op = .binOp op' t x y ty → cNil G isNilI n_if neg x y = some (.q f ld) → Ans P V o w ρ r := fun op' neg hop ho hc =>
      cNil_ans (nil := .nilIface) hop (fun z hz => by unfold isNilI at hz; split at hz <;> first | rfl | cases hz) hV (fun a b v hb hv => by
        rcases n_if_some hb hv with ⟨rfl, rfl⟩ | ⟨t', x', rfl, rfl⟩
        · refine ⟨run_equal_succ fun k => ?_, run_equal_succ fun k => ?_, fun z => ⟨guard_nil (.inr rfl), guard_nil (.inl rfl)⟩, fun op' => ⟨fun e' => by subst e'; rfl, fun e' => by subst e'; rfl⟩, fun op' => ⟨fun e' => by subst e'; rfl, fun e' => by subst e'; rfl⟩⟩ <;>
          simp [Op.equalIn, Sem.run_bind, run_und hd, Sem.run_pure, Result.andThen]
        · refine ⟨run_equal_succ fun k => ?_, run_equal_succ fun k => ?_, fun z => ⟨eqGuard_plain _ _ _ _ _ _ rfl, ?_⟩, fun op' => ⟨fun e' => by subst e'; rfl, fun e' => by subst e'; rfl⟩, fun op' => ⟨fun e' => by subst e'; rfl, fun e' => by subst e'; rfl⟩⟩
          · simp [Op.equalIn, Sem.run_bind, run_und hd, Sem.run_pure, Result.andThen]
          · simp [Op.equalIn, Sem.run_bind, run_und hd, Sem.run_pure, Result.andThen]
          · cases op' <;> rfl) ho hX hY hc hq
    cases op <;> first | (cases hc; done) | exact key _ _ (.inl ⟨rfl, rfl⟩) ho hc | exact key _ _ (.inr ⟨rfl, rfl⟩) ho hc
  | _ => cases hc
end
end Go.Proofs.YtiebkbmnepgacaaGreatDoor.Ew
/-
  Evaluator, part 9: quiet operations that read no memory.
-/
namespace Go.Proofs.YtiebkbmnepgacaaGreatDoor.Ew
open Go Go.Proofs.YtiebkbmnepgacaaGreatDoor Go.RowKit
set_option linter.unusedVariables false

section
variable {P : Program} {G : Nat} {ρ : RM} {e : Env} {h : HP} {w : World} {V : Operand → Value} {o : Oper} {r : AV}

theorem xs_eq {β : Type} (no : β) : ∀ (l : List X) (e : Env) (c : List AV → β), xs no l e c = no ∨ ∃ vs, xs no l e c = c vs ∧ vs.length = l.length ∧ ∀ (i : Nat) (f : X), l[i]? = some f → ∃ v, vs[i]? = some v ∧ f e = some v
  | [], e, c => .inr ⟨[], rfl, rfl, fun i f h => by simp at h⟩
  | x :: l, e, c => by
    cases hx : x e with
    | none =>
      refine .inl ?_
      show @Option.casesOn AV (fun _ => β) (x e) no (fun v => xs no l e fun vs => c (v :: vs)) = no
      rw [hx]
    | some v =>
      have e0 : xs no (x :: l) e c = xs no l e fun vs => c (v :: vs) := by
        show @Option.casesOn AV (fun _ => β) (x e) no (fun v => xs no l e fun vs => c (v :: vs)) = _
        rw [hx]
      rcases xs_eq no l e (fun vs => c (v :: vs)) with h | ⟨vs, h1, h2, h3⟩
      · exact .inl (e0.trans h)
      · refine .inr ⟨v :: vs, e0.trans h1, by simp [h2], fun i f hf => ?_⟩
        cases i with
        | zero => simp at hf; subst hf; exact ⟨v, rfl, hx⟩
        | succ i => simpa using h3 i f (by simpa using hf)
theorem seqO_spec {α β : Type} {f : α → Option β} : ∀ {l : List α} {r : List β}, seqO f l = some r → r.length = l.length ∧ ∀ (i : Nat) (x : α), l[i]? = some x → ∃ y, r[i]? = some y ∧ f x = some y
  | [], r, h => by cases h; exact ⟨rfl, fun i x hx => by simp at hx⟩
  | a :: l, r, h => by
    obtain ⟨b, h1, h2⟩ := ob_some h
    obtain ⟨t, h3, h4⟩ := ob_some h2
    cases h4
    obtain ⟨h5, h6⟩ := seqO_spec (l := l) h3
    refine ⟨by simp [h5], fun i x hx => ?_⟩
    cases i with
    | zero => simp at hx; subst hx; exact ⟨b, rfl, h1⟩
    | succ i => simpa using h6 i x (by simpa using hx)
/-- operands' values -/
theorem xs_rel {l : List Operand} {fs : List X} {vs : List AV} (hc : cXs G l = some fs) (hX : ∀ x ∈ l, OpR G ρ e V x) (hl : vs.length = fs.length) (hv : ∀ (i : Nat) (f : X), fs[i]? = some f → ∃ v, vs[i]? = some v ∧ f e = some v) : VrL ρ vs (l.map V) := by
  obtain ⟨h1, h2⟩ := seqO_spec hc
  have key : ∀ (l : List Operand) (vs : List AV), vs.length = l.length → (∀ (i : Nat) (x : Operand), l[i]? = some x → ∃ v, vs[i]? = some v ∧ Vr ρ v (V x)) → VrL ρ vs (l.map V) := by
    intro l
    induction l with
    | nil => intro vs h _; cases vs with | nil => rfl | cons _ _ => simp at h
    | cons x l ih =>
      intro vs h hh
      cases vs with
      | nil => simp at h
      | cons v vs =>
        obtain ⟨v', h3, h4⟩ := hh 0 x rfl
        simp at h3; subst h3
        exact VrL.cons h4 (ih vs (by simpa using h) fun i y hy => by simpa using hh (i + 1) y (by simpa using hy))
  refine key l vs (by omega) fun i x hx => ?_
  obtain ⟨f, h3, h4⟩ := h2 i x hx
  obtain ⟨v, h5, h6⟩ := hv i f h3
  exact ⟨v, h5, hX x (List.mem_of_getElem? hx) f v h4 h6⟩

theorem a_mv {x : Operand} {fx : X} (ho : o.op = .move x ∨ o.op = .assign x) (hX : OpR G ρ e V x) (hx : cX G x = some fx) (hq : q_mv fx e h = some r) : Ans P V o w ρ r :=
  ⟨V x, by rcases ho with ho | ho <;> simp [execOp, ho, Sem.run_pure], hX _ _ hx hq⟩
theorem a_pick {c x y : Operand} {fc fx fy : X} (ho : o.op = .pick c x y) (hC : OpR G ρ e V c) (hX : OpR G ρ e V x) (hY : OpR G ρ e V y) (hc : cX G c = some fc) (hx : cX G x = some fx) (hy : cX G y = some fy)
    (hq : q_pick fc fx fy e h = some r) : Ans P V o w ρ r := by
  obtain ⟨v, hv, hq⟩ := ob_some hq
  obtain ⟨b, rfl, hq'⟩ := AV.kBool_some hq (by simp)
  have hb : V c = .bool b := hC _ _ hc hv
  cases b with
  | true => exact ⟨V x, by simp [execOp, ho, hb, asBool, Sem.run_pure], hX _ _ hx hq'⟩
  | false => exact ⟨V y, by simp [execOp, ho, hb, asBool, Sem.run_pure], hY _ _ hy hq'⟩
theorem a_nilc {x : Operand} {fx : X} (ho : o.op = .nilCheck x) (hX : OpR G ρ e V x) (hx : cX G x = some fx) (hq : q_nilc fx e h = some r) : Ans P V o w ρ r := by
  obtain ⟨a, ha, hq⟩ := ob_some hq
  have hv := hX _ _ hx ha
  cases a <;> first | (cases hq; done) | skip
  · obtain ⟨c, k, h1, h2⟩ := hv
    cases hq
    exact ⟨_, by simp [execOp, ho, h2, Sem.run_pure], ⟨c, k, h1, rfl⟩⟩
  · obtain ⟨x1, x2, h1, h2, h3⟩ := hv
    cases hq
    exact ⟨_, by simp [execOp, ho, h1, Sem.run_pure], ⟨x1, x2, rfl, h2, h3⟩⟩
  · obtain ⟨c, k, h1, h2⟩ := hv
    cases hq
    exact ⟨_, by simp [execOp, ho, h2, Sem.run_pure], ⟨c, k, h1, rfl⟩⟩
theorem a_not {t : TypeId} {x : Operand} {fx : X} (ho : o.op = .unOp .not t x) (hX : OpR G ρ e V x) (hx : cX G x = some fx) (hq : q_not fx e h = some r) : Ans P V o w ρ r := by
  obtain ⟨a, ha, hq⟩ := ob_some hq
  obtain ⟨b, rfl, hq'⟩ := AV.kBool_some hq (by simp)
  have hb : V x = .bool b := hX _ _ hx ha
  cases hq'
  refine ⟨.bool (!b), ?_, by cases b <;> rfl⟩
  simp only [execOp, ho, hb]
  exact run_v (by simp [Op.unary, Sem.run_pure])
theorem a_neg {t : TypeId} {x : Operand} {fx : X} {k : IntKind} (ho : o.op = .unOp .neg t x) (hX : OpR G ρ e V x) (hx : cX G x = some fx) (hq : q_neg k (halfOf k) (modOf k) fx e h = some r) : Ans P V o w ρ r := by
  obtain ⟨a, ha, hq⟩ := ob_some hq
  obtain ⟨k1, b, rfl, hq'⟩ := AV.kInt_some hq (by simp)
  obtain ⟨h1, h2⟩ := bf_some hq'
  have hk := eqk_eq h1
  subst hk
  have hb : V x = .int k b := hX _ _ hx ha
  rw [bI_some h2, wrapI_eq, show Int.sub 0 b = 0 - b from rfl]
  refine ⟨_, ?_, rfl⟩
  simp only [execOp, ho, hb]
  exact run_v (by simp [Op.unary, Op.intArith, Sem.run_pure])
theorem a_convI {s d : TypeId} {x : Operand} {fx : X} {k k' : IntKind} (ho : o.op = .convert s d x) (hs : P.underlying s = some (.int k')) (hd : P.underlying d = some (.int k)) (hX : OpR G ρ e V x) (hx : cX G x = some fx)
    (hq : q_convI k (halfOf k) (modOf k) fx e h = some r) : Ans P V o w ρ r := by
  obtain ⟨a, ha, hq⟩ := ob_some hq
  obtain ⟨k1, b, rfl, hq'⟩ := AV.kInt_some hq (by simp)
  have hb : V x = .int k1 b := hX _ _ hx ha
  rw [bI_some hq', wrapI_eq]
  refine ⟨_, ?_, rfl⟩
  simp only [execOp, ho, hb]
  exact run_v (by simp [convert, Sem.run_bind, run_und hs, run_und hd, Result.andThen, Conv.intToInt, Sem.run_pure])
theorem a_convS {s d : TypeId} {x : Operand} {fx : X} (ho : o.op = .convert s d x) (hs : P.underlying s = some .string) (hd : P.underlying d = some .string) (hX : OpR G ρ e V x) (hx : cX G x = some fx)
    (hq : q_convS fx e h = some r) : Ans P V o w ρ r := by
  obtain ⟨a, ha, hq⟩ := ob_some hq
  obtain ⟨s', n, rfl, hq'⟩ := AV.kStr_some hq (by simp)
  have hb := hX _ _ hx ha
  cases hq'
  refine ⟨V x, ?_, hb⟩
  obtain ⟨h1, _⟩ := hb
  simp only [execOp, ho, h1]
  exact run_v (by simp [convert, Sem.run_bind, run_und hs, run_und hd, Result.andThen, Sem.run_pure])
theorem a_mkI {t : TypeId} {x : Operand} {fx : X} {d : TypeDesc} (ho : o.op = .makeInterface t x) (hd : P.underlying t = some d) (hn : ∀ ms, d ≠ .interface ms) (hX : OpR G ρ e V x) (hx : cX G x = some fx) (hq : q_mkI t fx e h = some r) : Ans P V o w ρ r := by
  obtain ⟨a, ha, hq⟩ := ob_some hq
  cases hq
  refine ⟨.iface t (V x), ?_, ⟨V x, rfl, hX _ _ hx ha⟩⟩
  simp only [execOp, ho]
  refine run_v ?_
  cases d <;> first | exact absurd rfl (hn _) | simp [Instr.makeInterface, Sem.run_bind, run_und hd, Result.andThen, Sem.run_pure]
theorem a_mkF {f : FuncId} {l1 l2 : Array Operand} {f1 f2 : List X} (ho : o.op = .makeFunc (.func f) l1 l2) (hX : ∀ x ∈ l1.toList, OpR G ρ e V x) (hY : ∀ x ∈ l2.toList, OpR G ρ e V x) (h1 : cXs G l1.toList = some f1) (h2 : cXs G l2.toList = some f2)
    (hq : q_mkF f f1 f2 e h = some r) : Ans P V o w ρ r := by
  unfold q_mkF at hq
  rcases xs_eq none f1 e (fun a => xs none f2 e fun b => some (AV.func f a b)) with hn | ⟨a, ha, ha1, ha2⟩
  · rw [hn] at hq; cases hq
  rw [ha] at hq
  rcases xs_eq none f2 e (fun b => some (AV.func f a b)) with hn | ⟨b, hb, hb1, hb2⟩
  · rw [hn] at hq; cases hq
  rw [hb] at hq
  cases hq
  refine ⟨.func (.func f) (l1.map V) (l2.map V), ?_, ⟨_, _, rfl, ?_, ?_⟩⟩
  · simp only [execOp, ho]; exact run_v rfl
  · rw [Array.toList_map]; exact xs_rel h1 hX ha1 ha2
  · rw [Array.toList_map]; exact xs_rel h2 hY hb1 hb2
theorem a_ext {i : Nat} {x : Operand} {fx : X} (ho : o.op = .extract x i) (hX : OpR G ρ e V x) (hx : cX G x = some fx) (hq : q_ext i fx e h = some r) : Ans P V o w ρ r := by
  obtain ⟨a, ha, hq⟩ := ob_some hq
  obtain ⟨l, rfl, hq'⟩ := AV.kTup_some hq (by simp)
  obtain ⟨xs, h1, h2⟩ := hX _ _ hx ha
  rw [nthK_eq] at hq'
  obtain ⟨c, h3, h4⟩ := h2.get i hq'
  refine ⟨c, ?_, h4⟩
  simp only [execOp, ho, h1]
  have h5 : xs[i]? = some c := by simpa using h3
  exact run_v (by simp [Instr.extract, h5, Sem.run_pure])

/-! ### addresses -/
theorem nIdx_some {β : Type} {v : AV} {f : Nat → Option β} {r : β} (hq : nIdx v none f = some r) : ∃ k n, v = .int k (Int.ofNat n) ∧ f n = some r := by
  obtain ⟨k, x, rfl, hq⟩ := AV.kInt_some hq (by simp)
  cases x with
  | ofNat n => exact ⟨k, n, rfl, hq⟩
  | negSucc n => cases hq
theorem a_fldA {s : TypeId} {fs : Array Field} {fd : Field} {f : Nat} {x : Operand} {fx : X} (ho : o.op = .fieldAddr s x f) (hs : P.underlying s = some (.struct fs)) (hf : fs[f]? = some fd) (hz : ∃ i, P.info? fd.type = some i ∧ i.size ≠ 0) (hX : OpR G ρ e V x) (hx : cX G x = some fx)
    (hq : q_fldA fd.offset fx e h = some r) : Ans P V o w ρ r := by
  obtain ⟨a, ha, hq⟩ := ob_some hq
  obtain ⟨b, p, rfl, hq'⟩ := AV.kPtr_some hq (by simp)
  obtain ⟨c, k, h1, h2⟩ := hX _ _ hx ha
  rw [fN_eq] at hq'; cases hq'
  obtain ⟨i, h3, h4⟩ := hz
  refine ⟨.pointer (some ⟨c, p + fd.offset, none⟩), ?_, ⟨c, k, h1, rfl⟩⟩
  have e1 : Addr.add ⟨c, p, none⟩ fd.offset = ⟨c, p + fd.offset, none⟩ := Addr.add_z _ _ _
  simp only [execOp, ho, h2]
  exact run_v (by simp [Instr.fieldAt, Instr.sureAddr, fieldPlace, sizeOf, typeInfo, underlying, program, Sem.run_bind, Sem.run_pure, Sem.run, Result.andThen, hs, hf, h3, h4, e1])
theorem a_idxA {t el : TypeId} {sz : Nat} {x y : Operand} {fx fy : X} (ho : o.op = .indexAddr t x y) (ht : P.underlying t = some (.slice el)) (hz : szOf P el = some sz) (hX : OpR G ρ e V x) (hY : OpR G ρ e V y) (hx : cX G x = some fx) (hy : cX G y = some fy)
    (hq : q_idxA sz fx fy e h = some r) : Ans P V o w ρ r := by
  obtain ⟨a, ha, hq⟩ := ob_some hq
  rcases AV.kSl_some hq (by simp) with ⟨b, p, n, cc, ex, rfl, hq⟩ | ⟨_, hq⟩ | ⟨_, hq⟩
  · obtain ⟨u, hu, hq⟩ := ob_some hq
    obtain ⟨k1, j, rfl, hq⟩ := nIdx_some hq
    obtain ⟨hj, hq⟩ := bf_some hq
    have hj := Nat.le_of_ble_eq_true hj
    rw [fN_eq] at hq; cases hq
    obtain ⟨c, k, q', h1, h2, _⟩ := hX _ _ hx ha
    have h3 : V y = .int k1 (j : Int) := hY _ _ hy hu
    refine ⟨.pointer (some ⟨c, p + j * sz, none⟩), ?_, ⟨c, k, h1, rfl⟩⟩
    simp only [execOp, ho, h2, h3]
    have hjn : j < n := hj
    exact run_v (by simp [Instr.indexAt, asIntOf, Sem.run_bind, run_und ht, run_szOf hz, Result.andThen, hjn, Addr.add_z])
  · cases hq
  · cases hq
theorem a_idxR {t el : TypeId} {n sz : Nat} {x y : Operand} {fx fy : X} (ho : o.op = .indexAddr t x y) (ht : P.underlying t = some (.array n el)) (hz : szOf P el = some sz) (hX : OpR G ρ e V x) (hY : OpR G ρ e V y) (hx : cX G x = some fx) (hy : cX G y = some fy)
    (hq : q_idxR n sz fx fy e h = some r) : Ans P V o w ρ r := by
  obtain ⟨a, ha, hq⟩ := ob_some hq
  obtain ⟨b, p, rfl, hq⟩ := AV.kPtr_some hq (by simp)
  obtain ⟨u, hu, hq⟩ := ob_some hq
  obtain ⟨k1, j, rfl, hq⟩ := nIdx_some hq
  obtain ⟨hj, hq⟩ := bf_some hq
  have hj := Nat.le_of_ble_eq_true hj
  rw [fN_eq] at hq; cases hq
  obtain ⟨c, k, h1, h2⟩ := hX _ _ hx ha
  have h3 : V y = .int k1 (j : Int) := hY _ _ hy hu
  refine ⟨.pointer (some ⟨c, p + j * sz, none⟩), ?_, ⟨c, k, h1, rfl⟩⟩
  simp only [execOp, ho, h2, h3]
  have hjn : j < n := hj
  exact run_v (by simp [Instr.indexAt, Instr.sureAddr, asIntOf, Sem.run_bind, run_und ht, run_szOf hz, Result.andThen, hjn, Addr.add_z])
theorem a_idxT {t : TypeId} {x y : Operand} {fx fy : X} (ho : o.op = .index t x y) (ht : P.underlying t = some .string) (hX : OpR G ρ e V x) (hY : OpR G ρ e V y) (hx : cX G x = some fx) (hy : cX G y = some fy)
    (hq : q_idxT fx fy e h = some r) : Ans P V o w ρ r := by
  obtain ⟨a, ha, hq⟩ := ob_some hq
  obtain ⟨s, n, rfl, hq⟩ := AV.kStr_some hq (by simp)
  obtain ⟨u, hu, hq⟩ := ob_some hq
  obtain ⟨k1, j, rfl, hq'⟩ := nIdx_some hq
  clear hq
  have hq := hq'
  clear hq'
  obtain ⟨h1, _, h2⟩ := hX _ _ hx ha
  have h3 : V y = .int k1 (j : Int) := hY _ _ hy hu
  cases hn : nthK j s with
  | none => rw [hn] at hq; cases hq
  | some c =>
    rw [hn] at hq; cases hq
    rw [nthK_eq] at hn
    obtain ⟨hj, hc⟩ := List.getElem?_eq_some_iff.1 hn
    have hc2 := h2 c (List.mem_of_getElem? hn)
    have hsz : j < (tx s).size := by rw [tx_size]; exact hj
    have hb : ((tx s)[j]'hsz).toNat = c := by
      have : (tx s)[j]'hsz = UInt8.ofNat c := by
        show (s.map UInt8.ofNat).toArray[j]'_ = _
        simp [hc]
      rw [this, toNat_ofNat hc2]
    refine ⟨.int .u8 c, ?_, rfl⟩
    simp only [execOp, ho, h1, h3]
    have hsz' : j < (ByteArray.mk (s.map UInt8.ofNat).toArray).size := hsz
    refine run_v ?_
    have e1 : (tx s)[j]? = some ((tx s)[j]'hsz) := by rw [getElem?_pos]
    simp only [Instr.index, asIntOf, Sem.run_bind, run_und ht, Result.andThen, Sem.run_pure]
    have e2 : (if 0 ≤ (j : Int) then (tx s)[(j : Int).toNat]? else none) = some ((tx s)[j]'hsz) := by rw [if_pos (by omega)]; exact e1
    show Sem.run P (match (if 0 ≤ (j : Int) then (tx s)[(j : Int).toNat]? else none) with | some b => _ | none => _) w = _
    rw [e2]
    simp only [Sem.run_pure, hb]
theorem a_lenS {ts : Array TypeId} {t el : TypeId} {x : Operand} {fx : X} {args : Array Operand} (ho : o.op = .call ⟨.builtin .len, args, ts⟩) (hargs : args.toList = [x]) (hts : ts[0]? = some t) (ht : P.underlying t = some (.slice el)) (hX : OpR G ρ e V x) (hx : cX G x = some fx)
    (hq : q_lenS fx e h = some r) : Ans P V o w ρ r := by
  obtain ⟨a, ha, hq⟩ := ob_some hq
  have hv := hX _ _ hx ha
  have eA : args = #[x] := Array.toList_inj.1 (by rw [hargs])
  subst eA
  have key : ∀ (bb : Option Addr) (n q : Nat), V x = .slice bb n q → (execOp V o).run P w = .ok (.value (.int .i64 (n : Int))) w := fun bb n q hb => by
    simp only [execOp, ho, resolve, List.map_toArray, List.map_cons, List.map_nil, hb, Sem.run_bind, Sem.run_pure, Result.andThen, invoke, builtin]
    simp [Builtin.len_, hts, Sem.run_bind, run_und ht, Result.andThen, goInt, Sem.run_pure]
  rcases AV.kSl_some hq (by simp) with ⟨b, p, n, cc, ex, rfl, hq⟩ | ⟨rfl, hq⟩ | ⟨rfl, hq⟩
  · obtain ⟨c, k, q', _, h2, _⟩ := hv
    cases hq; exact ⟨_, key _ _ _ h2, rfl⟩
  · obtain ⟨c, q', h2⟩ := hv
    cases hq; exact ⟨_, key _ _ _ h2, rfl⟩
  · cases hq; exact ⟨_, key _ _ _ hv, rfl⟩
theorem a_lenT {ts : Array TypeId} {t : TypeId} {x : Operand} {fx : X} {args : Array Operand} (ho : o.op = .call ⟨.builtin .len, args, ts⟩) (hargs : args.toList = [x]) (hts : ts[0]? = some t) (ht : P.underlying t = some .string) (hX : OpR G ρ e V x) (hx : cX G x = some fx)
    (hq : q_lenT fx e h = some r) : Ans P V o w ρ r := by
  obtain ⟨a, ha, hq⟩ := ob_some hq
  obtain ⟨s, n, rfl, hq'⟩ := AV.kStr_some hq (by simp)
  obtain ⟨h1, h2, _⟩ := hX _ _ hx ha
  have eA : args = #[x] := Array.toList_inj.1 (by rw [hargs])
  subst eA; subst h2
  cases hq'
  have h1' : V x = .string (tx s) := h1
  refine ⟨.int .i64 ((tx s).size : Int), ?_, by rw [tx_size]; rfl⟩
  simp only [execOp, ho, resolve, List.map_toArray, List.map_cons, List.map_nil, h1', Sem.run_bind, Sem.run_pure, Result.andThen, invoke, builtin]
  simp [Builtin.len_, hts, Sem.run_bind, run_und ht, Result.andThen, goInt, Sem.run_pure]
theorem a_lenC {ts : Array TypeId} {t : TypeId} {n : Nat} {args : Array Operand} {x : Operand} (ho : o.op = .call ⟨.builtin .len, args, ts⟩) (hargs : args.toList = [x]) (hts : ts[0]? = some t)
    (ht : (∃ el, P.underlying t = some (.array n el)) ∨ ∃ a el, P.underlying t = some (.pointer a) ∧ P.underlying a = some (.array n el)) (hq : q_lenC n e h = some r) : Ans P V o w ρ r := by
  have eA : args = #[x] := Array.toList_inj.1 (by rw [hargs])
  subst eA
  cases hq
  refine ⟨.int .i64 (n : Int), ?_, rfl⟩
  simp only [execOp, ho, resolve, List.map_toArray, List.map_cons, List.map_nil, Sem.run_bind, Sem.run_pure, Result.andThen, invoke, builtin]
  rcases ht with ⟨el, ht⟩ | ⟨a, el, ht, ht2⟩
  · simp [Builtin.len_, hts, Sem.run_bind, run_und ht, Result.andThen, goInt, Sem.run_pure]
  · simp [Builtin.len_, hts, Sem.run_bind, run_und ht, run_und ht2, Result.andThen, goInt, Sem.run_pure]
theorem a_cap {ts : Array TypeId} {t el : TypeId} {x : Operand} {fx : X} {args : Array Operand} (ho : o.op = .call ⟨.builtin .cap, args, ts⟩) (hargs : args.toList = [x]) (hts : ts[0]? = some t) (ht : P.underlying t = some (.slice el)) (hX : OpR G ρ e V x) (hx : cX G x = some fx)
    (hq : q_cap fx e h = some r) : Ans P V o w ρ r := by
  obtain ⟨a, ha, hq⟩ := ob_some hq
  have hv := hX _ _ hx ha
  have eA : args = #[x] := Array.toList_inj.1 (by rw [hargs])
  subst eA
  have key : ∀ (bb : Option Addr) (n q : Nat), V x = .slice bb n q → (execOp V o).run P w = .ok (.value (.int .i64 (q : Int))) w := fun bb n q hb => by
    simp only [execOp, ho, resolve, List.map_toArray, List.map_cons, List.map_nil, hb, Sem.run_bind, Sem.run_pure, Result.andThen, invoke, builtin]
    simp [Builtin.cap_, hts, Sem.run_bind, run_und ht, Result.andThen, goInt, Sem.run_pure]
  rcases AV.kSl_some hq (by simp) with ⟨b, p, n, cc, ex, rfl, hq⟩ | ⟨rfl, hq⟩ | ⟨rfl, hq⟩
  · obtain ⟨c, k, q', _, h2, _, h3, _⟩ := hv
    obtain ⟨hex, hq⟩ := bf_some hq
    rw [h3 hex] at h2
    cases hq; exact ⟨_, key _ _ _ h2, rfl⟩
  · cases hq
  · cases hq; exact ⟨_, key _ _ _ hv, rfl⟩
theorem a_max {ts : Array TypeId} {k : IntKind} {x y : Operand} {fx fy : X} {args : Array Operand} (ho : o.op = .call ⟨.builtin .max, args, ts⟩) (hargs : args.toList = [x, y]) (hX : OpR G ρ e V x) (hY : OpR G ρ e V y) (hx : cX G x = some fx) (hy : cX G y = some fy)
    (hq : q_int k (i_max k) fx fy e h = some r) : Ans P V o w ρ r := by
  obtain ⟨a, b, h1, h2, h3⟩ := q_int_some hq
  have e1 : V x = .int k a := hX _ _ hx h1
  have e2 : V y = .int k b := hY _ _ hy h2
  have eA : args = #[x, y] := Array.toList_inj.1 (by rw [hargs])
  subst eA
  refine ⟨.int k (if b > a then b else a), ?_, ?_⟩
  · simp only [execOp, ho, resolve, List.map_toArray, List.map_cons, List.map_nil, e1, e2, Sem.run_bind, Sem.run_pure, Result.andThen, invoke, builtin]
    simp [Builtin.max_, Builtin.max2, Sem.run_pure]
  · unfold i_max at h3
    rw [ltI_eq] at h3
    by_cases hl : a < b
    · rw [if_pos hl]; rw [decide_eq_true hl] at h3; cases h3; rfl
    · rw [if_neg hl]; rw [decide_eq_false hl] at h3; cases h3; rfl
end
end Go.Proofs.YtiebkbmnepgacaaGreatDoor.Ew
/-
  Evaluator, part 10: quiet operations that read memory; slices.
-/
namespace Go.Proofs.YtiebkbmnepgacaaGreatDoor.Ew
open Go Go.Proofs.YtiebkbmnepgacaaGreatDoor Go.RowKit
set_option linter.unusedVariables false

section
variable {P : Program} {G : Nat} {ρ : RM} {e : Env} {h : HP} {w : World} {V : Operand → Value} {o : Oper} {r : AV}

theorem kCells_some {β : Type} {a : AO} {f : List AV → TypeId → Option Nat → Bool → Option β} {r : β} (hq : a.kCells none f = some r) : ∃ l t g wr, a = .cells l t g wr ∧ f l t g wr = some r := by
  cases a <;> first | exact ⟨_, _, _, _, rfl, hq⟩ | cases hq
theorem kMap_some {β : Type} {a : AO} {f : List (AV × AV) → Option β} {r : β} (hq : a.kMap none f = some r) : ∃ es, a = .map es ∧ f es = some r := by
  cases a <;> first | exact ⟨_, rfl, hq⟩ | cases hq
theorem rd_some {β : Type} {b : Pos} {p n : Nat} {f : List AV → Option β} {r : β} (hq : rd none h b p n f = some r) : ∃ l t g wr, h.g b = some (.cells l t g wr) ∧ n ≤ (l.drop p).length ∧ f ((l.drop p).take n) = some r := by
  unfold rd at hq
  cases hb : h.get b with
  | none => rw [hb] at hq; cases hq
  | some a =>
    rw [hb] at hq
    obtain ⟨l, t, g, wr, rfl, hq'⟩ := kCells_some (f := fun l _ _ _ => takeK none n (dropK p l) f) hq
    rw [dropK_eq] at hq'
    rcases takeK_eq none n (l.drop p) f with hn | ⟨h1, h2⟩
    · rw [hn] at hq'; cases hq'
    · rw [h2] at hq'
      rw [HP.get_eq] at hb
      exact ⟨l, t, g, wr, hb, h1, hq'⟩
/-- what a block's cells hold -/
theorem cells_at {c k : Nat} {l : List AV} {t : TypeId} {g : Option Nat} {wr : Bool} (hO : Or P ρ w c k (.cells l t g wr)) (p n : Nat) (hn : n ≤ (l.drop p).length) :
    ∃ vs : List Value, vs.length = n ∧ CellsAt w c p vs ∧ VrL ρ ((l.drop p).take n) vs := by
  obtain ⟨_, _, cs, h1, h2, h3, _⟩ := hO
  refine ⟨((cs.toList.take l.length).drop p).take n, ?_, fun j u hj => ?_, (h3.drop p).take n⟩
  · simp at hn ⊢; omega
  · have hj' := hj
    rw [List.getElem?_take] at hj
    split at hj
    · rw [List.getElem?_drop, List.getElem?_take] at hj
      split at hj
      · exact cell_of_heap h1 (by simpa using hj)
      · cases hj
    · cases hj
theorem hr_cells (hr : Hr P ρ h.g h.nx w) {b : Pos} {c k : Nat} {a : AO} (hg : h.g b = some a) (hρ : ρ b = some (c, k)) : Or P ρ w c k a := hr.obj b a c k hg hρ

theorem a_load1 {t : TypeId} {x : Operand} {fx : X} (ho : o.op = .load t x) (ht : isAg P t = some false) (hX : OpR G ρ e V x) (hx : cX G x = some fx) (hr : Hr P ρ h.g h.nx w) (hq : q_load1 fx e h = some r) : Ans P V o w ρ r := by
  obtain ⟨a, ha, hq⟩ := ob_some hq
  obtain ⟨b, p, rfl, hq⟩ := AV.kPtr_some hq (by simp)
  obtain ⟨ao, hb, hq⟩ := ob_some hq
  obtain ⟨l, t', g, wr, rfl, hq'⟩ := kCells_some (f := fun l _ _ _ => nthK p l) hq
  rw [nthK_eq] at hq'
  rw [HP.get_eq] at hb
  obtain ⟨c, k, h1, h2⟩ := hX _ _ hx ha
  obtain ⟨_, _, cs, h3, h4, h5, _⟩ := hr_cells hr hb h1
  obtain ⟨v, h6, h7⟩ := h5.get p hq'
  rw [List.getElem?_take] at h6
  split at h6
  · have hc : w.cell? ⟨c, p, none⟩ = some v := cell_of_heap h3 (by simpa using h6)
    obtain ⟨d, hd, hs⟩ := isAg_some ht
    haveI : Sc P t := ⟨d, hd, by cases d <;> simp at hs ⊢⟩
    refine ⟨v, ?_, h7⟩
    have := run_loadVar (P := P) (t := t) hc
    simp only [execOp, ho, h2, Instr.loadAt, Instr.sureAddr]
    simp only [Sem.run_bind, Sem.run_pure, this, Result.andThen]
  · cases h6
theorem a_loadA {t : TypeId} {n : Nat} {x : Operand} {fx : X} (ho : o.op = .load t x) (ht : isAg P t = some true) (hn : szOf P t = some n) (hX : OpR G ρ e V x) (hx : cX G x = some fx) (hr : Hr P ρ h.g h.nx w) (hq : q_loadA n fx e h = some r) : Ans P V o w ρ r := by
  obtain ⟨a, ha, hq⟩ := ob_some hq
  obtain ⟨b, p, rfl, hq1⟩ := AV.kPtr_some hq (by simp)
  obtain ⟨l, t', g, wr, hb, h0, hq'⟩ := rd_some (f := fun l => some (AV.agg l)) hq1
  obtain ⟨c, k, h1, h2⟩ := hX _ _ hx ha
  obtain ⟨vs, h3, h4, h5⟩ := cells_at (hr_cells hr hb h1) p n h0
  obtain ⟨d, hd, hs⟩ := isAg_some ht
  obtain ⟨i, hi, hi2⟩ := szOf_some hn
  haveI : Ag P t := ⟨d, hd, by cases d <;> simp at hs ⊢⟩
  haveI : SzN P t n := ⟨i, hi, hi2⟩
  cases hq'
  refine ⟨.agg vs.toArray, ?_, ⟨_, rfl, by simpa using h5⟩⟩
  have := run_loadVarA (P := P) (t := t) h3 h4
  simp only [execOp, ho, h2, Instr.loadAt, Instr.sureAddr]
  simp only [Sem.run_bind, Sem.run_pure, this, Result.andThen]

/-! ### parts of values -/
theorem one_some {ag : Bool} {l : List AV} (hq : one ag l = some r) : (ag = true ∧ r = .agg l) ∨ (ag = false ∧ l = [r]) := by
  cases ag with
  | true => cases hq; exact .inl ⟨rfl, rfl⟩
  | false =>
    cases l with
    | nil => cases hq
    | cons x l => cases l with
      | nil => cases hq; exact .inr ⟨rfl, rfl⟩
      | cons _ _ => cases hq
theorem run_part {t : TypeId} {n : Nat} {ag : Bool} {l : List AV} {xs : Array Value} {off : Nat} (hs : szOf P t = some n) (ha : isAg P t = some ag) (hx : VrL ρ l xs.toList) (hq : takeK none n (dropK off l) (one ag) = some r) :
    ∃ v, (part t xs off).run P w = .ok v w ∧ Vr ρ r v := by
  rw [dropK_eq] at hq
  rcases takeK_eq none n (l.drop off) (one ag) with hn | ⟨h1, h2⟩
  · rw [hn] at hq; cases hq
  rw [h2] at hq
  have h3 := (hx.drop off).take n
  rcases one_some hq with ⟨rfl, rfl⟩ | ⟨rfl, hl⟩
  · refine ⟨.agg (xs.extract off (off + n)), ?_, ⟨_, rfl, ?_⟩⟩
    · simp only [part, Sem.run_bind, run_isAgg ha, Result.andThen, if_true, run_szOf hs, Sem.run_pure]
    · have : (xs.extract off (off + n)).toList = (xs.toList.drop off).take n := by simp
      rw [this]; exact h3
  · rw [hl] at h3
    obtain ⟨v, r', h4, h5, h6⟩ := h3
    refine ⟨v, ?_, h5⟩
    have h7 : xs[off]? = some v := by
      have h8 := congrArg (fun z => z[0]?) h4
      simp only [List.getElem?_cons_zero, List.getElem?_take, List.getElem?_drop] at h8
      split at h8
      · simpa using h8
      · cases h8
    simp only [part, Sem.run_bind, run_isAgg ha, Result.andThen]
    simp [h7, Sem.run_pure]
theorem a_fld {s : TypeId} {fs : Array Field} {fd : Field} {f n : Nat} {ag : Bool} {x : Operand} {fx : X} (ho : o.op = .field s x f) (hs : P.underlying s = some (.struct fs)) (hf : fs[f]? = some fd) (hn : szOf P fd.type = some n) (ha : isAg P fd.type = some ag)
    (hX : OpR G ρ e V x) (hx : cX G x = some fx) (hq : q_fld fd.offset n ag fx e h = some r) : Ans P V o w ρ r := by
  obtain ⟨a, ha', hq⟩ := ob_some hq
  obtain ⟨l, rfl, hq'⟩ := AV.kAgg_some hq (by simp)
  obtain ⟨xs, h1, h2⟩ := hX _ _ hx ha'
  obtain ⟨v, h3, h4⟩ := run_part (w := w) hn ha h2 hq'
  refine ⟨v, ?_, h4⟩
  simp only [execOp, ho, h1]
  exact run_v (by simp only [Instr.field, Sem.run_bind, run_und hs, Result.andThen, hf, asAgg, Sem.run_pure, h3])
theorem a_idxV {t el : TypeId} {n sz : Nat} {ag : Bool} {x y : Operand} {fx fy : X} (ho : o.op = .index t x y) (ht : P.underlying t = some (.array n el)) (hz : szOf P el = some sz) (ha : isAg P el = some ag) (hX : OpR G ρ e V x) (hY : OpR G ρ e V y) (hx : cX G x = some fx) (hy : cX G y = some fy)
    (hq : q_idxV n sz ag fx fy e h = some r) : Ans P V o w ρ r := by
  obtain ⟨a, ha', hq⟩ := ob_some hq
  obtain ⟨l, rfl, hq⟩ := AV.kAgg_some hq (by simp)
  obtain ⟨u, hu, hq⟩ := ob_some hq
  obtain ⟨k1, j, rfl, hq⟩ := nIdx_some hq
  obtain ⟨hj, hq'⟩ := bf_some hq
  have hj := Nat.le_of_ble_eq_true hj
  obtain ⟨xs, h1, h2⟩ := hX _ _ hx ha'
  have h3 : V y = .int k1 (j : Int) := hY _ _ hy hu
  obtain ⟨v, h4, h5⟩ := run_part (w := w) hz ha h2 hq'
  refine ⟨v, ?_, h5⟩
  have hjn : j < n := hj
  have h4' : (part el xs (j * sz)).run P w = .ok v w := h4
  simp only [execOp, ho, h1, h3]
  refine run_v ?_
  simp [Instr.index, asIntOf, Sem.run_bind, run_und ht, run_szOf hz, Result.andThen, hjn, h4']
end
end Go.Proofs.YtiebkbmnepgacaaGreatDoor.Ew
/-
  Evaluator, part 11: quiet operations: slicing.
-/
namespace Go.Proofs.YtiebkbmnepgacaaGreatDoor.Ew
open Go Go.Proofs.YtiebkbmnepgacaaGreatDoor Go.RowKit
set_option linter.unusedVariables false

section
variable {P : Program} {G : Nat} {ρ : RM} {e : Env} {h : HP} {w : World} {V : Operand → Value} {o : Oper} {r : AV}

/-- a bound: none, or a number -/
def BndV (lo : Option Value) (d n : Nat) : Prop := (lo = none ∧ n = d) ∨ ∃ k, lo = some (.int k (n : Int))
theorem bnd_some {lo : Option Operand} {lo' : Option X} {d : Nat} {f : Nat → Option AV} (hc : cXo G lo = some lo') (hX : ∀ x, lo = some x → OpR G ρ e V x) (hq : bnd none lo' d e f = some r) : ∃ n, BndV (lo.map V) d n ∧ f n = some r := by
  cases lo with
  | none => cases hc; exact ⟨d, .inl ⟨rfl, rfl⟩, hq⟩
  | some x =>
    obtain ⟨fx, hx, hc⟩ := ob_some hc
    cases hc
    unfold bnd at hq
    cases hv : fx e with
    | none => simp only [hv] at hq; cases hq
    | some v =>
      simp only [hv] at hq
      obtain ⟨k, n, rfl, hq'⟩ := nIdx_some hq
      have := hX x rfl _ _ hx hv
      exact ⟨n, .inr ⟨k, by simp only [Option.map_some]; exact congrArg some this⟩, hq'⟩
theorem run_bounds {isS : Bool} {len cap l m : Nat} {lo hi : Option Value} (hl : BndV lo 0 l) (hh : BndV hi len m) (h1 : l ≤ m) (h2 : m ≤ cap) : (Instr.sliceBounds isS len cap lo hi none).run P w = .ok (l, m, cap) w := by
  rcases hh with ⟨rfl, rfl⟩ | ⟨k, rfl⟩ <;> rcases hl with ⟨rfl, rfl⟩ | ⟨k', rfl⟩
  · simp [Instr.sliceBounds, Sem.run_pure]
  · have e1 := run_sliceBound (P := P) (W := w) (code := .sliceB) (k := k') (rfl : Value.int k' (l : Int) = .int k' (l : Int)) h1
    simp [Instr.sliceBounds, Result.andThen, e1]
  · have e1 := fun code => run_sliceBound (P := P) (W := w) (code := code) (k := k) (rfl : Value.int k (m : Int) = .int k (m : Int)) h2
    simp [Instr.sliceBounds, Result.andThen, e1]
  · have e1 := fun code => run_sliceBound (P := P) (W := w) (code := code) (k := k) (rfl : Value.int k (m : Int) = .int k (m : Int)) h2
    have e2 := run_sliceBound (P := P) (W := w) (code := .sliceB) (k := k') (rfl : Value.int k' (l : Int) = .int k' (l : Int)) h1
    simp [Instr.sliceBounds, Sem.run_bind, Result.andThen, e1, e2]
theorem run_bounds3 {len cap l m x : Nat} {lo : Option Value} {k1 k2 : IntKind} (hl : BndV lo 0 l) (h1 : l ≤ m) (h2 : m ≤ x) (h3 : x ≤ cap) : (Instr.sliceBounds true len cap lo (some (.int k1 (m : Int))) (some (.int k2 (x : Int)))).run P w = .ok (l, m, x) w := by
  have e1 := run_sliceBound (P := P) (W := w) (code := .slice3Acap) (k := k2) (rfl : Value.int k2 (x : Int) = .int k2 (x : Int)) h3
  have e2 := run_sliceBound (P := P) (W := w) (code := .slice3B) (k := k1) (rfl : Value.int k1 (m : Int) = .int k1 (m : Int)) h2
  rcases hl with ⟨rfl, rfl⟩ | ⟨k', rfl⟩
  · simp [Instr.sliceBounds, Sem.run_bind, Result.andThen, e1, e2]
  · have e3 := run_sliceBound (P := P) (W := w) (code := .slice3C) (k := k') (rfl : Value.int k' (l : Int) = .int k' (l : Int)) h1
    simp [Instr.sliceBounds, Sem.run_bind, Result.andThen, e1, e2, e3]
/-- the new slice -/
theorem run_slc {t el : TypeId} {sz : Nat} {lo hi mx : Option Value} {a : Option Addr} {n c l m x : Nat} (ht : P.underlying t = some (.slice el)) (hz : szOf P el = some sz) (hb : (Instr.sliceBounds true n c lo hi mx).run P w = .ok (l, m, x) w) :
    (Instr.sliceAt t (.slice a n c) lo hi mx).run P w = .ok (.slice (if x = l then a else a.map (·.add (l * sz))) (m - l) (x - l)) w := by
  simp [Instr.sliceAt, Instr.slice, Sem.run_bind, run_und ht, Result.andThen, hb, run_szOf hz]
theorem ex_slice {t : TypeId} {x : Operand} {lo hi mx : Option Operand} {v : Value} (ho : o.op = .slice t x lo hi mx) (hs : (Instr.sliceAt t (V x) (lo.map V) (hi.map V) (mx.map V)).run P w = .ok v w) : (execOp V o).run P w = .ok (.value v) w := by
  simp only [execOp, ho]
  exact run_v hs

theorem slX_some {sz : Nat} {b : Pos} {p c l m k : Nat} {cb kb : Nat} (hρ : ρ b = some (cb, kb)) (hq : slX sz b p c l m k = some r) : l ≤ m ∧ m ≤ k ∧ k ≤ c ∧
    Vr ρ r (.slice (if k = l then some ⟨cb, p, none⟩ else (some (⟨cb, p, none⟩ : Addr)).map (·.add (l * sz))) (m - l) (k - l)) := by
  unfold slX at hq
  obtain ⟨h1, hq⟩ := bf_some hq
  obtain ⟨h2, hq⟩ := bf_some hq
  obtain ⟨h3, hq⟩ := bf_some hq
  have h1 := Nat.le_of_ble_eq_true h1
  have h2 := Nat.le_of_ble_eq_true h2
  have h3 := Nat.le_of_ble_eq_true h3
  refine ⟨h1, h2, h3, ?_⟩
  rcases bf_or hq with ⟨he, hq⟩ | ⟨he, hq⟩
  · have he := Nat.eq_of_beq_eq_true he
    rw [fN_eq, fN_eq] at hq; cases hq
    rw [if_pos he]
    exact ⟨cb, kb, k - l, hρ, rfl, by show m - l ≤ k - l; omega, fun _ => rfl, fun h => by cases h⟩
  · have he' : k ≠ l := fun h => by subst h; rw [Nat.beq_refl] at he; cases he
    rw [fN_eq, fN_eq, fN_eq] at hq; cases hq
    rw [if_neg he']
    simp only [Option.map_some, Addr.add_z]
    exact ⟨cb, kb, k - l, hρ, rfl, by show m - l ≤ k - l; omega, fun _ => rfl, fun h => by cases h⟩
theorem slU_some {sz : Nat} {b : Pos} {p n q l m : Nat} {cb kb : Nat} (hsz : 1 ≤ sz) (hρ : ρ b = some (cb, kb)) (hnq : n ≤ q) (hk : p = 0 → q = kb) (hq : slU sz b p n l m = some r) : l ≤ m ∧ m ≤ q ∧
    Vr ρ r (.slice (if q = l then some ⟨cb, p, none⟩ else (some (⟨cb, p, none⟩ : Addr)).map (·.add (l * sz))) (m - l) (q - l)) := by
  unfold slU at hq
  obtain ⟨h1, hq⟩ := bf_some hq
  obtain ⟨h2, hq⟩ := bf_some hq
  have h1 := Nat.le_of_ble_eq_true h1
  have h2 := Nat.le_of_ble_eq_true h2
  refine ⟨h1, by omega, ?_⟩
  rcases bf_or hq with ⟨he, hq⟩ | ⟨he, hq⟩
  · have he := Nat.eq_of_beq_eq_true he
    cases hq; subst he
    have e1 : (if q = 0 then some (⟨cb, p, none⟩ : Addr) else (some (⟨cb, p, none⟩ : Addr)).map (·.add (0 * sz))) = some ⟨cb, p, none⟩ := by
      split
      · rfl
      · simp [Addr.add]
    rw [e1]
    exact ⟨cb, kb, q, hρ, rfl, by omega, (fun h => by cases h), fun _ => hk⟩
  · have he' : l ≠ 0 := fun h => by subst h; cases he
    rcases bf_or hq with ⟨he2, hq⟩ | ⟨he2, hq⟩
    · have he2 := Nat.eq_of_beq_eq_true he2
      cases hq
      have e2 : m - l = 0 := by omega
      rw [e2]
      split
      · exact ⟨_, _, rfl⟩
      · exact ⟨_, _, rfl⟩
    · have he3 : l ≠ n := fun h => by subst h; rw [Nat.beq_refl] at he2; cases he2
      rw [fN_eq, fN_eq] at hq; cases hq
      rw [if_neg (by omega)]
      simp only [Option.map_some, Addr.add_z]
      refine ⟨cb, kb, q - l, hρ, rfl, by show m - l ≤ q - l; omega, (fun h => by cases h), fun _ h0 => ?_⟩
      exfalso
      have h0 : p + l * sz = 0 := h0
      have : 1 ≤ l * sz := Nat.le_trans (by omega) (Nat.mul_le_mul (show 1 ≤ l by omega) hsz)
      omega

theorem a_slc {t el : TypeId} {sz : Nat} {x : Operand} {lo hi : Option Operand} {fx : X} {lo' hi' : Option X} (ho : o.op = .slice t x lo hi none) (ht : P.underlying t = some (.slice el)) (hz : szOf P el = some sz) (hsz : 1 ≤ sz) (hX : OpR G ρ e V x)
    (hL : ∀ y, lo = some y → OpR G ρ e V y) (hH : ∀ y, hi = some y → OpR G ρ e V y) (hx : cX G x = some fx) (hl : cXo G lo = some lo') (hh : cXo G hi = some hi') (hq : q_slc sz fx lo' hi' e h = some r) : Ans P V o w ρ r := by
  obtain ⟨a, ha, hq⟩ := ob_some hq
  have hv := hX _ _ hx ha
  rcases AV.kSl_some hq (by simp) with ⟨b, p, n, c, ex, rfl, hq1⟩ | ⟨rfl, hq1⟩ | ⟨rfl, hq1⟩
  · obtain ⟨l, hbl, hq2⟩ := bnd_some hl hL hq1
    obtain ⟨m, hbm, hq3⟩ := bnd_some hh hH hq2
    obtain ⟨cb, kb, q, hρ, h2, h3, h4, h5⟩ := hv
    rcases bf_or hq3 with ⟨rfl, hq4⟩ | ⟨rfl, hq4⟩
    · obtain ⟨h6, h7, h8, h9⟩ := slX_some hρ hq4
      have hqc := h4 rfl
      subst hqc
      refine ⟨_, ex_slice ho ?_, h9⟩
      rw [h2]
      exact run_slc ht hz (run_bounds hbl hbm h6 h7)
    · obtain ⟨h6, h7, h9⟩ := slU_some hsz hρ h3 (h5 rfl) hq4
      refine ⟨_, ex_slice ho ?_, h9⟩
      rw [h2]
      exact run_slc ht hz (run_bounds hbl hbm h6 h7)
  · cases hq1
  · obtain ⟨l, hbl, hq2⟩ := bnd_some hl hL hq1
    obtain ⟨m, hbm, hq3⟩ := bnd_some hh hH hq2
    obtain ⟨h6, hq4⟩ := bf_some hq3
    obtain ⟨h7, hq5⟩ := bf_some hq4
    have h6 := Nat.eq_of_beq_eq_true h6
    have h7 := Nat.eq_of_beq_eq_true h7
    subst h6; subst h7
    cases hq5
    have h2 : V x = .slice none 0 0 := hv
    refine ⟨.slice none 0 0, ex_slice ho ?_, rfl⟩
    rw [h2]
    have := run_slc (P := P) (w := w) (a := none) ht hz (run_bounds (isS := true) (len := 0) (cap := 0) hbl hbm (Nat.le_refl _) (Nat.le_refl _))
    simpa using this
theorem a_slc3 {t el : TypeId} {sz : Nat} {x y z : Operand} {lo : Option Operand} {fx fy fz : X} {lo' : Option X} (ho : o.op = .slice t x lo (some y) (some z)) (ht : P.underlying t = some (.slice el)) (hz : szOf P el = some sz) (hsz : 1 ≤ sz) (hX : OpR G ρ e V x)
    (hL : ∀ y, lo = some y → OpR G ρ e V y) (hY : OpR G ρ e V y) (hZ : OpR G ρ e V z) (hx : cX G x = some fx) (hl : cXo G lo = some lo') (hy : cX G y = some fy) (hzz : cX G z = some fz) (hq : q_slc3 sz fx lo' fy fz e h = some r) : Ans P V o w ρ r := by
  obtain ⟨a, ha, hq⟩ := ob_some hq
  have hv := hX _ _ hx ha
  have one : ∀ {u : Operand} {fu : X}, OpR G ρ e V u → cX G u = some fu → cXo G (some u) = some (some fu) := fun _ hu => by simp [cXo, hu, ob]
  have val : ∀ {u : Operand} {n : Nat}, BndV ((some u).map V) 0 n → ∃ k, V u = .int k (n : Int) := fun hb => by
    rcases hb with ⟨h0, _⟩ | ⟨k, hk⟩
    · cases h0
    · exact ⟨k, Option.some.inj hk⟩
  rcases AV.kSl_some hq (by simp) with ⟨b, p, n, c, ex, rfl, hq1⟩ | ⟨rfl, hq1⟩ | ⟨rfl, hq1⟩
  · obtain ⟨l, hbl, hq2⟩ := bnd_some hl hL hq1
    obtain ⟨m, hbm, hq3⟩ := bnd_some (one hY hy) (fun u hu => by cases hu; exact hY) hq2
    obtain ⟨k, hbk, hq4⟩ := bnd_some (one hZ hzz) (fun u hu => by cases hu; exact hZ) hq3
    obtain ⟨k1, e1⟩ := val hbm
    obtain ⟨k2, e2⟩ := val hbk
    obtain ⟨cb, kb, q, hρ, h2, h3, h4, h5⟩ := hv
    rcases bf_or hq4 with ⟨rfl, hq5⟩ | ⟨rfl, hq5⟩
    · obtain ⟨h6, h7, h8, h9⟩ := slX_some hρ hq5
      have hqc := h4 rfl
      subst hqc
      refine ⟨_, ex_slice ho ?_, h9⟩
      simp only [Option.map_some, h2, e1, e2]
      exact run_slc ht hz (run_bounds3 hbl h6 h7 h8)
    · obtain ⟨g1, hq6⟩ := bf_some hq5
      obtain ⟨g2, hq7⟩ := bf_some hq6
      obtain ⟨g3, hq8⟩ := bf_some hq7
      obtain ⟨g4, hq9⟩ := bf_some hq8
      have g1 := Nat.eq_of_beq_eq_true g1
      have g2 := Nat.le_of_ble_eq_true g2
      have g3 := Nat.le_of_ble_eq_true g3
      have g4 := Nat.le_of_ble_eq_true g4
      subst g1
      cases hq9
      refine ⟨.slice (some ⟨cb, p, none⟩) m k, ex_slice ho ?_, ⟨cb, kb, k, hρ, rfl, g2, fun _ => rfl, fun h => by cases h⟩⟩
      simp only [Option.map_some, h2, e1, e2]
      have := run_slc (P := P) (w := w) (a := some (⟨cb, p, none⟩ : Addr)) ht hz (run_bounds3 (len := n) (cap := q) (k1 := k1) (k2 := k2) hbl (Nat.zero_le m) g2 (by omega))
      rw [this]
      have e3 : (if k = 0 then some (⟨cb, p, none⟩ : Addr) else (some (⟨cb, p, none⟩ : Addr)).map (·.add (0 * sz))) = some ⟨cb, p, none⟩ := by
        split
        · rfl
        · simp [Addr.add]
      rw [e3]; rfl
  · cases hq1
  · obtain ⟨l, hbl, hq2⟩ := bnd_some hl hL hq1
    obtain ⟨m, hbm, hq3⟩ := bnd_some (one hY hy) (fun u hu => by cases hu; exact hY) hq2
    obtain ⟨k, hbk, hq4⟩ := bnd_some (one hZ hzz) (fun u hu => by cases hu; exact hZ) hq3
    obtain ⟨k1, e1⟩ := val hbm
    obtain ⟨k2, e2⟩ := val hbk
    obtain ⟨g1, hq5⟩ := bf_some hq4
    obtain ⟨g2, hq6⟩ := bf_some hq5
    obtain ⟨g3, hq7⟩ := bf_some hq6
    have g1 := Nat.eq_of_beq_eq_true g1
    have g2 := Nat.eq_of_beq_eq_true g2
    have g3 := Nat.eq_of_beq_eq_true g3
    subst g1; subst g2; subst g3
    cases hq7
    have h2 : V x = .slice none 0 0 := hv
    refine ⟨.slice none 0 0, ex_slice ho ?_, rfl⟩
    simp only [Option.map_some, h2, e1, e2]
    have := run_slc (P := P) (w := w) (a := none) ht hz (run_bounds3 (len := 0) (cap := 0) (k1 := k1) (k2 := k2) hbl (Nat.le_refl _) (Nat.le_refl _) (Nat.le_refl _))
    simpa using this
theorem a_slcT {t : TypeId} {x : Operand} {lo hi : Option Operand} {fx : X} {lo' hi' : Option X} (ho : o.op = .slice t x lo hi none) (ht : P.underlying t = some .string) (hX : OpR G ρ e V x)
    (hL : ∀ y, lo = some y → OpR G ρ e V y) (hH : ∀ y, hi = some y → OpR G ρ e V y) (hx : cX G x = some fx) (hl : cXo G lo = some lo') (hh : cXo G hi = some hi') (hq : q_slcT fx lo' hi' e h = some r) : Ans P V o w ρ r := by
  obtain ⟨a, ha, hq⟩ := ob_some hq
  obtain ⟨s, n, rfl, hq1⟩ := AV.kStr_some hq (by simp)
  obtain ⟨h1, h2, h3⟩ := hX _ _ hx ha
  obtain ⟨l, hbl, hq2⟩ := bnd_some hl hL hq1
  obtain ⟨m, hbm, hq3⟩ := bnd_some hh hH hq2
  obtain ⟨hlm, hq3'⟩ := bf_some hq3
  obtain ⟨hms, hq4⟩ := bf_some hq3'
  have hlm := Nat.le_of_ble_eq_true hlm
  have hms := Nat.le_of_ble_eq_true hms
  rw [dropK_eq] at hq4
  rcases takeK_eq none (Nat.sub m l) (s.drop l) (fun s => fN (Nat.sub m l) fun k => some (AV.str s k)) with hn | ⟨h4, h5⟩
  · rw [hn] at hq4; cases hq4
  rw [h5, fN_eq] at hq4
  cases hq4
  have h1' : V x = .string (tx s) := h1
  refine ⟨.string (tx ((s.drop l).take (m - l))), ex_slice ho ?_, ⟨rfl, ?_, fun c hc => h3 c (List.mem_of_mem_drop (List.mem_of_mem_take hc))⟩⟩
  · rw [h1']
    have hb := run_bounds (P := P) (w := w) (isS := false) (len := (tx s).size) (cap := (tx s).size) hbl (by rw [tx_size, ← h2]; exact hbm) hlm (by rw [tx_size, ← h2]; exact hms)
    simp [Instr.sliceAt, Instr.slice, Sem.run_bind, run_und ht, Result.andThen, hb, tx_extract]
  · show m - l = ((s.drop l).take (m - l)).length
    simp; omega
end
end Go.Proofs.YtiebkbmnepgacaaGreatDoor.Ew
/-
  Evaluator, part 12: quiet operations: bytes to text, structs and arrays written out.
-/
namespace Go.Proofs.YtiebkbmnepgacaaGreatDoor.Ew
open Go Go.Proofs.YtiebkbmnepgacaaGreatDoor Go.RowKit
set_option linter.unusedVariables false

section
variable {P : Program} {G : Nat} {ρ : RM} {e : Env} {h : HP} {w : World} {V : Operand → Value} {o : Oper} {r : AV}

theorem byt_some {β : Type} : ∀ {l : List AV} {n : Nat} {f : List Nat → Nat → Option β} {r : β}, byt none l n f = some r → ∃ s : List Nat, (∀ x ∈ s, x < 256) ∧ l = s.map (fun x : Nat => AV.int .u8 (x : Int)) ∧ f s (n + s.length) = some r
  | [], n, f, r, hq => ⟨[], by simp, rfl, hq⟩
  | v :: l, n, f, r, hq => by
    obtain ⟨k, x, rfl, hq1⟩ := AV.kInt_some (f := fun k x => bf (Nat.beq (ikN k) 4) (nn x none fun x => bf (Nat.ble x 255) (byt none l (Nat.succ n) fun s m => f (x :: s) m) none) none) hq (by simp)
    obtain ⟨hk, hq2⟩ := bf_some hq1
    obtain ⟨m, hx, hq3⟩ := nnB hq2
    obtain ⟨hm, hq4⟩ := bf_some hq3
    obtain ⟨s, h1, h2, h3⟩ := byt_some (l := l) hq4
    have hk' : k = .u8 := by cases k <;> first | rfl | cases hk
    subst hk'; subst hx
    have hm := Nat.le_of_ble_eq_true hm
    refine ⟨m :: s, fun y hy => ?_, by rw [h2]; rfl, ?_⟩
    · rcases List.mem_cons.1 hy with rfl | hy
      · omega
      · exact h1 y hy
    · have : n + 1 + s.length = n + (m :: s).length := by simp; omega
      rw [← this]; exact h3
  where
  nnB {β : Type} {x : Int} {f : Nat → Option β} {r : β} (h : nn x none f = some r) : ∃ n : Nat, x = (n : Int) ∧ f n = some r := by
    cases x with
    | ofNat n => exact ⟨n, rfl, h⟩
    | negSucc n => cases h
theorem vrl_bytes : ∀ {s : List Nat} {vs : List Value}, VrL ρ (s.map (fun x : Nat => AV.int .u8 (x : Int))) vs → vs = (s.map fun x : Nat => (x : Int)).map (Value.int .u8)
  | [], vs, hv => hv
  | x :: s, vs, hv => by
    obtain ⟨v, t, rfl, h1, h2⟩ := hv
    rw [vrl_bytes h2]
    have : v = .int .u8 (x : Int) := h1
    rw [this]; rfl
theorem fold_bytes : ∀ (s : List Nat) (acc : ByteArray), ((s.map fun x : Nat => (x : Int)).foldl (fun r n => r.push (UInt8.ofNat n.toNat)) acc) = acc ++ tx s
  | [], acc => by
    apply ByteArray.ext
    rw [ByteArray.data_append]; simp []
  | x :: s, acc => by
    simp only [List.map_cons, List.foldl_cons]
    rw [fold_bytes s]
    apply ByteArray.ext
    rw [ByteArray.data_append, ByteArray.data_append]
    simp [ByteArray.push]
theorem a_convBS {s d el : TypeId} {x : Operand} {fx : X} (ho : o.op = .convert s d x) (hs : P.underlying s = some (.slice el)) (hd : P.underlying d = some .string) (he : P.underlying el = some (.int .u8)) (hX : OpR G ρ e V x) (hx : cX G x = some fx) (hr : Hr P ρ h.g h.nx w)
    (hq : q_convBS fx e h = some r) : Ans P V o w ρ r := by
  obtain ⟨a, ha, hq⟩ := ob_some hq
  have hv := hX _ _ hx ha
  have ex : ∀ c, (Conv.bytesToString (V x)).run P w = .ok c w → (∃ a n q, V x = .slice a n q) → (execOp V o).run P w = .ok (.value c) w := fun c hc ⟨a, n, q, hv⟩ => by
    simp only [execOp, ho]
    refine run_v ?_
    rw [hv] at hc ⊢
    simp only [convert, Sem.run_bind, run_und hs, run_und hd, Result.andThen, run_und he, hc]
  have emp : (⟨#[]⟩ : ByteArray) = tx [] := rfl
  rcases AV.kSl_some hq (by simp) with ⟨b, p, n, c, exx, rfl, hq1⟩ | ⟨rfl, hq1⟩ | ⟨rfl, hq1⟩
  · obtain ⟨l, t', g, wr, hb, h0, hq2⟩ := rd_some (f := fun l => byt none l 0 fun s m => some (AV.str s m)) hq1
    obtain ⟨s', h1, h2, h3⟩ := byt_some hq2
    cases h3
    obtain ⟨cb, kb, q, hρ, hvx, _⟩ := hv
    obtain ⟨vs, h4, h5, h6⟩ := cells_at (hr_cells hr hb hρ) p n h0
    rw [h2] at h6
    have h7 := vrl_bytes h6
    have h8 := run_loadCells (P := P) (b := cb) (o := p) (W := w) vs 0 #[] (fun j u hj => by rw [Nat.zero_add]; exact h5 j u hj)
    rw [h4] at h8
    have h9 := run_bytesToString (P := P) w ⟨cb, p, none⟩ n q (s'.map fun x : Nat => (x : Int)) (by
      rw [← h7]
      simpa [loadCells] using h8)
    rw [fold_bytes] at h9
    have h10 : ByteArray.empty ++ tx s' = tx s' := by
      apply ByteArray.ext
      rw [ByteArray.data_append]; simp []
    rw [h10] at h9
    refine ⟨.string (tx s'), ex _ (by rw [hvx]; exact h9) ⟨_, _, _, hvx⟩, ⟨rfl, by omega, h1⟩⟩
  · obtain ⟨c, q, hvx⟩ := hv
    cases hq1
    have h9 := run_bytesToString (P := P) w c 0 q [] (by simp [loadCells, loadCellsFrom, Sem.run_pure])
    exact ⟨.string (tx []), ex _ (by rw [hvx]; exact h9) ⟨_, _, _, hvx⟩, ⟨rfl, rfl, by simp⟩⟩
  · cases hq1
    have hvx : V x = .slice none 0 0 := hv
    exact ⟨.string (tx []), ex _ (by rw [hvx]; simp [Conv.bytesToString, Sem.run_pure]; rfl) ⟨_, _, _, hvx⟩, ⟨rfl, rfl, by simp⟩⟩

/-! ### constants -/
theorem absV1_rel {v : Value} {a : AV} (hc : absV1 v = some a) : Vr ρ a v ∧ cellsOf a = [a] ∧ v.cells = #[v] := by
  unfold absV1 at hc
  split at hc
  · rw [fB_eq] at hc; cases hc; exact ⟨rfl, rfl, rfl⟩
  · rw [bI_some hc]; exact ⟨rfl, rfl, rfl⟩
  · rename_i s
    obtain ⟨l, h1, h2, h3, h4⟩ := strK_spec s.data.toList 0 (fun s n => some (AV.str s n))
    rw [h1] at hc; cases hc
    refine ⟨⟨?_, by omega, h4⟩, rfl, rfl⟩
    rw [h2]
  all_goals first | (cases hc; exact ⟨rfl, rfl, rfl⟩) | cases hc
theorem absV_rel {v : Value} {a : AV} (hc : absV v = some a) : Vr ρ a v ∧ VrL ρ (cellsOf a) v.cells.toList := by
  unfold absV at hc
  split at hc
  · rename_i cs
    obtain ⟨l, h1, h2⟩ := ob_some hc
    cases h2
    obtain ⟨h3, h4⟩ := seqO_spec h1
    have key : ∀ (l : List AV) (vs : List Value), l.length = vs.length → (∀ (i : Nat) (x : Value), vs[i]? = some x → ∃ y, l[i]? = some y ∧ absV1 x = some y) → VrL ρ l vs := by
      intro l
      induction l with
      | nil => intro vs h _; cases vs with | nil => rfl | cons _ _ => simp at h
      | cons x l ih =>
        intro vs h hh
        cases vs with
        | nil => simp at h
        | cons v vs =>
          obtain ⟨y, h5, h6⟩ := hh 0 v rfl
          simp at h5; subst h5
          exact VrL.cons (absV1_rel h6).1 (ih vs (by simpa using h) fun i z hz => by simpa using hh (i + 1) z (by simpa using hz))
    have := key l cs.toList h3 h4
    exact ⟨⟨cs, rfl, this⟩, this⟩
  · obtain ⟨h1, h2, h3⟩ := absV1_rel (ρ := ρ) hc
    refine ⟨h1, ?_⟩
    rw [h2, h3]
    exact VrL.cons h1 VrL.nil
theorem zeroOf_some {t : TypeId} {z : List AV} (hz : zeroOf P t = some z) : ∃ i v, P.info? t = some i ∧ i.zero = some v ∧ ∀ ρ : RM, VrL ρ z v.cells.toList := by
  obtain ⟨i, h1, h2⟩ := ob_some hz
  obtain ⟨v, h3, h4⟩ := ob_some h2
  obtain ⟨a, h5, h6⟩ := ob_some h4
  cases h6
  exact ⟨i, v, h1, h3, fun ρ => (absV_rel h5).2⟩
theorem run_zero {t : TypeId} {i : TypeInfo} {v : Value} (h1 : P.info? t = some i) (h2 : i.zero = some v) : (zeroValue t).run P w = .ok v w := by
  simp [zeroValue, Sem.run_bind, run_inf h1, Result.andThen, h2, Sem.run_pure]
theorem cellsOf_rel {a : AV} {v : Value} (hv : Vr ρ a v) : VrL ρ (cellsOf a) v.cells.toList ∨ a = .any := by
  cases a <;> first | exact .inr rfl | skip
  all_goals try (refine .inl ?_)
  case agg l => obtain ⟨xs, rfl, h⟩ := hv; exact h
  case bool b => have : v = .bool b := hv; subst this; exact VrL.cons rfl VrL.nil
  case int k n => have : v = .int k n := hv; subst this; exact VrL.cons rfl VrL.nil
  case str s n => obtain ⟨rfl, h⟩ := hv; exact VrL.cons ⟨rfl, h⟩ VrL.nil
  case ptr b p => obtain ⟨c, k, h1, rfl⟩ := hv; exact VrL.cons ⟨c, k, h1, rfl⟩ VrL.nil
  case nilp => have : v = .pointer none := hv; subst this; exact VrL.cons rfl VrL.nil
  case sl b p n q ex => obtain ⟨c, k, q', h1, rfl, h2⟩ := hv; exact VrL.cons ⟨c, k, q', h1, rfl, h2⟩ VrL.nil
  case es => obtain ⟨c, q, rfl⟩ := hv; exact VrL.cons ⟨c, q, rfl⟩ VrL.nil
  case nils => have : v = .slice none 0 0 := hv; subst this; exact VrL.cons rfl VrL.nil
  case map b => obtain ⟨c, k, h1, rfl⟩ := hv; exact VrL.cons ⟨c, k, h1, rfl⟩ VrL.nil
  case func f l m => obtain ⟨x1, x2, rfl, h⟩ := hv; exact VrL.cons ⟨x1, x2, rfl, h⟩ VrL.nil
  case yield b => obtain ⟨c, k, h1, rfl⟩ := hv; exact VrL.cons ⟨c, k, h1, rfl⟩ VrL.nil
  case nilf => have : v = .nilFunc := hv; subst this; exact VrL.cons rfl VrL.nil
  case iface t x => obtain ⟨y, rfl, h⟩ := hv; exact VrL.cons ⟨y, rfl, h⟩ VrL.nil
  case nili => have : v = .nilIface := hv; subst this; exact VrL.cons rfl VrL.nil
  case tup l => obtain ⟨xs, rfl, h⟩ := hv; exact VrL.cons ⟨xs, rfl, h⟩ VrL.nil
/-- a value's cells -/
theorem cells_rel {a : AV} {v : Value} (hv : Vr ρ a v) : VrL ρ (cellsOf a) v.cells.toList := by
  rcases cellsOf_rel hv with h | rfl
  · exact h
  · have h1 : oneC v = true := hv
    have : v.cells = #[v] := by cases v <;> first | rfl | (simp [oneC] at h1)
    rw [this]
    exact VrL.cons hv VrL.nil
end
end Go.Proofs.YtiebkbmnepgacaaGreatDoor.Ew
/-
  Evaluator, part 13: structs and arrays written out.
-/
namespace Go.Proofs.YtiebkbmnepgacaaGreatDoor.Ew
open Go Go.Proofs.YtiebkbmnepgacaaGreatDoor Go.RowKit
set_option linter.unusedVariables false

section
variable {P : Program} {G : Nat} {ρ : RM} {e : Env} {h : HP} {w : World} {V : Operand → Value} {o : Oper} {r : AV}

theorem VrL.over {l y : List AV} {vs ys : List Value} (n : Nat) (hl : VrL ρ l vs) (hy : VrL ρ y ys) : VrL ρ (over n l y) (over n vs ys) := by
  unfold Ew.over
  rw [hy.length]
  exact ((hl.take n).app hy).app (hl.drop _)
theorem over_set {α : Type} (L : List α) (n : Nat) (a : α) (r : List α) (hn : n < L.length) : over (n + 1) (L.set n a) r = over n L (a :: r) := by
  unfold over
  have h1 : (L.set n a).take (n + 1) = L.take n ++ [a] := by
    apply List.ext_getElem
    · simp; omega
    · intro j h1 h2
      simp only [List.length_take, List.length_set] at h1
      rw [List.getElem_take, List.getElem_set, List.getElem_append]
      split
      · rename_i e; subst e
        rw [dif_neg (by simp; omega)]; simp
      · rename_i e
        rw [dif_pos (by simp; omega)]; simp
  rw [h1, List.drop_set_of_lt (by omega), show n + 1 + r.length = n + (a :: r).length by simp; omega]
  simp
theorem fold_over (off : Nat) : ∀ (l : List Value) (k : Nat) (arr : Array Value), off + k + l.length ≤ arr.size → ((l.zipIdx k).foldl (fun (cs : Array Value) (x : Value × Nat) => cs.setIfInBounds (off + x.2) x.1) arr).toList = over (off + k) arr.toList l
  | [], k, arr, h => by simp [over]
  | a :: r, k, arr, h => by
    simp only [List.length_cons] at h
    simp only [List.zipIdx_cons, List.foldl_cons]
    rw [fold_over off r (k + 1) _ (by simp; omega)]
    rw [Array.toList_setIfInBounds]
    exact over_set _ _ _ _ (by simp; omega)
theorem fill_step {off : Nat} {v cells : Array Value} (h : off + v.size ≤ cells.size) : (v.zipIdx.foldl (fun cs (c, j) => cs.setIfInBounds (off + j) c) cells).toList = over off cells.toList v.toList := by
  rw [← Array.foldl_toList, Array.toList_zipIdx]
  exact fold_over off v.toList 0 cells (by simpa using h)
theorem bld_fill {place : Nat → Option (Nat × Nat)} {F : List AV → Option AV} : ∀ (ps : List (Nat × Operand)) (qs : List (Nat × Nat × X)) (z : List AV) (cells : Array Value), seqO (cPart G place) ps = some qs → (∀ p ∈ ps, OpR G ρ e V p.2) → VrL ρ z cells.toList →
    bld none qs e z F = some r → ∃ z' cells', F z' = some r ∧ Instr.fill place cells (ps.map fun p => (p.1, V p.2)) = some cells' ∧ VrL ρ z' cells'.toList
  | [], qs, z, cells, hs, hX, hz, hq => by
    cases hs
    exact ⟨z, cells, hq, rfl, hz⟩
  | (i, x) :: ps, qs, z, cells, hs, hX, hz, hq => by
    obtain ⟨q, h1, h2⟩ := ob_some hs
    obtain ⟨qs', h3, h4⟩ := ob_some h2
    cases h4
    obtain ⟨⟨off, n⟩, h5, h6⟩ := ob_some h1
    simp only [fN_eq] at h6
    obtain ⟨fx, h7, h8⟩ := ob_some h6
    cases h8
    have hq' : (@Option.casesOn AV (fun _ => Option AV) (fx e) none fun v => bf (lenIs (cellsOf v) n) (overK none (cellsOf v) off z fun z => bld none qs' e z F) none) = some r := hq
    cases hv : fx e with
    | none => rw [hv] at hq'; cases hq'
    | some a =>
      rw [hv] at hq'
      obtain ⟨h9, h10⟩ := bf_some (t := overK none (cellsOf a) off z fun z => bld none qs' e z F) hq'
      have h9 := lenIs_eq h9
      rcases overK_eq none (cellsOf a) off z (fun z => bld none qs' e z F) with hn | ⟨h11, h12⟩
      · rw [hn] at h10; cases h10
      rw [h11] at h10
      have hr := hX (i, x) (by simp) _ _ h7 hv
      have hc := cells_rel hr
      have hlen : (V x).cells.size = n := by have := hc.length; simp at this; omega
      have hsz : cells.size = z.length := by have := hz.length; simpa using this
      have hfit : off + (V x).cells.size ≤ cells.size := by omega
      obtain ⟨z', cells', h13, h14, h15⟩ := bld_fill ps qs' (over off z (cellsOf a)) ((V x).cells.zipIdx.foldl (fun cs (c, j) => cs.setIfInBounds (off + j) c) cells) h3 (fun p hp => hX p (by simp [hp])) (by
        rw [fill_step hfit]; exact hz.over off hc) h10
      refine ⟨z', cells', h13, ?_, h15⟩
      simp only [List.map_cons, Instr.fill, h5]
      rw [if_neg (by simp only [ne_eq, Bool.or_eq_true, decide_eq_true_eq]; omega)]
      exact h14
theorem run_mapM_fields {fs : Array Field} (hall : (fs.toList.all fun f => (P.info? f.type).isSome) = true) : (fs.mapM fun f => (do pure (f.offset, ← sizeOf f.type) : Sem (Nat × Nat))).run P w = .ok (fs.map fun f => (f.offset, ((P.info? f.type).map (·.size)).getD 0)) w := by
  rw [Array.mapM_eq_mapM_toList]
  have key : ∀ (l : List Field), (l.all fun f => (P.info? f.type).isSome) = true → (l.mapM fun f => (do pure (f.offset, ← sizeOf f.type) : Sem (Nat × Nat))).run P w = .ok (l.map fun f => (f.offset, ((P.info? f.type).map (·.size)).getD 0)) w := by
    intro l
    induction l with
    | nil => intro _; simp [Sem.run_pure]
    | cons f l ih =>
      intro hl
      simp only [List.all_cons, Bool.and_eq_true] at hl
      obtain ⟨i, hi⟩ := Option.isSome_iff_exists.1 hl.1
      have h1 : (sizeOf f.type).run P w = .ok i.size w := by simp [sizeOf, run_inf hi, Result.andThen]
      simp only [List.mapM_cons, Sem.run_bind, h1, Result.andThen, Sem.run_pure, ih hl.2, List.map_cons, hi, Option.map_some, Option.getD_some]
  have h2 := key fs.toList hall
  simp only [Sem.run_map, h2, Result.andThen]
  congr 1
  apply Array.toList_inj.1; simp
theorem a_buildS {t : TypeId} {fs : Array Field} {ps : Array (Nat × Operand)} {z : List AV} {qs : List (Nat × Nat × X)} (ho : o.op = .build t ps) (ht : P.underlying t = some (.struct fs)) (hall : (fs.toList.all fun f => (P.info? f.type).isSome) = true) (hz : zeroOf P t = some z)
    (hs : seqO (cPart G (plS P fs)) ps.toList = some qs) (hX : ∀ p ∈ ps.toList, OpR G ρ e V p.2) (hq : q_build z qs e h = some r) : Ans P V o w ρ r := by
  obtain ⟨i, v, h1, h2, h3⟩ := zeroOf_some hz
  have hpl : (fun i => (fs.map fun f => (f.offset, ((P.info? f.type).map (·.size)).getD 0))[i]?) = plS P fs := funext fun i => by
    simp only [plS, Array.getElem?_map]
    cases hf : fs[i]? with
    | none => rfl
    | some f =>
      have hm : f ∈ fs.toList := by
        have := Array.mem_of_getElem? hf
        simpa using this
      obtain ⟨inf, hi⟩ := Option.isSome_iff_exists.1 (List.all_eq_true.1 hall f hm)
      simp [ob, szOf, hi, fN_eq]
  obtain ⟨z', cells', h4, h5, h6⟩ := bld_fill (F := fun z => some (.agg z)) ps.toList qs z v.cells hs hX (h3 ρ) hq
  cases h4
  refine ⟨.agg cells', ?_, ⟨cells', rfl, h6⟩⟩
  simp only [execOp, ho]
  refine run_v ?_
  have h7 : (ps.map fun x => (x.1, V x.2)).toList = ps.toList.map fun p => (p.1, V p.2) := by simp
  simp only [Instr.build, Sem.run_bind, run_zero h1 h2, Result.andThen, run_und ht, run_mapM_fields hall, h7, hpl, h5, Sem.run_pure]
theorem a_buildA {t el : TypeId} {n sz : Nat} {ps : Array (Nat × Operand)} {z : List AV} {qs : List (Nat × Nat × X)} (ho : o.op = .build t ps) (ht : P.underlying t = some (.array n el)) (hsz : szOf P el = some sz) (hz : zeroOf P t = some z)
    (hs : seqO (cPart G fun i => some (i * sz, sz)) ps.toList = some qs) (hX : ∀ p ∈ ps.toList, OpR G ρ e V p.2) (hq : q_build z qs e h = some r) : Ans P V o w ρ r := by
  obtain ⟨i, v, h1, h2, h3⟩ := zeroOf_some hz
  obtain ⟨z', cells', h4, h5, h6⟩ := bld_fill (F := fun z => some (.agg z)) ps.toList qs z v.cells hs hX (h3 ρ) hq
  cases h4
  refine ⟨.agg cells', ?_, ⟨cells', rfl, h6⟩⟩
  simp only [execOp, ho]
  refine run_v ?_
  have h7 : (ps.map fun x => (x.1, V x.2)).toList = ps.toList.map fun p => (p.1, V p.2) := by simp
  simp only [Instr.build, Sem.run_bind, run_zero h1 h2, Result.andThen, run_und ht, run_szOf hsz, h7, h5, Sem.run_pure]
end
end Go.Proofs.YtiebkbmnepgacaaGreatDoor.Ew
