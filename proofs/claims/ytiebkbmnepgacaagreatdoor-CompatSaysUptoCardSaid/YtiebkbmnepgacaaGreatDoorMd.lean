import Derived.Test.YtiebkbmnepgacaaGreatDoorMc
import Derived.Laws.StructEq
import Derived.WideKeyRuns
/-
  Evaluator, part 14: maps whose keys are structs of texts.
-/
namespace Go.Proofs.YtiebkbmnepgacaaGreatDoor.Ew
open Go Go.Proofs.YtiebkbmnepgacaaGreatDoor Go.RowKit
set_option linter.unusedVariables false

section
variable {P : Program} {G : Nat} {ρ : RM} {e : Env} {h : HP} {w : World} {V : Operand → Value} {o : Oper} {r : AV}

/-- fields of one text each, side by side from i on -/
def TxtF (P : Program) (i : Nat) (fl : List Field) : Prop := ∀ j f, fl[j]? = some f → f.offset = i + j ∧ f.name ≠ "_" ∧ P.underlying f.type = some .string
theorem TxtF.tail {i : Nat} {f : Field} {fl : List Field} (h : TxtF P i (f :: fl)) : TxtF P (i + 1) fl := fun j g hg => by
  have := h (j + 1) g (by simpa using hg)
  rw [show i + 1 + j = i + (j + 1) by omega]; exact this
theorem keyOK_some {t : TypeId} {nk : Nat} (hk : keyOK P t = some nk) : ∃ fs, P.underlying t = some (.struct fs) ∧ fs.size = nk ∧ P.stoodInHeld t = false ∧ TxtF P 0 fs.toList := by
  obtain ⟨d, h1, h2⟩ := ob_some hk
  cases d with
  | struct fs =>
    obtain ⟨h3, h4⟩ := bf_some h2
    cases h4
    simp only [Bool.and_eq_true, Bool.not_eq_true'] at h3
    refine ⟨fs, h1, rfl, h3.2, fun j f hf => ?_⟩
    have hm : (f, j) ∈ fs.toList.zipIdx := by
      rw [List.mem_zipIdx_iff_getElem?]; simpa using hf
    have h5 := List.all_eq_true.1 h3.1 (f, j) hm
    simp only [Bool.and_eq_true, bne_iff_ne, ne_eq] at h5
    refine ⟨by rw [Nat.eq_of_beq_eq_true h5.1.1]; omega, h5.1.2, ?_⟩
    have h6 := h5.2
    split at h6
    · assumption
    · cases h6
  | _ => cases h2
theorem run_part_txt {t : TypeId} {xs : Array Value} {i : Nat} {v : Value} (ht : P.underlying t = some .string) (hx : xs[i]? = some v) : (part t xs i).run P w = .ok v w := by
  have ha : (isAgg t).run P w = .ok false w := by simp [isAgg, Sem.run_bind, run_und ht, Result.andThen, Sem.run_pure]
  simp [part, Sem.run_bind, ha, Result.andThen, hx, Sem.run_pure]
theorem eqT_some {a b : AV} {c : Bool} (hq : eqT a b = some c) : ∃ s n t m, a = .str s n ∧ b = .str t m ∧ c = eqS s t := by
  obtain ⟨s, n, rfl, hq1⟩ := AV.kStr_some (f := fun s _ => b.kStr none fun t _ => some (eqS s t)) hq (by simp)
  obtain ⟨t, m, rfl, hq2⟩ := AV.kStr_some (f := fun t _ => some (eqS s t)) hq1 (by simp)
  exact ⟨s, n, t, m, rfl, rfl, (Option.some.inj hq2).symm⟩
theorem run_eqFields_txt (d : Nat) {xs ys : Array Value} : ∀ (fl : List Field) (i : Nat) (a b : List AV) (va vb : List Value) (c : Bool), TxtF P i fl → VrL ρ a va → VrL ρ b vb → (∀ j v, va[j]? = some v → xs[i + j]? = some v) → (∀ j v, vb[j]? = some v → ys[i + j]? = some v) →
    a.length = fl.length → eqTs a b = some c → (Op.eqFields (d + 1) xs ys fl).run P w = .ok c w
  | [], i, a, b, va, vb, c, hf, ha, hb, hx, hy, hl, hq => by
    cases a with
    | cons _ _ => simp at hl
    | nil =>
      cases b with
      | cons _ _ => cases hq
      | nil => cases hq; simp [Op.eqFields, Sem.run_pure]
  | f :: fl, i, a, b, va, vb, c, hf, ha, hb, hx, hy, hl, hq => by
    cases a with
    | nil => simp at hl
    | cons x a =>
      cases b with
      | nil => cases hq
      | cons y b =>
        obtain ⟨v, va', rfl, hv, ha'⟩ := ha
        obtain ⟨u, vb', rfl, hu, hb'⟩ := hb
        obtain ⟨h1, h2, h3⟩ := hf 0 f rfl
        have hq' : (@Option.casesOn Bool (fun _ => Option Bool) (eqT x y) none fun t => bf t (eqTs a b) (some false)) = some c := hq
        cases ht : eqT x y with
        | none => rw [ht] at hq'; cases hq'
        | some t =>
          rw [ht] at hq'
          obtain ⟨s, n, s', m, rfl, rfl, rfl⟩ := eqT_some ht
          obtain ⟨rfl, _, hs⟩ := hv
          obtain ⟨rfl, _, hs'⟩ := hu
          have p1 := run_part_txt (w := w) h3 (show xs[f.offset]? = some _ by rw [h1]; exact hx 0 _ rfl)
          have p2 := run_part_txt (w := w) h3 (show ys[f.offset]? = some _ by rw [h1]; exact hy 0 _ rfl)
          have p3 : (Op.equalIn (d + 1) f.type (.string (tx s)) (.string (tx s'))).run P w = .ok (eqS s s') w := by
            simp only [Op.equalIn, Sem.run_bind, run_und h3, Result.andThen, Sem.run_pure]
            rw [beq_toListBytes, tx_toList, tx_toList, eqS_eq s s' hs hs']
          simp only [Op.eqFields]
          rw [if_pos h2]
          simp only [Sem.run_bind, p1, p2, p3, Result.andThen]
          cases he : eqS s s' with
          | false =>
            rw [he] at hq'; cases hq'
            simp [Sem.run_pure]
          | true =>
            rw [he] at hq'
            simp only [Bool.not_true, Bool.false_eq_true, if_false]
            exact run_eqFields_txt d fl (i + 1) a b va' vb' c hf.tail ha' hb' (fun j v hj => by rw [show i + 1 + j = i + (j + 1) by omega]; exact hx (j + 1) v (by simpa using hj)) (fun j v hj => by rw [show i + 1 + j = i + (j + 1) by omega]; exact hy (j + 1) v (by simpa using hj)) (by simpa using hl) hq'
theorem run_equal_txt {t : TypeId} {nk : Nat} {a b : List AV} {xs ys : Array Value} {c : Bool} (hk : keyOK P t = some nk) (ha : VrL ρ a xs.toList) (hb : VrL ρ b ys.toList) (hl : a.length = nk) (hq : eqTs a b = some c) : (Op.equal t (.agg xs) (.agg ys)).run P w = .ok c w := by
  obtain ⟨fs, h1, h2, h3, h4⟩ := keyOK_some hk
  have hF : P.fieldsOf t = fs := by simp [Program.fieldsOf, h1]
  have := run_equalIn_struct (P := P) w 9999 t xs ys (by rw [hF]; exact h1) h3
  show (Op.equalIn 10000 t _ _).run P w = _
  rw [this, hF]
  exact run_eqFields_txt 9998 fs.toList 0 a b xs.toList ys.toList c h4 ha hb (fun j v hj => by simpa using hj) (fun j v hj => by simpa using hj) (by simp; omega) hq
theorem run_checkKey_str (em : Bool) (n : Nat) {t : TypeId} {v : Value} (ht : P.underlying t = some .string) : (Instr.checkKey em (n + 1) t v).run P w = .ok () w := by
  simp [Instr.checkKey, Sem.run_bind, run_und ht, Result.andThen, Sem.run_pure]
theorem run_checkKey_n (em : Bool) (n : Nat) {t : TypeId} {nk : Nat} {xs : Array Value} (hk : keyOK P t = some nk) (hl : xs.size = nk) : (Instr.checkKey em (n + 2) t (.agg xs)).run P w = .ok () w := by
  obtain ⟨fs, h1, h2, h3, h4⟩ := keyOK_some hk
  rw [show n + 2 = (n + 1) + 1 from rfl, Instr.checkKey]
  simp only [Sem.run_bind, run_und h1, Result.andThen]
  rw [← Array.forIn_toList]
  have key : ∀ (fl : List Field) (i : Nat), TxtF P i fl → i + fl.length ≤ xs.size →
      (forIn fl PUnit.unit (fun f (r : PUnit) => if f.name ≠ "_" then (do Instr.checkKey em (n + 1) f.type (← part f.type xs f.offset); pure (ForInStep.yield PUnit.unit)) else pure (ForInStep.yield PUnit.unit)) : Sem PUnit).run P w = .ok PUnit.unit w := by
    intro fl
    induction fl with
    | nil => intro i _ _; simp [Sem.run_pure]
    | cons f fl ih =>
      intro i hf hi
      obtain ⟨g1, g2, g3⟩ := hf 0 f rfl
      simp only [List.length_cons] at hi
      have hlt : f.offset < xs.size := by omega
      have p1 := run_part_txt (w := w) g3 (show xs[f.offset]? = some xs[f.offset] from Array.getElem?_eq_getElem hlt)
      have p2 := run_checkKey_str (P := P) (w := w) em n (v := xs[f.offset]) g3
      rw [List.forIn_cons, if_pos g2]
      simp only [Sem.run_bind, p1, p2, Result.andThen, Sem.run_pure]
      exact ih (i + 1) hf.tail (by omega)
  have := key fs.toList 0 h4 (by simp; omega)
  rw [this]; rfl
theorem run_checkKey_txt (em : Bool) {t : TypeId} {nk : Nat} {xs : Array Value} (hk : keyOK P t = some nk) (hl : xs.size = nk) : (Instr.checkKey em 10000 t (.agg xs)).run P w = .ok () w := run_checkKey_n em 9998 hk hl
theorem fnd_some {k : List AV} {ks : Array Value} {t : TypeId} {nk : Nat} (hk : keyOK P t = some nk) (hks : VrL ρ k ks.toList) (hl : k.length = nk) {f : AV → Option AV} {nope : Option AV} : ∀ (es : List (AV × AV)) (ents : List MapEntry) (i : Nat), VrL ρ (es.map (·.1)) (ents.map (·.key)) → VrL ρ (es.map (·.2)) (ents.map (·.val)) → fnd none k es nope f = some r →
    (∃ j c a, (Instr.findAsking t (.agg ks) ents i).run P w = .ok (some (j, c)) w ∧ Vr ρ a c ∧ f a = some r) ∨ ((Instr.findAsking t (.agg ks) ents i).run P w = .ok none w ∧ nope = some r)
  | [], ents, i, h1, h2, hq => by
    have : ents = [] := by
      cases ents with
      | nil => rfl
      | cons _ _ => have := h1.length; simp at this
    subst this
    exact .inr ⟨by simp [Instr.findAsking, Sem.run_pure], hq⟩
  | (a, v) :: es, ents, i, h1, h2, hq => by
    cases ents with
    | nil => have := h1.length; simp at this
    | cons en ents =>
      obtain ⟨c1, r1, e1, h3, h4⟩ := h1
      simp only [List.map_cons, List.cons.injEq] at e1
      obtain ⟨rfl, rfl⟩ := e1
      obtain ⟨c2, r2, e2, h5, h6⟩ := h2
      simp only [List.map_cons, List.cons.injEq] at e2
      obtain ⟨rfl, rfl⟩ := e2
      have hq0 : (a.kAgg none fun l => @Option.casesOn Bool (fun _ => Option AV) (eqTs k l) none fun t => bf t (f v) (fnd none k es nope f)) = some r := hq
      obtain ⟨l, rfl, hq1⟩ := AV.kAgg_some hq0 (by simp)
      obtain ⟨ys, hy1, hy2⟩ := h3
      cases ht : eqTs k l with
      | none => simp only [ht] at hq1; cases hq1
      | some c =>
        simp only [ht] at hq1
        have he := run_equal_txt (w := w) hk hks hy2 hl ht
        rw [← hy1] at he
        rcases bf_or hq1 with ⟨rfl, hq2⟩ | ⟨rfl, hq2⟩
        · refine .inl ⟨i, en.val, v, ?_, h5, hq2⟩
          simp [Instr.findAsking, Sem.run_bind, he, Result.andThen, Sem.run_pure]
        · have := fnd_some hk hks hl es ents (i + 1) h4 h6 hq2
          rcases this with ⟨j, c, a, h7, h8, h9⟩ | ⟨h7, h8⟩
          · exact .inl ⟨j, c, a, by simp [Instr.findAsking, Sem.run_bind, he, Result.andThen, h7], h8, h9⟩
          · exact .inr ⟨by simp [Instr.findAsking, Sem.run_bind, he, Result.andThen, h7], h8⟩
theorem a_look {t kt el : TypeId} {nk : Nat} {zs : List AV} {ag ok : Bool} {z : AV} {x i : Operand} {fx fi : X} (ho : o.op = .lookup t x i ok) (ht : P.underlying t = some (.map kt el)) (hk : keyOK P kt = some nk) (hz : zeroOf P el = some zs) (ha : isAg P el = some ag) (hz1 : one ag zs = some z)
    (hzf : ∀ inf v, P.info? el = some inf → inf.zero = some v → Vr ρ z v) (hX : OpR G ρ e V x) (hI : OpR G ρ e V i) (hx : cX G x = some fx) (hi : cX G i = some fi) (hr : Hr P ρ h.g h.nx w) (hq : q_look nk z ok fx fi e h = some r) : Ans P V o w ρ r := by
  obtain ⟨a, ha', hq⟩ := ob_some hq
  obtain ⟨b, rfl, hq1⟩ := AV.kMap_some hq (by simp)
  obtain ⟨ao, hb, hq2⟩ := ob_some hq1
  obtain ⟨es, rfl, hq3⟩ := kMap_some (f := fun es => ob (fi e) fun k => k.kAgg none fun k => bf (lenIs k nk) (fnd none k es (some (bf ok (.tup [z, .bool false]) z)) fun v => some (bf ok (.tup [v, .bool true]) v)) none) hq2
  obtain ⟨ka, hka, hq4⟩ := ob_some hq3
  obtain ⟨k, rfl, hq5⟩ := AV.kAgg_some hq4 (by simp)
  obtain ⟨hl, hq6⟩ := bf_some hq5
  have hl := lenIs_eq hl
  rw [HP.get_eq] at hb
  obtain ⟨c, kk, h1, h2⟩ := hX _ _ hx ha'
  obtain ⟨ks, h3, h4⟩ := hI _ _ hi hka
  obtain ⟨ents, clk, h5, h6, h7⟩ := hr.obj b _ c kk hb h1
  obtain ⟨inf, zv, h8, h9, _⟩ := zeroOf_some hz
  have hsz : ks.size = nk := by have := h4.length; simp at this; omega
  have hg : (getObj c).run P w = .ok (.map ents clk) w := by simp [getObj, Sem.run, h5]
  obtain ⟨fs, hu, _⟩ := keyOK_some hk
  have hfk := fun es => run_findKey_eq (P := P) (w := w) (k := kt) (by rw [hu]) (.agg ks) es
  have fin : ∀ (c : Option (Nat × Value)) (v : Value) (q : Bool), (Instr.findAsking kt (.agg ks) ents.toList).run P w = .ok c w → (match c with | some (_, v) => (v, true) | none => (zv, false)) = (v, q) → (execOp V o).run P w = .ok (.value (if ok then .tuple #[v, .bool q] else v)) w := fun c v q hc hm => by
    simp only [execOp, ho, h2, h3]
    refine run_v ?_
    cases c with
    | none =>
      cases hm
      simp [Instr.lookup, Sem.run_bind, run_und ht, hg, run_checkKey_txt _ hk hsz, hfk, hc, run_zero h8 h9, Result.andThen]
    | some p =>
      obtain ⟨j, v'⟩ := p
      cases hm
      simp [Instr.lookup, Sem.run_bind, run_und ht, hg, run_checkKey_txt _ hk hsz, hfk, hc, Result.andThen, Sem.run_pure]
  rcases fnd_some (w := w) hk h4 hl es ents.toList 0 (by simpa using h6) (by simpa using h7) hq6 with ⟨j, cv, av, h10, h11, h12⟩ | ⟨h10, h11⟩
  · refine ⟨_, fin _ _ _ h10 rfl, ?_⟩
    cases ok with
    | true => cases h12; exact ⟨_, rfl, VrL.cons h11 (VrL.cons rfl VrL.nil)⟩
    | false => cases h12; exact h11
  · refine ⟨_, fin _ _ _ h10 rfl, ?_⟩
    have hzz := hzf inf zv h8 h9
    cases ok with
    | true => cases h11; exact ⟨_, rfl, VrL.cons hzz (VrL.cons rfl VrL.nil)⟩
    | false => cases h11; exact hzz
end
end Go.Proofs.YtiebkbmnepgacaaGreatDoor.Ew
/-
  Evaluator, part 15: every quiet operation.
-/
namespace Go.Proofs.YtiebkbmnepgacaaGreatDoor.Ew
open Go Go.Proofs.YtiebkbmnepgacaaGreatDoor Go.RowKit
set_option linter.unusedVariables false

section
variable {P : Program} {G : Nat} {ρ : RM} {e : Env} {h : HP} {w : World} {V : Operand → Value} {o : Oper} {r : AV}

theorem one_zero {ag : Bool} {zs : List AV} {z : AV} {t : TypeId} (hz : zeroOf P t = some zs) (ha : isAg P t = some ag) (h1 : one ag zs = some z) (hok : ∀ inf v, P.info? t = some inf → inf.zero = some v → (ag = true ↔ ∃ cs, v = .agg cs)) :
    ∀ inf v, P.info? t = some inf → inf.zero = some v → Vr ρ z v := fun inf v h2 h3 => by
  obtain ⟨i, v', h4, h5, h6⟩ := zeroOf_some hz
  rw [h2] at h4; cases h4
  rw [h3] at h5; cases h5
  have hv := h6 ρ
  rcases one_some h1 with ⟨rfl, rfl⟩ | ⟨rfl, hl⟩
  · obtain ⟨cs, rfl⟩ := (hok inf v h2 h3).1 rfl
    exact ⟨cs, rfl, hv⟩
  · rw [hl] at hv
    have hn : ¬ ∃ cs, v = .agg cs := fun h => by have := (hok inf v h2 h3).2 h; cases this
    have : v.cells = #[v] := by cases v <;> first | rfl | exact absurd ⟨_, rfl⟩ hn
    rw [this] at hv
    obtain ⟨u, t', e1, h7, _⟩ := hv
    simp at e1
    rw [e1.1]; exact h7

theorem mem_arr {α : Type} {a : α} {l : Array α} (h : a ∈ l.toList) : a ∈ l := by simpa using h
theorem cCall_q {b : Builtin} {args : Array Operand} {ts : Array TypeId} {fs : List X} {f : Q} {ld : Bool} (ho : o.op = .call ⟨.builtin b, args, ts⟩) (hX : ∀ x ∈ args, OpR G ρ e V x) (hfs : cXs G args.toList = some fs)
    (hc : cCall P b ts fs = some (.q f ld)) (hq : f e h = some r) : Ans P V o w ρ r := by
  obtain ⟨hl, hget⟩ := seqO_spec hfs
  have get1 : ∀ {fx : X}, fs = [fx] → ∃ x, args.toList = [x] ∧ cX G x = some fx ∧ OpR G ρ e V x := fun {fx} e1 => by
    subst e1
    cases ha : args.toList with
    | nil => rw [ha] at hl; simp at hl
    | cons x t =>
      rw [ha] at hl hget
      have : t = [] := by simp at hl; exact hl
      subst this
      obtain ⟨y, h1, h2⟩ := hget 0 x rfl
      simp at h1; subst h1
      exact ⟨x, rfl, h2, hX x (mem_arr (by rw [ha]; simp))⟩
  have get2 : ∀ {fx fy : X}, fs = [fx, fy] → ∃ x y, args.toList = [x, y] ∧ cX G x = some fx ∧ cX G y = some fy ∧ OpR G ρ e V x ∧ OpR G ρ e V y := fun {fx fy} e1 => by
    subst e1
    cases ha : args.toList with
    | nil => rw [ha] at hl; simp at hl
    | cons x t =>
      cases t with
      | nil => rw [ha] at hl; simp at hl
      | cons y t =>
        rw [ha] at hl hget
        have : t = [] := by simp at hl; exact hl
        subst this
        obtain ⟨f1, h1, h2⟩ := hget 0 x rfl
        obtain ⟨f2, h3, h4⟩ := hget 1 y rfl
        simp at h1 h3; subst h1; subst h3
        have hm : ∀ z, z = x ∨ z = y → z ∈ args := fun z hz => by
          have : z ∈ args.toList := by rw [ha]; simpa using hz
          simpa using this
        exact ⟨x, y, rfl, h2, h4, hX x (hm x (.inl rfl)), hX y (hm y (.inr rfl))⟩
  unfold cCall at hc
  split at hc
  · obtain ⟨x, ha, hx, hO⟩ := get1 rfl
    obtain ⟨t, ht, hc⟩ := ob_some hc
    obtain ⟨d, hd, hc⟩ := ob_some hc
    split at hc
    · cases hc; exact a_lenT ho ha ht hd hO hx hq
    · cases hc; exact a_lenS ho ha ht hd hO hx hq
    · rw [fN_eq] at hc; cases hc; exact a_lenC ho ha ht (.inl ⟨_, hd⟩) hq
    · obtain ⟨d', hd', hc⟩ := ob_some hc
      split at hc
      · rw [fN_eq] at hc; cases hc; exact a_lenC ho ha ht (.inr ⟨_, _, hd, hd'⟩) hq
      · cases hc
    · cases hc
  · obtain ⟨x, ha, hx, hO⟩ := get1 rfl
    obtain ⟨t, ht, hc⟩ := ob_some hc
    obtain ⟨d, hd, hc⟩ := ob_some hc
    split at hc
    · cases hc; exact a_cap ho ha ht hd hO hx hq
    · cases hc
  · obtain ⟨x, y, ha, hx, hy, hO, hO2⟩ := get2 rfl
    obtain ⟨t, ht, hc⟩ := ob_some hc
    obtain ⟨d, hd, hc⟩ := ob_some hc
    split at hc
    · cases hc; exact a_max ho ha hO hO2 hx hy hq
    · cases hc
  · split at hc
    · obtain ⟨d, hd, hc⟩ := ob_some hc
      obtain ⟨d', hd', hc⟩ := ob_some hc
      split at hc
      · obtain ⟨_, hc⟩ := bf_some hc
        obtain ⟨i, hi, hc⟩ := ob_some hc
        obtain ⟨_, hc⟩ := bf_some hc
        obtain ⟨z, hz, hc⟩ := ob_some hc
        obtain ⟨_, hc⟩ := bf_some hc
        rw [fN_eq, fN_eq] at hc; cases hc
      · cases hc
    · cases hc
  · obtain ⟨t, ht, hc⟩ := ob_some hc
    obtain ⟨d, hd, hc⟩ := ob_some hc
    split at hc
    · obtain ⟨sz, hs, hc⟩ := ob_some hc
      cases hc
    · cases hc
  · cases hc

theorem zAg_ok {t : TypeId} {ag : Bool} (hz : zAg P t ag = true) : ∀ inf v, P.info? t = some inf → inf.zero = some v → (ag = true ↔ ∃ cs, v = .agg cs) := fun inf v h1 h2 => by
  unfold zAg at hz
  simp only [h1, Option.bind_some, h2] at hz
  split at hz
  · rename_i cs he
    cases he
    exact ⟨fun _ => ⟨cs, rfl⟩, fun _ => hz⟩
  · rename_i hn
    cases ag with
    | true => cases hz
    | false => exact ⟨fun h => (by cases h), fun ⟨cs, hc⟩ => absurd (by rw [hc]) (hn cs)⟩

/-- **every quiet operation** yields what the evaluator has, and turns nothing -/
theorem cOp_quiet {f : Q} {ld : Bool} (hV : ∀ v, V (.const v) = v) (hX : ∀ x ∈ o.op.operands, OpR G ρ e V x) (hr : Hr P ρ h.g h.nx w) (hc : cOp P G o = some (.q f ld)) (hq : f e h = some r) : Ans P V o w ρ r := by
  unfold cOp at hc
  cases ho : o.op with
  | move x =>
    rw [ho] at hc hX
    obtain ⟨fx, hx, hc⟩ := ob_some (x := cX G x) hc
    cases hc
    exact a_mv (.inl ho) (hX x (by simp [Op.operands])) hx hq
  | assign x =>
    rw [ho] at hc hX
    obtain ⟨fx, hx, hc⟩ := ob_some (x := cX G x) hc
    cases hc
    exact a_mv (.inr ho) (hX x (by simp [Op.operands])) hx hq
  | pick c x y =>
    rw [ho] at hc hX
    obtain ⟨fc, h1, hc⟩ := ob_some (x := cX G c) hc
    obtain ⟨fx, h2, hc⟩ := ob_some hc
    obtain ⟨fy, h3, hc⟩ := ob_some hc
    cases hc
    exact a_pick ho (hX c (by simp [Op.operands])) (hX x (by simp [Op.operands])) (hX y (by simp [Op.operands])) h1 h2 h3 hq
  | nilCheck x =>
    rw [ho] at hc hX
    obtain ⟨fx, hx, hc⟩ := ob_some (x := cX G x) hc
    cases hc
    exact a_nilc ho (hX x (by simp [Op.operands])) hx hq
  | binOp op t x y ty =>
    rw [ho] at hc hX
    exact cBin_ans hV ho (hX x (by simp [Op.operands])) (hX y (by simp [Op.operands])) hc hq
  | load t x =>
    rw [ho] at hc hX
    obtain ⟨ag, h1, hc⟩ := ob_some (x := isAg P t) hc
    obtain ⟨n, h2, hc⟩ := ob_some hc
    obtain ⟨fx, hx, hc⟩ := ob_some hc
    cases hc
    cases ag with
    | true => exact a_loadA ho h1 h2 (hX x (by simp [Op.operands])) hx hr hq
    | false => exact a_load1 ho h1 (hX x (by simp [Op.operands])) hx hr hq
  | extract x i =>
    rw [ho] at hc hX
    obtain ⟨fx, hx, hc⟩ := ob_some (x := cX G x) hc
    rw [fN_eq] at hc
    cases hc
    exact a_ext ho (hX x (by simp [Op.operands])) hx hq
  | unOp op t x =>
    rw [ho] at hc hX
    obtain ⟨fx, hx, hc⟩ := ob_some (x := cX G x) hc
    cases op with
    | not => cases hc; exact a_not ho (hX x (by simp [Op.operands])) hx hq
    | neg =>
      obtain ⟨d, hd, hc⟩ := ob_some (x := P.underlying t) hc
      cases d with
      | int k =>
        simp only [fN_eq] at hc
        cases hc
        exact a_neg ho (hX x (by simp [Op.operands])) hx hq
      | _ => cases hc
    | _ => cases hc
  | convert s d x =>
    rw [ho] at hc hX
    obtain ⟨fx, hx, hc⟩ := ob_some (x := cX G x) hc
    obtain ⟨a, ha, hc⟩ := ob_some hc
    obtain ⟨b, hb, hc⟩ := ob_some hc
    split at hc
    · simp only [fN_eq] at hc
      cases hc
      exact a_convI ho ha hb (hX x (by simp [Op.operands])) hx hq
    · cases hc; exact a_convS ho ha hb (hX x (by simp [Op.operands])) hx hq
    · obtain ⟨d', hd', hc⟩ := ob_some hc
      split at hc
      · cases hc; exact a_convBS ho ha hb hd' (hX x (by simp [Op.operands])) hx hr hq
      · cases hc
    · cases hc
  | makeInterface t x =>
    rw [ho] at hc hX
    obtain ⟨d, hd, hc⟩ := ob_some (x := P.underlying t) hc
    split at hc
    · cases hc
    · rename_i hn
      obtain ⟨fx, hx, hc⟩ := ob_some hc
      rw [fN_eq] at hc; cases hc
      exact a_mkI ho hd (fun ms e' => hn ms e') (hX x (by simp [Op.operands])) hx hq
  | makeFunc f' l1 l2 =>
    rw [ho] at hc hX
    cases f' with
    | func f' =>
      obtain ⟨g1, h1, hc⟩ := ob_some (x := cXs G l1.toList) hc
      obtain ⟨g2, h2, hc⟩ := ob_some hc
      rw [fN_eq] at hc; cases hc
      exact a_mkF ho (fun x hx => hX x (by simp [Op.operands]; exact .inl (by simpa using hx))) (fun x hx => hX x (by simp [Op.operands]; exact .inr (by simpa using hx))) h1 h2 hq
    | _ => cases hc
  | slice t x lo hi mx =>
    rw [ho] at hc hX
    obtain ⟨fx, hx, hc⟩ := ob_some (x := cX G x) hc
    obtain ⟨lo', hl, hc⟩ := ob_some hc
    obtain ⟨hi', hh, hc⟩ := ob_some hc
    obtain ⟨mx', hm, hc⟩ := ob_some hc
    obtain ⟨d, hd, hc⟩ := ob_some hc
    have oX := hX x (by simp [Op.operands])
    have oL : ∀ y, lo = some y → OpR G ρ e V y := fun y hy => hX y (by subst hy; simp [Op.operands])
    have oH : ∀ y, hi = some y → OpR G ρ e V y := fun y hy => hX y (by subst hy; simp [Op.operands])
    have oM : ∀ y, mx = some y → OpR G ρ e V y := fun y hy => hX y (by subst hy; simp [Op.operands])
    split at hc
    · cases mx with
      | none => cases hm; cases hc; exact a_slcT ho hd oX oL oH hx hl hh hq
      | some m => obtain ⟨fm, _, hm⟩ := ob_some (x := cX G m) hm; cases hm; cases hc
    · obtain ⟨sz, hs, hc⟩ := ob_some hc
      obtain ⟨h1, hc⟩ := bf_some hc
      have h1 := Nat.le_of_ble_eq_true h1
      cases mx with
      | none => cases hm; cases hc; exact a_slc ho hd hs h1 oX oL oH hx hl hh hq
      | some m =>
        obtain ⟨fm, hfm, hm⟩ := ob_some (x := cX G m) hm
        cases hm
        cases hi with
        | none => cases hh; cases hc
        | some y =>
          obtain ⟨fy, hfy, hh⟩ := ob_some (x := cX G y) hh
          cases hh
          cases hc
          exact a_slc3 ho hd hs h1 oX oL (oH y rfl) (oM m rfl) hx hl hfy hfm hq
    · cases hc
  | fieldAddr s x f' =>
    rw [ho] at hc hX
    obtain ⟨d, hd, hc⟩ := ob_some (x := P.underlying s) hc
    split at hc
    · obtain ⟨fd, hf, hc⟩ := ob_some hc
      obtain ⟨n, hn, hc⟩ := ob_some hc
      obtain ⟨h1, hc⟩ := bf_some hc
      have h1 := Nat.le_of_ble_eq_true h1
      rw [fN_eq] at hc
      obtain ⟨fx, hx, hc⟩ := ob_some hc
      cases hc
      obtain ⟨i, hi, hi2⟩ := szOf_some hn
      exact a_fldA ho hd hf ⟨i, hi, by omega⟩ (hX x (by simp [Op.operands])) hx hq
    · cases hc
  | field s x f' =>
    rw [ho] at hc hX
    obtain ⟨d, hd, hc⟩ := ob_some (x := P.underlying s) hc
    split at hc
    · obtain ⟨fd, hf, hc⟩ := ob_some hc
      rw [fN_eq] at hc
      obtain ⟨n, hn, hc⟩ := ob_some hc
      obtain ⟨ag, ha, hc⟩ := ob_some hc
      obtain ⟨fx, hx, hc⟩ := ob_some hc
      cases hc
      exact a_fld ho hd hf hn ha (hX x (by simp [Op.operands])) hx hq
    · cases hc
  | indexAddr t x y =>
    rw [ho] at hc hX
    obtain ⟨d, hd, hc⟩ := ob_some (x := P.underlying t) hc
    split at hc
    · obtain ⟨sz, hs, hc⟩ := ob_some hc
      obtain ⟨fx, hx, hc⟩ := ob_some hc
      obtain ⟨fy, hy, hc⟩ := ob_some hc
      cases hc
      exact a_idxA ho hd hs (hX x (by simp [Op.operands])) (hX y (by simp [Op.operands])) hx hy hq
    · obtain ⟨sz, hs, hc⟩ := ob_some hc
      obtain ⟨fx, hx, hc⟩ := ob_some hc
      obtain ⟨fy, hy, hc⟩ := ob_some hc
      rw [fN_eq] at hc; cases hc
      exact a_idxR ho hd hs (hX x (by simp [Op.operands])) (hX y (by simp [Op.operands])) hx hy hq
    · cases hc
  | index t x y =>
    rw [ho] at hc hX
    obtain ⟨d, hd, hc⟩ := ob_some (x := P.underlying t) hc
    split at hc
    · obtain ⟨fx, hx, hc⟩ := ob_some hc
      obtain ⟨fy, hy, hc⟩ := ob_some hc
      cases hc
      exact a_idxT ho hd (hX x (by simp [Op.operands])) (hX y (by simp [Op.operands])) hx hy hq
    · obtain ⟨sz, hs, hc⟩ := ob_some hc
      obtain ⟨ag, ha, hc⟩ := ob_some hc
      obtain ⟨fx, hx, hc⟩ := ob_some hc
      obtain ⟨fy, hy, hc⟩ := ob_some hc
      rw [fN_eq] at hc; cases hc
      exact a_idxV ho hd hs ha (hX x (by simp [Op.operands])) (hX y (by simp [Op.operands])) hx hy hq
    · cases hc
  | lookup t x y ok =>
    rw [ho] at hc hX
    obtain ⟨d, hd, hc⟩ := ob_some (x := P.underlying t) hc
    split at hc
    · obtain ⟨nk, hk, hc⟩ := ob_some hc
      obtain ⟨zs, hz, hc⟩ := ob_some hc
      obtain ⟨ag, ha, hc⟩ := ob_some hc
      obtain ⟨hza, hc⟩ := bf_some hc
      obtain ⟨z, h1, hc⟩ := ob_some hc
      obtain ⟨fx, hx, hc⟩ := ob_some hc
      obtain ⟨fy, hy, hc⟩ := ob_some hc
      cases hc
      exact a_look ho hd hk hz ha h1 (one_zero hz ha h1 (zAg_ok hza)) (hX x (by simp [Op.operands])) (hX y (by simp [Op.operands])) hx hy hr hq
    · cases hc
  | build t ps =>
    rw [ho] at hc hX
    obtain ⟨d, hd, hc⟩ := ob_some (x := P.underlying t) hc
    have oP : ∀ p ∈ ps.toList, OpR G ρ e V p.2 := fun p hp => hX p.2 (by simp only [Op.operands, List.mem_toArray]; exact List.mem_map_of_mem hp)
    split at hc
    · obtain ⟨hall, hc⟩ := bf_some hc
      obtain ⟨z, hz, hc⟩ := ob_some hc
      obtain ⟨qs, hs, hc⟩ := ob_some hc
      cases hc
      exact a_buildS ho hd hall hz hs oP hq
    · obtain ⟨z, hz, hc⟩ := ob_some hc
      obtain ⟨sz, hsz, hc⟩ := ob_some hc
      obtain ⟨qs, hs, hc⟩ := ob_some hc
      cases hc
      exact a_buildA ho hd hsz hz hs oP hq
    · cases hc
  | call c =>
    rw [ho] at hc hX
    obtain ⟨cl, args, ts⟩ := c
    obtain ⟨fs, hfs, hc⟩ := ob_some (x := cXs G args.toList) hc
    cases cl with
    | builtin b => exact cCall_q ho (fun x hx => hX x (by simp [Op.operands, Call.operands]; exact hx)) hfs hc hq
    | value f' =>
      cases f' with
      | func k => simp only [fN_eq] at hc; cases hc
      | _ => obtain ⟨_, _, hc⟩ := ob_some hc; cases hc
    | invoke _ _ => cases hc
  | alloc t =>
    rw [ho] at hc
    obtain ⟨z, _, hc⟩ := ob_some (x := zeroOf P t) hc
    rw [fN_eq] at hc; cases hc
  | box t x =>
    rw [ho] at hc
    obtain ⟨z, _, hc⟩ := ob_some (x := cX G x) hc
    rw [fN_eq] at hc; cases hc
  | buildSlice t n ps =>
    rw [ho] at hc
    obtain ⟨d, hd, hc⟩ := ob_some (x := P.underlying t) hc
    split at hc
    · obtain ⟨z, hz, hc⟩ := ob_some hc
      obtain ⟨sz, hsz, hc⟩ := ob_some hc
      obtain ⟨qs, hs, hc⟩ := ob_some hc
      obtain ⟨_, hc⟩ := bf_some hc
      obtain ⟨_, hc⟩ := bf_some hc
      rw [fN_eq, fN_eq] at hc; cases hc
    · cases hc
  | store t x y =>
    rw [ho] at hc
    obtain ⟨n, _, hc⟩ := ob_some (x := szOf P t) hc
    obtain ⟨_, _, hc⟩ := ob_some hc
    obtain ⟨_, _, hc⟩ := ob_some hc
    cases hc
  | makeMap t r' =>
    rw [ho] at hc
    cases r' <;> cases hc
  | makeSlice t x y =>
    rw [ho] at hc
    obtain ⟨d, hd, hc⟩ := ob_some (x := P.underlying t) hc
    split at hc
    · obtain ⟨i, _, hc⟩ := ob_some hc
      obtain ⟨_, hc⟩ := bf_some hc
      obtain ⟨_, _, hc⟩ := ob_some hc
      obtain ⟨_, _, hc⟩ := ob_some hc
      obtain ⟨_, _, hc⟩ := ob_some hc
      obtain ⟨_, hc⟩ := bf_some hc
      rw [fN_eq] at hc; cases hc
    · cases hc
  | mapUpdate t m k v =>
    rw [ho] at hc
    obtain ⟨d, hd, hc⟩ := ob_some (x := P.underlying t) hc
    split at hc
    · obtain ⟨_, _, hc⟩ := ob_some hc
      obtain ⟨_, _, hc⟩ := ob_some hc
      obtain ⟨_, _, hc⟩ := ob_some hc
      obtain ⟨_, _, hc⟩ := ob_some hc
      cases hc
    · cases hc
  | insert t m k v =>
    rw [ho] at hc
    obtain ⟨d, hd, hc⟩ := ob_some (x := P.underlying t) hc
    split at hc
    · obtain ⟨_, _, hc⟩ := ob_some hc
      obtain ⟨_, _, hc⟩ := ob_some hc
      obtain ⟨_, _, hc⟩ := ob_some hc
      obtain ⟨_, _, hc⟩ := ob_some hc
      cases hc
    · cases hc
  | defer c =>
    rw [ho] at hc
    obtain ⟨fs, hfs, hc⟩ := ob_some (x := cXs G c.args.toList) hc
    split at hc
    · obtain ⟨_, _, hc⟩ := ob_some hc
      cases hc
    · cases hc
  | _ => rw [ho] at hc; cases hc
end
end Go.Proofs.YtiebkbmnepgacaaGreatDoor.Ew
/-
  Evaluator, part 16: new memory.
-/
namespace Go.Proofs.YtiebkbmnepgacaaGreatDoor.Ew
open Go Go.Proofs.YtiebkbmnepgacaaGreatDoor Go.RowKit
set_option linter.unusedVariables false

section
variable {P : Program} {G : Nat} {ρ : RM} {e : Env} {w : World} {V : Operand → Value} {o : Oper}

/-- a new block, as the evaluator has it: whatever else comes to be known of blocks -/
def NewB (P : Program) (V : Operand → Value) (o : Oper) (ρ : RM) (n : Option Nat) (ao : AO) : Prop := ∀ w : World, ∃ (O : Obj) (v : Value), (execOp V o).run P w = .ok (.value v) (w.alloc O) ∧
  (∀ ρ' : RM, Le ρ ρ' → Or P ρ' (w.alloc O) w.heap.size 0 ao) ∧ ∀ (ρ' : RM) (id : Pos), ρ' id = some (w.heap.size, 0) → Vr ρ' (newV n id) v
theorem or_new {cs : Array Value} {t : TypeId} {l : List AV} {w : World} {ρ : RM} (hl : VrL ρ l cs.toList) : ∀ ρ' : RM, Le ρ ρ' → Or P ρ' (w.alloc (.cells cs t)) w.heap.size 0 (.cells l t none true) := fun ρ' hle => by
  have h1 := hl.length
  have h2 : cs.size = l.length := by simpa using h1
  refine OrC.or ⟨cs, World.alloc_heap_new w _, by omega, ?_, fun _ => h2, fun sz h => by cases h⟩
  rw [List.take_of_length_le (by simp; omega)]
  exact VrL.mono hle _ _ hl
theorem f_alloc_new {t : TypeId} {z : List AV} (ho : o.op = .alloc t) (hz : zeroOf P t = some z) : NewB P V o ρ none (.cells z t none true) := fun w => by
  obtain ⟨i, v, h1, h2, h3⟩ := zeroOf_some hz
  refine ⟨.cells v.cells t, .pointer (some ⟨w.heap.size, 0, none⟩), ?_, or_new (h3 ρ), fun ρ' id hid => ⟨w.heap.size, 0, hid, rfl⟩⟩
  simp only [execOp, ho]
  exact run_v (by simp only [Instr.alloc, Sem.run_bind, run_zero h1 h2, run_newVar, Result.andThen, Sem.run_pure])
theorem f_box_new {t : TypeId} {x : Operand} {fx : X} {a : AV} (ho : o.op = .box t x) (hX : OpR G ρ e V x) (hx : cX G x = some fx) (ha : fx e = some a) : NewB P V o ρ none (.cells (cellsOf a) t none true) := fun w => by
  refine ⟨.cells (V x).cells t, .pointer (some ⟨w.heap.size, 0, none⟩), ?_, or_new (cells_rel (hX _ _ hx ha)), fun ρ' id hid => ⟨w.heap.size, 0, hid, rfl⟩⟩
  simp only [execOp, ho]
  exact run_v (by simp only [Instr.box, Sem.run_bind, run_newVar, Result.andThen, Sem.run_pure])
theorem rep_cons {α : Type} (n : Nat) (z : List α) : rep (n + 1) z = z ++ rep n z := by
  rw [rep, appK_eq]; rfl
theorem rep_succ {α : Type} (z : List α) : ∀ n : Nat, rep (n + 1) z = rep n z ++ z
  | 0 => by rw [rep_cons]; simp [rep]
  | n + 1 => by rw [rep_cons, rep_succ z n, ← List.append_assoc, ← rep_cons, rep_succ z n]
theorem rep_length {α : Type} (z : List α) : ∀ n, (rep n z).length = n * z.length
  | 0 => by simp [rep]
  | n + 1 => by rw [rep_succ, List.length_append, rep_length z n, Nat.succ_mul]
/-- a zero value over and over -/
theorem rep_rel {z : List AV} {zc : Array Value} (hz : VrL ρ z zc.toList) : ∀ n, VrL ρ (rep n z) ((List.range (n * zc.size)).map (zc[· % zc.size]!))
  | 0 => by simp [rep, VrL]
  | n + 1 => by
    rw [rep_succ, Nat.succ_mul, List.range_add, List.map_append]
    refine (rep_rel hz n).app ?_
    have : ((List.range zc.size).map (n * zc.size + ·)).map (zc[· % zc.size]!) = zc.toList := by
      rw [List.map_map]
      apply List.ext_getElem
      · simp
      · intro i h1 h2
        have hi : i < zc.size := by simpa using h2
        simp [Nat.add_mod, Nat.mul_mod_left, Nat.mod_eq_of_lt hi, hi]
    rw [this]; exact hz
theorem f_bslice_new {t el : TypeId} {n sz : Nat} {z : List AV} {ps : Array (Nat × Operand)} {qs : List (Nat × Nat × X)} {zz : List AV} (ho : o.op = .buildSlice t n ps) (ht : P.underlying t = some (.slice el)) (hz : zeroOf P el = some z) (hsz : szOf P el = some sz) (hzl : z.length = sz)
    (hs : seqO (cPart G fun i => some (i * sz, sz)) ps.toList = some qs) (hle : n * sz ≤ 16777216) (hX : ∀ p ∈ ps.toList, OpR G ρ e V p.2) (hq : bld none qs e (rep n z) (fun z => some (AV.agg z)) = some (AV.agg zz)) : NewB P V o ρ (some n) (.cells zz el none true) := fun w => by
  obtain ⟨i, v, h1, h2, h3⟩ := zeroOf_some hz
  have hv := h3 ρ
  have hsize : v.cells.size = sz := by have := hv.length; simp at this; omega
  have hrow := rep_rel hv n
  obtain ⟨z', cells', h4, h5, h6⟩ := bld_fill (F := fun z => some (AV.agg z)) ps.toList qs (rep n z) ((Array.range (n * sz)).map (v.cells[· % v.cells.size]!)) hs hX (by rw [hsize] at hrow; simpa [hsize] using hrow) hq
  cases h4
  refine ⟨.cells cells' el, .slice (some ⟨w.heap.size, 0, none⟩) n n, ?_, or_new h6, fun ρ' id hid => ⟨w.heap.size, 0, n, hid, rfl, Nat.le_refl _, fun _ => rfl, fun h => by cases h⟩⟩
  simp only [execOp, ho]
  refine run_v ?_
  have h7 : (ps.map fun x => (x.1, V x.2)).toList = ps.toList.map fun p => (p.1, V p.2) := by simp
  by_cases h0 : n * sz = 0
  · have h8 : (Array.range (n * sz)).map (v.cells[· % v.cells.size]!) = (Array.range (n * sz)).map ((#[] : Array Value)[· % (#[] : Array Value).size]!) := by rw [h0]; simp
    rw [h8] at h5
    simp only [Instr.buildSlice, Sem.run_bind, run_und ht, run_szOf hsz, Result.andThen]
    rw [if_neg (by omega), if_pos h0]
    simp only [Sem.run_bind, Sem.run_pure, Result.andThen, h7, h5]
    simp only [newRow, newObj, Sem.run_bind, Sem.run, Result.andThen, Sem.run_pure]
    rfl
  · simp only [Instr.buildSlice, Sem.run_bind, run_und ht, run_szOf hsz, Result.andThen]
    rw [if_neg (by omega), if_neg h0]
    simp only [Sem.run_bind, Sem.run_pure, run_zero h1 h2, Result.andThen, h7, h5]
    simp only [newRow, newObj, Sem.run_bind, Sem.run, Result.andThen, Sem.run_pure]
    rfl
end
end Go.Proofs.YtiebkbmnepgacaaGreatDoor.Ew
/-
  Evaluator, part 17: what is written.
-/
namespace Go.Proofs.YtiebkbmnepgacaaGreatDoor.Ew
open Go Go.Proofs.YtiebkbmnepgacaaGreatDoor Go.RowKit
set_option linter.unusedVariables false

section
variable {P : Program} {G : Nat} {ρ : RM} {e : Env} {w : World} {V : Operand → Value} {o : Oper}

theorem putAt_eq : ∀ (vs l : List Value) (n : Nat), n + vs.length ≤ l.length → putAt l n vs = over n l vs
  | [], l, n, h => by simp [putAt, over]
  | v :: vs, l, n, h => by
    simp only [List.length_cons] at h
    rw [putAt, setAt_eq, putAt_eq vs _ _ (by simp; omega)]
    exact over_set _ _ _ _ (by omega)
theorem Wr.w1 {w w' : World} {b : Nat} {ob : Obj} (h : Wr w w' b ob) : W1 w w' b := ⟨h.os, h.tape, h.output, h.size, h.other⟩
theorem wrTo_eq (h : HP) (b : Pos) (p : Nat) (new : List AV) (c : HP → R) : wrTo h b p new c = .bad ∨ ∃ l t g h', h.g b = some (.cells l t g true) ∧ allOne new = true ∧ p + new.length ≤ l.length ∧ h'.g = upd h.g b (some (.cells (over p l new) t g true)) ∧ h'.nx = h.nx ∧ wrTo h b p new c = c h' := by
  unfold wrTo
  cases hb : h.get b with
  | none => exact .inl rfl
  | some a =>
    cases a with
    | cells l t g wr =>
      cases wr with
      | false => exact .inl rfl
      | true =>
        cases ha : allOne new with
        | false => exact .inl rfl
        | true =>
          rcases overK_eq R.bad new p l (fun l => h.set b (some (.cells l t g true)) c) with hn | ⟨h1, h2⟩
          · exact .inl hn
          · obtain ⟨h', h3, h4, h5⟩ := HP.set_spec h b (some (.cells (over p l new) t g true)) c
            rw [HP.get_eq] at hb
            exact .inr ⟨l, t, g, h', hb, rfl, h2, h4, h5, h1.trans h3⟩
    | _ => exact .inl rfl
theorem allOne_rel : ∀ {l : List AV} {vs : List Value}, allOne l = true → VrL ρ l vs → vs.all oneV = true
  | [], vs, _, hv => by have : vs = [] := hv; subst this; rfl
  | x :: l, vs, ha, hv => by
    obtain ⟨v, r, rfl, h1, h2⟩ := hv
    have ha' : (@Bool.casesOn (fun _ => Bool) (oneA x) false (allOne l)) = true := ha
    cases hx : oneA x with
    | false => rw [hx] at ha'; cases ha'
    | true =>
      rw [hx] at ha'
      simp only [List.all_cons, Bool.and_eq_true]
      refine ⟨?_, allOne_rel ha' h2⟩
      cases x <;> first | (cases hx; done) | skip
      all_goals first
        | (have h3 : v = _ := h1; rw [h3]; rfl)
        | (obtain ⟨h3, _⟩ := h1; rw [h3]; rfl)
        | (obtain ⟨_, _, _, h3⟩ := h1; rw [h3]; rfl)
        | (obtain ⟨_, _, _, _, h3, _⟩ := h1; rw [h3]; rfl)
        | (obtain ⟨_, _, h3⟩ := h1; rw [h3]; rfl)
        | (obtain ⟨_, _, h3, _⟩ := h1; rw [h3]; rfl)
        | (obtain ⟨_, h3, _⟩ := h1; rw [h3]; rfl)
        | (have h3 : oneC v = true := h1; cases v <;> first | rfl | (simp [oneC] at h3))
/-- memory behind a write -/
theorem write_hr {g : Gm} {nx : Pos} {b : Pos} {c k p : Nat} {l new : List AV} {t : TypeId} {gr : Option Nat} {cs : Array Value} {vs : List Value} {w' : World} (hr : Hr P ρ g nx w) (hg : g b = some (.cells l t gr true)) (hρ : ρ b = some (c, k)) (hcs : w.heap[c]? = some (.cells cs t (0, 0)))
    (hfit : p + new.length ≤ l.length) (hv : VrL ρ new vs) (hw : Wr w w' c (.cells (over p cs.toList vs).toArray t (0, 0))) :
    Hr P ρ (upd g b (some (.cells (over p l new) t gr true))) nx w' ∧ Stp ρ g nx w ρ (upd g b (some (.cells (over p l new) t gr true))) nx w' := by
  obtain ⟨cs', h1, h2, h3, h4, h5⟩ := (hr.obj b _ c k hg hρ).w
  rw [hcs] at h1
  simp only [Option.some.injEq, Obj.cells.injEq] at h1
  obtain ⟨rfl, _⟩ := h1
  have hvl := hv.length
  have len1 : (over p l new).length = l.length := by simp [over]; omega
  have len2 : (over p cs.toList vs).length = cs.size := by simp [over]; omega
  refine ⟨hr.set (Ew.Wr.w1 hw) hg hρ (OrC.or ⟨_, hw.heap, by simp [len1, len2]; exact h2, ?_, fun h => by simp [len1, len2]; exact h4 h, fun sz h => by simp [len2]; exact h5 sz h⟩), Stp.set hr (Ew.Wr.w1 hw) hg hρ rfl⟩
  have e1 : (over p cs.toList vs).toArray.toList.take (over p l new).length = over p (cs.toList.take l.length) vs := by
    rw [len1]
    simp only [over]
    apply List.ext_getElem?
    intro i
    simp only [List.getElem?_take, List.getElem?_append, List.getElem?_drop, List.length_append, List.length_take]
    simp only [Array.length_toList]
    repeat' split
    all_goals first | rfl | omega | (congr 1; omega) | skip
  rw [e1]
  exact h3.over p hv
end
end Go.Proofs.YtiebkbmnepgacaaGreatDoor.Ew
/-
  Evaluator, part 18: stores.
-/
namespace Go.Proofs.YtiebkbmnepgacaaGreatDoor.Ew
open Go Go.Proofs.YtiebkbmnepgacaaGreatDoor Go.RowKit
set_option linter.unusedVariables false

section
variable {P : Program} {G : Nat} {ρ : RM} {e : Env} {w : World} {V : Operand → Value} {o : Oper}

theorem obR_or {α : Type} (x : Option α) (f : α → R) : obR x f = .bad ∨ ∃ a, x = some a ∧ obR x f = f a := by
  cases x with
  | none => exact .inl rfl
  | some a => exact .inr ⟨a, rfl, rfl⟩
theorem bfR_or (b : Bool) (t : R) : bf b t .bad = .bad ∨ (b = true ∧ bf b t .bad = t) := by
  cases b with
  | false => exact .inl rfl
  | true => exact .inr ⟨rfl, rfl⟩
theorem kPtrR_or (v : AV) (f : Pos → Nat → R) : v.kPtr .bad f = .bad ∨ ∃ b p, v = .ptr b p ∧ v.kPtr .bad f = f b p := by
  cases v <;> first | exact .inl rfl | exact .inr ⟨_, _, rfl, rfl⟩

/-- what a store leaves -/
theorem e_store_sound {t : TypeId} {x y : Operand} {fx fy : X} {n : Nat} (ho : o.op = .store t x y) (hn : szOf P t = some n) (hx : cX G x = some fx) (hy : cX G y = some fy) (rec : Cl → R) (ds : List AD) (h : HP) (c : AV → List AD → HP → R) :
    e_store n fx fy rec e ds h c = .bad ∨ ∃ h', e_store n fx fy rec e ds h c = c (.tup []) ds h' ∧
      ∀ (ρ : RM) (w : World) (V : Operand → Value), OpR G ρ e V x → OpR G ρ e V y → Hr P ρ h.g h.nx w → ∃ w', (execOp V o).run P w = .ok .skip w' ∧ Hr P ρ h'.g h'.nx w' ∧ Stp ρ h.g h.nx w ρ h'.g h'.nx w' := by
  unfold e_store
  rcases obR_or (fx e) (fun v => v.kPtr R.bad fun b p => obR (fy e) fun v => bf (lenIs (cellsOf v) n) (wrTo h b p (cellsOf v) fun h => c (.tup []) ds h) .bad) with h1 | ⟨a, ha, h1⟩
  · exact .inl h1
  rcases kPtrR_or a (fun b p => obR (fy e) fun v => bf (lenIs (cellsOf v) n) (wrTo h b p (cellsOf v) fun h => c (.tup []) ds h) .bad) with h2 | ⟨b, p, rfl, h2⟩
  · exact .inl (h1.trans h2)
  rcases obR_or (fy e) (fun v => bf (lenIs (cellsOf v) n) (wrTo h b p (cellsOf v) fun h => c (.tup []) ds h) .bad) with h3 | ⟨v, hv, h3⟩
  · exact .inl (h1.trans (h2.trans h3))
  rcases bfR_or (lenIs (cellsOf v) n) (wrTo h b p (cellsOf v) fun h => c (.tup []) ds h) with h4 | ⟨hl, h4⟩
  · exact .inl (h1.trans (h2.trans (h3.trans h4)))
  rcases wrTo_eq h b p (cellsOf v) (fun h => c (.tup []) ds h) with h5 | ⟨l, t', g, h', g1, g2, g3, g4, g5, h5⟩
  · exact .inl (h1.trans (h2.trans (h3.trans (h4.trans h5))))
  refine .inr ⟨h', h1.trans (h2.trans (h3.trans (h4.trans h5))), fun ρ w V hX hY hr => ?_⟩
  obtain ⟨cb, k, q1, q2⟩ := hX _ _ hx ha
  have hc := cells_rel (hY _ _ hy hv)
  have hl := lenIs_eq hl
  obtain ⟨cs, q3, q4, q5, q6⟩ := (hr.obj b _ cb k g1 q1).w
  have hlen := hc.length
  obtain ⟨w', r1, r2⟩ := run_storeCells (P := P) (o := p) (V y).cells.toList 0 cs w q3 (allOne_rel g2 hc) (by omega)
  have r2' : Wr w w' cb (.cells (over p cs.toList (V y).cells.toList).toArray t' (0, 0)) := by
    rw [Nat.add_zero, putAt_eq _ _ _ (by simp at hlen ⊢; omega)] at r2; exact r2
  obtain ⟨r3, r4⟩ := write_hr hr g1 q1 q3 g3 hc r2'
  refine ⟨w', ?_, by rw [g4, g5]; exact r3, by rw [g4, g5]; exact r4⟩
  have hs : (V y).cells.size = n := by simp at hlen; omega
  simp only [execOp, ho, q2, Instr.storeAt, Instr.sureAddr]
  refine run_u ?_
  simp only [storeVar, Sem.run_bind, Sem.run_pure, run_szOf hn, Result.andThen]
  rw [if_neg (by simp [hs])]
  exact r1
end
end Go.Proofs.YtiebkbmnepgacaaGreatDoor.Ew
