import Derived.Test.YtiebkbmnepgacaaGreatDoorMd
import Derived.Laws.MakeOwn
import Derived.Deep.AppendSrc
/-
  Evaluator, part 19: what an operation that turns something leaves: stores, maps, new rows.
-/
namespace Go.Proofs.YtiebkbmnepgacaaGreatDoor.Ew
open Go Go.Proofs.YtiebkbmnepgacaaGreatDoor Go.RowKit
set_option linter.unusedVariables false

theorem obR_inv {α : Type} {x : Option α} {f : α → R} {r : R} (h : obR x f = r) (hn : R.bad ≠ r) : ∃ a, x = some a ∧ f a = r := by
  cases x with
  | none => exact absurd h hn
  | some a => exact ⟨a, rfl, h⟩
theorem bfR_inv {b : Bool} {t r : R} (h : bf b t .bad = r) (hn : R.bad ≠ r) : b = true ∧ t = r := by
  cases b with
  | false => exact absurd h hn
  | true => exact ⟨rfl, h⟩
theorem nIdxR_inv {v : AV} {f : Nat → R} {r : R} (h : nIdx v .bad f = r) (hn : R.bad ≠ r) : ∃ k n, v = .int k (Int.ofNat n) ∧ f n = r := by
  unfold nIdx at h
  obtain ⟨k, x, rfl, h⟩ := AV.kInt_some h hn
  cases x with
  | ofNat n => exact ⟨k, n, rfl, h⟩
  | negSucc n => exact absurd h hn
theorem aoMap_inv {a : AO} {f : List (AV × AV) → R} {r : R} (h : a.kMap .bad f = r) (hn : R.bad ≠ r) : ∃ es, a = .map es ∧ f es = r := by
  cases a <;> first | exact ⟨_, rfl, h⟩ | exact absurd h hn
theorem aoCells_inv {a : AO} {f : List AV → TypeId → Option Nat → Bool → R} {r : R} (h : a.kCells .bad f = r) (hn : R.bad ≠ r) : ∃ l t g wr, a = .cells l t g wr ∧ f l t g wr = r := by
  cases a <;> first | exact ⟨_, _, _, _, rfl, h⟩ | exact absurd h hn
theorem rdR_inv {h : HP} {b : Pos} {p n : Nat} {f : List AV → R} {r : R} (hq : rd .bad h b p n f = r) (hn : R.bad ≠ r) : ∃ l t g wr, h.g b = some (.cells l t g wr) ∧ n ≤ (l.drop p).length ∧ f ((l.drop p).take n) = r := by
  unfold rd at hq
  cases hb : h.get b with
  | none => rw [hb] at hq; exact absurd hq hn
  | some a =>
    rw [hb] at hq
    obtain ⟨l, t, g, wr, rfl, hq2⟩ := aoCells_inv (f := fun l _ _ _ => takeK R.bad n (dropK p l) f) hq hn
    rw [HP.get_eq] at hb
    rw [dropK_eq] at hq2
    rcases takeK_eq R.bad n (l.drop p) f with h1 | ⟨h1, h2⟩
    · rw [h1] at hq2; exact absurd hq2 hn
    · rw [h2] at hq2; exact ⟨l, t, g, wr, hb, h1, hq2⟩
theorem fnd_nope {k : List AV} {nope r : R} (hn : R.bad ≠ r) (x : AV) : ∀ es : List (AV × AV), fnd .bad k es nope (fun _ => .bad) = r → nope = r ∧ fnd none k es (some x) (fun _ => none) = some x
  | [], h => ⟨h, rfl⟩
  | (a, v) :: es, h => by
    have h0 : (a.kAgg .bad fun l => @Option.casesOn Bool (fun _ => R) (eqTs k l) .bad fun t => bf t .bad (fnd .bad k es nope fun _ => .bad)) = r := h
    obtain ⟨l, rfl, h1⟩ := AV.kAgg_some h0 hn
    cases ht : eqTs k l with
    | none => rw [ht] at h1; exact absurd h1 hn
    | some c =>
      rw [ht] at h1
      cases c with
      | true => exact absurd h1 hn
      | false =>
        obtain ⟨h2, h3⟩ := fnd_nope hn x es h1
        refine ⟨h2, ?_⟩
        show (@Option.casesOn Bool (fun _ => Option AV) (eqTs k l) none fun t => bf t none (fnd none k es (some x) fun _ => none)) = some x
        rw [ht]; exact h3
theorem repK_eq {β : Type} (z : List AV) : ∀ (n : Nat) (c : List AV → β), repK z n c = c (rep n z)
  | 0, c => rfl
  | n + 1, c => (repK_eq z n _).trans (by rw [appK_eq, ← rep_cons])

section
variable {P : Program} {G : Nat} {ρ : RM} {w : World} {o : Oper}

/-- what an operation that turns something comes to -/
def Eff (P : Program) (V : Operand → Value) (o : Oper) (ρ : RM) (h : HP) (w : World) (v : AV) (h' : HP) : Prop :=
  ∃ (r : Next) (w' : World) (ρ' : RM), (execOp V o).run P w = .ok r w' ∧ ((∃ x, r = .value x ∧ Vr ρ' v x) ∨ (r = .skip ∧ v = .tup [])) ∧ Hr P ρ' h'.g h'.nx w' ∧ Stp ρ h.g h.nx w ρ' h'.g h'.nx w'
def ESnd (P : Program) (G : Nat) (o : Oper) (f : E) : Prop := ∀ (rec : Cl → R) (e : Env) (ds : List AD) (h : HP) (c : AV → List AD → HP → R) (r : R), f rec e ds h c = r → R.bad ≠ r →
  ∃ v h', c v ds h' = r ∧ ∀ (ρ : RM) (w : World) (V : Operand → Value), (∀ x ∈ o.op.operands, OpR G ρ e V x) → Hr P ρ h.g h.nx w → Eff P V o ρ h w v h'

/-- a block more, here and there -/
theorem hr_new {h h' : HP} {ao : AO} {k : Nat} {w' : World} (hr : Hr P ρ h.g h.nx w) (hg : h'.g = upd h.g h.nx (some ao)) (hn : h'.nx = h.nx.succ) (hx : Ext w w') (hO : ∀ ρ', Le ρ ρ' → Or P ρ' w' w.heap.size k ao) :
    Hr P (upd ρ h.nx (some (w.heap.size, k))) h'.g h'.nx w' ∧ Stp ρ h.g h.nx w (upd ρ h.nx (some (w.heap.size, k))) h'.g h'.nx w' ∧ Le ρ (upd ρ h.nx (some (w.heap.size, k))) := by
  have h1 := (hr.dom h.nx (Nat.le_refl _)).1
  have h2 := hr.newE ao
  have hle : Le ρ (upd ρ h.nx (some (w.heap.size, k))) := fun b x e => by rw [upd_ne _ _ (fun q => by subst q; rw [h1] at e; cases e)]; exact e
  have h3 := h2.alloc (id := h.nx) (k := k) hx h1 (upd_same _ _ _) (hO _ hle)
  rw [hg, hn]
  exact ⟨h3.1, (Stp.newE hr ao).alloc hx (Nat.le_refl _), hle⟩

theorem s_store {t : TypeId} {x y : Operand} {fx fy : X} {n : Nat} (ho : o.op = .store t x y) (hn : szOf P t = some n) (hx : cX G x = some fx) (hy : cX G y = some fy) : ESnd P G o (e_store n fx fy) := fun rec e ds h c r hq hne => by
  rcases e_store_sound (e := e) (o := o) ho hn hx hy rec ds h c with hb | ⟨h', h1, h2⟩
  · exact absurd (hb.symm.trans hq) hne
  · refine ⟨.tup [], h', h1.symm.trans hq, fun ρ w V hX hr => ?_⟩
    obtain ⟨w', a, b, d⟩ := h2 ρ w V (hX x (by rw [ho]; simp [Op.operands])) (hX y (by rw [ho]; simp [Op.operands])) hr
    exact ⟨_, w', ρ, a, .inr ⟨rfl, rfl⟩, b, d⟩

theorem s_mkM {t : TypeId} (ho : o.op = .makeMap t none) : ESnd P G o e_mkM := fun rec e ds h c r hq hne => by
  obtain ⟨h', h1, h2, h3⟩ := HP.new_spec h (.map []) (fun b h => c (.map b) ds h)
  refine ⟨.map h.nx, h', h1.symm.trans hq, fun ρ w V hX hr => ?_⟩
  obtain ⟨h4, h5, h6⟩ := hr_new (k := 0) (w' := w.alloc (.map #[] 0)) hr h2 h3 (Ext.alloc _ _) (fun ρ' _ => ⟨#[], 0, World.alloc_heap_new w _, rfl, rfl⟩)
  refine ⟨_, _, _, ?_, .inl ⟨_, rfl, _, _, upd_same _ _ _, rfl⟩, h4, h5⟩
  simp only [execOp, ho]
  exact run_v (by simp only [Instr.makeMap, Option.map_none, newObj, Sem.run_bind, Sem.run, Result.andThen, Sem.run_pure]; rfl)

theorem s_mkS {t el : TypeId} {i : TypeInfo} {z : List AV} {x y : Operand} {fx fy : X} (ho : o.op = .makeSlice t x y) (ht : P.underlying t = some (.slice el)) (hi : P.info? el = some i) (hb : i.bytes ≤ 1073741824) (hz : zeroOf P el = some z) (hzl : z.length = i.size)
    (hx : cX G x = some fx) (hy : cX G y = some fy) : ESnd P G o (e_mkS z el fx fy) := fun rec e ds h c r hq hne => by
  obtain ⟨u, hu, hq1⟩ := obR_inv hq hne
  obtain ⟨k1, n, rfl, hq2⟩ := nIdxR_inv hq1 hne
  obtain ⟨v, hv, hq3⟩ := obR_inv hq2 hne
  obtain ⟨k2, k, rfl, hq4⟩ := nIdxR_inv hq3 hne
  obtain ⟨hnk, hq5⟩ := bfR_inv hq4 hne
  obtain ⟨hk, hq6⟩ := bfR_inv hq5 hne
  have hnk := Nat.le_of_ble_eq_true hnk
  have hk := Nat.le_of_ble_eq_true hk
  rw [repK_eq] at hq6
  obtain ⟨h', h1, h2, h3⟩ := HP.new_spec h (.cells (rep k z) el none true) (fun b h => c (.sl b 0 n k true) ds h)
  refine ⟨.sl h.nx 0 n k true, h', h1.symm.trans hq6, fun ρ w V hX hr => ?_⟩
  have hx' := hX x (by rw [ho]; simp [Op.operands]) _ _ hx hu
  have hy' := hX y (by rw [ho]; simp [Op.operands]) _ _ hy hv
  obtain ⟨i', zv, h4, h5, h6⟩ := zeroOf_some hz
  rw [hi] at h4; cases h4
  have hzr := h6 ρ
  have hzs : zv.cells.size = i.size := by have := hzr.length; simp at this; omega
  have e1 : V x = .int k1 (n : Int) := hx'
  have e2 : V y = .int k2 (k : Int) := hy'
  have hbb : (i.bytes : Int) * (k : Int) ≤ 281474976710656 := by
    have : i.bytes * k ≤ 1073741824 * 100000 := Nat.mul_le_mul hb hk
    have h : ((i.bytes * k : Nat) : Int) ≤ 281474976710656 := by omega
    rwa [Int.natCast_mul] at h
  have hrun := run_make (P := P) w t el i zv ht hi h5 k1 k2 (n : Int) (k : Int) (by omega) (by omega) hbb (by omega)
  simp only [Int.toNat_natCast] at hrun
  have hmade : VrL ρ (rep k z) (madeCells zv.cells (k * i.size)).toList := by
    have := rep_rel (ρ := ρ) hzr k
    rw [hzs] at this
    simpa [madeCells, hzs] using this
  obtain ⟨g4, g5, g6⟩ := hr_new (k := 0) (w' := w.alloc (.cells (madeCells zv.cells (k * i.size)) el)) hr h2 h3 (Ext.alloc _ _) (or_new hmade)
  refine ⟨_, _, _, ?_, .inl ⟨_, rfl, _, _, _, upd_same _ _ _, rfl, hnk, fun _ => rfl, fun h => by cases h⟩, g4, g5⟩
  simp only [execOp, ho, e1, e2]
  exact run_v hrun

theorem s_mupd {t kt el : TypeId} {nk : Nat} {m k v : Operand} {fm fk fv : X} (ho : o.op = .mapUpdate t m k v ∨ o.op = .insert t m k v) (ht : P.underlying t = some (.map kt el)) (hk : keyOK P kt = some nk)
    (hm : cX G m = some fm) (hkk : cX G k = some fk) (hv : cX G v = some fv) : ESnd P G o (e_mupd nk fm fk fv) := fun rec e ds h c r hq hne => by
  obtain ⟨a, ha, hq1⟩ := obR_inv hq hne
  obtain ⟨b, rfl, hq2⟩ := AV.kMap_some hq1 hne
  obtain ⟨ka, hka, hq3⟩ := obR_inv hq2 hne
  obtain ⟨l, rfl, hq4⟩ := AV.kAgg_some hq3 hne
  obtain ⟨va, hva, hq5⟩ := obR_inv hq4 hne
  obtain ⟨ao, hb, hq6⟩ := obR_inv hq5 hne
  obtain ⟨es, rfl, hq7⟩ := aoMap_inv (f := fun es => bf (lenIs l nk) (fnd .bad l es (appK [(.agg l, va)] es fun es => h.set b (some (.map es)) fun h => c (.tup []) ds h) fun _ => .bad) .bad) hq6 hne
  obtain ⟨hl, hq8⟩ := bfR_inv hq7 hne
  obtain ⟨hq9, hf⟩ := fnd_nope hne .nilp es hq8
  have hl := lenIs_eq hl
  rw [appK_eq] at hq9
  rw [HP.get_eq] at hb
  obtain ⟨h', h1, h2, h3⟩ := HP.set_spec h b (some (.map (es ++ [(.agg l, va)]))) (fun h => c (.tup []) ds h)
  refine ⟨.tup [], h', h1.symm.trans hq9, fun ρ w V hX hr => ?_⟩
  have mem : ∀ x, x = m ∨ x = k ∨ x = v → x ∈ o.op.operands := fun x hx => by
    rcases ho with ho | ho <;> rw [ho] <;> simpa [Op.operands] using hx
  obtain ⟨cb, kb, q1, q2⟩ := hX m (mem m (.inl rfl)) _ _ hm ha
  obtain ⟨ks, q3, q4⟩ := hX k (mem k (.inr (.inl rfl))) _ _ hkk hka
  have q5 := hX v (mem v (.inr (.inr rfl))) _ _ hv hva
  obtain ⟨ents, clk, q6, q7, q8⟩ := hr.obj b _ cb kb hb q1
  have hsz : ks.size = nk := by have := q4.length; simp at this; omega
  have hlt : cb < w.heap.size := (Array.getElem?_eq_some_iff.1 q6).1
  have hg : (getObj cb).run P w = .ok (.map ents clk) w := by simp [getObj, Sem.run, q6]
  obtain ⟨fs, hu, _⟩ := keyOK_some hk
  have hfk := fun es => run_findKey_eq (P := P) (w := w) (k := kt) (by rw [hu]) (.agg ks) es
  have hfind : (Instr.findAsking kt (.agg ks) ents.toList).run P w = .ok none w := by
    rcases fnd_some (w := w) hk q4 hl es ents.toList 0 (by simpa using q7) (by simpa using q8) hf with ⟨_, _, _, _, _, hbad⟩ | ⟨h10, _⟩
    · cases hbad
    · exact h10
  have hset : (setObj cb (.map (ents.push { key := .agg ks, val := V v, born := clk }) (clk + 1))).run P w = .ok () { w with heap := w.heap.setIfInBounds cb (.map (ents.push { key := .agg ks, val := V v, born := clk }) (clk + 1)) } := by simp [setObj, Sem.run, q6]
  have hW : W1 w (w.putObj cb (.map (ents.push { key := .agg ks, val := V v, born := clk }) (clk + 1))) cb := ⟨rfl, rfl, rfl, by simp, fun k hk => World.putObj_heap_other hk⟩
  have hO : Or P ρ (w.putObj cb (.map (ents.push { key := .agg ks, val := V v, born := clk }) (clk + 1))) cb kb (.map (es ++ [(.agg l, va)])) := by
    refine ⟨_, _, World.putObj_heap_same hlt, ?_, ?_⟩
    · simp only [List.map_append, List.map_cons, List.map_nil, Array.toList_push]
      exact q7.app (VrL.cons ⟨ks, rfl, q4⟩ VrL.nil)
    · simp only [List.map_append, List.map_cons, List.map_nil, Array.toList_push]
      exact q8.app (VrL.cons q5 VrL.nil)
  refine ⟨.skip, w.putObj cb (.map (ents.push { key := .agg ks, val := V v, born := clk }) (clk + 1)), ρ, ?_, .inr ⟨rfl, rfl⟩, ?_, ?_⟩
  · have : (Instr.mapUpdate t (V m) (V k) (V v)).run P w = .ok () (w.putObj cb (.map (ents.push { key := .agg ks, val := V v, born := clk }) (clk + 1))) := by
      rw [q2, q3]
      simp [Instr.mapUpdate, Sem.run_bind, run_und ht, hg, run_checkKey_txt _ hk hsz, hfk, hfind, Result.andThen, hset, World.putObj]
    rcases ho with ho | ho <;> (simp only [execOp, ho]; exact run_u this)
  · rw [h2, h3]; exact hr.set hW hb q1 hO
  · rw [h2, h3]; exact Stp.set hr hW hb q1 rfl
end
end Go.Proofs.YtiebkbmnepgacaaGreatDoor.Ew
/-
  Evaluator, part 20: append, copy.
-/
namespace Go.Proofs.YtiebkbmnepgacaaGreatDoor.Ew
open Go Go.Proofs.YtiebkbmnepgacaaGreatDoor Go.RowKit
set_option linter.unusedVariables false

section
variable {P : Program} {G : Nat} {ρ : RM} {w : World} {o : Oper}

theorem oneV_cell {v : Value} (h : oneV v = true) : v.oneCell' = true := by cases v <;> first | rfl | (simp [oneV] at h)
theorem bytes_rel : ∀ {s : List Nat}, (∀ x ∈ s, x < 256) → VrL ρ (s.map fun x => AV.int .u8 (.ofNat x)) ((s.map UInt8.ofNat).map fun b => Value.int .u8 b.toNat)
  | [], _ => VrL.nil
  | x :: s, h => by
    refine VrL.cons ?_ (bytes_rel fun y hy => h y (by simp [hy]))
    show Value.int .u8 ((UInt8.ofNat x).toNat : Nat) = Value.int .u8 (.ofNat x)
    rw [toNat_ofNat (h x (by simp))]; rfl
/-- a slice's or a text's elements -/
theorem elems_inv {h : HP} {sz : Nat} {x : AV} {c : Nat → List AV → R} {r : R} (hq : elems h sz x c = r) (hn : R.bad ≠ r) : ∃ k new, c k new = r ∧ ∀ (P : Program) (ρ : RM) (w : World) (v : Value) (tt : TypeId), Vr ρ x v → Hr P ρ h.g h.nx w → allOne new = true →
    ((∃ e', P.underlying tt = some (.slice e')) ∨ P.underlying tt = some .string) → ∃ news, Src P sz tt v k news w ∧ VrL ρ new news := by
  unfold elems at hq
  cases x <;> try exact absurd hq hn
  case str s n =>
    obtain ⟨hs, hq⟩ := bfR_inv (show bf (Nat.beq sz 1) (c n (s.map fun x => .int .u8 (.ofNat x))) .bad = r from hq) hn
    have hs := Nat.eq_of_beq_eq_true hs
    subst hs
    refine ⟨n, _, hq, fun P ρ w v tt hv hr ha hk => ?_⟩
    obtain ⟨h1, h2, h3⟩ := hv
    subst h1; subst h2
    have hsz := tx_size s
    refine ⟨byteCells (tx s), ⟨hk, fun _ => by rw [← hsz]; rfl, ?_, ?_, by rw [byteCells_length, hsz, Nat.mul_one], fun u hu => ?_⟩, ?_⟩
    · rw [← hsz]; exact firstCells_string (tx s) w
    · rw [← hsz]; exact firstCells_string (tx s) w.drew
    · obtain ⟨_, _, rfl⟩ := List.mem_map.1 hu
      rfl
    · have : byteCells (tx s) = (s.map UInt8.ofNat).map fun b => Value.int .u8 b.toNat := by simp [byteCells]
      rw [this]; exact bytes_rel h3
  case sl b p n q ex =>
    obtain ⟨l, t, g, wr, h1, h2, h3⟩ := rdR_inv (show rd .bad h b p (Nat.mul n sz) (fun l => c n l) = r from hq) hn
    refine ⟨n, _, h3, fun P ρ w v tt hv hr ha hk => ?_⟩
    obtain ⟨cb, k, q', r1, r2, _⟩ := hv
    obtain ⟨vs, g1, g2, g3⟩ := cells_at (hr.obj b _ cb k h1 r1) p (n * sz) h2
    have one : ∀ u ∈ vs, u.oneCell' = true := fun u hu => oneV_cell (List.all_eq_true.1 (allOne_rel ha g3) u hu)
    have cell : ∀ j u, vs[j]? = some u → w.cell? ((⟨cb, p, none⟩ : Addr).add j) = some u := fun j u hj => by
      rw [Addr.add_lit]; exact g2 j u hj
    subst r2
    exact ⟨vs, ⟨hk, fun _ => rfl, run_firstCells_some w sz n ⟨cb, p, none⟩ n q' vs g1 cell, run_firstCells_some w.drew sz n ⟨cb, p, none⟩ n q' vs g1 (by simpa using cell), g1, one⟩, g3⟩
  case es =>
    refine ⟨0, [], hq, fun P ρ w v tt hv hr ha hk => ?_⟩
    obtain ⟨a, q, rfl⟩ := hv
    exact ⟨[], ⟨hk, fun _ => rfl, run_firstCells_some w sz 0 a 0 q [] (by simp) (fun j u hj => by simp at hj), run_firstCells_some w.drew sz 0 a 0 q [] (by simp) (fun j u hj => by simp at hj), by simp, fun u hu => by cases hu⟩, VrL.nil⟩
  case nils =>
    refine ⟨0, [], hq, fun P ρ w v tt hv hr ha hk => ?_⟩
    have : v = .slice none 0 0 := hv
    subst this
    exact ⟨[], ⟨hk, fun _ => rfl, run_firstCells_none w sz 0 0 0, run_firstCells_none w.drew sz 0 0 0, by simp, fun u hu => by cases hu⟩, VrL.nil⟩

theorem run_append_room' {t tx ty e : TypeId} {i : TypeInfo} (ht : P.underlying t = some (.slice e)) (hi : P.info? e = some i) {b off sLen sCap : Nat} {x : Value} {n : Nat} {news : List Value} {w' : World} (hs : Src P i.size tx x n news w)
    (hroom : sLen + n ≤ sCap) (hst : (storeCells ⟨b, off + sLen * i.size, none⟩ news).run P w = .ok () w') :
    (Builtin.append_ #[t, tx] ty #[.slice (some ⟨b, off, none⟩) sLen sCap, x]).run P w = .ok (.slice (some ⟨b, off, none⟩) (sLen + n) sCap) w' := by
  rcases hs.kind with ⟨e', hk⟩ | hk <;> simp [Builtin.append_, run_underlying ht, run_underlying hk, sizeOf, typeInfo, hi, hs.len, hroom, hs.cells, Addr.add_lit, hst]
theorem run_append_nil0 {t tx ty e : TypeId} {i : TypeInfo} (ht : P.underlying t = some (.slice e)) (hi : P.info? e = some i) {x : Value} {news : List Value} (hs : Src P i.size tx x 0 news w) :
    (Builtin.append_ #[t, tx] ty #[.slice none 0 0, x]).run P w = .ok (.slice none 0 0) w := by
  rcases hs.kind with ⟨e', hk⟩ | hk <;> simp [Builtin.append_, run_underlying ht, run_underlying hk, sizeOf, typeInfo, hi, hs.len, hs.cells]
theorem ex_append {x y : Operand} {args : Array Operand} {ts : Array TypeId} {V : Operand → Value} {v : Value} {w' : World} (ho : o.op = .call ⟨.builtin .append, args, ts⟩) (hargs : args.toList = [x, y]) (h : (Builtin.append_ ts o.type #[V x, V y]).run P w = .ok v w') :
    (execOp V o).run P w = .ok (.value v) w' := by
  have eA : args = #[x, y] := Array.toList_inj.1 (by rw [hargs])
  subst eA
  simp only [execOp, ho, resolve, List.map_toArray, List.map_cons, List.map_nil, Sem.run_bind, Sem.run_pure, Result.andThen, invoke, builtin, h]

/-- what a grown row is -/
theorem or_grown {e : TypeId} {i : TypeInfo} {z : Value} {old new : List AV} {olds news : List Value} {n k cap : Nat} {w : World} {ρ : RM} (hz : z.cells.size = i.size) (ho : VrL ρ old olds) (hn : VrL ρ new news) (h1 : olds.length = n * i.size) (h2 : news.length = k * i.size) (hc : n + k ≤ cap) (hm : cap ≤ maxLen) :
    ∀ ρ' : RM, Le ρ ρ' → Or P ρ' (w.drew.alloc (.cells ((olds ++ news).toArray ++ Builtin.zeroCells z.cells (cap - (n + k))) e)) w.heap.size cap (.cells (old ++ new) e (some i.size) true) := fun ρ' hle => by
  have l1 := ho.length
  have l2 := hn.length
  refine OrC.or ⟨_, World.alloc_heap_new w.drew _, ?_, ?_, fun h => (by cases h), fun sz h => ?_⟩
  · simp; omega
  · have e1 : ((olds ++ news).toArray ++ Builtin.zeroCells z.cells (cap - (n + k))).toList.take (old ++ new).length = olds ++ news := by
      rw [Array.toList_append]
      have : (old ++ new).length = (olds ++ news).toArray.toList.length := by simp; omega
      rw [this, List.take_left]
    rw [e1]
    exact VrL.mono hle _ _ (ho.app hn)
  · cases h
    refine ⟨?_, hm⟩
    simp only [Array.size_append, List.size_toArray, List.length_append, size_zeroCells, hz, h1, h2, ← Nat.add_mul]
    congr 1; omega
theorem ext_drew_alloc (w : World) (O : Obj) : Ext w (w.drew.alloc O) := (Ext.drew w).trans (Ext.alloc _ _)

/-- a block is turned, and goes by another name from now on -/
theorem hr_move {g : Gm} {nx b : Pos} {c k : Nat} {o ao : AO} {w' : World} (hr : Hr P ρ g nx w) (hg : g b = some o) (hρ : ρ b = some (c, k)) (hro : ro o = false) (hw : W1 w w' c) (hO : Or P (upd ρ nx (some (c, k))) w' c k ao) :
    Hr P (upd ρ nx (some (c, k))) (upd (upd g b none) nx (some ao)) nx.succ w' ∧ Stp ρ g nx w (upd ρ nx (some (c, k))) (upd (upd g b none) nx (some ao)) nx.succ w' := by
  have hn := (hr.dom nx (Nat.le_refl _)).1
  have hle : Le ρ (upd ρ nx (some (c, k))) := fun b x e => by rw [upd_ne _ _ (fun q => by subst q; rw [hn] at e; cases e)]; exact e
  have sub : ∀ i o, i ≠ nx → upd (upd g b none) nx (some ao) i = some o → i ≠ b ∧ g i = some o := fun i o hi h => by
    rw [upd_ne _ _ hi] at h
    by_cases e : i = b
    · subst e; rw [upd_same] at h; cases h
    · rw [upd_ne _ _ e] at h; exact ⟨e, h⟩
  refine ⟨⟨fun i hi => ?_, fun i o1 c1 k1 h1 h2 => ?_, fun i i' o1 o2 c1 k1 k2 h1 h2 h3 h4 => ?_⟩, ?_⟩
  · rw [Pos.nat_succ] at hi
    have hne : i ≠ nx := fun e => by subst e; omega
    have hd := hr.dom i (by omega)
    refine ⟨by rw [upd_ne _ _ hne]; exact hd.1, ?_⟩
    rw [upd_ne _ _ hne]
    by_cases e : i = b
    · subst e; exact upd_same _ _ _
    · rw [upd_ne _ _ e]; exact hd.2
  · by_cases e : i = nx
    · subst e
      rw [upd_same] at h1 h2
      simp only [Option.some.injEq, Prod.mk.injEq] at h1 h2
      obtain ⟨rfl, rfl⟩ := h2
      subst h1; exact hO
    · obtain ⟨e2, h5⟩ := sub i o1 e h1
      rw [upd_ne _ _ e] at h2
      refine (hr.obj i o1 c1 k1 h5 h2).mono hle (hw.other c1 fun ec => e2 ?_)
      subst ec
      exact hr.inj i b o1 o c1 k1 k h5 hg h2 hρ
  · by_cases e : i = nx <;> by_cases e' : i' = nx
    · rw [e, e']
    · exfalso
      subst e
      obtain ⟨e2, h5⟩ := sub i' o2 e' h2
      rw [upd_same] at h3
      rw [upd_ne _ _ e'] at h4
      simp only [Option.some.injEq, Prod.mk.injEq] at h3
      obtain ⟨rfl, rfl⟩ := h3
      exact e2 (hr.inj i' b o2 o _ k2 _ h5 hg h4 hρ)
    · exfalso
      subst e'
      obtain ⟨e2, h5⟩ := sub i o1 e h1
      rw [upd_same] at h4
      rw [upd_ne _ _ e] at h3
      simp only [Option.some.injEq, Prod.mk.injEq] at h4
      obtain ⟨rfl, rfl⟩ := h4
      exact e2 (hr.inj i b o1 o _ k1 _ h5 hg h3 hρ)
    · rw [upd_ne _ _ e] at h3
      rw [upd_ne _ _ e'] at h4
      exact hr.inj i i' o1 o2 c1 k1 k2 (sub i o1 e h1).2 (sub i' o2 e' h2).2 h3 h4
  · refine ⟨by rw [Pos.nat_succ]; omega, fun i hi => upd_ne _ _ (fun e => by subst e; omega), fun i hi e => ?_, hw.os, hw.tape, hw.output, Nat.le_of_eq hw.size.symm, fun c' hc hu => ?_⟩
    · rw [upd_ne _ _ (fun e' => by subst e'; omega), upd_ne _ _ (fun e' => by subst e'; rw [hρ] at e; cases e)]
    · have hne : c' ≠ c := fun e => by subst e; have h3 := hu b o k hg hρ; rw [hro] at h3; cases h3
      refine ⟨hw.other c' hne, fun i o1 k1 h1 h2 => ?_⟩
      by_cases e : i = nx
      · subst e
        rw [upd_same] at h2
        simp only [Option.some.injEq, Prod.mk.injEq] at h2
        exact absurd h2.1.symm hne
      · rw [upd_ne _ _ e] at h2
        exact hu i o1 k1 (sub i o1 e h1).2 h2

theorem s_app {t tx el : TypeId} {i : TypeInfo} {z : List AV} {x y : Operand} {args : Array Operand} {ts : Array TypeId} {fx fy : X} (ho : o.op = .call ⟨.builtin .append, args, ts⟩) (hargs : args.toList = [x, y]) (hts : ts.toList = [t, tx]) (ht : P.underlying t = some (.slice el))
    (hk : (∃ e', P.underlying tx = some (.slice e')) ∨ P.underlying tx = some .string) (hi : P.info? el = some i) (hb : i.bytes ≤ 4096) (hz : zeroOf P el = some z) (hzl : z.length = i.size) (hx : cX G x = some fx) (hy : cX G y = some fy) : ESnd P G o (e_app i.size el fx fy) := fun rec e ds h c r hq hne => by
  obtain ⟨s, hs, hq1⟩ := obR_inv hq hne
  obtain ⟨sr, hsr, hq2⟩ := obR_inv hq1 hne
  obtain ⟨k, new, hq3, hsrc⟩ := elems_inv hq2 hne
  obtain ⟨hone, hq4⟩ := bfR_inv hq3 hne
  have eT : ts = #[t, tx] := Array.toList_inj.1 (by rw [hts])
  have eA : args = #[x, y] := Array.toList_inj.1 (by rw [hargs])
  have memX : x ∈ o.op.operands := by rw [ho]; simp [Op.operands, Call.operands, eA]
  have memY : y ∈ o.op.operands := by rw [ho]; simp [Op.operands, Call.operands, eA]
  obtain ⟨i', zv, z1, z2, z3⟩ := zeroOf_some hz
  rw [hi] at z1; cases z1
  have hzs : zv.cells.size = i.size := by have := (z3 (fun _ => none)).length; simp at this; omega
  have fit : ∀ {n q : Nat}, n + k ≤ 1000000000 → q < n + k → Builtin.nextslicecap (n + k) q * i.bytes ≤ 281474976710656 := fun {n q} h1 h2 => by
    have h3 := nextslicecap_le h2
    have h4 : Builtin.nextslicecap (n + k) q * i.bytes ≤ (2 * 1000000000) * 4096 := Nat.mul_le_mul (by omega) hb
    omega
  have mx : ∀ {n : Nat} (w : World) (q : Nat), n + k ≤ 1000000000 → grownCap w (n + k) q el ≤ maxLen := fun {n} w q h1 => grownCap_le_maxLen w (n + k) q el (by simp only [maxLen]; omega)
  rcases AV.kSl_some hq4 hne with ⟨b, p, n, q, ex, rfl, hq5⟩ | ⟨_, hbad⟩ | ⟨rfl, hq5⟩
  · obtain ⟨hle, hq6⟩ := bfR_inv hq5 hne
    have hle : n + k ≤ 1000000000 := Nat.le_of_ble_eq_true hle
    cases ex with
    | true =>
      rcases bf_or (show bf (Nat.ble (Nat.add n k) q) (wrTo h b (Nat.add p (Nat.mul n i.size)) new fun h => fN (Nat.add n k) fun m => c (.sl b p m q true) ds h)
          (rd .bad h b p (Nat.mul n i.size) fun old => appK new old fun l => h.new (.cells l el (some i.size) true) fun b h => fN (Nat.add n k) fun m => c (.sl b 0 m 0 false) ds h) = r from hq6) with ⟨hfit, hq7⟩ | ⟨hfit, hq7⟩
      · -- it has room
        have hfit : n + k ≤ q := Nat.le_of_ble_eq_true hfit
        rcases wrTo_eq h b (Nat.add p (Nat.mul n i.size)) new (fun h => fN (Nat.add n k) fun m => c (.sl b p m q true) ds h) with hbd | ⟨l, t', g, h', g1, g2, g3, g4, g5, hw⟩
        · exact absurd (hbd.symm.trans hq7) hne
        · rw [hw, fN_eq] at hq7
          refine ⟨_, h', hq7, fun ρ w V hX hr => ?_⟩
          obtain ⟨cb, kb, q', q1, q2, q3, q4, _⟩ := hX x memX _ _ hx hs
          have hq' := q4 rfl
          subst hq'
          obtain ⟨news, s1, s2⟩ := hsrc P ρ w (V y) tx (hX y memY _ _ hy hsr) hr hone hk
          obtain ⟨cs, r1, r2, r3, r4⟩ := (hr.obj b _ cb kb g1 q1).w
          have hlen := s2.length
          have g3' : p + n * i.size + new.length ≤ l.length := g3
          obtain ⟨w', t1, t2⟩ := run_storeCells (P := P) (o := p + n * i.size) news 0 cs w r1 (allOne_rel hone s2) (by omega)
          have t2' : Wr w w' cb (.cells (over (p + n * i.size) cs.toList news).toArray t' (0, 0)) := by
            rw [Nat.add_zero, putAt_eq _ _ _ (by simp; omega)] at t2; exact t2
          obtain ⟨u1, u2⟩ := write_hr hr g1 q1 r1 g3 s2 t2'
          refine ⟨_, w', ρ, ex_append ho hargs (by rw [eT, q2]; exact run_append_room' ht hi s1 hfit t1), .inl ⟨_, rfl, cb, kb, q', q1, rfl, hfit, fun _ => rfl, fun h => by cases h⟩, ?_, ?_⟩
          · rw [g4, g5]; exact u1
          · rw [g4, g5]; exact u2
      · -- it has none
        have hfit : ¬ n + k ≤ q := fun hc => by rw [show Nat.ble (Nat.add n k) q = true from Nat.ble_eq_true_of_le hc] at hfit; cases hfit
        obtain ⟨l, t', g, wr, g1, g2, hq8⟩ := rdR_inv hq7 hne
        rw [appK_eq] at hq8
        obtain ⟨h', h1, h2, h3⟩ := HP.new_spec h (.cells (((l.drop p).take (Nat.mul n i.size)) ++ new) el (some i.size) true) (fun b h => fN (Nat.add n k) fun m => c (.sl b 0 m 0 false) ds h)
        rw [h1, fN_eq] at hq8
        refine ⟨_, h', hq8, fun ρ w V hX hr => ?_⟩
        obtain ⟨cb, kb, q', q1, q2, q3, q4, _⟩ := hX x memX _ _ hx hs
        have hq' := q4 rfl
        subst hq'
        obtain ⟨news, s1, s2⟩ := hsrc P ρ w (V y) tx (hX y memY _ _ hy hsr) hr hone hk
        obtain ⟨olds, r1, r2, r3⟩ := cells_at (hr.obj b _ cb kb g1 q1) p (n * i.size) g2
        have hold := run_firstCells_some (P := P) w.drew i.size n ⟨cb, p, none⟩ n q' olds r1 (fun j u hj => by rw [Addr.add_lit]; simpa using r2 j u hj)
        have hrun := run_append_grow_src (P := P) w t tx o.type el i zv ht hi z2 (some ⟨cb, p, none⟩) n q' olds hold (V y) k news s1 (by omega) (by omega) (fit hle (by omega))
        have hgr := or_grown (P := P) (w := w) (e := el) hzs r3 s2 r1 s1.newsLen (grownCap_ge w (n + k) q' el) (mx w q' hle)
        obtain ⟨u1, u2, u3⟩ := hr_new hr h2 h3 (ext_drew_alloc w _) hgr
        exact ⟨_, _, _, ex_append ho hargs (by rw [eT, q2]; exact hrun), .inl ⟨_, rfl, _, _, _, upd_same _ _ _, rfl, grownCap_ge w (n + k) q' el, fun h => (by cases h), fun _ _ => rfl⟩, u1, u2⟩
    | false =>
      obtain ⟨hp, hq7⟩ := bfR_inv (show bf (Nat.beq p 0) _ .bad = r from hq6) hne
      have hp := Nat.eq_of_beq_eq_true hp
      subst hp
      obtain ⟨ao, hb', hq8⟩ := obR_inv hq7 hne
      obtain ⟨l, u, g, wr, rfl, hq9⟩ := aoCells_inv (f := fun l u g wr => @Option.casesOn Nat (fun _ => R) g .bad fun sz' => bf wr (bf (Nat.beq i.size sz') (bf (Nat.beq el u)
        (takeK .bad (Nat.mul n i.size) l fun old => appK new old fun l => h.set b none fun h => h.new (.cells l el (some i.size) true) fun b h => fN (Nat.add n k) fun m => c (.sl b 0 m 0 false) ds h) .bad) .bad) .bad) hq8 hne
      cases g with
      | none => exact absurd hq9 hne
      | some sz' =>
        obtain ⟨hwr, hq10⟩ := bfR_inv (show bf wr _ .bad = r from hq9) hne
        obtain ⟨hsz, hq11⟩ := bfR_inv hq10 hne
        obtain ⟨hu, hq12⟩ := bfR_inv hq11 hne
        have hsz := Nat.eq_of_beq_eq_true hsz
        have hu : el = u := Nat.eq_of_beq_eq_true hu
        subst hsz; subst hu; subst hwr
        rcases takeK_eq R.bad (Nat.mul n i.size) l (fun old => appK new old fun l => h.set b none fun h => h.new (.cells l el (some i.size) true) fun b h => fN (Nat.add n k) fun m => c (.sl b 0 m 0 false) ds h) with hbd | ⟨hl, htk⟩
        · exact absurd (hbd.symm.trans hq12) hne
        · rw [htk, appK_eq] at hq12
          have hl : n * i.size ≤ l.length := hl
          obtain ⟨h0, e1, e2, e3⟩ := HP.set_spec h b none (fun h => h.new (.cells (l.take (Nat.mul n i.size) ++ new) el (some i.size) true) fun b h => fN (Nat.add n k) fun m => c (.sl b 0 m 0 false) ds h)
          obtain ⟨h', h1, h2, h3⟩ := HP.new_spec h0 (.cells (l.take (Nat.mul n i.size) ++ new) el (some i.size) true) (fun b h => fN (Nat.add n k) fun m => c (.sl b 0 m 0 false) ds h)
          rw [e1, h1, fN_eq] at hq12
          rw [HP.get_eq] at hb'
          refine ⟨_, h', hq12, fun ρ w V hX hr => ?_⟩
          obtain ⟨cb, kb, q', q1, q2, q3, _, q5⟩ := hX x memX _ _ hx hs
          have hq' := q5 rfl rfl
          subst hq'
          obtain ⟨news, s1, s2⟩ := hsrc P ρ w (V y) tx (hX y memY _ _ hy hsr) hr hone hk
          obtain ⟨cs, r1, r2, r3, r4, r5⟩ := (hr.obj b _ cb q' hb' q1).w
          obtain ⟨r6, r7⟩ := r5 i.size rfl
          have hkill := hr.kill b
          have skill : Stp ρ h.g h.nx w ρ h0.g h0.nx w := by rw [e2, e3]; exact Stp.kill q1
          rw [← e2, ← e3] at hkill
          have hnl := s1.newsLen
          have hold : VrL ρ (l.take (n * i.size)) (cs.toList.take (n * i.size)) := by
            have := r3.take (n * i.size)
            rwa [List.take_take, Nat.min_eq_left hl] at this
          have holdl : (cs.toList.take (n * i.size)).length = n * i.size := by simp; omega
          by_cases hroom : n + k ≤ q'
          · -- there was room
            have hfit : n * i.size + news.length ≤ cs.size := by rw [hnl, r6, ← Nat.add_mul]; exact Nat.mul_le_mul_right _ hroom
            obtain ⟨w', t1, t2⟩ := run_storeCells (P := P) (o := 0 + n * i.size) news 0 cs w r1 (allOne_rel hone s2) (by omega)
            have t2' : Wr w w' cb (.cells (over (n * i.size) cs.toList news).toArray el (0, 0)) := by
              rw [Nat.zero_add, Nat.add_zero, putAt_eq _ _ _ (by simp; omega)] at t2; exact t2
            have hrun := run_append_room' (ty := o.type) ht hi s1 hroom t1
            have hρn : ρ h.nx = none := (hr.dom h.nx (Nat.le_refl _)).1
            have hle' : Le ρ (upd ρ h.nx (some (cb, q'))) := fun b x e => by rw [upd_ne _ _ (fun q => by subst q; rw [hρn] at e; cases e)]; exact e
            have hO : Or P (upd ρ h.nx (some (cb, q'))) w' cb q' (.cells (l.take (Nat.mul n i.size) ++ new) el (some i.size) true) := by
              have hl2 := s2.length
              have e5 : (over (n * i.size) cs.toList news).length = cs.size := by simp [over]; omega
              refine OrC.or ⟨_, t2'.heap, ?_, ?_, fun h => (by cases h), fun sz h => ?_⟩
              · show (l.take (n * i.size) ++ new).length ≤ _
                simp [e5]; omega
              · show VrL _ (l.take (n * i.size) ++ new) _
                have e6 : (over (n * i.size) cs.toList news).toArray.toList.take (l.take (Nat.mul n i.size) ++ new).length = cs.toList.take (n * i.size) ++ news := by
                  have e7 : (l.take (Nat.mul n i.size) ++ new).length = (cs.toList.take (n * i.size) ++ news).length := by show (l.take (n * i.size) ++ new).length = _; simp; omega
                  rw [e7]
                  simp only [over]
                  exact List.take_left
                rw [e6]
                exact VrL.mono hle' _ _ (hold.app s2)
              · cases h
                exact ⟨by simp [e5]; exact r6, r7⟩
            obtain ⟨u1, u2⟩ := hr_move hr hb' q1 rfl (Ew.Wr.w1 t2') hO
            refine ⟨_, w', upd ρ h.nx (some (cb, q')), ex_append ho hargs (by rw [eT, q2]; exact hrun), .inl ⟨_, rfl, cb, q', q', ?_, rfl, hroom, fun h => (by cases h), fun _ _ => rfl⟩, ?_, ?_⟩
            · rw [e3]; exact upd_same _ _ _
            · rw [h2, h3, e2, e3]; exact u1
            · rw [h2, h3, e2, e3]; exact u2
          · -- there was none
            have hf : (Builtin.firstCells i.size n (.slice (some ⟨cb, 0, none⟩) n q')).run P w.drew = .ok (cs.toList.take (n * i.size)).toArray w.drew :=
              run_firstCells_some (P := P) w.drew i.size n ⟨cb, 0, none⟩ n q' _ holdl (fun j u hj => by
                rw [Addr.add_lit, Nat.zero_add]
                rw [List.getElem?_take] at hj
                split at hj
                · have := cell_of_heap r1 (j := j) (v := u) (by simpa using hj)
                  simpa using this
                · cases hj)
            have hrun := run_append_grow_src (P := P) w t tx o.type el i zv ht hi z2 (some ⟨cb, 0, none⟩) n q' _ hf (V y) k news s1 (by omega) (by omega) (fit hle (by omega))
            have hgr := or_grown (P := P) (w := w) (e := el) hzs hold s2 holdl s1.newsLen (grownCap_ge w (n + k) q' el) (mx w q' hle)
            obtain ⟨u1, u2, u3⟩ := hr_new hkill h2 h3 (ext_drew_alloc w _) hgr
            exact ⟨_, _, _, ex_append ho hargs (by rw [eT, q2]; exact hrun), .inl ⟨_, rfl, _, _, _, upd_same _ _ _, rfl, grownCap_ge w (n + k) q' el, fun h => (by cases h), fun _ _ => rfl⟩, u1, skill.trans u2⟩
  · exact absurd hbad hne
  · obtain ⟨hle, hq6⟩ := bfR_inv hq5 hne
    have hle : k ≤ 1000000000 := Nat.le_of_ble_eq_true hle
    rcases bf_or hq6 with ⟨hk0, hq7⟩ | ⟨hk0, hq7⟩
    · have hk0 := Nat.eq_of_beq_eq_true hk0
      subst hk0
      refine ⟨_, h, hq7, fun ρ w V hX hr => ?_⟩
      have q1 : V x = .slice none 0 0 := hX x memX _ _ hx hs
      obtain ⟨news, s1, s2⟩ := hsrc P ρ w (V y) tx (hX y memY _ _ hy hsr) hr hone hk
      exact ⟨_, w, ρ, ex_append ho hargs (by rw [eT, q1]; exact run_append_nil0 ht hi s1), .inl ⟨_, rfl, rfl⟩, hr, Stp.refl⟩
    · have hk0 : k ≠ 0 := fun hc => by subst hc; cases hk0
      obtain ⟨h', h1, h2, h3⟩ := HP.new_spec h (.cells new el (some i.size) true) (fun b h => c (.sl b 0 k 0 false) ds h)
      rw [h1] at hq7
      refine ⟨_, h', hq7, fun ρ w V hX hr => ?_⟩
      have q1 : V x = .slice none 0 0 := hX x memX _ _ hx hs
      obtain ⟨news, s1, s2⟩ := hsrc P ρ w (V y) tx (hX y memY _ _ hy hsr) hr hone hk
      have hold := run_firstCells_none (P := P) w.drew i.size 0 0 0
      have hrun := run_append_grow_src (P := P) w t tx o.type el i zv ht hi z2 none 0 0 [] hold (V y) k news s1 (by omega) (by omega) (fit (by omega) (by omega))
      have hgr := or_grown (P := P) (w := w) (e := el) (old := []) (olds := []) (n := 0) hzs VrL.nil s2 (by simp) s1.newsLen (grownCap_ge w (0 + k) 0 el) (mx w 0 (by omega))
      obtain ⟨u1, u2, u3⟩ := hr_new hr h2 h3 (ext_drew_alloc w _) hgr
      exact ⟨_, _, _, ex_append ho hargs (by rw [eT, q1]; exact hrun), .inl ⟨_, rfl, _, _, _, upd_same _ _ _, by rw [Nat.zero_add], by have := grownCap_ge w (0 + k) 0 el; omega, fun h => (by cases h), fun _ _ => rfl⟩, u1, u2⟩
theorem s_copy {t el : TypeId} {sz : Nat} {x y : Operand} {args : Array Operand} {ts : Array TypeId} {fx fy : X} (ho : o.op = .call ⟨.builtin .copy, args, ts⟩) (hargs : args.toList = [x, y]) (hts : ts[0]? = some t) (ht : P.underlying t = some (.slice el))
    (hsz : szOf P el = some sz) (hx : cX G x = some fx) (hy : cX G y = some fy) : ESnd P G o (e_copy sz fx fy) := fun rec e ds h c r hq hne => by
  obtain ⟨s, hs, hq1⟩ := obR_inv hq hne
  obtain ⟨sr, hsr, hq2⟩ := obR_inv hq1 hne
  obtain ⟨k, new, hq3, hsrc⟩ := elems_inv hq2 hne
  have eA : args = #[x, y] := Array.toList_inj.1 (by rw [hargs])
  have memX : x ∈ o.op.operands := by rw [ho]; simp [Op.operands, Call.operands, eA]
  have memY : y ∈ o.op.operands := by rw [ho]; simp [Op.operands, Call.operands, eA]
  have exq : ∀ {V : Operand → Value} {v : Value} {w w' : World}, (Builtin.copy_ ts o.type #[V x, V y]).run P w = .ok v w' → (execOp V o).run P w = .ok (.value v) w' := fun {V v w w'} h => by
    subst eA
    simp only [execOp, ho, resolve, List.map_toArray, List.map_cons, List.map_nil, Sem.run_bind, Sem.run_pure, Result.andThen, invoke, builtin, h]
  cases s <;> try exact absurd hq3 hne
  case sl b p n q ex =>
    obtain ⟨hkn, hq4⟩ := bfR_inv (show bf (Nat.ble k n) (wrTo h b p new fun h => c (.int .i64 (.ofNat k)) ds h) .bad = r from hq3) hne
    have hkn := Nat.le_of_ble_eq_true hkn
    rcases wrTo_eq h b p new (fun h => c (.int .i64 (.ofNat k)) ds h) with hbd | ⟨l, t', g, h', g1, g2, g3, g4, g5, hw⟩
    · exact absurd (hbd.symm.trans hq4) hne
    · rw [hw] at hq4
      refine ⟨_, h', hq4, fun ρ w V hX hr => ?_⟩
      obtain ⟨cb, kb, q', q1, q2, q3, q4, _⟩ := hX x memX _ _ hx hs
      obtain ⟨news, s1, s2⟩ := hsrc P ρ w (V y) t (hX y memY _ _ hy hsr) hr g2 (.inl ⟨_, ht⟩)
      obtain ⟨cs, r1, r2, r3, r4⟩ := (hr.obj b _ cb kb g1 q1).w
      have hlen := s2.length
      obtain ⟨w', t1, t2⟩ := run_storeCells (P := P) (o := p) news 0 cs w r1 (allOne_rel g2 s2) (by omega)
      have t2' : Wr w w' cb (.cells (over p cs.toList news).toArray t' (0, 0)) := by
        rw [Nat.add_zero, putAt_eq _ _ _ (by simp; omega)] at t2; exact t2
      obtain ⟨u1, u2⟩ := write_hr hr g1 q1 r1 g3 s2 t2'
      refine ⟨_, w', ρ, exq (v := .int .i64 (k : Int)) ?_, .inl ⟨_, rfl, rfl⟩, ?_, ?_⟩
      · rw [q2]
        have hm : Nat.min k n = k := Nat.min_eq_left hkn
        simp [Builtin.copy_, hts, Sem.run_bind, run_und ht, run_szOf hsz, s1.len, Result.andThen, hm, s1.cells, t1, goInt]
      · rw [g4, g5]; exact u1
      · rw [g4, g5]; exact u2
end
end Go.Proofs.YtiebkbmnepgacaaGreatDoor.Ew
/-
  Evaluator, part 21: calls.
-/
namespace Go.Proofs.YtiebkbmnepgacaaGreatDoor.Ew
open Go Go.Proofs.YtiebkbmnepgacaaGreatDoor Go.RowKit
set_option linter.unusedVariables false

/-- the package variables' blocks -/
def GlR (G : Nat) (ρ : RM) : Prop := ∀ g, g < G → (posOf g).nat = g + 1 → ∃ k, ρ (posOf g) = some (g, k)
theorem GlR.mono {G : Nat} {ρ ρ' : RM} (h : Le ρ ρ') (hg : GlR G ρ) : GlR G ρ' := fun g h1 h2 => let ⟨k, hk⟩ := hg g h1 h2; ⟨k, h _ _ hk⟩
/-- what a called function, or an entry of the library's, comes to -/
def Res (P : Program) (f : FuncId) (args : Array Value) (w : World) (C : Value → World → Prop) : Prop :=
  ((callFunc f args).run P w = .ok (.enter f args) w ∧ Calls P f args w (RG C)) ∨ ∃ v w', (callFunc f args).run P w = .ok (.value v) w' ∧ C v w'
theorem Res.mono {P : Program} {f : FuncId} {args : Array Value} {w : World} {C C' : Value → World → Prop} (h : Res P f args w C) (hc : ∀ v w', C v w' → C' v w') : Res P f args w C' := by
  rcases h with ⟨h1, h2⟩ | ⟨v, w', h1, h2⟩
  · exact .inl ⟨h1, Calls.mono' h2 fun e w' ⟨v, he, hC⟩ => ⟨v, he, hc _ _ hC⟩⟩
  · exact .inr ⟨v, w', h1, hc _ _ h2⟩
/-- a value and memory, as the evaluator has them -/
def Fin (P : Program) (ρ : RM) (h : HP) (w : World) (v : AV) (h' : HP) (x : Value) (w' : World) : Prop := ∃ ρ', Vr ρ' v x ∧ Hr P ρ' h'.g h'.nx w' ∧ Stp ρ h.g h.nx w ρ' h'.g h'.nx w'

/-- what a call's answer says -/
def ClOK (p : Par) (v : AV) (h' : HP) : Cl → Prop
  | .fn f vs h => ∀ (ρ : RM) (w : World) (args : Array Value), VrL ρ vs args.toList → Hr p.P ρ h.g h.nx w → GlR p.G ρ → Res p.P f args w (Fin p.P ρ h w v h') ∧ (p.ov f = none → (callFunc f args).run p.P w = .ok (.enter f args) w ∧ Calls p.P f args w (RG (Fin p.P ρ h w v h')))
  | .yl b vs h => ∀ (ρ : RM) (w : World) (args : Array Value) (c k : Nat) (F : Fence) (n : Nat), FW F → VrL ρ vs args.toList → Hr p.P ρ h.g h.nx w → GlR p.G ρ → ρ b = some (c, k) → YieldAt F n p.P c args w (RG (Fin p.P ρ h w v h'))
def RecOK (p : Par) (rec : Cl → R) : Prop := ∀ (c : Cl) (v : AV) (h' : HP), rec c = .val v h' → ClOK p v h' c

theorem kVal_inv {x : R} {f : AV → HP → R} {r : R} (h : x.kVal f = r) (hn : R.bad ≠ r) : ∃ v h', x = .val v h' ∧ f v h' = r := by
  cases x <;> first | exact ⟨_, _, rfl, h⟩ | exact absurd h hn

/-- deferred calls -/
def DrOne (ρ : RM) : AD → Deferred → Prop
  | .mark b, d => ∃ c k, ρ b = some (c, k) ∧ d = mark c
  | .call f l, d => ∃ x1 x2, d = { target := .fn (.func f) x2, args := x1 } ∧ VrL ρ l (x1 ++ x2).toList
def DsR (ρ : RM) : List AD → List Deferred → Prop
  | [], ds => ds = []
  | a :: l, ds => ∃ d r, ds = d :: r ∧ DrOne ρ a d ∧ DsR ρ l r
theorem DrOne.mono {ρ ρ' : RM} (h : Le ρ ρ') : ∀ {a : AD} {d : Deferred}, DrOne ρ a d → DrOne ρ' a d
  | .mark b, d, ⟨c, k, e, e'⟩ => ⟨c, k, h _ _ e, e'⟩
  | .call f l, d, ⟨x1, x2, e, e'⟩ => ⟨x1, x2, e, VrL.mono h _ _ e'⟩
theorem DsR.mono {ρ ρ' : RM} (h : Le ρ ρ') : ∀ {l : List AD} {ds : List Deferred}, DsR ρ l ds → DsR ρ' l ds
  | [], ds, e => e
  | a :: l, ds, ⟨d, r, e, h1, h2⟩ => ⟨d, r, e, h1.mono h, h2.mono h⟩

section
variable {p : Par} {o : Oper}

/-- an operation that turns something, as the region has it -/
def EAll (p : Par) (o : Oper) (f : E) : Prop := ∀ (rec : Cl → R) (hrec : RecOK p rec) (e : Env) (ds : List AD) (h : HP) (c : AV → List AD → HP → R) (r : R), f rec e ds h c = r → R.bad ≠ r →
  ∃ v ds' h', c v ds' h' = r ∧ ((∀ c, o.op ≠ .defer c) → ds' = ds) ∧ ∀ (ρ : RM) (w : World) (a : Act) (F : Fence) (n : Nat) (K : Act → World → Prop), FW F → (∀ x ∈ o.op.operands, OpR p.G ρ e a.eval x) → GlR p.G ρ → DsR ρ ds a.defers → Hr p.P ρ h.g h.nx w →
    (∀ (ρ' : RM) (w' : World) (x : Value) (D : List Deferred), Vr ρ' v x → Hr p.P ρ' h'.g h'.nx w' → Stp ρ h.g h.nx w ρ' h'.g h'.nx w' → DsR ρ' ds' D → K ({ a with defers := D }.put o.dst x) w') →
    o.uponIn F n p.P a K NoExit ((execOp a.eval o).run p.P w)
theorem ESnd.all {f : E} (hd : ∀ c, o.op ≠ .defer c) (hf : ESnd p.P p.G o f) : EAll p o f := fun rec hrec e ds h c r hq hne => by
  obtain ⟨v, h', h1, h2⟩ := hf rec e ds h c r hq hne
  refine ⟨v, ds, h', h1, fun _ => rfl, fun ρ w a F n K hF hX hG hD hr hK => ?_⟩
  obtain ⟨x, w', ρ', h3, h4, h5, h6⟩ := h2 ρ w a.eval hX hr
  have hD' := hD.mono (h6.rm hr)
  rw [h3]
  rcases h4 with ⟨y, rfl, h7⟩ | ⟨rfl, rfl⟩
  · exact hK ρ' w' y a.defers h7 h5 h6 hD'
  · exact hK ρ' w' undef a.defers ⟨#[], rfl, rfl⟩ h5 h6 hD'

theorem args_rel {ρ : RM} {e : Env} {V : Operand → Value} {G : Nat} {args : Array Operand} {fs : List X} {c : List AV → R} {r : R} (hfs : cXs G args.toList = some fs) (hq : xs R.bad fs e c = r) (hne : R.bad ≠ r) :
    ∃ vs, c vs = r ∧ ∀ (ρ : RM) (V : Operand → Value), (∀ x ∈ args, OpR G ρ e V x) → VrL ρ vs (args.map V).toList := by
  rcases xs_eq R.bad fs e c with h1 | ⟨vs, h1, h2, h3⟩
  · exact absurd (h1.symm.trans hq) hne
  · refine ⟨vs, h1.symm.trans hq, fun ρ V hX => ?_⟩
    rw [Array.toList_map]
    exact xs_rel hfs (fun x hx => hX x (by simpa using hx)) h2 h3

theorem s_callF {f : FuncId} {args : Array Operand} {ts : Array TypeId} {fs : List X} (ho : o.op = .call ⟨.value (.func f), args, ts⟩) (hfs : cXs p.G args.toList = some fs) : EAll p o (e_callF f fs) := fun rec hrec e ds h c r hq hne => by
  obtain ⟨vs, hq1, hvs⟩ := args_rel (ρ := fun _ => none) (V := fun _ => undef) hfs hq hne
  obtain ⟨v, h', hv, hq2⟩ := kVal_inv hq1 hne
  refine ⟨v, ds, h', hq2, fun _ => rfl, fun ρ w a F n K hF hX hG hD hr hK => ?_⟩
  have hrel := hvs ρ a.eval (fun x hx => hX x (by rw [ho]; simp [Op.operands, Call.operands]; exact .inr hx))
  have hcl := (hrec _ _ _ hv ρ w (args.map a.eval) hrel hr hG).1
  have e2 : a.eval (.func f) = .func (.func f) #[] #[] := rfl
  simp only [execOp, ho, resolve, e2, Deferred.ofValue, Sem.run_pure, Sem.run_bind, Result.andThen, invoke, Array.append_empty, Array.empty_append]
  rcases hcl with ⟨h1, h2⟩ | ⟨x, w', h1, ρ', h2, h3, h4⟩
  · rw [h1]
    refine ⟨hF.hn, CallsIn.mono (callsIn_FW hF h2) ?_⟩
    rintro en w' ⟨x, rfl, ρ', h3, h4, h5⟩
    exact hK ρ' w' x a.defers h3 h4 h5 (hD.mono (h5.rm hr))
  · rw [h1]
    exact hK ρ' w' x a.defers h2 h3 h4 (hD.mono (h4.rm hr))

theorem s_callV {fo : Operand} {args : Array Operand} {ts : Array TypeId} {ff : X} {fs : List X} (ho : o.op = .call ⟨.value fo, args, ts⟩) (hf : cX p.G fo = some ff) (hfs : cXs p.G args.toList = some fs) : EAll p o (e_callV ff fs) := fun rec hrec e ds h c r hq hne => by
  obtain ⟨fv, hfv, hq1⟩ := obR_inv hq hne
  obtain ⟨vs, hq2, hvs⟩ := args_rel (ρ := fun _ => none) (V := fun _ => undef) hfs hq1 hne
  have memF : fo ∈ o.op.operands := by rw [ho]; simp [Op.operands, Call.operands]
  have memA : ∀ x ∈ args, x ∈ o.op.operands := fun x hx => by rw [ho]; simp [Op.operands, Call.operands]; exact .inr hx
  cases fv <;> try exact absurd hq2 hne
  case func f l1 l2 =>
    have hq3 : (appK l2 vs fun r => appK r l1 fun r => (rec (.fn f r h)).kVal fun v h => c v ds h) = r := hq2
    rw [appK_eq, appK_eq] at hq3
    obtain ⟨v, h', hv, hq4⟩ := kVal_inv hq3 hne
    refine ⟨v, ds, h', hq4, fun _ => rfl, fun ρ w a F n K hF hX hG hD hr hK => ?_⟩
    have hrel := hvs ρ a.eval (fun x hx => hX x (memA x hx))
    obtain ⟨x1, x2, e1, e2, e3⟩ := hX fo memF _ _ hf hfv
    have hall : VrL ρ (l1 ++ (vs ++ l2)) (x1 ++ args.map a.eval ++ x2).toList := by
      simp only [Array.toList_append, List.append_assoc]
      exact e2.app (hrel.app e3)
    have hcl := (hrec _ _ _ hv ρ w _ hall hr hG).1
    simp only [execOp, ho, resolve, e1, Deferred.ofValue, Sem.run_pure, Sem.run_bind, Result.andThen, invoke]
    rcases hcl with ⟨h1, h2⟩ | ⟨x, w', h1, ρ', h2, h3, h4⟩
    · rw [h1]
      refine ⟨hF.hn, CallsIn.mono (callsIn_FW hF h2) ?_⟩
      rintro en w' ⟨x, rfl, ρ', h3, h4, h5⟩
      exact hK ρ' w' x a.defers h3 h4 h5 (hD.mono (h5.rm hr))
    · rw [h1]
      exact hK ρ' w' x a.defers h2 h3 h4 (hD.mono (h4.rm hr))
  case yield b =>
    have hq3 : ((rec (.yl b vs h)).kVal fun v h => c v ds h) = r := hq2
    obtain ⟨v, h', hv, hq4⟩ := kVal_inv hq3 hne
    refine ⟨v, ds, h', hq4, fun _ => rfl, fun ρ w a F n K hF hX hG hD hr hK => ?_⟩
    have hrel := hvs ρ a.eval (fun x hx => hX x (memA x hx))
    obtain ⟨cb, k, e1, e2⟩ := hX fo memF _ _ hf hfv
    obtain ⟨fn, tmps, assign, body, hy, hR⟩ := hrec _ _ _ hv ρ w (args.map a.eval) cb k F (n - 1) hF hrel hr hG e1
    simp only [execOp, ho, resolve, e2, Deferred.ofValue, Sem.run_pure, Sem.run_bind, Result.andThen, invoke, Array.empty_append, hy]
    refine ⟨hF.hn, RoundIn.mono hR ?_⟩
    rintro en w' ⟨x, rfl, ρ', h3, h4, h5⟩
    exact hK ρ' w' x a.defers h3 h4 h5 (hD.mono (h5.rm hr))

theorem s_defer {fo : Operand} {args : Array Operand} {ts : Array TypeId} {ff : X} {fs : List X} (ho : o.op = .defer ⟨.value fo, args, ts⟩) (hf : cX p.G fo = some ff) (hfs : cXs p.G args.toList = some fs) : EAll p o (e_defer ff fs) := fun rec hrec e ds h c r hq hne => by
  obtain ⟨fv, hfv, hq1⟩ := obR_inv hq hne
  obtain ⟨f, l1, l2, rfl, hq2⟩ := AV.kFunc_some hq1 hne
  obtain ⟨vs, hq3, hvs⟩ := args_rel (ρ := fun _ => none) (V := fun _ => undef) hfs hq2 hne
  rw [appK_eq, appK_eq] at hq3
  refine ⟨_, _, h, hq3, fun hd => absurd ho (hd _), fun ρ w a F n K hF hX hG hD hr hK => ?_⟩
  have memF : fo ∈ o.op.operands := by rw [ho]; simp [Op.operands, Call.operands]
  have memA : ∀ x ∈ args, x ∈ o.op.operands := fun x hx => by rw [ho]; simp [Op.operands, Call.operands]; exact .inr hx
  have hrel := hvs ρ a.eval (fun x hx => hX x (memA x hx))
  obtain ⟨x1, x2, e1, e2, e3⟩ := hX fo memF _ _ hf hfv
  simp only [execOp, ho, resolve, e1, Deferred.ofValue, Sem.run_pure, Sem.run_bind, Result.andThen]
  refine hK ρ w undef _ ⟨#[], rfl, rfl⟩ hr Stp.refl ⟨_, _, rfl, ⟨_, _, rfl, ?_⟩, hD⟩
  simp only [Array.toList_append, List.append_assoc]
  exact e2.app (hrel.app e3)
end
end Go.Proofs.YtiebkbmnepgacaaGreatDoor.Ew
/-
  Evaluator, part 22: every operation that turns something or makes a block; what a quiet one needs of memory.
-/
namespace Go.Proofs.YtiebkbmnepgacaaGreatDoor.Ew
open Go Go.Proofs.YtiebkbmnepgacaaGreatDoor Go.RowKit
set_option linter.unusedVariables false

/-- what a quiet operation is -/
inductive KQ : Q → Bool → Prop where
  | qi {f : Q} : (∀ e h h', f e h = f e h') → KQ f false
  | l1 (x : X) : KQ (q_load1 x) true
  | lA (n : Nat) (x : X) : KQ (q_loadA n x) true
  | bs (x : X) : KQ (q_convBS x) true
  | lk (nk : Nat) (z : AV) (ok : Bool) (x i : X) : KQ (q_look nk z ok x i) true

section
variable {P : Program} {G : Nat} {o : Oper} {e : Env} {h h' : HP} {v : AV}
theorem cInt_q {op : BinOp} {k : IntKind} {x y : X} {r : OpK} (hc : cInt op k x y = some r) : ∃ f, r = .q f false ∧ ∀ e h h', f e h = f e h' := by
  unfold cInt at hc
  simp only [fN_eq] at hc
  cases op <;> first | (cases hc; exact ⟨_, rfl, fun _ _ _ => rfl⟩) | (cases hc; done)
theorem cStr_q {op : BinOp} {x y : X} {r : OpK} (hc : cStr op x y = some r) : ∃ f, r = .q f false ∧ ∀ e h h', f e h = f e h' := by
  unfold cStr at hc
  cases op <;> first | (cases hc; exact ⟨_, rfl, fun _ _ _ => rfl⟩) | (cases hc; done)
theorem cNil_q {nc : Operand → Bool} {nf : AV → Option Bool} {neg : Bool} {x y : Operand} {r : OpK} (hc : cNil G nc nf neg x y = some r) : ∃ f, r = .q f false ∧ ∀ e h h', f e h = f e h' := by
  unfold cNil at hc
  rcases bf_or hc with ⟨_, hc⟩ | ⟨_, hc⟩
  · obtain ⟨fx, _, hc⟩ := ob_some hc
    cases hc; exact ⟨_, rfl, fun _ _ _ => rfl⟩
  · obtain ⟨_, hc⟩ := bf_some hc
    obtain ⟨fx, _, hc⟩ := ob_some hc
    cases hc; exact ⟨_, rfl, fun _ _ _ => rfl⟩
theorem cBin_q {op : BinOp} {t : TypeId} {x y : Operand} {r : OpK} (hc : cBin P G op t x y = some r) : ∃ f, r = .q f false ∧ ∀ e h h', f e h = f e h' := by
  unfold cBin at hc
  obtain ⟨d, hd, hc⟩ := ob_some hc
  split at hc
  · obtain ⟨fx, _, hc⟩ := ob_some hc
    obtain ⟨fy, _, hc⟩ := ob_some hc
    exact cInt_q hc
  · obtain ⟨fx, _, hc⟩ := ob_some hc
    obtain ⟨fy, _, hc⟩ := ob_some hc
    exact cStr_q hc
  · obtain ⟨fx, _, hc⟩ := ob_some hc
    obtain ⟨fy, _, hc⟩ := ob_some hc
    cases op <;> first | (cases hc; exact ⟨_, rfl, fun _ _ _ => rfl⟩) | (cases hc; done)
  · cases op <;> first | (exact cNil_q hc) | (cases hc; done)
  · cases op <;> first | (exact cNil_q hc) | (cases hc; done)
  · cases op <;> first | (exact cNil_q hc) | (cases hc; done)
  · cases op <;> first | (exact cNil_q hc) | (cases hc; done)
  · cases hc
theorem cBin_kq {op : BinOp} {t : TypeId} {x y : Operand} {f : Q} {ld : Bool} (hc : cBin P G op t x y = some (.q f ld)) : KQ f ld := by
  obtain ⟨f', h1, h2⟩ := cBin_q hc
  cases h1; exact .qi h2
theorem cCall_kq {b : Builtin} {ts : Array TypeId} {l : List X} {f : Q} {ld : Bool} (hc : cCall P b ts l = some (.q f ld)) : KQ f ld := by
  unfold cCall at hc
  split at hc
  · obtain ⟨t, _, hc⟩ := ob_some hc
    obtain ⟨d, _, hc⟩ := ob_some hc
    split at hc
    · cases hc; exact .qi fun _ _ _ => rfl
    · cases hc; exact .qi fun _ _ _ => rfl
    · rw [fN_eq] at hc; cases hc; exact .qi fun _ _ _ => rfl
    · obtain ⟨d, _, hc⟩ := ob_some hc
      split at hc
      · rw [fN_eq] at hc; cases hc; exact .qi fun _ _ _ => rfl
      · cases hc
    · cases hc
  · obtain ⟨t, _, hc⟩ := ob_some hc
    obtain ⟨d, _, hc⟩ := ob_some hc
    split at hc
    · cases hc; exact .qi fun _ _ _ => rfl
    · cases hc
  · obtain ⟨t, _, hc⟩ := ob_some hc
    obtain ⟨d, _, hc⟩ := ob_some hc
    split at hc
    · cases hc; exact .qi fun _ _ _ => rfl
    · cases hc
  · split at hc
    · obtain ⟨d, hd, hc⟩ := ob_some hc
      obtain ⟨d', hd', hc⟩ := ob_some hc
      split at hc
      · obtain ⟨_, hc⟩ := bf_some hc
        obtain ⟨i, hi, hc⟩ := ob_some hc
        obtain ⟨_, hc⟩ := bf_some hc
        obtain ⟨z, hz, hc⟩ := ob_some hc
        obtain ⟨_, hc⟩ := bf_some hc
        rw [fN_eq, fN_eq] at hc; cases hc
      · cases hc
    · cases hc
  · obtain ⟨t, ht, hc⟩ := ob_some hc
    obtain ⟨d, hd, hc⟩ := ob_some hc
    split at hc
    · obtain ⟨sz, hs, hc⟩ := ob_some hc
      cases hc
    · cases hc
  · cases hc
theorem cOp_kq {f : Q} {ld : Bool} (hc : cOp P G o = some (.q f ld)) : KQ f ld := by
  unfold cOp at hc
  cases ho : o.op with
  | move x =>
    rw [ho] at hc
    obtain ⟨fx, hx, hc⟩ := ob_some (x := cX G x) hc
    cases hc
    exact .qi fun _ _ _ => rfl
  | assign x =>
    rw [ho] at hc
    obtain ⟨fx, hx, hc⟩ := ob_some (x := cX G x) hc
    cases hc
    exact .qi fun _ _ _ => rfl
  | pick c x y =>
    rw [ho] at hc
    obtain ⟨fc, h1, hc⟩ := ob_some (x := cX G c) hc
    obtain ⟨fx, h2, hc⟩ := ob_some hc
    obtain ⟨fy, h3, hc⟩ := ob_some hc
    cases hc
    exact .qi fun _ _ _ => rfl
  | nilCheck x =>
    rw [ho] at hc
    obtain ⟨fx, hx, hc⟩ := ob_some (x := cX G x) hc
    cases hc
    exact .qi fun _ _ _ => rfl
  | binOp op t x y ty =>
    rw [ho] at hc
    exact cBin_kq hc
  | load t x =>
    rw [ho] at hc
    obtain ⟨ag, h1, hc⟩ := ob_some (x := isAg P t) hc
    obtain ⟨n, h2, hc⟩ := ob_some hc
    obtain ⟨fx, hx, hc⟩ := ob_some hc
    cases hc
    cases ag with
    | true => exact .lA _ _
    | false => exact .l1 _
  | extract x i =>
    rw [ho] at hc
    obtain ⟨fx, hx, hc⟩ := ob_some (x := cX G x) hc
    rw [fN_eq] at hc
    cases hc
    exact .qi fun _ _ _ => rfl
  | unOp op t x =>
    rw [ho] at hc
    obtain ⟨fx, hx, hc⟩ := ob_some (x := cX G x) hc
    cases op with
    | not => cases hc; exact .qi fun _ _ _ => rfl
    | neg =>
      obtain ⟨d, hd, hc⟩ := ob_some (x := P.underlying t) hc
      cases d with
      | int k =>
        simp only [fN_eq] at hc
        cases hc
        exact .qi fun _ _ _ => rfl
      | _ => cases hc
    | _ => cases hc
  | convert s d x =>
    rw [ho] at hc
    obtain ⟨fx, hx, hc⟩ := ob_some (x := cX G x) hc
    obtain ⟨a, ha, hc⟩ := ob_some hc
    obtain ⟨b, hb, hc⟩ := ob_some hc
    split at hc
    · simp only [fN_eq] at hc
      cases hc
      exact .qi fun _ _ _ => rfl
    · cases hc; exact .qi fun _ _ _ => rfl
    · obtain ⟨d', hd', hc⟩ := ob_some hc
      split at hc
      · cases hc; exact .bs _
      · cases hc
    · cases hc
  | makeInterface t x =>
    rw [ho] at hc
    obtain ⟨d, hd, hc⟩ := ob_some (x := P.underlying t) hc
    split at hc
    · cases hc
    · rename_i hn
      obtain ⟨fx, hx, hc⟩ := ob_some hc
      rw [fN_eq] at hc; cases hc
      exact .qi fun _ _ _ => rfl
  | makeFunc f' l1 l2 =>
    rw [ho] at hc
    cases f' with
    | func f' =>
      obtain ⟨g1, h1, hc⟩ := ob_some (x := cXs G l1.toList) hc
      obtain ⟨g2, h2, hc⟩ := ob_some hc
      rw [fN_eq] at hc; cases hc
      exact .qi fun _ _ _ => rfl
    | _ => cases hc
  | slice t x lo hi mx =>
    rw [ho] at hc
    obtain ⟨fx, hx, hc⟩ := ob_some (x := cX G x) hc
    obtain ⟨lo', hl, hc⟩ := ob_some hc
    obtain ⟨hi', hh, hc⟩ := ob_some hc
    obtain ⟨mx', hm, hc⟩ := ob_some hc
    obtain ⟨d, hd, hc⟩ := ob_some hc
    split at hc
    · cases mx with
      | none => cases hm; cases hc; exact .qi fun _ _ _ => rfl
      | some m => obtain ⟨fm, _, hm⟩ := ob_some (x := cX G m) hm; cases hm; cases hc
    · obtain ⟨sz, hs, hc⟩ := ob_some hc
      obtain ⟨h1, hc⟩ := bf_some hc
      cases mx with
      | none => cases hm; cases hc; exact .qi fun _ _ _ => rfl
      | some m =>
        obtain ⟨fm, hfm, hm⟩ := ob_some (x := cX G m) hm
        cases hm
        cases hi with
        | none => cases hh; cases hc
        | some y =>
          obtain ⟨fy, hfy, hh⟩ := ob_some (x := cX G y) hh
          cases hh
          cases hc
          exact .qi fun _ _ _ => rfl
    · cases hc
  | fieldAddr s x f' =>
    rw [ho] at hc
    obtain ⟨d, hd, hc⟩ := ob_some (x := P.underlying s) hc
    split at hc
    · obtain ⟨fd, hf, hc⟩ := ob_some hc
      obtain ⟨n, hn, hc⟩ := ob_some hc
      obtain ⟨h1, hc⟩ := bf_some hc
      rw [fN_eq] at hc
      obtain ⟨fx, hx, hc⟩ := ob_some hc
      cases hc
      exact .qi fun _ _ _ => rfl
    · cases hc
  | field s x f' =>
    rw [ho] at hc
    obtain ⟨d, hd, hc⟩ := ob_some (x := P.underlying s) hc
    split at hc
    · obtain ⟨fd, hf, hc⟩ := ob_some hc
      rw [fN_eq] at hc
      obtain ⟨n, hn, hc⟩ := ob_some hc
      obtain ⟨ag, ha, hc⟩ := ob_some hc
      obtain ⟨fx, hx, hc⟩ := ob_some hc
      cases hc
      exact .qi fun _ _ _ => rfl
    · cases hc
  | indexAddr t x y =>
    rw [ho] at hc
    obtain ⟨d, hd, hc⟩ := ob_some (x := P.underlying t) hc
    split at hc
    · obtain ⟨sz, hs, hc⟩ := ob_some hc
      obtain ⟨fx, hx, hc⟩ := ob_some hc
      obtain ⟨fy, hy, hc⟩ := ob_some hc
      cases hc
      exact .qi fun _ _ _ => rfl
    · obtain ⟨sz, hs, hc⟩ := ob_some hc
      obtain ⟨fx, hx, hc⟩ := ob_some hc
      obtain ⟨fy, hy, hc⟩ := ob_some hc
      rw [fN_eq] at hc; cases hc
      exact .qi fun _ _ _ => rfl
    · cases hc
  | index t x y =>
    rw [ho] at hc
    obtain ⟨d, hd, hc⟩ := ob_some (x := P.underlying t) hc
    split at hc
    · obtain ⟨fx, hx, hc⟩ := ob_some hc
      obtain ⟨fy, hy, hc⟩ := ob_some hc
      cases hc
      exact .qi fun _ _ _ => rfl
    · obtain ⟨sz, hs, hc⟩ := ob_some hc
      obtain ⟨ag, ha, hc⟩ := ob_some hc
      obtain ⟨fx, hx, hc⟩ := ob_some hc
      obtain ⟨fy, hy, hc⟩ := ob_some hc
      rw [fN_eq] at hc; cases hc
      exact .qi fun _ _ _ => rfl
    · cases hc
  | lookup t x y ok =>
    rw [ho] at hc
    obtain ⟨d, hd, hc⟩ := ob_some (x := P.underlying t) hc
    split at hc
    · obtain ⟨nk, hk, hc⟩ := ob_some hc
      obtain ⟨zs, hz, hc⟩ := ob_some hc
      obtain ⟨ag, ha, hc⟩ := ob_some hc
      obtain ⟨hza, hc⟩ := bf_some hc
      obtain ⟨z, h1, hc⟩ := ob_some hc
      obtain ⟨fx, hx, hc⟩ := ob_some hc
      obtain ⟨fy, hy, hc⟩ := ob_some hc
      cases hc
      exact .lk _ _ _ _ _
    · cases hc
  | build t ps =>
    rw [ho] at hc
    obtain ⟨d, hd, hc⟩ := ob_some (x := P.underlying t) hc
    split at hc
    · obtain ⟨hall, hc⟩ := bf_some hc
      obtain ⟨z, hz, hc⟩ := ob_some hc
      obtain ⟨qs, hs, hc⟩ := ob_some hc
      cases hc
      exact .qi fun _ _ _ => rfl
    · obtain ⟨z, hz, hc⟩ := ob_some hc
      obtain ⟨sz, hsz, hc⟩ := ob_some hc
      obtain ⟨qs, hs, hc⟩ := ob_some hc
      cases hc
      exact .qi fun _ _ _ => rfl
    · cases hc
  | call c =>
    rw [ho] at hc
    obtain ⟨cl, args, ts⟩ := c
    obtain ⟨fs, hfs, hc⟩ := ob_some (x := cXs G args.toList) hc
    cases cl with
    | builtin b => exact cCall_kq hc
    | value f' =>
      cases f' with
      | func k => simp only [fN_eq] at hc; cases hc
      | _ => obtain ⟨_, _, hc⟩ := ob_some hc; cases hc
    | invoke _ _ => cases hc
  | alloc t =>
    rw [ho] at hc
    obtain ⟨z, _, hc⟩ := ob_some (x := zeroOf P t) hc
    rw [fN_eq] at hc; cases hc
  | box t x =>
    rw [ho] at hc
    obtain ⟨z, _, hc⟩ := ob_some (x := cX G x) hc
    rw [fN_eq] at hc; cases hc
  | buildSlice t n ps =>
    rw [ho] at hc
    obtain ⟨d, hd, hc⟩ := ob_some (x := P.underlying t) hc
    split at hc
    · obtain ⟨z, hz, hc⟩ := ob_some hc
      obtain ⟨sz, hsz, hc⟩ := ob_some hc
      obtain ⟨qs, hs, hc⟩ := ob_some hc
      obtain ⟨_, hc⟩ := bf_some hc
      obtain ⟨_, hc⟩ := bf_some hc
      rw [fN_eq, fN_eq] at hc; cases hc
    · cases hc
  | store t x y =>
    rw [ho] at hc
    obtain ⟨n, _, hc⟩ := ob_some (x := szOf P t) hc
    obtain ⟨_, _, hc⟩ := ob_some hc
    obtain ⟨_, _, hc⟩ := ob_some hc
    cases hc
  | makeMap t r' =>
    rw [ho] at hc
    cases r' <;> cases hc
  | makeSlice t x y =>
    rw [ho] at hc
    obtain ⟨d, hd, hc⟩ := ob_some (x := P.underlying t) hc
    split at hc
    · obtain ⟨i, _, hc⟩ := ob_some hc
      obtain ⟨_, hc⟩ := bf_some hc
      obtain ⟨_, _, hc⟩ := ob_some hc
      obtain ⟨_, _, hc⟩ := ob_some hc
      obtain ⟨_, _, hc⟩ := ob_some hc
      obtain ⟨_, hc⟩ := bf_some hc
      rw [fN_eq] at hc; cases hc
    · cases hc
  | mapUpdate t m k v =>
    rw [ho] at hc
    obtain ⟨d, hd, hc⟩ := ob_some (x := P.underlying t) hc
    split at hc
    · obtain ⟨_, _, hc⟩ := ob_some hc
      obtain ⟨_, _, hc⟩ := ob_some hc
      obtain ⟨_, _, hc⟩ := ob_some hc
      obtain ⟨_, _, hc⟩ := ob_some hc
      cases hc
    · cases hc
  | insert t m k v =>
    rw [ho] at hc
    obtain ⟨d, hd, hc⟩ := ob_some (x := P.underlying t) hc
    split at hc
    · obtain ⟨_, _, hc⟩ := ob_some hc
      obtain ⟨_, _, hc⟩ := ob_some hc
      obtain ⟨_, _, hc⟩ := ob_some hc
      obtain ⟨_, _, hc⟩ := ob_some hc
      cases hc
    · cases hc
  | defer c =>
    rw [ho] at hc
    obtain ⟨fs, hfs, hc⟩ := ob_some (x := cXs G c.args.toList) hc
    split at hc
    · obtain ⟨_, _, hc⟩ := ob_some hc
      cases hc
    · cases hc
  | _ => rw [ho] at hc; cases hc
def effOp : Op → Bool
  | .alloc _ | .box _ _ | .buildSlice _ _ _ | .store _ _ _ | .makeMap _ _ | .makeSlice _ _ _ | .mapUpdate _ _ _ _ | .insert _ _ _ _ | .call _ | .defer _ => true
  | _ => false
theorem cOp_effOp {k : OpK} (hc : cOp P G o = some k) (hk : ∀ f ld, k ≠ .q f ld) : effOp o.op = true := by
  unfold cOp at hc
  cases ho : o.op with
  | move x =>
    rw [ho] at hc
    obtain ⟨fx, hx, hc⟩ := ob_some (x := cX G x) hc
    cases hc
    exact absurd rfl (hk _ _)
  | assign x =>
    rw [ho] at hc
    obtain ⟨fx, hx, hc⟩ := ob_some (x := cX G x) hc
    cases hc
    exact absurd rfl (hk _ _)
  | pick c x y =>
    rw [ho] at hc
    obtain ⟨fc, h1, hc⟩ := ob_some (x := cX G c) hc
    obtain ⟨fx, h2, hc⟩ := ob_some hc
    obtain ⟨fy, h3, hc⟩ := ob_some hc
    cases hc
    exact absurd rfl (hk _ _)
  | nilCheck x =>
    rw [ho] at hc
    obtain ⟨fx, hx, hc⟩ := ob_some (x := cX G x) hc
    cases hc
    exact absurd rfl (hk _ _)
  | binOp op t x y ty =>
    rw [ho] at hc
    (obtain ⟨f, rfl, _⟩ := cBin_q hc; exact absurd rfl (hk _ _))
  | load t x =>
    rw [ho] at hc
    obtain ⟨ag, h1, hc⟩ := ob_some (x := isAg P t) hc
    obtain ⟨n, h2, hc⟩ := ob_some hc
    obtain ⟨fx, hx, hc⟩ := ob_some hc
    cases hc
    cases ag with
    | true => exact absurd rfl (hk _ _)
    | false => exact absurd rfl (hk _ _)
  | extract x i =>
    rw [ho] at hc
    obtain ⟨fx, hx, hc⟩ := ob_some (x := cX G x) hc
    rw [fN_eq] at hc
    cases hc
    exact absurd rfl (hk _ _)
  | unOp op t x =>
    rw [ho] at hc
    obtain ⟨fx, hx, hc⟩ := ob_some (x := cX G x) hc
    cases op with
    | not => cases hc; exact absurd rfl (hk _ _)
    | neg =>
      obtain ⟨d, hd, hc⟩ := ob_some (x := P.underlying t) hc
      cases d with
      | int k =>
        simp only [fN_eq] at hc
        cases hc
        exact absurd rfl (hk _ _)
      | _ => cases hc
    | _ => cases hc
  | convert s d x =>
    rw [ho] at hc
    obtain ⟨fx, hx, hc⟩ := ob_some (x := cX G x) hc
    obtain ⟨a, ha, hc⟩ := ob_some hc
    obtain ⟨b, hb, hc⟩ := ob_some hc
    split at hc
    · simp only [fN_eq] at hc
      cases hc
      exact absurd rfl (hk _ _)
    · cases hc; exact absurd rfl (hk _ _)
    · obtain ⟨d', hd', hc⟩ := ob_some hc
      split at hc
      · cases hc; exact absurd rfl (hk _ _)
      · cases hc
    · cases hc
  | makeInterface t x =>
    rw [ho] at hc
    obtain ⟨d, hd, hc⟩ := ob_some (x := P.underlying t) hc
    split at hc
    · cases hc
    · rename_i hn
      obtain ⟨fx, hx, hc⟩ := ob_some hc
      rw [fN_eq] at hc; cases hc
      exact absurd rfl (hk _ _)
  | makeFunc f' l1 l2 =>
    rw [ho] at hc
    cases f' with
    | func f' =>
      obtain ⟨g1, h1, hc⟩ := ob_some (x := cXs G l1.toList) hc
      obtain ⟨g2, h2, hc⟩ := ob_some hc
      rw [fN_eq] at hc; cases hc
      exact absurd rfl (hk _ _)
    | _ => cases hc
  | slice t x lo hi mx =>
    rw [ho] at hc
    obtain ⟨fx, hx, hc⟩ := ob_some (x := cX G x) hc
    obtain ⟨lo', hl, hc⟩ := ob_some hc
    obtain ⟨hi', hh, hc⟩ := ob_some hc
    obtain ⟨mx', hm, hc⟩ := ob_some hc
    obtain ⟨d, hd, hc⟩ := ob_some hc
    split at hc
    · cases mx with
      | none => cases hm; cases hc; exact absurd rfl (hk _ _)
      | some m => obtain ⟨fm, _, hm⟩ := ob_some (x := cX G m) hm; cases hm; cases hc
    · obtain ⟨sz, hs, hc⟩ := ob_some hc
      obtain ⟨h1, hc⟩ := bf_some hc
      cases mx with
      | none => cases hm; cases hc; exact absurd rfl (hk _ _)
      | some m =>
        obtain ⟨fm, hfm, hm⟩ := ob_some (x := cX G m) hm
        cases hm
        cases hi with
        | none => cases hh; cases hc
        | some y =>
          obtain ⟨fy, hfy, hh⟩ := ob_some (x := cX G y) hh
          cases hh
          cases hc
          exact absurd rfl (hk _ _)
    · cases hc
  | fieldAddr s x f' =>
    rw [ho] at hc
    obtain ⟨d, hd, hc⟩ := ob_some (x := P.underlying s) hc
    split at hc
    · obtain ⟨fd, hf, hc⟩ := ob_some hc
      obtain ⟨n, hn, hc⟩ := ob_some hc
      obtain ⟨h1, hc⟩ := bf_some hc
      rw [fN_eq] at hc
      obtain ⟨fx, hx, hc⟩ := ob_some hc
      cases hc
      exact absurd rfl (hk _ _)
    · cases hc
  | field s x f' =>
    rw [ho] at hc
    obtain ⟨d, hd, hc⟩ := ob_some (x := P.underlying s) hc
    split at hc
    · obtain ⟨fd, hf, hc⟩ := ob_some hc
      rw [fN_eq] at hc
      obtain ⟨n, hn, hc⟩ := ob_some hc
      obtain ⟨ag, ha, hc⟩ := ob_some hc
      obtain ⟨fx, hx, hc⟩ := ob_some hc
      cases hc
      exact absurd rfl (hk _ _)
    · cases hc
  | indexAddr t x y =>
    rw [ho] at hc
    obtain ⟨d, hd, hc⟩ := ob_some (x := P.underlying t) hc
    split at hc
    · obtain ⟨sz, hs, hc⟩ := ob_some hc
      obtain ⟨fx, hx, hc⟩ := ob_some hc
      obtain ⟨fy, hy, hc⟩ := ob_some hc
      cases hc
      exact absurd rfl (hk _ _)
    · obtain ⟨sz, hs, hc⟩ := ob_some hc
      obtain ⟨fx, hx, hc⟩ := ob_some hc
      obtain ⟨fy, hy, hc⟩ := ob_some hc
      rw [fN_eq] at hc; cases hc
      exact absurd rfl (hk _ _)
    · cases hc
  | index t x y =>
    rw [ho] at hc
    obtain ⟨d, hd, hc⟩ := ob_some (x := P.underlying t) hc
    split at hc
    · obtain ⟨fx, hx, hc⟩ := ob_some hc
      obtain ⟨fy, hy, hc⟩ := ob_some hc
      cases hc
      exact absurd rfl (hk _ _)
    · obtain ⟨sz, hs, hc⟩ := ob_some hc
      obtain ⟨ag, ha, hc⟩ := ob_some hc
      obtain ⟨fx, hx, hc⟩ := ob_some hc
      obtain ⟨fy, hy, hc⟩ := ob_some hc
      rw [fN_eq] at hc; cases hc
      exact absurd rfl (hk _ _)
    · cases hc
  | lookup t x y ok =>
    rw [ho] at hc
    obtain ⟨d, hd, hc⟩ := ob_some (x := P.underlying t) hc
    split at hc
    · obtain ⟨nk, hk, hc⟩ := ob_some hc
      obtain ⟨zs, hz, hc⟩ := ob_some hc
      obtain ⟨ag, ha, hc⟩ := ob_some hc
      obtain ⟨hza, hc⟩ := bf_some hc
      obtain ⟨z, h1, hc⟩ := ob_some hc
      obtain ⟨fx, hx, hc⟩ := ob_some hc
      obtain ⟨fy, hy, hc⟩ := ob_some hc
      cases hc
      exact absurd rfl (hk _ _)
    · cases hc
  | build t ps =>
    rw [ho] at hc
    obtain ⟨d, hd, hc⟩ := ob_some (x := P.underlying t) hc
    split at hc
    · obtain ⟨hall, hc⟩ := bf_some hc
      obtain ⟨z, hz, hc⟩ := ob_some hc
      obtain ⟨qs, hs, hc⟩ := ob_some hc
      cases hc
      exact absurd rfl (hk _ _)
    · obtain ⟨z, hz, hc⟩ := ob_some hc
      obtain ⟨sz, hsz, hc⟩ := ob_some hc
      obtain ⟨qs, hs, hc⟩ := ob_some hc
      cases hc
      exact absurd rfl (hk _ _)
    · cases hc
  | alloc t => rfl
  | box t x => rfl
  | buildSlice t n ps => rfl
  | store t x y => rfl
  | makeMap t r => rfl
  | makeSlice t x y => rfl
  | mapUpdate t m k v => rfl
  | insert t m k v => rfl
  | call c => rfl
  | defer c => rfl
  | _ => rw [ho] at hc; cases hc
theorem q_indep {f : Q} (hc : cOp P G o = some (.q f false)) (e : Env) (h h' : HP) : f e h = f e h' := by
  cases cOp_kq hc with
  | qi hf => exact hf e h h'
theorem q_true {f : Q} (hc : cOp P G o = some (.q f true)) : (∃ x, f = q_load1 x) ∨ (∃ n x, f = q_loadA n x) ∨ (∃ x, f = q_convBS x) ∨ ∃ nk z ok x i, f = q_look nk z ok x i := by
  cases cOp_kq hc with
  | l1 x => exact .inl ⟨x, rfl⟩
  | lA n x => exact .inr (.inl ⟨n, x, rfl⟩)
  | bs x => exact .inr (.inr (.inl ⟨x, rfl⟩))
  | lk nk z ok x i => exact .inr (.inr (.inr ⟨nk, z, ok, x, i, rfl⟩))
theorem q_mono {f : Q} {ld : Bool} (hc : cOp P G o = some (.q f ld)) (hm : ∀ b x, h.get b = some x → h'.get b = some x) (hq : f e h = some v) : f e h' = some v := by
  cases ld with
  | false => exact (q_indep hc e h' h).trans hq
  | true =>
    rcases q_true hc with ⟨x, rfl⟩ | ⟨n, x, rfl⟩ | ⟨x, rfl⟩ | ⟨nk, z, ok, x, i, rfl⟩
    · obtain ⟨a, ha, h1⟩ := ob_some hq
      obtain ⟨b, p, rfl, h2⟩ := AV.kPtr_some h1 (by simp)
      obtain ⟨ao, hb, h3⟩ := ob_some h2
      unfold q_load1
      rw [ha]
      show (ob (h'.get b) fun a => a.kCells none fun l _ _ _ => nthK p l) = some v
      rw [hm _ _ hb]; exact h3
    · obtain ⟨a, ha, h1⟩ := ob_some hq
      obtain ⟨b, p, rfl, h2⟩ := AV.kPtr_some h1 (by simp)
      unfold q_loadA
      rw [ha]
      show rd none h' b p n (fun l => some (.agg l)) = some v
      unfold rd at h2 ⊢
      cases hb : h.get b with
      | none => rw [hb] at h2; cases h2
      | some ao => rw [hm _ _ hb]; rw [hb] at h2; exact h2
    · obtain ⟨a, ha, h1⟩ := ob_some hq
      unfold q_convBS
      rw [ha]
      cases a <;> try exact h1
      case sl b p n q ex =>
        have h2 : rd none h b p n (fun l => byt none l 0 fun s m => some (AV.str s m)) = some v := h1
        show rd none h' b p n (fun l => byt none l 0 fun s m => some (AV.str s m)) = some v
        unfold rd at h2 ⊢
        cases hb : h.get b with
        | none => rw [hb] at h2; cases h2
        | some ao => rw [hm _ _ hb]; rw [hb] at h2; exact h2
    · obtain ⟨a, ha, h1⟩ := ob_some hq
      obtain ⟨b, rfl, h2⟩ := AV.kMap_some h1 (by simp)
      obtain ⟨ao, hb, h3⟩ := ob_some h2
      unfold q_look
      rw [ha]
      show (ob (h'.get b) fun a => a.kMap none fun es => ob (i e) fun k => k.kAgg none fun k =>
        bf (lenIs k nk) (fnd none k es (some (bf ok (.tup [z, .bool false]) z)) fun v => some (bf ok (.tup [v, .bool true]) v)) none) = some v
      rw [hm _ _ hb]; exact h3
end

section
variable {P : Program} {G : Nat} {o : Oper}
theorem over0_both : ∀ {y l : List AV} {c : List AV → R} {r : R}, over0 R.bad y l c = r → R.bad ≠ r → ∃ zz, c zz = r ∧ ∀ {β : Type} (no : β) (c' : List AV → β), over0 no y l c' = c' zz
  | [], l, c, r, hq, hne => ⟨l, hq, fun no c' => rfl⟩
  | a :: y, [], c, r, hq, hne => absurd hq hne
  | a :: y, x :: l, c, r, hq, hne => by
    obtain ⟨zz, h1, h2⟩ := over0_both (y := y) (l := l) (c := fun z => c (a :: z)) hq hne
    exact ⟨a :: zz, h1, fun no c' => h2 no fun z => c' (a :: z)⟩
theorem overK_both {y : List AV} : ∀ {n : Nat} {l : List AV} {c : List AV → R} {r : R}, overK R.bad y n l c = r → R.bad ≠ r → ∃ zz, c zz = r ∧ ∀ {β : Type} (no : β) (c' : List AV → β), overK no y n l c' = c' zz
  | 0, l, c, r, hq, hne => over0_both hq hne
  | n + 1, [], c, r, hq, hne => absurd hq hne
  | n + 1, x :: l, c, r, hq, hne => by
    obtain ⟨zz, h1, h2⟩ := overK_both (n := n) (l := l) (c := fun z => c (x :: z)) hq hne
    exact ⟨x :: zz, h1, fun no c' => h2 no fun z => c' (x :: z)⟩
/-- parts laid over: they do, or they don't -/
theorem bld_both {ps : List (Nat × Nat × X)} {e : Env} : ∀ {z : List AV} {c : List AV → R} {r : R}, bld R.bad ps e z c = r → R.bad ≠ r → ∃ zz, c zz = r ∧ ∀ {β : Type} (no : β) (c' : List AV → β), bld no ps e z c' = c' zz := by
  induction ps with
  | nil => intro z c r hq hne; exact ⟨z, hq, fun no c' => rfl⟩
  | cons q ps ih =>
    obtain ⟨p, n, x⟩ := q
    intro z c r hq hne
    have hq0 : (@Option.casesOn AV (fun _ => R) (x e) .bad fun v => bf (lenIs (cellsOf v) n) (overK .bad (cellsOf v) p z fun z => bld .bad ps e z c) .bad) = r := hq
    cases hx : x e with
    | none => rw [hx] at hq0; exact absurd hq0 hne
    | some v =>
      rw [hx] at hq0
      obtain ⟨hl, hq1⟩ := bfR_inv (show bf (lenIs (cellsOf v) n) _ .bad = r from hq0) hne
      obtain ⟨z1, hq2, hov⟩ := overK_both hq1 hne
      obtain ⟨zz, hq3, hb⟩ := ih hq2 hne
      refine ⟨zz, hq3, fun {β} no c' => ?_⟩
      show (@Option.casesOn AV (fun _ => β) (x e) no fun v => bf (lenIs (cellsOf v) n) (overK no (cellsOf v) p z fun z => bld no ps e z c') no) = c' zz
      rw [hx]
      show bf (lenIs (cellsOf v) n) (overK no (cellsOf v) p z fun z => bld no ps e z c') no = c' zz
      rw [hl]
      show overK no (cellsOf v) p z (fun z => bld no ps e z c') = c' zz
      rw [hov]; exact hb no c'
theorem cCall_k {b : Builtin} {ts : Array TypeId} {l : List X} {k : OpK} (hc : cCall P b ts l = some k) : (∃ f ld, k = .q f ld) ∨ ∃ f, k = .e f := by
  unfold cCall at hc
  split at hc
  · obtain ⟨t, _, hc⟩ := ob_some hc
    obtain ⟨d, _, hc⟩ := ob_some hc
    split at hc
    · cases hc; exact .inl ⟨_, _, rfl⟩
    · cases hc; exact .inl ⟨_, _, rfl⟩
    · rw [fN_eq] at hc; cases hc; exact .inl ⟨_, _, rfl⟩
    · obtain ⟨d, _, hc⟩ := ob_some hc
      split at hc
      · rw [fN_eq] at hc; cases hc; exact .inl ⟨_, _, rfl⟩
      · cases hc
    · cases hc
  · obtain ⟨t, _, hc⟩ := ob_some hc
    obtain ⟨d, _, hc⟩ := ob_some hc
    split at hc
    · cases hc; exact .inl ⟨_, _, rfl⟩
    · cases hc
  · obtain ⟨t, _, hc⟩ := ob_some hc
    obtain ⟨d, _, hc⟩ := ob_some hc
    split at hc
    · cases hc; exact .inl ⟨_, _, rfl⟩
    · cases hc
  · split at hc
    · obtain ⟨d, hd, hc⟩ := ob_some hc
      obtain ⟨d', hd', hc⟩ := ob_some hc
      split at hc
      · obtain ⟨_, hc⟩ := bf_some hc
        obtain ⟨i, hi, hc⟩ := ob_some hc
        obtain ⟨_, hc⟩ := bf_some hc
        obtain ⟨z, hz, hc⟩ := ob_some hc
        obtain ⟨_, hc⟩ := bf_some hc
        rw [fN_eq, fN_eq] at hc; cases hc; exact .inr ⟨_, rfl⟩
      · cases hc
    · cases hc
  · obtain ⟨t, ht, hc⟩ := ob_some hc
    obtain ⟨d, hd, hc⟩ := ob_some hc
    split at hc
    · obtain ⟨sz, hs, hc⟩ := ob_some hc
      cases hc; exact .inr ⟨_, rfl⟩
    · cases hc
  · cases hc
theorem cOp_new {n : Option Nat} {f : Fr} (hc : cOp P G o = some (.f n f)) : (∀ c, o.op ≠ .defer c) ∧ ∀ (e : Env) (c : AO → R) (r : R), f e c = r → R.bad ≠ r → ∃ ao, (∀ c', f e c' = c' ao) ∧ ∀ (ρ : RM) (V : Operand → Value), (∀ x ∈ o.op.operands, OpR G ρ e V x) → NewB P V o ρ n ao := by
  have hc0 := hc
  unfold cOp at hc
  cases ho : o.op with
  | alloc t =>
    rw [ho] at hc
    obtain ⟨z, hz, hc⟩ := ob_some (x := zeroOf P t) hc
    rw [fN_eq] at hc; cases hc
    exact ⟨fun _ h => (by cases h), fun e c r hq hne => ⟨_, fun _ => rfl, fun ρ V hX => f_alloc_new ho hz⟩⟩
  | box t x =>
    rw [ho] at hc
    obtain ⟨fx, hx, hc⟩ := ob_some (x := cX G x) hc
    rw [fN_eq] at hc; cases hc
    refine ⟨fun _ h => (by cases h), fun e c r hq hne => ?_⟩
    obtain ⟨a, ha, _⟩ := obR_inv (x := fx e) hq hne
    exact ⟨.cells (cellsOf a) t none true, fun c' => by unfold f_box; rw [ha]; rfl, fun ρ V hX => f_box_new ho (hX x (by simp [Op.operands])) hx ha⟩
  | buildSlice t n ps =>
    rw [ho] at hc
    obtain ⟨d, hd, hc⟩ := ob_some (x := P.underlying t) hc
    split at hc
    · obtain ⟨z, hz, hc⟩ := ob_some hc
      obtain ⟨sz, hsz, hc⟩ := ob_some hc
      obtain ⟨qs, hs, hc⟩ := ob_some hc
      obtain ⟨hle, hc⟩ := bf_some hc
      obtain ⟨hl, hc⟩ := bf_some hc
      rw [fN_eq, fN_eq] at hc; cases hc
      refine ⟨fun _ h => (by cases h), fun e c r hq hne => ?_⟩
      obtain ⟨zz, hz1, hz2⟩ := bld_both (z := rep n z) hq hne
      exact ⟨.cells zz _ none true, fun c' => hz2 _ _, fun ρ V hX => f_bslice_new ho hd hz hsz (lenIs_eq hl) hs (Nat.le_of_ble_eq_true hle)
        (fun p hp => hX p.2 (by simp only [Op.operands, List.mem_toArray]; exact List.mem_map_of_mem hp)) (hz2 _ _)⟩
    · cases hc
  | store t x y =>
    rw [ho] at hc
    obtain ⟨n, _, hc⟩ := ob_some (x := szOf P t) hc
    obtain ⟨_, _, hc⟩ := ob_some hc
    obtain ⟨_, _, hc⟩ := ob_some hc
    cases hc
  | makeMap t r' =>
    rw [ho] at hc
    cases r' <;> cases hc
  | makeSlice t x y =>
    rw [ho] at hc
    obtain ⟨d, hd, hc⟩ := ob_some (x := P.underlying t) hc
    split at hc
    · obtain ⟨i, _, hc⟩ := ob_some hc
      obtain ⟨_, hc⟩ := bf_some hc
      obtain ⟨_, _, hc⟩ := ob_some hc
      obtain ⟨_, _, hc⟩ := ob_some hc
      obtain ⟨_, _, hc⟩ := ob_some hc
      obtain ⟨_, hc⟩ := bf_some hc
      rw [fN_eq] at hc; cases hc
    · cases hc
  | mapUpdate t m k v =>
    rw [ho] at hc
    obtain ⟨d, hd, hc⟩ := ob_some (x := P.underlying t) hc
    split at hc
    · obtain ⟨_, _, hc⟩ := ob_some hc
      obtain ⟨_, _, hc⟩ := ob_some hc
      obtain ⟨_, _, hc⟩ := ob_some hc
      obtain ⟨_, _, hc⟩ := ob_some hc
      cases hc
    · cases hc
  | insert t m k v =>
    rw [ho] at hc
    obtain ⟨d, hd, hc⟩ := ob_some (x := P.underlying t) hc
    split at hc
    · obtain ⟨_, _, hc⟩ := ob_some hc
      obtain ⟨_, _, hc⟩ := ob_some hc
      obtain ⟨_, _, hc⟩ := ob_some hc
      obtain ⟨_, _, hc⟩ := ob_some hc
      cases hc
    · cases hc
  | call c =>
    rw [ho] at hc
    obtain ⟨cl, args, ts⟩ := c
    obtain ⟨fs, hfs, hc⟩ := ob_some (x := cXs G args.toList) hc
    cases cl with
    | builtin b =>
      rcases cCall_k hc with ⟨_, _, h1⟩ | ⟨_, h1⟩ <;> cases h1
    | value f' =>
      cases f' with
      | func k => simp only [fN_eq] at hc; cases hc
      | _ => obtain ⟨_, _, hc⟩ := ob_some hc; cases hc
    | invoke _ _ => cases hc
  | defer c =>
    rw [ho] at hc
    obtain ⟨fs, hfs, hc⟩ := ob_some (x := cXs G c.args.toList) hc
    split at hc
    · obtain ⟨_, _, hc⟩ := ob_some hc
      cases hc
    · cases hc
  | _ =>
    have he := cOp_effOp hc0 (fun f ld c => by cases c)
    rw [ho] at he; cases he
end

section
variable {p : Par} {o : Oper}
theorem cOp_st {n : Nat} {fx fy : X} (hc : cOp p.P p.G o = some (.s n fx fy)) : (∀ c, o.op ≠ .defer c) ∧ ESnd p.P p.G o (e_store n fx fy) := by
  have hc0 := hc
  unfold cOp at hc
  cases ho : o.op with
  | store t x y =>
    rw [ho] at hc
    obtain ⟨n, hn, hc⟩ := ob_some (x := szOf p.P t) hc
    obtain ⟨fx, hx, hc⟩ := ob_some hc
    obtain ⟨fy, hy, hc⟩ := ob_some hc
    cases hc
    exact ⟨fun _ h => (by cases h), s_store ho hn hx hy⟩
  | alloc t =>
    rw [ho] at hc
    obtain ⟨z, _, hc⟩ := ob_some (x := zeroOf p.P t) hc
    rw [fN_eq] at hc; cases hc
  | box t x =>
    rw [ho] at hc
    obtain ⟨z, _, hc⟩ := ob_some (x := cX p.G x) hc
    rw [fN_eq] at hc; cases hc
  | buildSlice t n ps =>
    rw [ho] at hc
    obtain ⟨d, hd, hc⟩ := ob_some (x := p.P.underlying t) hc
    split at hc
    · obtain ⟨z, hz, hc⟩ := ob_some hc
      obtain ⟨sz, hsz, hc⟩ := ob_some hc
      obtain ⟨qs, hs, hc⟩ := ob_some hc
      obtain ⟨_, hc⟩ := bf_some hc
      obtain ⟨_, hc⟩ := bf_some hc
      rw [fN_eq, fN_eq] at hc; cases hc
    · cases hc
  | makeMap t r' =>
    rw [ho] at hc
    cases r' <;> cases hc
  | makeSlice t x y =>
    rw [ho] at hc
    obtain ⟨d, hd, hc⟩ := ob_some (x := p.P.underlying t) hc
    split at hc
    · obtain ⟨i, _, hc⟩ := ob_some hc
      obtain ⟨_, hc⟩ := bf_some hc
      obtain ⟨_, _, hc⟩ := ob_some hc
      obtain ⟨_, _, hc⟩ := ob_some hc
      obtain ⟨_, _, hc⟩ := ob_some hc
      obtain ⟨_, hc⟩ := bf_some hc
      rw [fN_eq] at hc; cases hc
    · cases hc
  | mapUpdate t m k v =>
    rw [ho] at hc
    obtain ⟨d, hd, hc⟩ := ob_some (x := p.P.underlying t) hc
    split at hc
    · obtain ⟨_, _, hc⟩ := ob_some hc
      obtain ⟨_, _, hc⟩ := ob_some hc
      obtain ⟨_, _, hc⟩ := ob_some hc
      obtain ⟨_, _, hc⟩ := ob_some hc
      cases hc
    · cases hc
  | insert t m k v =>
    rw [ho] at hc
    obtain ⟨d, hd, hc⟩ := ob_some (x := p.P.underlying t) hc
    split at hc
    · obtain ⟨_, _, hc⟩ := ob_some hc
      obtain ⟨_, _, hc⟩ := ob_some hc
      obtain ⟨_, _, hc⟩ := ob_some hc
      obtain ⟨_, _, hc⟩ := ob_some hc
      cases hc
    · cases hc
  | call c =>
    rw [ho] at hc
    obtain ⟨cl, args, ts⟩ := c
    obtain ⟨fs, hfs, hc⟩ := ob_some (x := cXs p.G args.toList) hc
    cases cl with
    | builtin b =>
      rcases cCall_k hc with ⟨_, _, h1⟩ | ⟨_, h1⟩ <;> cases h1
    | value f' =>
      cases f' with
      | func k => simp only [fN_eq] at hc; cases hc
      | _ => obtain ⟨_, _, hc⟩ := ob_some hc; cases hc
    | invoke _ _ => cases hc
  | defer c =>
    rw [ho] at hc
    obtain ⟨fs, hfs, hc⟩ := ob_some (x := cXs p.G c.args.toList) hc
    split at hc
    · obtain ⟨_, _, hc⟩ := ob_some hc
      cases hc
    · cases hc
  | _ =>
    have he := cOp_effOp hc0 (fun f ld c => by cases c)
    rw [ho] at he; cases he
theorem cCall_eff {b : Builtin} {args : Array Operand} {ts : Array TypeId} {fs : List X} {f : E} (ho : o.op = .call ⟨.builtin b, args, ts⟩) (hfs : cXs p.G args.toList = some fs) (hc : cCall p.P b ts fs = some (.e f)) : EAll p o f := by
  obtain ⟨hl, hget⟩ := seqO_spec hfs
  have hnd : ∀ c, o.op ≠ .defer c := fun c e => by rw [ho] at e; cases e
  have get2 : ∀ {fx fy : X}, fs = [fx, fy] → ∃ x y, args.toList = [x, y] ∧ cX p.G x = some fx ∧ cX p.G y = some fy := fun {fx fy} e1 => by
    subst e1
    cases ha : args.toList with
    | nil => rw [ha] at hl; simp at hl
    | cons x t =>
      cases t with
      | nil => rw [ha] at hl; simp at hl
      | cons y t =>
        rw [ha] at hl hget
        have : t = [] := by simp at hl; exact hl
        subst this
        obtain ⟨f1, h1, h2⟩ := hget 0 x rfl
        obtain ⟨f2, h3, h4⟩ := hget 1 y rfl
        simp at h1 h3; subst h1; subst h3
        exact ⟨x, y, rfl, h2, h4⟩
  unfold cCall at hc
  split at hc
  case h_4 x y =>
    obtain ⟨a1, a2, e1, hx, hy⟩ := get2 rfl
    split at hc
    · rename_i t u hts
      obtain ⟨d, hd, hc⟩ := ob_some hc
      obtain ⟨d', hd', hc⟩ := ob_some hc
      split at hc
      · obtain ⟨hk, hc⟩ := bf_some hc
        obtain ⟨i, hi, hc⟩ := ob_some hc
        obtain ⟨hb, hc⟩ := bf_some hc
        obtain ⟨z, hz, hc⟩ := ob_some hc
        obtain ⟨hzl, hc⟩ := bf_some hc
        rw [fN_eq, fN_eq] at hc; cases hc
        refine ESnd.all hnd (s_app ho e1 hts hd ?_ hi (Nat.le_of_ble_eq_true hb) hz (lenIs_eq hzl) hx hy)
        cases d' <;> first | (cases hk; done) | exact .inl ⟨_, hd'⟩ | exact .inr hd'
      · cases hc
    · cases hc
  case h_5 x y =>
    obtain ⟨a1, a2, e1, hx, hy⟩ := get2 rfl
    obtain ⟨t, hts, hc⟩ := ob_some hc
    obtain ⟨d, hd, hc⟩ := ob_some hc
    split at hc
    · obtain ⟨sz, hsz, hc⟩ := ob_some hc
      cases hc
      exact ESnd.all hnd (s_copy ho e1 hts hd hsz hx hy)
    · cases hc
  case h_1 =>
    obtain ⟨t, _, hc⟩ := ob_some hc
    obtain ⟨d, _, hc⟩ := ob_some hc
    split at hc
    · cases hc
    · cases hc
    · rw [fN_eq] at hc; cases hc
    · obtain ⟨d, _, hc⟩ := ob_some hc
      split at hc
      · rw [fN_eq] at hc; cases hc
      · cases hc
    · cases hc
  case h_2 =>
    obtain ⟨t, _, hc⟩ := ob_some hc
    obtain ⟨d, _, hc⟩ := ob_some hc
    split at hc
    · cases hc
    · cases hc
  case h_3 =>
    obtain ⟨t, _, hc⟩ := ob_some hc
    obtain ⟨d, _, hc⟩ := ob_some hc
    split at hc
    · cases hc
    · cases hc
  case h_6 => cases hc
theorem cOp_eff {f : E} (hc : cOp p.P p.G o = some (.e f)) : EAll p o f := by
  have hc0 := hc
  unfold cOp at hc
  cases ho : o.op with
  | makeMap t r' =>
    rw [ho] at hc
    cases r' with
    | none => cases hc; exact ESnd.all (fun c e => by rw [ho] at e; cases e) (s_mkM ho)
    | some _ => cases hc
  | makeSlice t x y =>
    rw [ho] at hc
    obtain ⟨d, hd, hc⟩ := ob_some (x := p.P.underlying t) hc
    split at hc
    · obtain ⟨i, hi, hc⟩ := ob_some hc
      obtain ⟨hb, hc⟩ := bf_some hc
      obtain ⟨z, hz, hc⟩ := ob_some hc
      obtain ⟨fx, hx, hc⟩ := ob_some hc
      obtain ⟨fy, hy, hc⟩ := ob_some hc
      obtain ⟨hl, hc⟩ := bf_some hc
      rw [fN_eq] at hc; cases hc
      exact ESnd.all (fun c e => by rw [ho] at e; cases e) (s_mkS ho hd hi (Nat.le_of_ble_eq_true hb) hz (lenIs_eq hl) hx hy)
    · cases hc
  | mapUpdate t m k v =>
    rw [ho] at hc
    obtain ⟨d, hd, hc⟩ := ob_some (x := p.P.underlying t) hc
    split at hc
    · obtain ⟨nk, h1, hc⟩ := ob_some hc
      obtain ⟨fm, h2, hc⟩ := ob_some hc
      obtain ⟨fk, h3, hc⟩ := ob_some hc
      obtain ⟨fv, h4, hc⟩ := ob_some hc
      cases hc
      exact ESnd.all (fun c e => by rw [ho] at e; cases e) (s_mupd (.inl ho) hd h1 h2 h3 h4)
    · cases hc
  | insert t m k v =>
    rw [ho] at hc
    obtain ⟨d, hd, hc⟩ := ob_some (x := p.P.underlying t) hc
    split at hc
    · obtain ⟨nk, h1, hc⟩ := ob_some hc
      obtain ⟨fm, h2, hc⟩ := ob_some hc
      obtain ⟨fk, h3, hc⟩ := ob_some hc
      obtain ⟨fv, h4, hc⟩ := ob_some hc
      cases hc
      exact ESnd.all (fun c e => by rw [ho] at e; cases e) (s_mupd (.inr ho) hd h1 h2 h3 h4)
    · cases hc
  | call c =>
    rw [ho] at hc
    obtain ⟨cl, args, ts⟩ := c
    obtain ⟨fs, hfs, hc⟩ := ob_some (x := cXs p.G args.toList) hc
    cases cl with
    | builtin b => exact cCall_eff ho hfs hc
    | value f' =>
      cases f' with
      | func k => simp only [fN_eq] at hc; cases hc; exact s_callF ho hfs
      | _ =>
        obtain ⟨ff, hff, hc⟩ := ob_some hc
        cases hc
        exact s_callV ho hff hfs
    | invoke _ _ => cases hc
  | defer c =>
    rw [ho] at hc
    obtain ⟨cl, args, ts⟩ := c
    obtain ⟨fs, hfs, hc⟩ := ob_some (x := cXs p.G args.toList) hc
    cases cl with
    | value f' =>
      obtain ⟨ff, hff, hc⟩ := ob_some hc
      cases hc
      exact s_defer ho hff hfs
    | builtin _ => cases hc
    | invoke _ _ => cases hc
  | alloc t =>
    rw [ho] at hc
    obtain ⟨z, _, hc⟩ := ob_some (x := zeroOf p.P t) hc
    rw [fN_eq] at hc; cases hc
  | box t x =>
    rw [ho] at hc
    obtain ⟨z, _, hc⟩ := ob_some (x := cX p.G x) hc
    rw [fN_eq] at hc; cases hc
  | buildSlice t n ps =>
    rw [ho] at hc
    obtain ⟨d, hd, hc⟩ := ob_some (x := p.P.underlying t) hc
    split at hc
    · obtain ⟨z, hz, hc⟩ := ob_some hc
      obtain ⟨sz, hsz, hc⟩ := ob_some hc
      obtain ⟨qs, hs, hc⟩ := ob_some hc
      obtain ⟨_, hc⟩ := bf_some hc
      obtain ⟨_, hc⟩ := bf_some hc
      rw [fN_eq, fN_eq] at hc; cases hc
    · cases hc
  | store t x y =>
    rw [ho] at hc
    obtain ⟨n, _, hc⟩ := ob_some (x := szOf p.P t) hc
    obtain ⟨_, _, hc⟩ := ob_some hc
    obtain ⟨_, _, hc⟩ := ob_some hc
    cases hc
  | _ =>
    have he := cOp_effOp hc0 (fun f ld c => by cases c)
    rw [ho] at he; cases he
end
end Go.Proofs.YtiebkbmnepgacaaGreatDoor.Ew
/-
  Evaluator, part 23: one operation of a region; a region in the order of the text.
-/
namespace Go.Proofs.YtiebkbmnepgacaaGreatDoor.Ew
open Go Go.Proofs.YtiebkbmnepgacaaGreatDoor Go.RowKit
set_option linter.unusedVariables false

/-! ### slots -/
/-- what is known of one slot -/
def SR (ρ : RM) (e : Env) (tmps : Array Value) (p : Pos) : Prop := ∀ v, e.get p = some v → ∃ t c, p.nat = t + 1 ∧ tmps[t]? = some c ∧ Vr ρ v c
theorem envR_iff {ρ : RM} {e : Env} {tmps : Array Value} : EnvR ρ e tmps ↔ ∀ p, SR ρ e tmps p := Iff.rfl
theorem SR.mono {ρ ρ' : RM} (h : Le ρ ρ') {e : Env} {tmps : Array Value} {p : Pos} (hs : SR ρ e tmps p) : SR ρ' e tmps p := fun v hv => let ⟨t, c, h0, h1, h2⟩ := hs v hv; ⟨t, c, h0, h1, Vr.mono h _ _ h2⟩
theorem SR.congr {ρ : RM} {e e' : Env} {tmps : Array Value} {p : Pos} (h : e'.get p = e.get p) (hs : SR ρ e tmps p) : SR ρ e' tmps p := fun v hv => hs v (h ▸ hv)
theorem posK_some {β : Type} {n : Nat} {c : Pos → Option β} {r : β} (h : posK none n c = some r) : (posOf n).nat = n + 1 ∧ c (posOf n) = some r := by
  rcases posK_spec none n c with h1 | ⟨h1, h2⟩
  · rw [h1] at h; cases h
  · exact ⟨h1, h2 ▸ h⟩
theorem posOf_inj {m n : Nat} (h1 : (posOf m).nat = m + 1) (h2 : (posOf n).nat = n + 1) (h : posOf m = posOf n) : m = n := by
  have := congrArg Pos.nat h
  omega
theorem eval_tmp {a : Act} {t : Nat} {c : Value} (h : a.tmps[t]? = some c) : a.eval (.tmp t) = c := by
  show a.tmps.getD t undef = c
  rw [Array.getD_eq_getD_getElem?, h]; rfl
theorem opR {G : Nat} {ρ : RM} {e : Env} {a : Act} {x : Operand} (hG : GlR G ρ) (hS : ∀ t, x = .tmp t → (posOf t).nat = t + 1 → SR ρ e a.tmps (posOf t)) : OpR G ρ e a.eval x := fun f v hf hv => by
  cases x with
  | tmp t =>
    obtain ⟨h1, h2⟩ := posK_some (c := fun p => some (xT p)) hf
    cases h2
    obtain ⟨t', c, h3, h4, h5⟩ := hS t rfl h1 v hv
    have : t' = t := by omega
    subst this
    rw [eval_tmp h4]; exact h5
  | const y =>
    obtain ⟨b, hb, h2⟩ := ob_some (x := absV y) hf
    cases h2
    cases hv
    exact (absV_rel hb).1
  | global g =>
    obtain ⟨hb, h2⟩ := bf_some (b := Nat.blt g G) hf
    obtain ⟨h3, h4⟩ := posK_some h2
    cases h4
    cases hv
    obtain ⟨k, hk⟩ := hG g (Nat.le_of_ble_eq_true hb) h3
    exact ⟨g, k, hk, rfl⟩
  | func g =>
    have hf' : (fN g fun g => some (xC (.func g [] []))) = some f := hf
    rw [fN_eq] at hf'
    cases hf'
    cases hv
    exact ⟨#[], #[], rfl, rfl, rfl⟩

/-- where a result goes -/
def DstR (N : Nat) (d : Option Nat) (q : Option Pos) : Prop := (d = none ∧ q = none) ∨ ∃ t, d = some t ∧ t < N ∧ q = some (posOf t) ∧ (posOf t).nat = t + 1
theorem cD_inv {β : Type} {N : Nat} {d : Option Nat} {c : Option Pos → Option β} {r : β} (h : cD N d c = some r) : ∃ q, c q = some r ∧ DstR N d q := by
  cases d with
  | none => exact ⟨none, h, .inl ⟨rfl, rfl⟩⟩
  | some t =>
    obtain ⟨hb, h⟩ := bf_some (b := Nat.blt t N) h
    obtain ⟨h1, h2⟩ := posK_some h
    exact ⟨_, h2, .inr ⟨t, rfl, Nat.le_of_ble_eq_true hb, rfl, h1⟩⟩
def putE (d : Option Pos) (v : AV) (e : Env) : Env := match d with
  | none => e
  | some p => e.set p (some v)
theorem put_eq (d : Option Pos) (v : AV) (e : Env) (c : Env → R) : put d v e c = c (putE d v e) := by
  cases d with
  | none => rfl
  | some p => exact Tri.setK_eq p (some v) e c
theorem putE_same (p : Pos) (v : AV) (e : Env) : (putE (some p) v e).get p = some v := by
  show Tri.get p (e.set p (some v)) = _
  rw [Tri.get_set, if_pos rfl]
theorem putE_other {d : Option Pos} {p : Pos} (v : AV) (e : Env) (h : d ≠ some p) : (putE d v e).get p = e.get p := by
  cases d with
  | none => rfl
  | some q =>
    show Tri.get p (e.set q (some v)) = _
    rw [Tri.get_set, if_neg (fun c => h (by rw [c]))]
theorem put_size (a : Act) (d : Option Nat) (x : Value) : (a.put d x).tmps.size = a.tmps.size := by
  cases d <;> simp [Act.put]
theorem SR.put_same {ρ : RM} {N : Nat} {d : Option Nat} {p : Pos} {v : AV} {x : Value} {e : Env} {a : Act} (hd : DstR N d (some p)) (hs : a.tmps.size = N) (hv : Vr ρ v x) : SR ρ (putE (some p) v e) (a.put d x).tmps p := fun u hu => by
  rw [putE_same] at hu
  cases hu
  rcases hd with ⟨_, h⟩ | ⟨t, h1, h2, h3, h4⟩
  · cases h
  · subst h1
    cases h3
    exact ⟨t, x, h4, by simp [Act.put, hs, h2], hv⟩
theorem SR.put_other {ρ : RM} {N : Nat} {d : Option Nat} {q : Option Pos} {p : Pos} {v : AV} {x : Value} {e : Env} {a : Act} (hd : DstR N d q) (hne : q ≠ some p) (hs : SR ρ e a.tmps p) : SR ρ (putE q v e) (a.put d x).tmps p := fun u hu => by
  rw [putE_other v e hne] at hu
  obtain ⟨t, c, h1, h2, h3⟩ := hs u hu
  refine ⟨t, c, h1, ?_, h3⟩
  rcases hd with ⟨h, _⟩ | ⟨t', h4, h5, h6, h7⟩
  · subst h; exact h2
  · subst h4
    have : t' ≠ t := fun e => by subst e; exact hne (by rw [h6]; congr 1; exact Pos.nat_inj (by omega))
    show (a.tmps.setIfInBounds t' x)[t]? = some c
    rw [Array.getElem?_setIfInBounds_ne this]; exact h2
theorem env_put {ρ : RM} {N : Nat} {d : Option Nat} {q : Option Pos} {v : AV} {x : Value} {e : Env} {a : Act} (hd : DstR N d q) (hs : a.tmps.size = N) (he : EnvR ρ e a.tmps) (hv : Vr ρ v x) : EnvR ρ (putE q v e) (a.put d x).tmps := fun p => by
  by_cases h : q = some p
  · subst h; exact SR.put_same hd hs hv
  · exact SR.put_other hd h (he p)

/-! ### guards -/
def GdR (l : List Oper) (o : Oper) (g : Option (Pos × Bool)) : Prop := (o.guard = none ∧ g = none) ∨ ∃ j b t, o.guard = some (j, b) ∧ slotOf l j = some t ∧ g = some (posOf t, b) ∧ (posOf t).nat = t + 1
theorem gOf_inv {β : Type} {l : List Oper} {o : Oper} {c : Option (Pos × Bool) → Option β} {r : β} (h : gOf l o c = some r) : ∃ g, c g = some r ∧ GdR l o g := by
  unfold gOf at h
  split at h
  · rename_i hg; exact ⟨none, h, .inl ⟨hg, rfl⟩⟩
  · rename_i j b hg
    obtain ⟨t, ht, h⟩ := ob_some h
    obtain ⟨h1, h2⟩ := posK_some h
    exact ⟨_, h2, .inr ⟨j, b, t, hg, ht, rfl, h1⟩⟩
/-- a guard's value: is it as it is wanted? -/
def GdV (e : Env) (t : Pos) (w : Bool) (c : Bool) : Prop := ∃ v, e.get t = some v ∧ ((∃ b, v = .bool b ∧ c = eqB b w) ∨ (v = .tup [] ∧ c = false))
theorem gd_inv {e : Env} {t : Pos} {w : Bool} {f : Bool → R} {r : R} (h : gd .bad e t w f = r) (hn : R.bad ≠ r) : ∃ c, f c = r ∧ GdV e t w c := by
  unfold gd at h
  cases hv : e.get t with
  | none => rw [hv] at h; exact absurd h hn
  | some v =>
    rw [hv] at h
    cases v <;> try exact absurd h hn
    case bool b => exact ⟨_, h, _, hv, .inl ⟨b, rfl, rfl⟩⟩
    case tup l =>
      cases l with
      | nil => exact ⟨_, h, _, hv, .inr ⟨rfl, rfl⟩⟩
      | cons x r => exact absurd h hn
theorem GdV.congr {e e' : Env} {t : Pos} {w c : Bool} (h : e'.get t = e.get t) (hg : GdV e t w c) : GdV e' t w c := let ⟨v, h1, h2⟩ := hg; ⟨v, h.trans h1, h2⟩
theorem eqB_eq (a b : Bool) : eqB a b = (a == b) := by cases a <;> cases b <;> rfl
theorem wanted_some {l : List Oper} {o : Oper} {t : Pos} {b c : Bool} {ρ : RM} {e : Env} {tmps : Array Value} (hg : GdR l o (some (t, b))) (hv : GdV e t b c) (hs : SR ρ e tmps t) : Region.wanted o (yielded l.toArray tmps) = c := by
  rcases hg with ⟨_, h⟩ | ⟨j, b', t', h1, h2, h3, h4⟩
  · cases h
  · cases h3
    obtain ⟨v, h5, h6⟩ := hv
    obtain ⟨i, x, h7, h8, h9⟩ := hs v h5
    have : i = t' := by omega
    subst this
    obtain ⟨oj, h10, h11⟩ := ob_some (x := l[j]?) h2
    have hd : oj.dst = some i := h11
    have hy : ((l.toArray[j]?).bind (·.dst)).bind (tmps[·]?) = some x := by simp [h10, hd, h8]
    simp only [Region.wanted, h1, yielded, hy]
    rcases h6 with ⟨b2, rfl, rfl⟩ | ⟨rfl, rfl⟩
    · have : x = .bool b2 := h9
      subst this
      rw [eqB_eq]; cases b2 <;> cases b <;> rfl
    · obtain ⟨xs, hx, hl⟩ := h9
      subst hx
      rfl
theorem wanted_none {l : List Oper} {o : Oper} {tmps : Array Value} (hg : GdR l o none) : Region.wanted o (yielded l.toArray tmps) = true := by
  rcases hg with ⟨h, _⟩ | ⟨j, b', t', h1, h2, h3, h4⟩
  · simp [Region.wanted, h]
  · cases h3

theorem nmsX_mem {c : List Nat} : ∀ {l : List Operand} {t : Nat}, (Operand.tmp t ∈ l ∨ t ∈ c) → t ∈ nmsX l c
  | [], t, h => by
    rcases h with h | h
    · cases h
    · exact h
  | x :: l, t, h => by
    have step : (t ∈ nmsX l c ∨ x = .tmp t) := by
      rcases h with h | h
      · rcases List.mem_cons.1 h with h | h
        · exact .inr h.symm
        · exact .inl (nmsX_mem (.inl h))
      · exact .inl (nmsX_mem (.inr h))
    cases x with
    | tmp s =>
      show t ∈ s :: nmsX l c
      rcases step with h | h
      · exact List.mem_cons_of_mem _ h
      · cases h; exact List.mem_cons_self
    | const _ => exact step.resolve_right (by simp)
    | global _ => exact step.resolve_right (by simp)
    | func _ => exact step.resolve_right (by simp)
theorem names0_op {l : List Oper} {o : Oper} {t : Nat} (h : Operand.tmp t ∈ o.op.operands) : t ∈ names0 l o := nmsX_mem (.inl (by simpa using h))
theorem names0_gd {l : List Oper} {o : Oper} {j t : Nat} {b : Bool} (h : o.guard = some (j, b)) (hs : slotOf l j = some t) : t ∈ names0 l o := by
  unfold names0
  rw [h]
  exact nmsX_mem (.inr (by simp [hs]))

/-! ### one operation -/
section
variable {p : Par} {rec : Cmd → R} {l : List Oper} {N : Nat}

/-- what an operation needs of its slots -/
def NmR (l : List Oper) (o : Oper) (ρ : RM) (e : Env) (tmps : Array Value) : Prop := ∀ t, t ∈ names0 l o → (posOf t).nat = t + 1 → SR ρ e tmps (posOf t)
theorem NmR.ops {o : Oper} {ρ : RM} {e : Env} {a : Act} {G : Nat} (hG : GlR G ρ) (h : NmR l o ρ e a.tmps) : ∀ x ∈ o.op.operands, OpR G ρ e a.eval x := fun x hx => opR hG fun t ht hp => h t (names0_op (by subst ht; exact hx)) hp

theorem opIn_run {F : Fence} {n : Nat} {i : Nat} {o : Oper} {K : Act → World → Prop} {a : Act} {w : World} (hF : FW F) (hi : l[i]? = some o) (hd : F.round = none ∨ ∀ c, o.op ≠ .defer c) (hw : Region.wanted o (yielded l.toArray a.tmps) = true)
    (h : o.uponIn F n p.P a K NoExit ((execOp a.eval o).run p.P w)) : wpOpIn F n p.P l.toArray NoExit i K a w := by
  have hi' : l.toArray[i]? = some o := by simpa using hi
  unfold wpOpIn
  simp only [hi']
  rw [if_pos hw]
  refine ⟨fun f _ => hF.fn f, ?_⟩
  rcases hd with hd | hd
  · rw [hd, Oper.semAt_none]; exact h
  · rw [Oper.semAt_eq _ _ _ hd]; exact h
theorem opIn_skip {F : Fence} {n : Nat} {i : Nat} {o : Oper} {K : Act → World → Prop} {a : Act} {w : World} (hF : FW F) (hi : l[i]? = some o) (hw : Region.wanted o (yielded l.toArray a.tmps) = false)
    (h : K (a.put o.dst undef) w) : wpOpIn F n p.P l.toArray NoExit i K a w := by
  have hi' : l.toArray[i]? = some o := by simpa using hi
  unfold wpOpIn
  simp only [hi']
  rw [if_neg (by simp [hw])]
  exact ⟨fun f _ => hF.fn f, h⟩
def WV (e : Env) (g : Option (Pos × Bool)) (c : Bool) : Prop := match g with
  | none => c = true
  | some tb => GdV e tb.1 tb.2 c
theorem wantedI {o : Oper} {g : Option (Pos × Bool)} {ρ : RM} {e : Env} {tmps : Array Value} (hg : GdR l o g) (hn : NmR l o ρ e tmps) {c : Bool} (hv : WV e g c) : Region.wanted o (yielded l.toArray tmps) = c := by
  cases g with
  | none => rw [wanted_none hg]; exact (show c = true from hv).symm
  | some tb =>
    obtain ⟨t, b⟩ := tb
    refine wanted_some (ρ := ρ) hg hv ?_
    rcases hg with ⟨_, h⟩ | ⟨j, b', t', h1, h2, h3, h4⟩
    · cases h
    · cases h3; exact hn t' (names0_gd h1 h2) h4

/-- loads that are looked at once more, or memory that has only grown -/
def MemR (ag : List (Pos × Q × Option (Pos × Bool))) (e' : Env) (h h' : HP) : Prop := again ag e' h' = true ∨ ∀ b x, b ≠ h.nx → h.g b = some x → h'.g b = some x
/-- what one operation's doing says -/
def OneR (p : Par) (l : List Oper) (N : Nat) (o : Oper) (e : Env) (ds : List AD) (h : HP) (v : AV) (ds' : List AD) (h' : HP) (i : Nat) : Prop :=
  ∀ (ρ : RM) (w : World) (a : Act) (F : Fence) (n : Nat) (K : Act → World → Prop), FW F → (F.round = none ∨ ∀ c, o.op ≠ .defer c) → NmR l o ρ e a.tmps → GlR p.G ρ → DsR ρ ds a.defers → Hr p.P ρ h.g h.nx w →
    (∀ (ρ' : RM) (w' : World) (x : Value) (D : List Deferred), Vr ρ' v x → Hr p.P ρ' h'.g h'.nx w' → Stp ρ h.g h.nx w ρ' h'.g h'.nx w' → DsR ρ' ds' D → K ({ a with defers := D }.put o.dst x) w') → wpOpIn F n p.P l.toArray NoExit i K a w
theorem eval_const (a : Act) (v : Value) : a.eval (.const v) = v := rfl

theorem one_run (hrec : RecOK p fun x => rec (.cl x)) {o : Oper} {k : OpK} {d : Option Pos} {g : Option (Pos × Bool)} {ag : List (Pos × Q × Option (Pos × Bool))} {i : Nat} (hk : cOp p.P p.G o = some k) (hg : GdR l o g) (hi : l[i]? = some o)
    {e : Env} {ds : List AD} {h : HP} {c : Env → List AD → HP → R} {r : R} (hw : ∀ ρ tmps, NmR l o ρ e tmps → Region.wanted o (yielded l.toArray tmps) = true) (hq : itR rec (itK d none k ag) e ds h c = r) (hne : R.bad ≠ r) :
    ∃ v ds' h', c (putE d v e) ds' h' = r ∧ MemR ag (putE d v e) h h' ∧ ((∀ c, o.op ≠ .defer c) → ds' = ds) ∧ OneR p l N o e ds h v ds' h' i := by
  cases k with
  | q f ld =>
    have hq0 : (obR (f e h) fun v => put d v e fun e => c e ds h) = r := hq
    obtain ⟨v, hv, hq1⟩ := obR_inv hq0 hne
    rw [put_eq] at hq1
    refine ⟨v, ds, h, hq1, .inr fun b x _ hx => hx, fun _ => rfl, fun ρ w a F n K hF hd hn hG hD hr hK => ?_⟩
    obtain ⟨x, h1, h2⟩ := cOp_quiet (eval_const a) (hn.ops hG) hr hk hv
    refine opIn_run hF hi hd (hw ρ _ hn) ?_
    rw [h1]
    exact hK ρ w x a.defers h2 hr Stp.refl hD
  | f m f =>
    have hq0 : (f e fun o => h.new o fun b h => put d (newV m b) e fun e => c e ds h) = r := hq
    obtain ⟨hnd, hnew⟩ := cOp_new hk
    obtain ⟨ao, h1, h2⟩ := hnew e _ r hq0 hne
    rw [h1] at hq0
    obtain ⟨h', h3, h4, h5⟩ := HP.new_spec h ao (fun b h => put d (newV m b) e fun e => c e ds h)
    rw [h3, put_eq] at hq0
    refine ⟨newV m h.nx, ds, h', hq0, .inr fun b x hb hx => ?_, fun _ => rfl, fun ρ w a F n K hF hd hn hG hD hr hK => ?_⟩
    · rw [h4, upd_ne _ _ hb]; exact hx
    · obtain ⟨O, x, g1, g2, g3⟩ := h2 ρ a.eval (hn.ops hG) w
      obtain ⟨u1, u2, u3⟩ := hr_new hr h4 h5 (Ext.alloc w O) g2
      refine opIn_run hF hi hd (hw ρ _ hn) ?_
      rw [g1]
      exact hK _ _ x a.defers (g3 _ _ (upd_same _ _ _)) u1 u2 (hD.mono u3)
  | e f =>
    have hq0 : (f (fun x => rec (.cl x)) e ds h fun v ds h => put d v e fun e => bf (again ag e h) (c e ds h) .bad) = r := hq
    obtain ⟨v, ds', h', h1, h2, h3⟩ := cOp_eff hk _ hrec e ds h _ r hq0 hne
    rw [put_eq] at h1
    obtain ⟨h4, h5⟩ := bfR_inv h1 hne
    refine ⟨v, ds', h', h5, .inl h4, h2, fun ρ w a F n K hF hd hn hG hD hr hK => ?_⟩
    exact opIn_run hF hi hd (hw ρ _ hn) (h3 ρ w a F n K hF (hn.ops hG) hG hD hr hK)
  | s n x y =>
    have hq0 : (e_store n x y (fun x => rec (.cl x)) e ds h fun v ds h => put d v e fun e => bf (again ag e h) (c e ds h) .bad) = r := hq
    obtain ⟨hnd, hst⟩ := cOp_st hk
    obtain ⟨v, ds', h', h1, h2, h3⟩ := (ESnd.all hnd hst) _ hrec e ds h _ r hq0 hne
    rw [put_eq] at h1
    obtain ⟨h4, h5⟩ := bfR_inv h1 hne
    refine ⟨v, ds', h', h5, .inl h4, h2, fun ρ w a F n K hF hd hn hG hD hr hK => ?_⟩
    exact opIn_run hF hi hd (hw ρ _ hn) (h3 ρ w a F n K hF (hn.ops hG) hG hD hr hK)
theorem one_op (hrec : RecOK p fun x => rec (.cl x)) {o : Oper} {k : OpK} {d : Option Pos} {g : Option (Pos × Bool)} {ag : List (Pos × Q × Option (Pos × Bool))} {i : Nat} (hk : cOp p.P p.G o = some k) (hg : GdR l o g) (hi : l[i]? = some o)
    {e : Env} {ds : List AD} {h : HP} {c : Env → List AD → HP → R} {r : R} (hq : itR rec (itK d g k ag) e ds h c = r) (hne : R.bad ≠ r) :
    ∃ v ds' h', c (putE d v e) ds' h' = r ∧ MemR ag (putE d v e) h h' ∧ ((∀ c, o.op ≠ .defer c) → ds' = ds) ∧ OneR p l N o e ds h v ds' h' i := by
  cases g with
  | none => exact one_run hrec hk hg hi (fun ρ tmps hn => wantedI hg hn (c := true) rfl) hq hne
  | some tb =>
    obtain ⟨t, b⟩ := tb
    have hq0 : gd .bad e t b (fun r => bf r (itR rec (itK d none k ag) e ds h c) (put d (.tup []) e fun e => c e ds h)) = r := hq
    obtain ⟨cc, hq1, hv⟩ := gd_inv hq0 hne
    cases cc with
    | true => exact one_run hrec hk hg hi (fun ρ tmps hn => wantedI hg hn (c := true) hv) hq1 hne
    | false =>
      have hq2 : (put d (.tup []) e fun e => c e ds h) = r := hq1
      rw [put_eq] at hq2
      exact ⟨.tup [], ds, h, hq2, .inr fun b x _ hx => hx, fun _ => rfl, fun ρ w a F n K hF hd hn hG hD hr hK =>
        opIn_skip hF hi (wantedI hg hn (c := false) hv) (hK ρ w undef a.defers ⟨#[], rfl, rfl⟩ hr Stp.refl hD)⟩

/-- where the evaluator and the machine stand -/
structure St (p : Par) (N : Nat) (ρ : RM) (e : Env) (ds : List AD) (h : HP) (a : Act) (w : World) : Prop where
  size : a.tmps.size = N
  env : EnvR ρ e a.tmps
  dfs : DsR ρ ds a.defers
  mem : Hr p.P ρ h.g h.nx w
  glb : GlR p.G ρ
theorem OneR.st {o : Oper} {e : Env} {ds : List AD} {h : HP} {v : AV} {ds' : List AD} {h' : HP} {i : Nat} {d : Option Pos} (h1 : OneR p l N o e ds h v ds' h' i) (hd : DstR N o.dst d) {ρ : RM} {w : World} {a : Act} {F : Fence} {n : Nat} {K : Act → World → Prop} (hF : FW F) (hdf : F.round = none ∨ ∀ c, o.op ≠ .defer c) (hs : St p N ρ e ds h a w)
    (hK : ∀ ρ' a' w', St p N ρ' (putE d v e) ds' h' a' w' → Stp ρ h.g h.nx w ρ' h'.g h'.nx w' → K a' w') : wpOpIn F n p.P l.toArray NoExit i K a w :=
  h1 ρ w a F n K hF hdf (fun t _ _ => hs.env (posOf t)) hs.glb hs.dfs hs.mem fun ρ' w' x D hv hr hst hD =>
    hK ρ' _ w' ⟨by rw [put_size]; exact hs.size, env_put (a := { a with defers := D }) hd hs.size (hs.env.mono (hst.rm hs.mem)) hv, by cases ho : o.dst <;> exact hD, hr, hs.glb.mono (hst.rm hs.mem)⟩ hst

theorem seq_sound (hrec : RecOK p fun x => rec (.cl x)) {Q : Exit → Act → World → Prop} {F : Fence} {n : Nat} (hF : FW F) (hdf : F.round = none ∨ ∀ o ∈ l, isDefer o = false) : ∀ (r : List Oper) (i : Nat) (its : List It), l.drop i = r → seqI p.P p.G N l r = some its → ∀ (e : Env) (ds : List AD) (h : HP) (res : R), sItems rec its e ds h = res → R.bad ≠ res →
    ∀ (ρ : RM) (a : Act) (w : World), St p N ρ e ds h a w → (∀ ρ' e' ds' h' a' w', res = .nrm e' ds' h' → St p N ρ' e' ds' h' a' w' → Stp ρ h.g h.nx w ρ' h'.g h'.nx w' → Q .normal a' w') → wpOpsIn F n p.P l.toArray Q (List.range' i r.length) a w
  | [], i, its, hr, hs, e, ds, h, res, hq, hne, ρ, a, w, hst, hQ => by
    cases hs
    exact hQ ρ e ds h a w hq.symm hst Stp.refl
  | o :: r, i, its, hr, hs, e, ds, h, res, hq, hne, ρ, a, w, hst, hQ => by
    have hi : l[i]? = some o := by
      have := congrArg (·[0]?) hr
      simpa using this
    have hr' : l.drop (i + 1) = r := by rw [← List.drop_drop, hr]; rfl
    obtain ⟨k, hk, hs⟩ := ob_some (x := cOp p.P p.G o) hs
    obtain ⟨d, hs, hd⟩ := cD_inv hs
    obtain ⟨g, hs, hg⟩ := gOf_inv hs
    obtain ⟨its', hits, hs⟩ := ob_some hs
    cases hs
    have hq0 : itR rec (itK d g k []) e ds h (sItems rec its') = res := hq
    obtain ⟨v, ds', h', h1, _, _, h2⟩ := one_op (N := N) hrec hk hg hi hq0 hne
    have hdf' : F.round = none ∨ ∀ c, o.op ≠ .defer c := hdf.imp id fun h c hc => by
      have := h o (List.mem_of_getElem? hi)
      simp [isDefer, hc] at this
    rw [List.length_cons, List.range'_succ, wpOpsIn_cons]
    refine wpOpIn_noExit (h2.st hd hF hdf' hst fun ρ' a' w' hst' hstp => ?_)
    exact seq_sound hrec hF hdf r (i + 1) its' hr' hits _ _ _ res h1 hne ρ' a' w' hst' fun ρ2 e2 ds2 h2 a2 w2 e1 s2 t2 => hQ ρ2 e2 ds2 h2 a2 w2 e1 s2 (hstp.trans t2)
end
end Go.Proofs.YtiebkbmnepgacaaGreatDoor.Ew
/-
  Evaluator, part 24: a drawn region's plan.
-/
namespace Go.Proofs.YtiebkbmnepgacaaGreatDoor.Ew
open Go Go.Proofs.YtiebkbmnepgacaaGreatDoor Go.RowKit
set_option linter.unusedVariables false

theorem has_iff : ∀ {l : List Nat} {n : Nat}, has l n = true ↔ n ∈ l
  | [], n => ⟨fun h => (by cases h), fun h => (by cases h)⟩
  | x :: l, n => by
    have e : has (x :: l) n = bf (Nat.beq n x) true (has l n) := rfl
    rw [e]
    cases hb : Nat.beq n x with
    | true => exact ⟨fun _ => by rw [Nat.eq_of_beq_eq_true hb]; exact List.mem_cons_self, fun _ => rfl⟩
    | false =>
      have hn : n ≠ x := fun c => by subst c; rw [Nat.beq_refl] at hb; cases hb
      exact ⟨fun h => List.mem_cons_of_mem _ (has_iff.1 h), fun h => has_iff.2 ((List.mem_cons.1 h).resolve_left hn)⟩
theorem has_false {l : List Nat} {n : Nat} : has l n = false ↔ n ∉ l := by
  rw [← has_iff]; cases has l n <;> simp
theorem allIn_iff {D : List Nat} : ∀ {l : List Nat}, allIn D l = true ↔ ∀ j ∈ l, j ∈ D
  | [] => ⟨fun _ j h => (by cases h), fun _ => rfl⟩
  | x :: l => by
    have e : allIn D (x :: l) = bf (has D x) (allIn D l) false := rfl
    rw [e]
    cases hb : has D x with
    | true =>
      have := has_iff.1 hb
      exact ⟨fun h j hj => (List.mem_cons.1 hj).elim (fun e => e ▸ this) (allIn_iff.1 h j), fun h => allIn_iff.2 fun j hj => h j (List.mem_cons_of_mem _ hj)⟩
    | false => exact ⟨fun h => (by cases h), fun h => by have := has_iff.2 (h x List.mem_cons_self); rw [hb] at this; cases this⟩
theorem allIn_false {D l : List Nat} : allIn D l = false ↔ ¬ ∀ j ∈ l, j ∈ D := by
  rw [← allIn_iff]; cases allIn D l <;> simp
theorem forceL_eq {β : Type} : ∀ (l : List Nat) (c : List Nat → β), forceL l c = c l
  | [], c => rfl
  | x :: l, c => by
    have e : forceL (x :: l) c = fN x fun x => forceL l fun l => c (x :: l) := rfl
    rw [e, fN_eq]; exact forceL_eq l _
theorem bf_none {β : Type} {b : Bool} {t : Option β} {r : β} (h : bf b none t = some r) : b = false ∧ t = some r := by
  cases b with
  | true => cases h
  | false => exact ⟨rfl, h⟩

section
variable (P : Program) (G N : Nat) (l : List Oper)
/-- what a row tells -/
structure RowOK (r : Row) : Prop where
  oi : l[r.i]? = some r.o
  dl : r.dl = depsO r.o
  nm : r.nm = names (names0 l r.o) r.o.dst
  self : ∀ t, r.o.dst = some t → t ∉ names0 l r.o
  dst : DstR N r.o.dst r.d
  gd : GdR l r.o r.g
  op : cOp P G r.o = some r.k
end
section
variable {P : Program} {G N : Nat} {l : List Oper}
theorem rowsI_spec : ∀ (r : List Oper) (i : Nat) (rs : List Row), l.drop i = r → rowsI P G N l r i = some rs → rs.length = r.length ∧ ∀ j row, rs[j]? = some row → row.i = i + j ∧ RowOK P G N l row
  | [], i, rs, hr, hs => by cases hs; exact ⟨rfl, fun j row h => by simp at h⟩
  | o :: r, i, rs, hr, hs => by
    have hi : l[i]? = some o := by
      have := congrArg (·[0]?) hr
      simpa using this
    have hr' : l.drop (i + 1) = r := by rw [← List.drop_drop, hr]; rfl
    obtain ⟨k, hk, hs⟩ := ob_some (x := cOp P G o) hs
    obtain ⟨d, hs, hd⟩ := cD_inv hs
    obtain ⟨g, hs, hg⟩ := gOf_inv hs
    rw [forceL_eq, forceL_eq] at hs
    obtain ⟨hsf, hs⟩ := bf_none hs
    obtain ⟨rs', hrs, hs⟩ := ob_some hs
    cases hs
    obtain ⟨h1, h2⟩ := rowsI_spec r (i + 1) rs' hr' hrs
    refine ⟨by simp [h1], fun j row hj => ?_⟩
    cases j with
    | zero =>
      simp at hj
      subst hj
      refine ⟨rfl, hi, rfl, rfl, fun t ht hm => ?_, hd, hg, hk⟩
      have ht' : o.dst = some t := ht
      rw [ht'] at hsf
      have : has (names0 l o) t = false := hsf
      rw [has_iff.2 hm] at this; cases this
    | succ j =>
      obtain ⟨h3, h4⟩ := h2 j row (by simpa using hj)
      exact ⟨by omega, h4⟩
/-- a region's rows -/
structure AllOK (P : Program) (G N : Nat) (l : List Oper) (all : List Row) : Prop where
  ok : ∀ r ∈ all, RowOK P G N l r
  ex : ∀ i, i < l.length → ∃ r ∈ all, r.i = i
  inj : ∀ r ∈ all, ∀ q ∈ all, r.i = q.i → r = q
  nd : all.Pairwise fun r q => r.i ≠ q.i
  idx : ∀ (j : Nat) (r : Row), all[j]? = some r → r.i = j
theorem rowsI_all {all : List Row} (h : rowsI P G N l l 0 = some all) : AllOK P G N l all := by
  obtain ⟨h1, h2⟩ := rowsI_spec l 0 all rfl h
  have key : ∀ r ∈ all, ∃ j, all[j]? = some r ∧ r.i = j := fun r hr => by
    obtain ⟨j, hj⟩ := List.getElem?_of_mem hr
    exact ⟨j, hj, by have := (h2 j r hj).1; omega⟩
  refine ⟨fun r hr => ?_, fun i hi => ?_, fun r hr q hq e => ?_, ?_, fun j r hj => ?_⟩
  · obtain ⟨j, hj, _⟩ := key r hr
    exact (h2 j r hj).2
  · have : i < all.length := by omega
    exact ⟨all[i], List.getElem_mem this, by have := (h2 i _ (List.getElem?_eq_getElem this)).1; omega⟩
  · obtain ⟨j, hj, e1⟩ := key r hr
    obtain ⟨j', hj', e2⟩ := key q hq
    have : j = j' := by omega
    subst this
    exact Option.some.inj (hj.symm.trans hj')
  · rw [List.pairwise_iff_getElem]
    intro i j hi hj hij e
    have h3 := (h2 i _ (List.getElem?_eq_getElem hi)).1
    have h4 := (h2 j _ (List.getElem?_eq_getElem hj)).1
    omega
  · have := (h2 j r hj).1; omega

/-! ### which are taken alone -/
def BarsOK (all : List Row) (bars : List Nat) (r : Row) : Prop := (isE r.k = true → r.i ∈ bars) ∧ ∀ t, r.o.dst = some t → ∀ q ∈ all, q.i ≠ r.i → t ∈ q.nm → r.i ∈ q.dl ∨ (q.i ∈ r.dl ∧ r.i ∈ bars)
theorem pairsI_spec {r : Row} {t : Nat} : ∀ {qs : List Row} {a : Bool}, pairsI r t qs = some a → ∀ q ∈ qs, q.i ≠ r.i → t ∈ q.nm → r.i ∈ q.dl ∨ (q.i ∈ r.dl ∧ a = true)
  | [], a, h, q, hq, _, _ => by cases hq
  | q0 :: qs, a, h, q, hq, hne, ht => by
    have h0 : (ob (pairI r t q0) fun a => ob (pairsI r t qs) fun b => some (bf a true b)) = some a := h
    obtain ⟨a0, h1, h2⟩ := ob_some h0
    obtain ⟨b0, h3, h4⟩ := ob_some h2
    cases h4
    rcases List.mem_cons.1 hq with rfl | hq
    · unfold pairI at h1
      have e0 : Nat.beq r.i q.i = false := by
        cases hb : Nat.beq r.i q.i with
        | false => rfl
        | true => exact absurd (Nat.eq_of_beq_eq_true hb).symm hne
      rw [e0, has_iff.2 ht] at h1
      have h1' : bf (has q.dl r.i) (some false) (bf (has r.dl q.i) (some true) none) = some a0 := h1
      rcases bf_or h1' with ⟨h5, _⟩ | ⟨_, h5⟩
      · exact .inl (has_iff.1 h5)
      · obtain ⟨h6, h7⟩ := bf_some h5
        cases h7
        exact .inr ⟨has_iff.1 h6, rfl⟩
    · rcases pairsI_spec h3 q hq hne ht with h5 | ⟨h5, h6⟩
      · exact .inl h5
      · subst h6
        exact .inr ⟨h5, by cases a0 <;> rfl⟩
theorem barsI_spec {all : List Row} : ∀ {rs : List Row} {bars : List Nat}, barsI all rs = some bars → ∀ r ∈ rs, BarsOK all bars r
  | [], bars, h, r, hr => by cases hr
  | r0 :: rs, bars, h, r, hr => by
    have h0 : (ob (match r0.o.dst with | none => some false | some t => pairsI r0 t all) fun a => ob (barsI all rs) fun l => some (bf a (r0.i :: l) (bf (isE r0.k) (r0.i :: l) l))) = some bars := h
    obtain ⟨a, h1, h2⟩ := ob_some h0
    obtain ⟨l', h3, h4⟩ := ob_some h2
    have sub : ∀ j ∈ l', j ∈ bars := fun j hj => by
      cases h4
      cases a <;> cases isE r0.k <;> first | exact hj | exact List.mem_cons_of_mem _ hj
    rcases List.mem_cons.1 hr with rfl | hr
    · refine ⟨fun hE => ?_, fun t ht q hq hne hm => ?_⟩
      · cases h4
        rw [hE]
        cases a <;> exact List.mem_cons_self
      · rw [ht] at h1
        rcases pairsI_spec h1 q hq hne hm with h5 | ⟨h5, h6⟩
        · exact .inl h5
        · subst h6; cases h4
          exact .inr ⟨h5, List.mem_cons_self⟩
    · obtain ⟨h5, h6⟩ := barsI_spec h3 r hr
      refine ⟨fun hE => sub _ (h5 hE), fun t ht q hq hne hm => (h6 t ht q hq hne hm).imp id fun h => ⟨h.1, sub _ h.2⟩⟩

/-! ### the plan -/
inductive Pln (all : List Row) (bars : List Nat) : List Nat → List Row → List It → Prop where
  | nil {D done} : (∀ q ∈ all, q.i ∈ D) → Pln all bars D done []
  | early {D done r its} : r ∈ all → r.i ∉ D → r.i ∉ bars → (∀ j ∈ r.dl, j ∈ D) → Pln all bars (r.i :: D) (r :: done) its → Pln all bars D done (itK r.d r.g r.k [] :: its)
  | alone {D done r its ag} : r ∈ all → r.i ∉ D → (∀ j ∈ r.dl, j ∈ D) → (∀ q ∈ all, q.i ∉ D → q.i ≠ r.i → ¬ ∀ j ∈ q.dl, j ∈ D) → agI (down all r.dl r.i) done = some ag → Pln all bars (r.i :: D) (r :: done) its → Pln all bars D done (itK r.d r.g r.k ag :: its)
  | tail {D done a t} : (∀ q ∈ all, q.i ∉ D → q ∈ a) → (∀ q ∈ a, q ∈ all ∧ q.i ∉ D ∧ ∀ j ∈ q.dl, j ∈ D) → (a.Pairwise fun r q => r.i ≠ q.i) → tailI all done a = some t → Pln all bars D done [.s t]

/-- what is left to be planned -/
structure Lft (all : List Row) (D : List Nat) (rs : List Row) : Prop where
  sub : ∀ q ∈ rs, q ∈ all ∧ q.i ∉ D
  all : ∀ q ∈ all, q.i ∉ D → q ∈ rs
  nd : rs.Pairwise fun r q => r.i ≠ q.i
theorem pw_of {rs : List Row} (h : rs.Pairwise fun r q => r.i ≠ q.i) {r : Row} {a : List Row} (hp : List.Perm rs (r :: a)) : (∀ q ∈ a, q.i ≠ r.i) ∧ a.Pairwise fun r q => r.i ≠ q.i := by
  have h2 := (hp.pairwise_iff (fun {x y} h => Ne.symm h)).1 h
  obtain ⟨h3, h4⟩ := List.pairwise_cons.1 h2
  exact ⟨fun q hq => (h3 q hq).symm, h4⟩
theorem Lft.take {all : List Row} {D : List Nat} {rs a : List Row} {r : Row} (h : Lft all D rs) (hp : List.Perm rs (r :: a)) : Lft all (r.i :: D) a := by
  obtain ⟨h1, h2⟩ := pw_of h.nd hp
  refine ⟨fun q hq => ?_, fun q hq hn => ?_, h2⟩
  · obtain ⟨h3, h4⟩ := h.sub q (hp.mem_iff.2 (List.mem_cons_of_mem _ hq))
    exact ⟨h3, fun hc => (List.mem_cons.1 hc).elim (h1 q hq) h4⟩
  · have h3 := h.all q hq (fun hc => hn (List.mem_cons_of_mem _ hc))
    rcases List.mem_cons.1 (hp.mem_iff.1 h3) with rfl | h4
    · exact absurd List.mem_cons_self hn
    · exact h4
theorem Lft.perm {all : List Row} {D : List Nat} {rs a : List Row} (h : Lft all D rs) (hp : List.Perm rs a) : Lft all D a :=
  ⟨fun q hq => h.sub q (hp.mem_iff.2 hq), fun q hq hn => hp.mem_iff.1 (h.all q hq hn), (hp.pairwise_iff (fun {x y} h => Ne.symm h)).1 h.nd⟩

theorem scanI_spec {all : List Row} {bars : List Nat} {fin : List Nat → List Row → List Row → Option (List It)} (hfin : ∀ D done left its, Lft all D left → fin D done left = some its → Pln all bars D done its) :
    ∀ (rs : List Row) (D : List Nat) (done left : List Row) (its : List It), Lft all D (rs ++ left) → scanI bars fin rs D done left = some its → Pln all bars D done its
  | [], D, done, left, its, hl, hs => hfin D done left its hl hs
  | r :: rs, D, done, left, its, hl, hs => by
    have hs0 : bf (allIn D r.dl) (bf (has bars r.i) (scanI bars fin rs D done (r :: left)) (ob (scanI bars fin rs (r.i :: D) (r :: done) left) fun l => some (itK r.d r.g r.k [] :: l))) (scanI bars fin rs D done (r :: left)) = some its := hs
    have hmid : List.Perm (r :: rs ++ left) (rs ++ r :: left) := (List.perm_middle (l₁ := rs) (a := r) (l₂ := left)).symm
    rcases bf_or hs0 with ⟨h1, h2⟩ | ⟨h1, h2⟩
    · rcases bf_or h2 with ⟨h3, h4⟩ | ⟨h3, h4⟩
      · exact scanI_spec hfin rs D done (r :: left) its (hl.perm hmid) h4
      · obtain ⟨its', h5, h6⟩ := ob_some h4
        cases h6
        obtain ⟨h7, h8⟩ := hl.sub r (by simp)
        exact .early h7 h8 (has_false.1 h3) (allIn_iff.1 h1) (scanI_spec hfin rs (r.i :: D) (r :: done) left its' (hl.take (List.Perm.refl _)) h5)
    · exact scanI_spec hfin rs D done (r :: left) its (hl.perm hmid) h2
theorem splitR_spec {D : List Nat} {its : List It} : ∀ (rs a b : List Row) (c : List Row → List Row → Option (List It)), splitR D rs a b c = some its → (∀ q ∈ a, allIn D q.dl = true) → (∀ q ∈ b, allIn D q.dl = false) →
    ∃ a' b', c a' b' = some its ∧ (∀ q ∈ a', allIn D q.dl = true) ∧ (∀ q ∈ b', allIn D q.dl = false) ∧ List.Perm (rs ++ (a ++ b)) (a' ++ b')
  | [], a, b, c, hs, ha, hb => ⟨a, b, hs, ha, hb, List.Perm.refl _⟩
  | r :: rs, a, b, c, hs, ha, hb => by
    have hs0 : bf (allIn D r.dl) (splitR D rs (r :: a) b c) (splitR D rs a (r :: b) c) = some its := hs
    rcases bf_or hs0 with ⟨h1, h2⟩ | ⟨h1, h2⟩
    · obtain ⟨a', b', h3, h4, h5, h6⟩ := splitR_spec rs (r :: a) b c h2 (fun q hq => (List.mem_cons.1 hq).elim (fun e => e ▸ h1) (ha q)) hb
      exact ⟨a', b', h3, h4, h5, (List.perm_middle (l₁ := rs) (a := r) (l₂ := a ++ b)).symm.trans h6⟩
    · obtain ⟨a', b', h3, h4, h5, h6⟩ := splitR_spec rs a (r :: b) c h2 ha (fun q hq => (List.mem_cons.1 hq).elim (fun e => e ▸ h1) (hb q))
      refine ⟨a', b', h3, h4, h5, ?_⟩
      have e1 : List.Perm (r :: rs ++ (a ++ b)) (rs ++ (a ++ r :: b)) := by
        have h7 : List.Perm (r :: (rs ++ a) ++ b) ((rs ++ a) ++ r :: b) := (List.perm_middle (l₁ := rs ++ a) (a := r) (l₂ := b)).symm
        simpa [List.append_assoc] using h7
      exact e1.trans h6
theorem planI_spec {all : List Row} {bars : List Nat} : ∀ (k : Nat) (rs : List Row) (D : List Nat) (done : List Row) (its : List It), Lft all D rs → planI all bars k rs D done = some its → Pln all bars D done its
  | 0, rs, D, done, its, hl, hs => by cases hs
  | k + 1, rs, D, done, its, hl, hs => by
    refine scanI_spec (bars := bars) (fin := fun D done left => @List.casesOn Row (fun _ => Option (List It)) left (some []) fun _ _ => splitR D left [] [] fun a b => match a with
      | [r] => ob (agI (down all r.dl r.i) done) fun ag => ob (planI all bars k b (r.i :: D) (r :: done)) fun t => some (itK r.d r.g r.k ag :: t)
      | a => match b with | [] => ob (tailI all done a) fun t => some [.s t] | _ => none) ?_ rs D done [] its (by simpa using hl) hs
    intro D done left its hl hs
    cases left with
    | nil =>
      cases hs
      refine .nil fun q hq => Classical.byContradiction fun hn => ?_
      cases hl.all q hq hn
    | cons r0 left =>
      obtain ⟨a, b, h1, h2, h3, h4⟩ := splitR_spec (r0 :: left) [] [] _ hs (fun q h => by cases h) (fun q h => by cases h)
      have hp : List.Perm (r0 :: left) (a ++ b) := by simpa using h4
      have hl' := hl.perm hp
      have notB : ∀ q ∈ all, q.i ∉ D → q ∉ a → ¬ ∀ j ∈ q.dl, j ∈ D := fun q hq hn ha => by
        have := (List.mem_append.1 (hl'.all q hq hn)).resolve_left ha
        exact allIn_false.1 (h3 q this)
      have tl : (match (generalizing := false) b with | [] => ob (tailI all done a) fun t => some [It.s t] | _ => none) = some its → Pln all bars D done its := fun h5 => by
        cases b with
        | cons _ _ => cases h5
        | nil =>
          obtain ⟨t, h6, h7⟩ := ob_some h5
          cases h7
          rw [List.append_nil] at hl'
          exact .tail hl'.all (fun q hq => ⟨(hl'.sub q hq).1, (hl'.sub q hq).2, allIn_iff.1 (h2 q hq)⟩) hl'.nd h6
      clear h4 hp
      cases a with
      | nil => exact tl h1
      | cons r a => cases a with
        | cons _ _ => exact tl h1
        | nil =>
          obtain ⟨ag, h5, h6⟩ := ob_some h1
          obtain ⟨t, h7, h8⟩ := ob_some h6
          cases h8
          obtain ⟨h9, h10⟩ := hl'.sub r (by simp)
          refine .alone h9 h10 (allIn_iff.1 (h2 r (by simp))) (fun q hq hn hne => notB q hq hn fun hm => hne ?_) h5 (planI_spec k b (r.i :: D) (r :: done) t (hl'.take (List.Perm.refl _)) h7)
          rw [List.mem_singleton.1 hm]
end
end Go.Proofs.YtiebkbmnepgacaaGreatDoor.Ew
