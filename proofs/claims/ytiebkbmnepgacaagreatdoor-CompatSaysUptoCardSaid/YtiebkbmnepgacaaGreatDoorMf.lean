import Derived.Test.YtiebkbmnepgacaaGreatDoorMe
import Derived.LoopNIn
import Derived.RangeFuncLeaves
/-
  Evaluator, part 25: a drawn region, in whatever order.
-/
namespace Go.Proofs.YtiebkbmnepgacaaGreatDoor.Ew
open Go Go.Proofs.YtiebkbmnepgacaaGreatDoor Go.RowKit
set_option linter.unusedVariables false

theorem mem_depsO {o : Oper} {j : Nat} : j ∈ depsO o ↔ ∃ e ∈ o.after, Region.binds .any e = true ∧ e.on = j := by
  unfold depsO
  constructor
  · intro h
    obtain ⟨e, he, rfl⟩ := List.mem_map.1 h
    obtain ⟨h1, h2⟩ := List.mem_filter.1 he
    exact ⟨e, by simpa using h1, h2, rfl⟩
  · rintro ⟨e, h1, h2, rfl⟩
    exact List.mem_map.2 ⟨e, List.mem_filter.2 ⟨by simpa using h1, h2⟩, rfl⟩
theorem SR.put_tmps {ρ : RM} {N : Nat} {d : Option Nat} {q : Option Pos} {p : Pos} {x : Value} {e : Env} {a : Act} (hd : DstR N d q) (hne : q ≠ some p) (hs : SR ρ e a.tmps p) : SR ρ e (a.put d x).tmps p :=
  SR.congr (putE_other .any e hne).symm (SR.put_other (v := .any) hd hne hs)
theorem cnt_lt {f g : Nat → Bool} (hfg : ∀ x, f x = true → g x = true) {i : Nat} (h1 : g i = true) (h2 : f i = false) : ∀ {L : List Nat}, i ∈ L → L.countP f < L.countP g
  | x :: L, h => by
    have hle : L.countP f ≤ L.countP g := List.countP_mono_left fun x _ => hfg x
    by_cases e : x = i
    · subst e
      simp only [List.countP_cons, h1, h2]
      simp; omega
    · have hL : i ∈ L := (List.mem_cons.1 h).resolve_left (Ne.symm e)
      have ih := cnt_lt hfg h1 h2 hL
      simp only [List.countP_cons]
      have : (if f x = true then 1 else 0) ≤ (if g x = true then 1 else 0) := by
        by_cases hf : f x = true
        · simp [hf, hfg x hf]
        · simp [hf]
      omega

/-- an operation that the evaluator has done, and the machine has not yet -/
structure Pe where
  r : Row
  v : AV
  b : Option Pos
/-- what such an operation's value is -/
def PdVal (P : Program) (G : Nat) (r : Row) (v : AV) (b : Option Pos) (e : Env) (h : HP) : Prop :=
  ((∃ t w, r.g = some (t, w) ∧ GdV e t w false) ∧ v = .tup [] ∧ b = none) ∨
  ((r.g = none ∨ ∃ t w, r.g = some (t, w) ∧ GdV e t w true) ∧
    ((∃ f ld, r.k = .q f ld ∧ f e h = some v ∧ b = none) ∨
     (∃ n f ao x, r.k = .f n f ∧ (∀ (ρ : RM) (V : Operand → Value), (∀ y ∈ r.o.op.operands, OpR G ρ e V y) → NewB P V r.o ρ n ao) ∧ b = some x ∧ h.g x = some ao ∧ v = newV n x)))

section
variable {p : Par} {N : Nat} {l : List Oper} {all : List Row} {bars : List Nat}
structure DI (p : Par) (N : Nat) (l : List Oper) (all : List Row) (bars : List Nat) (ρ0 : RM) (h0 : HP) (w0 : World) (D : List Nat) (done : List Row) (pend : List Pe) (listed : Array Bool) (e : Env) (ds : List AD) (h : HP) (ρ : RM) (a : Act) (w : World) : Prop where
  stp : Stp ρ0 h0.g h0.nx w0 ρ h.g h.nx w
  mem : Hr p.P ρ h.g h.nx w
  dfs : DsR ρ ds a.defers
  glb : GlR p.G ρ
  size : a.tmps.size = N
  env : ∀ q, (∀ x ∈ pend, x.r.d ≠ some q) → SR ρ e a.tmps q
  closed : Closed l listed
  lsz : listed.size = l.length
  lst : ∀ i, i < l.length → (listed.getD i false = true ↔ i ∈ D ∧ ∀ x ∈ pend, x.r.i ≠ i)
  dcl : ∀ r ∈ all, r.i ∈ D → ∀ j ∈ r.dl, j ∈ D
  pin : ∀ x ∈ pend, x.r ∈ all ∧ x.r.i ∈ D ∧ x.r.i ∉ bars
  pdn : ∀ x ∈ pend, x.r ∈ done
  getd : ∀ x ∈ pend, ∀ q, x.r.d = some q → e.get q = some x.v
  val : ∀ x ∈ pend, ∃ e0 : Env, (∀ t ∈ names0 l x.r.o, (posOf t).nat = t + 1 → e0.get (posOf t) = e.get (posOf t)) ∧ PdVal p.P p.G x.r x.v x.b e0 h
  blk : ∀ x ∈ pend, ∀ y, x.b = some y → ρ y = none ∧ h0.nx.nat ≤ y.nat ∧ ∃ ao, h.g y = some ao
  nd : pend.Pairwise fun x y => x.r.i ≠ y.r.i ∧ ∀ b, x.b = some b → y.b ≠ some b
  ord : pend.Pairwise fun x y => x.r.i ∉ y.r.dl
  self : ∀ x ∈ pend, x.r.i ∉ x.r.dl

variable {ρ0 : RM} {h0 : HP} {w0 : World} {D : List Nat} {done : List Row} {pend : List Pe} {listed : Array Bool} {e : Env} {ds : List AD} {h : HP} {ρ : RM} {a : Act} {w : World}

theorem AllOK.lt (hA : AllOK p.P p.G N l all) {r : Row} (hr : r ∈ all) : r.i < l.length := (List.getElem?_eq_some_iff.1 (hA.ok r hr).oi).1
theorem mem_names {nm : List Nat} {d : Option Nat} {t : Nat} (h : t ∈ nm ∨ d = some t) : t ∈ names nm d := by
  cases d with
  | none => exact h.resolve_right (by simp)
  | some s =>
    show t ∈ s :: nm
    rcases h with h | h
    · exact List.mem_cons_of_mem _ h
    · cases h; exact List.mem_cons_self
/-- a slot that one writes and another names -/
theorem slot_row (hA : AllOK p.P p.G N l all) (hB : ∀ r ∈ all, BarsOK all bars r) {r q : Row} (hr : r ∈ all) (hq : q ∈ all) (hne : q.i ≠ r.i) {t : Nat} (ht : t ∈ names0 l q.o) (hp : (posOf t).nat = t + 1) (hd : r.d = some (posOf t)) : r.i ∈ q.dl ∨ (q.i ∈ r.dl ∧ r.i ∈ bars) := by
  rcases (hA.ok r hr).dst with ⟨_, h2⟩ | ⟨t', h1, h2, h3, h4⟩
  · rw [h2] at hd; cases hd
  · rw [hd] at h3
    have := posOf_inj hp h4 (Option.some.inj h3)
    subst this
    exact (hB r hr).2 t h1 q hq hne (by rw [(hA.ok q hq).nm]; exact mem_names (.inl ht))
theorem dst_row (hA : AllOK p.P p.G N l all) (hB : ∀ r ∈ all, BarsOK all bars r) {r q : Row} (hr : r ∈ all) (hq : q ∈ all) (hne : q.i ≠ r.i) {s : Pos} (h1 : q.d = some s) (hd : r.d = some s) : r.i ∈ q.dl ∨ (q.i ∈ r.dl ∧ r.i ∈ bars) := by
  rcases (hA.ok r hr).dst with ⟨_, h2⟩ | ⟨t, g1, g2, g3, g4⟩
  · rw [h2] at hd; cases hd
  · rcases (hA.ok q hq).dst with ⟨_, h2⟩ | ⟨t', f1, f2, f3, f4⟩
    · rw [h2] at h1; cases h1
    · rw [h1] at f3; rw [hd] at g3
      have := posOf_inj g4 f4 (Option.some.inj (g3.symm.trans f3))
      subst this
      exact (hB r hr).2 t g1 q hq hne (by rw [(hA.ok q hq).nm]; exact mem_names (.inr f1))
theorem self_row (hA : AllOK p.P p.G N l all) {r : Row} (hr : r ∈ all) {t : Nat} (ht : t ∈ names0 l r.o) (hp : (posOf t).nat = t + 1) : r.d ≠ some (posOf t) := fun hd => by
  rcases (hA.ok r hr).dst with ⟨_, h2⟩ | ⟨t', h1, h2, h3, h4⟩
  · rw [h2] at hd; cases hd
  · rw [hd] at h3
    have := posOf_inj hp h4 (Option.some.inj h3)
    subst this
    exact (hA.ok r hr).self t h1 ht

theorem DI.unlisted (hd : DI p N l all bars ρ0 h0 w0 D done pend listed e ds h ρ a w) (hA : AllOK p.P p.G N l all) {x : Pe} (hx : x ∈ pend) : listed.getD x.r.i false = false := by
  have h1 := hd.lst x.r.i (hA.lt (hd.pin x hx).1)
  cases hb : listed.getD x.r.i false with
  | false => rfl
  | true => exact absurd rfl ((h1.1 hb).2 x hx)
theorem getD_ft {i : Nat} (hl : listed.size = l.length) (hi : i < l.length) : listed.getD i true = listed.getD i false := by
  have : i < listed.size := by omega
  simp [this]
/-- what may come up -/
theorem DI.ready_iff (hd : DI p N l all bars ρ0 h0 w0 D done pend listed e ds h ρ a w) (hA : AllOK p.P p.G N l all) {r : Row} (hr : r ∈ all) : r.i ∈ Region.ready .any l.toArray listed ↔ listed.getD r.i false = false ∧ ∀ j ∈ r.dl, listed.getD j false = true := by
  have hi := hA.lt hr
  have hoi := (hA.ok r hr).oi
  have hoi' : l.toArray[r.i]? = some r.o := by simpa using hoi
  rw [mem_ready, getD_ft hd.lsz hi]
  refine and_congr_right fun _ => ?_
  constructor
  · rintro ⟨o, ho, hall⟩ j hj
    obtain rfl : r.o = o := Option.some.inj (hoi'.symm.trans ho)
    rw [(hA.ok r hr).dl] at hj
    obtain ⟨e, h1, h2, rfl⟩ := mem_depsO.1 hj
    exact hall e h1 h2
  · intro hall
    refine ⟨r.o, hoi', fun e h1 h2 => hall _ ?_⟩
    rw [(hA.ok r hr).dl]
    exact mem_depsO.2 ⟨e, h1, h2, rfl⟩
theorem ready_row (hA : AllOK p.P p.G N l all) {i : Nat} (hi : i ∈ Region.ready .any l.toArray listed) : ∃ r ∈ all, r.i = i := by
  obtain ⟨_, o, ho, _⟩ := mem_ready.1 hi
  have : l[i]? = some o := by simpa using ho
  exact hA.ex i (List.getElem?_eq_some_iff.1 this).1
theorem DI.dep_listed (hd : DI p N l all bars ρ0 h0 w0 D done pend listed e ds h ρ a w) (hA : AllOK p.P p.G N l all) {x : Pe} (hx : x ∈ pend) {j : Nat} (hj : listed.getD j false = true) : x.r.i ≠ j := fun c => by
  subst c
  rw [hd.unlisted hA hx] at hj; cases hj
/-- the oldest of those that wait may come up -/
theorem DI.some_ready (hd : DI p N l all bars ρ0 h0 w0 D done pend listed e ds h ρ a w) (hA : AllOK p.P p.G N l all) (hne : pend ≠ []) (hdl : ∀ j, j ∈ D → j < l.length) : Region.ready .any l.toArray listed ≠ [] := by
  obtain ⟨z, hz⟩ : ∃ z, pend.getLast? = some z := by
    cases hp : pend.getLast? with
    | none => exact absurd (List.getLast?_eq_none_iff.1 hp) hne
    | some z => exact ⟨z, rfl⟩
  obtain ⟨init, rfl⟩ := List.getLast?_eq_some_iff.1 hz
  have hzm : z ∈ init ++ [z] := by simp
  have h1 := hd.pin z hzm
  have hr : z.r.i ∈ Region.ready .any l.toArray listed := (hd.ready_iff hA h1.1).2 ⟨hd.unlisted hA hzm, fun j hj => by
    have hjD := hd.dcl z.r h1.1 h1.2.1 j hj
    refine (hd.lst j (hdl j hjD)).2 ⟨hjD, fun x hx c => ?_⟩
    subst c
    rcases List.mem_append.1 hx with hx | hx
    · exact (List.pairwise_append.1 hd.ord).2.2 x hx z (by simp) hj
    · rw [List.mem_singleton.1 hx] at hj
      exact hd.self z hzm hj⟩
  intro c
  rw [c] at hr; cases hr

/-- a waiting one's slots are as they were when the evaluator did it -/
theorem DI.names (hd : DI p N l all bars ρ0 h0 w0 D done pend listed e ds h ρ a w) (hA : AllOK p.P p.G N l all) (hB : ∀ r ∈ all, BarsOK all bars r) {r : Row} (hr : r ∈ all) (hl : ∀ j ∈ r.dl, listed.getD j false = true) : NmR l r.o ρ e a.tmps := fun t ht hp =>
  hd.env _ fun x hx hc => by
    by_cases hne : r.i = x.r.i
    · have := hA.inj r hr x.r (hd.pin x hx).1 hne
      subst this
      exact self_row hA (hd.pin x hx).1 ht hp hc
    · rcases slot_row hA hB (hd.pin x hx).1 hr hne ht hp hc with h1 | ⟨_, h1⟩
      · exact hd.dep_listed hA hx (hl _ h1) rfl
      · exact (hd.pin x hx).2.2 h1
/-- behind a waiting one's doing -/
theorem DI.gone {A B : List Pe} {x : Pe} (hd : DI p N l all bars ρ0 h0 w0 D done (A ++ x :: B) listed e ds h ρ a w) (hA : AllOK p.P p.G N l all) (hr : x.r.i ∈ Region.ready .any l.toArray listed) {ρ' : RM} {w' : World} {c : Value} (hv : Vr ρ' x.v c) (hle : Le ρ ρ') (hρ : ∀ y, x.b ≠ some y → ρ' y = ρ y)
    (hstp : Stp ρ0 h0.g h0.nx w0 ρ' h.g h.nx w') (hmem : Hr p.P ρ' h.g h.nx w') : DI p N l all bars ρ0 h0 w0 D done (A ++ B) (listed.setIfInBounds x.r.i true) e ds h ρ' (a.put x.r.o.dst c) w' := by
  have hx : x ∈ A ++ x :: B := by simp
  have sub : ∀ y ∈ A ++ B, y ∈ A ++ x :: B := fun y hy => by
    rcases List.mem_append.1 hy with h | h
    · exact List.mem_append_left _ h
    · exact List.mem_append_right _ (List.mem_cons_of_mem _ h)
  have back : ∀ y ∈ A ++ x :: B, y = x ∨ y ∈ A ++ B := fun y hy => by
    rcases List.mem_append.1 hy with h | h
    · exact .inr (List.mem_append_left _ h)
    · rcases List.mem_cons.1 h with h | h
      · exact .inl h
      · exact .inr (List.mem_append_right _ h)
  have sl : List.Sublist (A ++ B) (A ++ x :: B) := List.Sublist.append_left (List.sublist_cons_self x B) A
  have ndx : ∀ y ∈ A ++ B, y.r.i ≠ x.r.i ∧ ∀ b, x.b = some b → y.b ≠ some b := fun y hy => by
    have h2 := (List.perm_middle (l₁ := A) (a := x) (l₂ := B)).pairwise_iff (R := fun x y : Pe => x.r.i ≠ y.r.i ∧ ∀ b, x.b = some b → y.b ≠ some b) (fun {x y} h => ⟨Ne.symm h.1, fun b hb hc => h.2 b hc hb⟩)
    have h3 := (List.pairwise_cons.1 (h2.1 hd.nd)).1 y hy
    exact ⟨Ne.symm h3.1, h3.2⟩
  have hlt := hA.lt (hd.pin x hx).1
  have hdst := (hA.ok _ (hd.pin x hx).1).dst
  refine ⟨hstp, hmem, ?_, hd.glb.mono hle, by rw [put_size]; exact hd.size, fun q hq => ?_, hd.closed.set hr, by rw [Array.size_setIfInBounds]; exact hd.lsz, fun i hi => ?_, hd.dcl, fun y hy => hd.pin y (sub y hy), fun y hy => hd.pdn y (sub y hy), fun y hy => hd.getd y (sub y hy), fun y hy => hd.val y (sub y hy), fun y hy b hb => ?_, hd.nd.sublist sl, hd.ord.sublist sl, fun y hy => hd.self y (sub y hy)⟩
  · have : (a.put x.r.o.dst c).defers = a.defers := by cases x.r.o.dst <;> rfl
    rw [this]; exact hd.dfs.mono hle
  · by_cases e1 : x.r.d = some q
    · intro u hu
      rw [hd.getd x hx q e1] at hu
      cases hu
      rcases hdst with ⟨_, h2⟩ | ⟨t, g1, g2, g3, g4⟩
      · rw [h2] at e1; cases e1
      · rw [e1] at g3
        refine ⟨t, c, ?_, ?_, hv⟩
        · rw [Option.some.inj g3]; exact g4
        · rw [g1]; simp [Act.put, hd.size, g2]
    · refine SR.put_tmps hdst e1 ((hd.env q fun y hy hc => ?_).mono hle)
      rcases back y hy with rfl | hy
      · exact e1 hc
      · exact hq y hy hc
  · by_cases e1 : x.r.i = i
    · subst e1
      have hs : x.r.i < listed.size := by rw [hd.lsz]; exact hlt
      constructor
      · intro _
        exact ⟨(hd.pin x hx).2.1, fun y hy => (ndx y hy).1⟩
      · intro _; simp [hs]
    · rw [getD_set_ne false e1, hd.lst i hi]
      refine and_congr_right fun _ => ⟨fun h y hy => h y (sub y hy), fun h y hy => ?_⟩
      rcases back y hy with rfl | hy
      · exact e1
      · exact h y hy
  · obtain ⟨h1, h2, h3⟩ := hd.blk y (sub y hy) b hb
    exact ⟨by rw [hρ b fun c => (ndx y hy).2 b c hb]; exact h1, h2, h3⟩
/-- a waiting one comes up -/
theorem DI.exec {F : Fence} {n : Nat} {K : Act → World → Prop} {A B : List Pe} {x : Pe} (hF : FW F) (hnd : ∀ r ∈ all, ∀ c, r.o.op ≠ .defer c) (hd : DI p N l all bars ρ0 h0 w0 D done (A ++ x :: B) listed e ds h ρ a w) (hA : AllOK p.P p.G N l all) (hB : ∀ r ∈ all, BarsOK all bars r) (hr : x.r.i ∈ Region.ready .any l.toArray listed)
    (hK : ∀ ρ' a' w', DI p N l all bars ρ0 h0 w0 D done (A ++ B) (listed.setIfInBounds x.r.i true) e ds h ρ' a' w' → K a' w') : wpOpIn F n p.P l.toArray NoExit x.r.i K a w := by
  have hx : x ∈ A ++ x :: B := by simp
  have hxa := (hd.pin x hx).1
  have hok := hA.ok _ hxa
  have hln := ((hd.ready_iff hA hxa).1 hr).2
  have hnm := hd.names hA hB hxa hln
  obtain ⟨e0, he0, hv⟩ := hd.val x hx
  have hn0 : NmR l x.r.o ρ e0 a.tmps := fun t ht hp => SR.congr (he0 t ht hp) (hnm t ht hp)
  rcases hv with ⟨⟨t, b, hg, hgv⟩, hv, hb⟩ | ⟨hg, hv⟩
  · have hw : Region.wanted x.r.o (yielded l.toArray a.tmps) = false := wantedI (g := x.r.g) hok.gd hn0 (c := false) (by rw [hg]; exact hgv)
    refine opIn_skip hF hok.oi hw (hK ρ _ w (hd.gone hA hr (c := undef) ?_ (Le.refl _) (fun _ _ => rfl) hd.stp hd.mem))
    rw [hv]; exact ⟨#[], rfl, rfl⟩
  · have hw : Region.wanted x.r.o (yielded l.toArray a.tmps) = true := wantedI (g := x.r.g) hok.gd hn0 (c := true) (by
      rcases hg with hg | ⟨t, b, hg, hgv⟩
      · rw [hg]; exact rfl
      · rw [hg]; exact hgv)
    rcases hv with ⟨f, ld, hk, hf, hb⟩ | ⟨m, f, ao, y, hk, hnew, hb, hgy, hvv⟩
    · have hop := hok.op
      rw [hk] at hop
      obtain ⟨c, h1, h2⟩ := cOp_quiet (eval_const a) (hn0.ops hd.glb) hd.mem hop hf
      refine opIn_run hF hok.oi (.inr (hnd _ hxa)) hw ?_
      rw [h1]
      exact hK ρ _ w (hd.gone hA hr h2 (Le.refl _) (fun _ _ => rfl) hd.stp hd.mem)
    · obtain ⟨h1, h2, h3⟩ := hd.blk x hx y hb
      obtain ⟨O, c, g1, g2, g3⟩ := hnew ρ a.eval (hn0.ops hd.glb) w
      have hle : Le ρ (upd ρ y (some (w.heap.size, 0))) := fun b x e => by rw [upd_ne _ _ (fun q => by subst q; rw [h1] at e; cases e)]; exact e
      obtain ⟨u1, u2⟩ := hd.mem.alloc (w' := w.alloc O) (id := y) (k := 0) (Ext.alloc w O) h1 hgy (g2 _ hle)
      refine opIn_run hF hok.oi (.inr (hnd _ hxa)) hw ?_
      rw [g1]
      refine hK _ _ _ (hd.gone hA hr (c := c) ?_ hle (fun b hb' => upd_ne _ _ fun e => by subst e; exact hb' hb) (hd.stp.alloc (Ext.alloc w O) h2) u1)
      rw [hvv]; exact g3 _ _ (upd_same _ _ _)
end
end Go.Proofs.YtiebkbmnepgacaaGreatDoor.Ew
/-
  Evaluator, part 26: a drawn region, step by step.
-/
namespace Go.Proofs.YtiebkbmnepgacaaGreatDoor.Ew
open Go Go.Proofs.YtiebkbmnepgacaaGreatDoor Go.RowKit
set_option linter.unusedVariables false

/-! ### values alike -/
theorem bfB {b t : Bool} (h : bf b t false = true) : b = true ∧ t = true := by
  cases b with
  | false => cases h
  | true => exact ⟨rfl, h⟩
theorem eqS_inj : ∀ {x y : List Nat}, eqS x y = true → x = y
  | [], [], _ => rfl
  | [], _ :: _, h => by cases h
  | _ :: _, [], h => by cases h
  | a :: x, b :: y, h => by
    have h0 : (@Bool.casesOn (fun _ => Bool) (Nat.beq a b) false (eqS x y)) = true := h
    cases hb : Nat.beq a b with
    | false => rw [hb] at h0; cases h0
    | true => rw [hb] at h0; rw [Nat.eq_of_beq_eq_true hb, eqS_inj (x := x) (y := y) h0]
theorem eqB_inj {a b : Bool} (h : eqB a b = true) : a = b := by cases a <;> cases b <;> first | rfl | cases h
theorem eqAs_inj {f : AV → AV → Bool} (hf : ∀ x y, f x y = true → x = y) : ∀ {l m : List AV}, eqAs f l m = true → l = m
  | [], [], _ => rfl
  | [], _ :: _, h => by cases h
  | _ :: _, [], h => by cases h
  | x :: l, y :: m, h => by
    obtain ⟨h1, h2⟩ := bfB (show bf (f x y) (eqAs f l m) false = true from h)
    rw [hf x y h1, eqAs_inj hf h2]
theorem eqA_inj : ∀ (n : Nat) (x y : AV), eqA n x y = true → x = y
  | 0, x, y, h => by simp [eqA] at h
  | n + 1, x, y, h => by
    have ih := eqA_inj n
    unfold eqA at h
    split at h
    · rw [eqB_inj h]
    · obtain ⟨h1, h2⟩ := bfB h
      rw [eqI_eq] at h2
      rw [eqk_eq h1, of_decide_eq_true h2]
    · obtain ⟨h1, h2⟩ := bfB h
      rw [Nat.eq_of_beq_eq_true h1, eqS_inj h2]
    · obtain ⟨h1, h2⟩ := bfB h
      rw [Pos.eqb_eq.1 h1, Nat.eq_of_beq_eq_true h2]
    · rfl
    · obtain ⟨h1, h⟩ := bfB h
      obtain ⟨h2, h⟩ := bfB h
      obtain ⟨h3, h⟩ := bfB h
      obtain ⟨h4, h⟩ := bfB h
      rw [Pos.eqb_eq.1 h1, Nat.eq_of_beq_eq_true h2, Nat.eq_of_beq_eq_true h3, Nat.eq_of_beq_eq_true h4, eqB_inj h]
    · rfl
    · rfl
    · rw [Pos.eqb_eq.1 h]
    · rfl
    · rfl
    · rfl
    · rw [Pos.eqb_eq.1 h]
    · rw [eqAs_inj ih h]
    · rw [eqAs_inj ih h]
    · obtain ⟨h1, h2⟩ := bfB h
      rw [ih _ _ h2]
      have := Nat.eq_of_beq_eq_true h1
      rw [show _ = _ from this]
    · obtain ⟨h1, h⟩ := bfB h
      obtain ⟨h2, h⟩ := bfB h
      rw [eqAs_inj ih h2, eqAs_inj ih h, Nat.eq_of_beq_eq_true h1]
    · cases h
theorem againOne_inv {e : Env} {h : HP} {d : Pos} {f : Q} (hq : againOne e h d f = true) {v : AV} (hv : e.get d = some v) : f e h = some v := by
  unfold againOne at hq
  rw [hv] at hq
  have hq0 : (@Option.casesOn AV (fun _ => Bool) (f e h) false fun u => eqA 50 v u) = true := hq
  cases hu : f e h with
  | none => rw [hu] at hq0; cases hq0
  | some u => rw [hu] at hq0; rw [eqA_inj 50 v u hq0]
theorem again_inv {e : Env} {h : HP} : ∀ {ag : List (Pos × Q × Option (Pos × Bool))}, again ag e h = true → ∀ d f g, (d, f, g) ∈ ag → (match g with | none => True | some (t, w) => GdV e t w true) → againOne e h d f = true
  | [], _, d, f, g, hm, _ => by cases hm
  | (d0, f0, g0) :: ag, hq, d, f, g, hm, hg => by
    cases g0 with
    | none =>
      obtain ⟨h1, h2⟩ := bfB (show bf (againOne e h d0 f0) (again ag e h) false = true from hq)
      rcases List.mem_cons.1 hm with h3 | h3
      · cases h3; exact h1
      · exact again_inv h2 d f g h3 hg
    | some tw =>
      obtain ⟨t, w⟩ := tw
      have hq0 : gd false e t w (fun r => bf r (bf (againOne e h d0 f0) (again ag e h) false) (again ag e h)) = true := hq
      unfold gd at hq0
      cases hv : e.get t with
      | none => rw [hv] at hq0; cases hq0
      | some v =>
        rw [hv] at hq0
        have key : ∀ c : Bool, bf c (bf (againOne e h d0 f0) (again ag e h) false) (again ag e h) = true → (c = true → againOne e h d0 f0 = true) ∧ again ag e h = true := fun c hc => by
          cases c with
          | false => exact ⟨fun h => (by cases h), hc⟩
          | true => obtain ⟨h1, h2⟩ := bfB hc; exact ⟨fun _ => h1, h2⟩
        have fin : ∀ c : Bool, bf c (bf (againOne e h d0 f0) (again ag e h) false) (again ag e h) = true → (GdV e t w true → c = true) → againOne e h d f = true := fun c hc hcc => by
          obtain ⟨h1, h2⟩ := key c hc
          rcases List.mem_cons.1 hm with h3 | h3
          · cases h3; exact h1 (hcc hg)
          · exact again_inv h2 d f g h3 hg
        cases v <;> try exact absurd hq0 (by intro c; cases c)
        case bool b =>
          refine fin _ hq0 fun ⟨u, h1, h2⟩ => ?_
          rw [hv] at h1
          cases h1
          rcases h2 with ⟨b', h3, h4⟩ | ⟨h3, _⟩
          · cases h3; exact h4.symm
          · cases h3
        case tup m =>
          cases m with
          | cons _ _ => cases hq0
          | nil =>
            refine fin false hq0 fun ⟨u, h1, h2⟩ => ?_
            rw [hv] at h1
            cases h1
            rcases h2 with ⟨b', h3, h4⟩ | ⟨_, h4⟩
            · cases h3
            · cases h4
theorem agI_mem {A : List Nat} : ∀ {done : List Row} {ag : List (Pos × Q × Option (Pos × Bool))}, agI A done = some ag → ∀ r ∈ done, ∀ f, r.k = .q f true → r.i ∉ A → ∃ d, r.d = some d ∧ (d, f, r.g) ∈ ag
  | [], ag, h, r, hr, _, _, _ => by cases hr
  | q :: done, ag, h, r, hr, f, hf, hA => by
    have h0 : (match q.k with | .q f true => bf (has A q.i) (agI A done) (ob q.d fun d => ob (agI A done) fun t => some ((d, f, q.g) :: t)) | _ => agI A done) = some ag := h
    rcases List.mem_cons.1 hr with rfl | hr
    · rw [hf] at h0
      rcases bf_or h0 with ⟨h1, _⟩ | ⟨_, h1⟩
      · exact absurd (has_iff.1 h1) hA
      · obtain ⟨d, h2, h3⟩ := ob_some h1
        obtain ⟨t, h4, h5⟩ := ob_some h3
        cases h5
        exact ⟨d, h2, List.mem_cons_self⟩
    · split at h0
      · rcases bf_or h0 with ⟨_, h1⟩ | ⟨_, h1⟩
        · exact agI_mem h1 r hr f hf hA
        · obtain ⟨d, h2, h3⟩ := ob_some h1
          obtain ⟨t, h4, h5⟩ := ob_some h3
          cases h5
          obtain ⟨d', h6, h7⟩ := agI_mem h4 r hr f hf hA
          exact ⟨d', h6, List.mem_cons_of_mem _ h7⟩
      · exact agI_mem h0 r hr f hf hA

section
variable {p : Par} {N : Nat} {l : List Oper} {all : List Row} {bars : List Nat}
variable {ρ0 : RM} {h0 : HP} {w0 : World} {D : List Nat} {done : List Row} {pend : List Pe} {listed : Array Bool} {e : Env} {ds : List AD} {h : HP} {ρ : RM} {a : Act} {w : World}

theorem down_listed (hA : AllOK p.P p.G N l all) (hc : Closed l listed) : ∀ (n : Nat) (S : List Nat), (∀ j ∈ S, listed.getD j false = true) → ∀ j ∈ down all S n, listed.getD j false = true
  | 0, S, hS => hS
  | n + 1, S, hS => by
    have e0 : down all S (n + 1) = bf (has S n) (@Option.rec Row (fun _ => List Nat) (down all S n) (fun r => appK S r.dl fun S => down all S n) (rowOf all n)) (down all S n) := rfl
    rw [e0]
    cases hb : has S n with
    | false => exact down_listed hA hc n S hS
    | true =>
      show ∀ j ∈ @Option.rec Row (fun _ => List Nat) (down all S n) (fun r => appK S r.dl fun S => down all S n) (rowOf all n), _
      cases hr : rowOf all n with
      | none => exact down_listed hA hc n S hS
      | some r =>
        show ∀ j ∈ appK S r.dl fun S => down all S n, _
        rw [appK_eq]
        refine down_listed hA hc n _ fun j hj => ?_
        rcases List.mem_append.1 hj with hj | hj
        · unfold rowOf at hr
          rw [nthK_eq] at hr
          have hi := hA.idx n r hr
          have hok := hA.ok r (List.mem_of_getElem? hr)
          rw [hok.dl] at hj
          obtain ⟨ed, h1, h2, rfl⟩ := mem_depsO.1 hj
          refine hc r.i r.o hok.oi ?_ ed h1 h2
          rw [hi]; exact getD_true (hS n (has_iff.1 hb))
        · exact hS j hj

theorem nx_lt {P : Program} {ρ : RM} {h : HP} {w : World} (hr : Hr P ρ h.g h.nx w) {y : Pos} {ao : AO} (hy : h.g y = some ao) : y.nat < h.nx.nat := by
  rcases Nat.lt_or_ge y.nat h.nx.nat with h' | h'
  · exact h'
  · rw [(hr.dom y h').2] at hy; cases hy
/-- both do it at once -/
theorem DI.sync {F : Fence} {n : Nat} {K : Act → World → Prop} {r : Row} {v : AV} {h' : HP} {ag : List (Pos × Q × Option (Pos × Bool))} (hF : FW F) (hnd : ∀ r ∈ all, ∀ c, r.o.op ≠ .defer c) (hd : DI p N l all bars ρ0 h0 w0 D done pend listed e ds h ρ a w) (hA : AllOK p.P p.G N l all) (hB : ∀ r ∈ all, BarsOK all bars r)
    (hra : r ∈ all) (hrD : r.i ∉ D) (hdl : ∀ j ∈ r.dl, j ∈ D) (hr : r.i ∈ Region.ready .any l.toArray listed) (hag : agI (down all r.dl r.i) done = some ag) (hmr : MemR ag (putE r.d v e) h h') (h1 : OneR p l N r.o e ds h v ds h' r.i)
    (hK : ∀ ρ' a' w', DI p N l all bars ρ0 h0 w0 (r.i :: D) done pend (listed.setIfInBounds r.i true) (putE r.d v e) ds h' ρ' a' w' → K a' w') : wpOpIn F n p.P l.toArray NoExit r.i K a w := by
  have hln := ((hd.ready_iff hA hra).1 hr).2
  have hok := hA.ok r hra
  have hlt := hA.lt hra
  have nei : ∀ x ∈ pend, x.r.i ≠ r.i := fun x hx c => hrD (c ▸ (hd.pin x hx).2.1)
  have ks : ∀ x ∈ pend, ∀ t ∈ names0 l x.r.o, (posOf t).nat = t + 1 → r.d ≠ some (posOf t) := fun x hx t ht hp hc => by
    rcases slot_row hA hB hra (hd.pin x hx).1 (nei x hx) ht hp hc with h2 | ⟨h2, _⟩
    · exact hrD (hd.dcl x.r (hd.pin x hx).1 (hd.pin x hx).2.1 _ h2)
    · exact hd.dep_listed hA hx (hln _ h2) rfl
  have kd : ∀ x ∈ pend, ∀ q, x.r.d = some q → r.d ≠ some q := fun x hx q hq hc => by
    rcases dst_row hA hB hra (hd.pin x hx).1 (nei x hx) hq hc with h2 | ⟨h2, _⟩
    · exact hrD (hd.dcl x.r (hd.pin x hx).1 (hd.pin x hx).2.1 _ h2)
    · exact hd.dep_listed hA hx (hln _ h2) rfl
  refine h1 ρ w a F n K hF (.inr (hnd r hra)) (hd.names hA hB hra hln) hd.glb hd.dfs hd.mem fun ρ' w' c D' hv hr' hst hD => hK ρ' _ w' ?_
  have hle := hst.rm hd.mem
  refine ⟨hd.stp.trans hst, hr', ?_, hd.glb.mono hle, by rw [put_size]; exact hd.size, fun q hq => ?_, hd.closed.set hr, by rw [Array.size_setIfInBounds]; exact hd.lsz, fun i hi => ?_, fun q hq hqD j hj => ?_, fun x hx => ?_, hd.pdn, fun x hx q hq => ?_, fun x hx => ?_, fun x hx y hy => ?_, hd.nd, hd.ord, hd.self⟩
  · have : (({ a with defers := D' } : Act).put r.o.dst c).defers = D' := by cases r.o.dst <;> rfl
    rw [this]; exact hD
  · by_cases e1 : r.d = some q
    · have hdst := hok.dst
      rw [e1] at hdst ⊢
      exact SR.put_same (a := { a with defers := D' }) hdst hd.size hv
    · exact SR.put_other (a := { a with defers := D' }) hok.dst e1 ((hd.env q hq).mono hle)
  · by_cases e1 : r.i = i
    · subst e1
      have hs : r.i < listed.size := by rw [hd.lsz]; exact hlt
      exact ⟨fun _ => ⟨List.mem_cons_self, nei⟩, fun _ => by simp [hs]⟩
    · rw [getD_set_ne false e1, hd.lst i hi]
      exact and_congr_left fun _ => ⟨fun h => List.mem_cons_of_mem _ h, fun h => (List.mem_cons.1 h).resolve_left (Ne.symm e1)⟩
  · rcases List.mem_cons.1 hqD with e1 | e1
    · have := hA.inj q hq r hra e1
      subst this
      exact List.mem_cons_of_mem _ (hdl j hj)
    · exact List.mem_cons_of_mem _ (hd.dcl q hq e1 j hj)
  · obtain ⟨h2, h3, h4⟩ := hd.pin x hx
    exact ⟨h2, List.mem_cons_of_mem _ h3, h4⟩
  · rw [putE_other v e (kd x hx q hq)]; exact hd.getd x hx q hq
  · obtain ⟨e0, he0, hv0⟩ := hd.val x hx
    have he1 : ∀ t ∈ names0 l x.r.o, (posOf t).nat = t + 1 → e0.get (posOf t) = (putE r.d v e).get (posOf t) := fun t ht hp => by
      rw [putE_other v e (ks x hx t ht hp)]; exact he0 t ht hp
    have gdc : ∀ t b c, x.r.g = some (t, b) → GdV e0 t b c → GdV (putE r.d v e) t b c := fun t b c hg hv => by
      have := (hA.ok _ (hd.pin x hx).1).gd
      rw [hg] at this
      rcases this with ⟨_, h2⟩ | ⟨j, b', t', g1, g2, g3, g4⟩
      · cases h2
      · cases g3
        exact hv.congr (he1 t' (names0_gd g1 g2) g4).symm
    rcases hv0 with hv0 | ⟨hg, ⟨f, ld, hk, hf, hb⟩ | ⟨m, f, ao, y, hk, hnew, hb, hgy, hvv⟩⟩
    · exact ⟨e0, he1, .inl hv0⟩
    · have hop := (hA.ok _ (hd.pin x hx).1).op
      rw [hk] at hop
      rcases hmr with hmr | hmr
      · cases ld with
        | false => exact ⟨e0, he1, .inr ⟨hg, .inl ⟨f, false, hk, (q_indep hop e0 h' h).trans hf, hb⟩⟩⟩
        | true =>
          have hnA : x.r.i ∉ down all r.dl r.i := fun hc => hd.dep_listed hA hx (down_listed hA hd.closed r.i r.dl hln _ hc) rfl
          obtain ⟨d, h2, h3⟩ := agI_mem hag x.r (hd.pdn x hx) f hk hnA
          have hgv : (match x.r.g with | none => True | some (t, w) => GdV (putE r.d v e) t w true) := by
            rcases hg with hg | ⟨t, b, hg, hgv⟩
            · rw [hg]; trivial
            · rw [hg]; exact gdc t b true hg hgv
          have h4 := again_inv hmr d f x.r.g h3 hgv
          have h5 := againOne_inv h4 (v := x.v) (by rw [putE_other v e (kd x hx d h2)]; exact hd.getd x hx d h2)
          refine ⟨putE r.d v e, fun _ _ _ => rfl, .inr ⟨hg.imp id fun ⟨t, b, g1, g2⟩ => ⟨t, b, g1, gdc t b true g1 g2⟩, .inl ⟨f, true, hk, h5, hb⟩⟩⟩
      · refine ⟨e0, he1, .inr ⟨hg, .inl ⟨f, ld, hk, q_mono hop (fun b x hx => ?_) hf, hb⟩⟩⟩
        rw [HP.get_eq] at hx ⊢
        exact hmr b x (fun c => by subst c; rw [(hd.mem.dom _ (Nat.le_refl _)).2] at hx; cases hx) hx
    · obtain ⟨h2, h3, h4⟩ := hd.blk x hx y hb
      exact ⟨e0, he1, .inr ⟨hg, .inr ⟨m, f, ao, y, hk, hnew, hb, (hst.pend y (nx_lt hd.mem hgy) h2).trans hgy, hvv⟩⟩⟩
  · obtain ⟨h2, h3, ao, h4⟩ := hd.blk x hx y hy
    have hly := nx_lt hd.mem h4
    exact ⟨(hst.le y hly).trans h2, h3, ao, (hst.pend y hly h2).trans h4⟩

/-- the evaluator goes ahead -/
theorem early_ev {rec : Cmd → R} {r : Row} (hok : RowOK p.P p.G N l r) (hE : isE r.k = false) {c : Env → List AD → HP → R} {res : R} (hq : itR rec (itK r.d r.g r.k []) e ds h c = res) (hne : R.bad ≠ res) :
    ∃ v b h', c (putE r.d v e) ds h' = res ∧ PdVal p.P p.G r v b e h' ∧ ((b = none ∧ h' = h) ∨ ∃ ao, b = some h.nx ∧ h'.g = upd h.g h.nx (some ao) ∧ h'.nx = h.nx.succ) := by
  have core : (r.g = none ∨ ∃ t w, r.g = some (t, w) ∧ GdV e t w true) → itR rec (itK r.d none r.k []) e ds h c = res → ∃ v b h', c (putE r.d v e) ds h' = res ∧ PdVal p.P p.G r v b e h' ∧ ((b = none ∧ h' = h) ∨ ∃ ao, b = some h.nx ∧ h'.g = upd h.g h.nx (some ao) ∧ h'.nx = h.nx.succ) := fun hg hq => by
    have hop := hok.op
    cases hk : r.k with
    | q f ld =>
      rw [hk] at hq
      obtain ⟨v, hv, hq1⟩ := obR_inv (show (obR (f e h) fun v => put r.d v e fun e => c e ds h) = res from hq) hne
      rw [put_eq] at hq1
      exact ⟨v, none, h, hq1, .inr ⟨hg, .inl ⟨f, ld, hk, hv, rfl⟩⟩, .inl ⟨rfl, rfl⟩⟩
    | f m f =>
      rw [hk] at hq hop
      have hq0 : (f e fun o => h.new o fun b h => put r.d (newV m b) e fun e => c e ds h) = res := hq
      obtain ⟨hnd, hnew⟩ := cOp_new hop
      obtain ⟨ao, h1, h2⟩ := hnew e _ res hq0 hne
      rw [h1] at hq0
      obtain ⟨h', h3, h4, h5⟩ := HP.new_spec h ao (fun b h => put r.d (newV m b) e fun e => c e ds h)
      rw [h3, put_eq] at hq0
      exact ⟨newV m h.nx, some h.nx, h', hq0, .inr ⟨hg, .inr ⟨m, f, ao, h.nx, hk, fun ρ V hX => h2 ρ V hX, rfl, by rw [h4]; exact upd_same _ _ _, rfl⟩⟩, .inr ⟨ao, rfl, h4, h5⟩⟩
    | e f => rw [hk] at hE; cases hE
    | s n x y => rw [hk] at hE; cases hE
  cases hg : r.g with
  | none => rw [hg] at hq; exact core (.inl hg) hq
  | some tw =>
    obtain ⟨t, b⟩ := tw
    rw [hg] at hq
    have hq0 : gd .bad e t b (fun q => bf q (itR rec (itK r.d none r.k []) e ds h c) (put r.d (.tup []) e fun e => c e ds h)) = res := hq
    obtain ⟨cc, hq1, hv⟩ := gd_inv hq0 hne
    cases cc with
    | true => exact core (.inr ⟨t, b, hg, hv⟩) hq1
    | false =>
      have hq2 : (put r.d (.tup []) e fun e => c e ds h) = res := hq1
      rw [put_eq] at hq2
      exact ⟨.tup [], none, h, hq2, .inl ⟨⟨t, b, hg, hv⟩, rfl, rfl⟩, .inl ⟨rfl, rfl⟩⟩
theorem PdVal.grow {r : Row} {v : AV} {b : Option Pos} {e0 : Env} {h h' : HP} (hok : RowOK p.P p.G N l r) (hm : ∀ b x, h.g b = some x → h'.g b = some x) (hv : PdVal p.P p.G r v b e0 h) : PdVal p.P p.G r v b e0 h' := by
  rcases hv with hv | ⟨hg, ⟨f, ld, hk, hf, hb⟩ | ⟨m, f, ao, y, hk, hnew, hb, hgy, hvv⟩⟩
  · exact .inl hv
  · have hop := hok.op
    rw [hk] at hop
    exact .inr ⟨hg, .inl ⟨f, ld, hk, q_mono hop (fun b x hx => by rw [HP.get_eq] at hx ⊢; exact hm b x hx) hf, hb⟩⟩
  · exact .inr ⟨hg, .inr ⟨m, f, ao, y, hk, hnew, hb, hm y ao hgy, hvv⟩⟩
theorem DI.early {r : Row} {v : AV} {b : Option Pos} {h' : HP} (hd : DI p N l all bars ρ0 h0 w0 D done pend listed e ds h ρ a w) (hA : AllOK p.P p.G N l all) (hB : ∀ r ∈ all, BarsOK all bars r) (hra : r ∈ all) (hrD : r.i ∉ D) (hrb : r.i ∉ bars) (hdl : ∀ j ∈ r.dl, j ∈ D)
    (hv : PdVal p.P p.G r v b e h') (hh : (b = none ∧ h' = h) ∨ ∃ ao, b = some h.nx ∧ h'.g = upd h.g h.nx (some ao) ∧ h'.nx = h.nx.succ) :
    DI p N l all bars ρ0 h0 w0 (r.i :: D) (r :: done) (⟨r, v, b⟩ :: pend) listed (putE r.d v e) ds h' ρ a w := by
  have nei : ∀ x ∈ pend, x.r.i ≠ r.i := fun x hx c => hrD (c ▸ (hd.pin x hx).2.1)
  have ks : ∀ x ∈ pend, ∀ t ∈ names0 l x.r.o, (posOf t).nat = t + 1 → r.d ≠ some (posOf t) := fun x hx t ht hp hc => by
    rcases slot_row hA hB hra (hd.pin x hx).1 (nei x hx) ht hp hc with h2 | ⟨_, h2⟩
    · exact hrD (hd.dcl x.r (hd.pin x hx).1 (hd.pin x hx).2.1 _ h2)
    · exact hrb h2
  have kd : ∀ x ∈ pend, ∀ q, x.r.d = some q → r.d ≠ some q := fun x hx q hq hc => by
    rcases dst_row hA hB hra (hd.pin x hx).1 (nei x hx) hq hc with h2 | ⟨_, h2⟩
    · exact hrD (hd.dcl x.r (hd.pin x hx).1 (hd.pin x hx).2.1 _ h2)
    · exact hrb h2
  have hdom := hd.mem.dom h.nx (Nat.le_refl _)
  have nxn : ∀ y ao, h.g y = some ao → y ≠ h.nx := fun y ao hy c => by subst c; rw [hdom.2] at hy; cases hy
  have hm : ∀ b x, h.g b = some x → h'.g b = some x := fun b x hx => by
    rcases hh with ⟨_, rfl⟩ | ⟨ao, _, h1, _⟩
    · exact hx
    · rw [h1, upd_ne _ _ (nxn b x hx)]; exact hx
  have hmem : Hr p.P ρ h'.g h'.nx w := by
    rcases hh with ⟨_, rfl⟩ | ⟨ao, _, h1, h2⟩
    · exact hd.mem
    · rw [h1, h2]; exact hd.mem.newE ao
  have hstp : Stp ρ0 h0.g h0.nx w0 ρ h'.g h'.nx w := by
    rcases hh with ⟨_, rfl⟩ | ⟨ao, _, h1, h2⟩
    · exact hd.stp
    · rw [h1, h2]; exact hd.stp.trans (Stp.newE hd.mem ao)
  refine ⟨hstp, hmem, hd.dfs, hd.glb, hd.size, fun q hq => ?_, hd.closed, hd.lsz, fun i hi => ?_, fun q hq hqD j hj => ?_, fun x hx => ?_, fun x hx => ?_, fun x hx q hq => ?_, fun x hx => ?_, fun x hx y hy => ?_, ?_, ?_, fun x hx => ?_⟩
  · have h1 : r.d ≠ some q := hq ⟨r, v, b⟩ List.mem_cons_self
    exact SR.congr (putE_other v e h1) (hd.env q fun x hx => hq x (List.mem_cons_of_mem _ hx))
  · rw [hd.lst i hi]
    constructor
    · rintro ⟨h1, h2⟩
      refine ⟨List.mem_cons_of_mem _ h1, fun x hx => ?_⟩
      rcases List.mem_cons.1 hx with rfl | hx
      · exact fun c => hrD (show r.i ∈ D from (show r.i = i from c) ▸ h1)
      · exact h2 x hx
    · rintro ⟨h1, h2⟩
      have h3 := h2 ⟨r, v, b⟩ List.mem_cons_self
      exact ⟨(List.mem_cons.1 h1).resolve_left (fun c => h3 c.symm), fun x hx => h2 x (List.mem_cons_of_mem _ hx)⟩
  · rcases List.mem_cons.1 hqD with e1 | e1
    · have := hA.inj q hq r hra e1
      subst this
      exact List.mem_cons_of_mem _ (hdl j hj)
    · exact List.mem_cons_of_mem _ (hd.dcl q hq e1 j hj)
  · rcases List.mem_cons.1 hx with rfl | hx
    · exact ⟨hra, List.mem_cons_self, hrb⟩
    · obtain ⟨h2, h3, h4⟩ := hd.pin x hx
      exact ⟨h2, List.mem_cons_of_mem _ h3, h4⟩
  · rcases List.mem_cons.1 hx with rfl | hx
    · exact List.mem_cons_self
    · exact List.mem_cons_of_mem _ (hd.pdn x hx)
  · rcases List.mem_cons.1 hx with rfl | hx
    · have hq' : r.d = some q := hq
      rw [hq']; exact putE_same q v e
    · rw [putE_other v e (kd x hx q hq)]; exact hd.getd x hx q hq
  · rcases List.mem_cons.1 hx with rfl | hx
    · exact ⟨e, fun t ht hp => (putE_other v e (self_row hA hra ht hp)).symm, hv⟩
    · obtain ⟨e0, he0, hv0⟩ := hd.val x hx
      exact ⟨e0, fun t ht hp => by rw [putE_other v e (ks x hx t ht hp)]; exact he0 t ht hp, hv0.grow (hA.ok _ (hd.pin x hx).1) hm⟩
  · rcases List.mem_cons.1 hx with rfl | hx
    · have hy' : b = some y := hy
      rcases hh with ⟨h1, _⟩ | ⟨ao, h1, h2, _⟩
      · rw [h1] at hy'; cases hy'
      · rw [h1] at hy'
        cases hy'
        exact ⟨hdom.1, hd.stp.hnx, ao, by rw [h2]; exact upd_same _ _ _⟩
    · obtain ⟨h1, h2, ao, h3⟩ := hd.blk x hx y hy
      exact ⟨h1, h2, ao, hm y ao h3⟩
  · refine List.pairwise_cons.2 ⟨fun x hx => ⟨Ne.symm (nei x hx), fun y hy hc => ?_⟩, hd.nd⟩
    have hy' : b = some y := hy
    rcases hh with ⟨h1, _⟩ | ⟨ao, h1, h2, _⟩
    · rw [h1] at hy'; cases hy'
    · rw [h1] at hy'
      cases hy'
      obtain ⟨_, _, ao', h3⟩ := hd.blk x hx _ hc
      exact nxn _ _ h3 rfl
  · exact List.pairwise_cons.2 ⟨fun x hx hc => hrD (hd.dcl x.r (hd.pin x hx).1 (hd.pin x hx).2.1 _ hc), hd.ord⟩
  · rcases List.mem_cons.1 hx with rfl | hx
    · exact fun hc => hrD (hdl _ hc)
    · exact hd.self x hx
end
end Go.Proofs.YtiebkbmnepgacaaGreatDoor.Ew
/-
  Evaluator, part 27: regions.
-/
namespace Go.Proofs.YtiebkbmnepgacaaGreatDoor.Ew
open Go Go.Proofs.YtiebkbmnepgacaaGreatDoor Go.RowKit
set_option linter.unusedVariables false

section
variable {p : Par} {N : Nat} {l : List Oper} {all : List Row} {bars : List Nat}
variable {ρ0 : RM} {h0 : HP} {w0 : World} {D : List Nat} {done : List Row} {pend : List Pe} {listed : Array Bool} {e : Env} {ds : List AD} {h : HP} {ρ : RM} {a : Act} {w : World}
variable {F : Fence} {n : Nat} {Q : Exit → Act → World → Prop}

/-- how many have not come up -/
def cnt (l : List Oper) (listed : Array Bool) : Nat := (List.range l.length).countP fun i => !listed.getD i false
theorem cnt_pos {i : Nat} (hi : i < l.length) (h : listed.getD i false = false) : 0 < cnt l listed :=
  List.countP_pos_iff.2 ⟨i, by simpa using hi, by simp [h]⟩
theorem cnt_step {i : Nat} (hi : i < l.length) (hs : listed.size = l.length) (h : listed.getD i false = false) : cnt l (listed.setIfInBounds i true) < cnt l listed :=
  cnt_lt (i := i) (fun x hx => by
    by_cases e : i = x
    · subst e; simp [h]
    · rw [getD_set_ne false e] at hx; exact hx) (by simp [h]) (by simp [hs, hi]) (by simpa using hi)
theorem ready_unlisted {i : Nat} (hs : listed.size = l.length) (h : i ∈ Region.ready .any l.toArray listed) : i < l.length ∧ listed.getD i false = false := by
  obtain ⟨h1, o, h2, _⟩ := mem_ready.1 h
  have h3 : l[i]? = some o := by simpa using h2
  have h4 := (List.getElem?_eq_some_iff.1 h3).1
  exact ⟨h4, by rw [← getD_ft hs h4]; exact h1⟩

/-- those that wait come up, in whatever order, until one comes up that the evaluator has not done -/
theorem drain (hF : FW F) (hnd : ∀ r ∈ all, ∀ c, r.o.op ≠ .defer c) (hA : AllOK p.P p.G N l all) (hB : ∀ r ∈ all, BarsOK all bars r) (hDl : ∀ j ∈ D, j < l.length)
    (hend : ∀ listed ρ a w, DI p N l all bars ρ0 h0 w0 D done [] listed e ds h ρ a w → (∀ q ∈ all, q.i ∈ D) → Q .normal a w)
    (hprog : (∀ q ∈ all, q.i ∈ D) ∨ ∃ r ∈ all, r.i ∉ D ∧ ∀ j ∈ r.dl, j ∈ D)
    (hsync : ∀ q ∈ all, q.i ∉ D → (∀ j ∈ q.dl, j ∈ D) → ∀ pend listed ρ a w fuel, DI p N l all bars ρ0 h0 w0 D done pend listed e ds h ρ a w → q.i ∈ Region.ready .any l.toArray listed → cnt l listed ≤ fuel + 1 → wpOpIn F n p.P l.toArray Q q.i (wpAnyIn F n p.P .any l.toArray Q fuel (listed.setIfInBounds q.i true)) a w) :
    ∀ (m : Nat) (pend : List Pe) (listed : Array Bool) (ρ : RM) (a : Act) (w : World) (fuel : Nat), pend.length = m → DI p N l all bars ρ0 h0 w0 D done pend listed e ds h ρ a w → cnt l listed ≤ fuel → wpAnyIn F n p.P .any l.toArray Q fuel listed a w := by
  intro m
  induction m with
  | zero =>
    intro pend listed ρ a w fuel hm hd hc
    have hp : pend = [] := List.eq_nil_of_length_eq_zero hm
    subst hp
    have lall : ∀ q ∈ all, q.i ∈ D → listed.getD q.i false = true := fun q hq hD => (hd.lst q.i (hA.lt hq)).2 ⟨hD, fun x hx => (by cases hx)⟩
    rcases hprog with hall | ⟨r, hr, hrD, hdl⟩
    · have hnil : Region.ready .any l.toArray listed = [] := List.eq_nil_iff_forall_not_mem.2 fun i hi => by
        obtain ⟨q, hq, rfl⟩ := ready_row hA hi
        have h1 := (ready_unlisted hd.lsz hi).2
        rw [lall q hq (hall q hq)] at h1; cases h1
      have hQ := hend listed ρ a w hd hall
      cases fuel with
      | zero => exact ⟨hnil, hQ⟩
      | succ fuel => exact ⟨fun _ => hQ, fun i hi => by rw [hnil] at hi; cases hi⟩
    · have hrr : r.i ∈ Region.ready .any l.toArray listed := (hd.ready_iff hA hr).2 ⟨by
        cases hb : listed.getD r.i false with
        | false => rfl
        | true => exact absurd ((hd.lst r.i (hA.lt hr)).1 hb).1 hrD, fun j hj => (hd.lst j (hDl j (hdl j hj))).2 ⟨hdl j hj, fun x hx => (by cases hx)⟩⟩
      cases fuel with
      | zero =>
        obtain ⟨h1, h2⟩ := ready_unlisted hd.lsz hrr
        have := cnt_pos (l := l) h1 h2
        omega
      | succ fuel =>
        refine ⟨fun h => (by rw [h] at hrr; cases hrr), fun i hi => ?_⟩
        obtain ⟨q, hq, rfl⟩ := ready_row hA hi
        obtain ⟨h1, h2⟩ := (hd.ready_iff hA hq).1 hi
        have hqD : q.i ∉ D := fun hc => by rw [lall q hq hc] at h1; cases h1
        have hqd : ∀ j ∈ q.dl, j ∈ D := fun j hj => by
          have hjl : j < l.length := by
            rcases Nat.lt_or_ge j listed.size with h' | h'
            · rw [hd.lsz] at h'; exact h'
            · have := h2 j hj
              simp [Array.getElem?_eq_none h'] at this
          exact ((hd.lst j hjl).1 (h2 j hj)).1
        exact hsync q hq hqD hqd [] listed ρ a w fuel hd hi hc
  | succ m ih =>
    intro pend listed ρ a w fuel hm hd hc
    have hne : pend ≠ [] := fun h => by subst h; cases hm
    have hrne := hd.some_ready hA hne hDl
    cases fuel with
    | zero =>
      exfalso
      obtain ⟨i, hi⟩ := List.exists_mem_of_ne_nil _ hrne
      obtain ⟨h1, h2⟩ := ready_unlisted hd.lsz hi
      have := cnt_pos (l := l) h1 h2
      omega
    | succ fuel =>
      refine ⟨fun h => absurd h hrne, fun i hi => ?_⟩
      obtain ⟨q, hq, rfl⟩ := ready_row hA hi
      obtain ⟨h1, h2⟩ := (hd.ready_iff hA hq).1 hi
      by_cases hqD : q.i ∈ D
      · obtain ⟨x, hx, hxi⟩ : ∃ x ∈ pend, x.r.i = q.i := Classical.byContradiction fun hno => by
          have := (hd.lst q.i (hA.lt hq)).2 ⟨hqD, fun x hx hxi => hno ⟨x, hx, hxi⟩⟩
          rw [this] at h1; cases h1
        obtain ⟨A, B, rfl⟩ := List.append_of_mem hx
        rw [← hxi] at hi h1 ⊢
        refine wpOpIn_noExit (hd.exec hF hnd hA hB hi fun ρ' a' w' hd' => ih (A ++ B) _ ρ' a' w' fuel (by simp at hm ⊢; omega) hd' ?_)
        have := cnt_step (hA.lt (hd.pin x hx).1) hd.lsz h1
        omega
      · have hqd : ∀ j ∈ q.dl, j ∈ D := fun j hj => by
          have hjl : j < l.length := by
            rcases Nat.lt_or_ge j listed.size with h' | h'
            · rw [hd.lsz] at h'; exact h'
            · have := h2 j hj
              simp [Array.getElem?_eq_none h'] at this
          exact ((hd.lst j hjl).1 (h2 j hj)).1
        exact hsync q hq hqD hqd pend listed ρ a w fuel hd hi hc

/-! ### stores in any order -/
theorem over0_ok {α β : Type} (d : β) : ∀ (y l : List α) (c : List α → β), y.length ≤ l.length → over0 d y l c = c (over 0 l y)
  | [], l, c, _ => by simp [over0, over]
  | a :: y, [], c, h => by simp at h
  | a :: y, x :: l, c, h => by
    have := over0_ok d y l (fun z => c (a :: z)) (by simpa using h)
    refine Eq.trans (b := over0 d y l (fun z => c (a :: z))) rfl (this.trans ?_)
    simp [over, Nat.add_comm]
theorem overK_ok {α β : Type} (d : β) (y : List α) : ∀ (n : Nat) (l : List α) (c : List α → β), n + y.length ≤ l.length → overK d y n l c = c (over n l y)
  | 0, l, c, h => over0_ok d y l c (by omega)
  | n + 1, [], c, h => by simp at h
  | n + 1, x :: l, c, h => by
    have := overK_ok d y n l (fun r => c (x :: r)) (by simp at h; omega)
    refine Eq.trans (b := overK d y n l (fun r => c (x :: r))) rfl (this.trans ?_)
    simp only [over, List.take_succ_cons, List.cons_append]
    rw [show n + 1 + y.length = (n + y.length) + 1 by omega, List.drop_succ_cons]
theorem wrTo_ok {h : HP} {b : Pos} {o : Nat} {new l : List AV} {t : TypeId} {g : Option Nat} {c : HP → R} (hg : h.g b = some (.cells l t g true)) (ha : allOne new = true) (hf : o + new.length ≤ l.length) :
    ∃ h', wrTo h b o new c = c h' ∧ h'.g = upd h.g b (some (.cells (over o l new) t g true)) ∧ h'.nx = h.nx := by
  unfold wrTo
  rw [HP.get_eq, hg]
  show ∃ h', bf (allOne new) (overK .bad new o l fun l => h.set b (some (.cells l t g true)) c) .bad = c h' ∧ _
  rw [ha]
  show ∃ h', overK .bad new o l (fun l => h.set b (some (.cells l t g true)) c) = c h' ∧ _
  rw [overK_ok _ _ _ _ _ hf]
  exact HP.set_spec h b _ c

/-- a store of the last ones -/
structure Wt where
  r : Row
  n : Nat
  x : X
  y : X
  b : Pos
  o : Nat
  v : AV
  l : List AV
  t : TypeId
  g : Option Nat
structure WOK (e : Env) (h hF : HP) (w : Wt) : Prop where
  k : w.r.k = .s w.n w.x w.y
  d : w.r.d = none
  gd : w.r.g = none
  x : w.x e = some (.ptr w.b w.o)
  y : w.y e = some w.v
  len : lenIs (cellsOf w.v) w.n = true
  old : h.g w.b = some (.cells w.l w.t w.g true)
  one : allOne (cellsOf w.v) = true
  fit : w.o + (cellsOf w.v).length ≤ w.l.length
  new : hF.g w.b = some (.cells (over w.o w.l (cellsOf w.v)) w.t w.g true)
structure WsOK (e : Env) (h hF : HP) (ws : List Wt) : Prop where
  ok : ∀ w ∈ ws, WOK e h hF w
  nd : ws.Pairwise fun w w' => w.b ≠ w'.b
  rest : ∀ b, (∀ w ∈ ws, w.b ≠ b) → hF.g b = h.g b
  nx : hF.nx = h.nx
theorem any_eqb {b : Pos} : ∀ {bs : List Pos}, bs.any (Pos.eqb b) = false → b ∉ bs
  | [], _, h => by cases h
  | q :: bs, hb, h => by
    simp only [List.any_cons, Bool.or_eq_false_iff] at hb
    rcases List.mem_cons.1 h with h | h
    · rw [Pos.eqb_eq.2 h] at hb; cases hb.1
    · exact any_eqb hb.2 h
theorem stores_inv {e : Env} : ∀ (rows : List Row) (t : List (Nat × X × X)) (bs : List Pos) (h : HP) (c : HP → R) (res : R), tailI all done rows = some t → storesR t e bs h c = res → R.bad ≠ res →
    ∃ ws hF, c hF = res ∧ ws.map (·.r) = rows ∧ WsOK e h hF ws ∧ (∀ w ∈ ws, w.b ∉ bs) ∧ ∀ w ∈ ws, agI (down all w.r.dl w.r.i) done = some []
  | [], t, bs, h, c, res, ht, hq, hne => by
    cases ht
    exact ⟨[], h, hq, rfl, ⟨fun w hw => (by cases hw), .nil, fun _ _ => rfl, rfl⟩, fun w hw => (by cases hw), fun w hw => (by cases hw)⟩
  | r :: rows, t, bs, h, c, res, ht, hq, hne => by
    have ht0 : (match r.k, r.d, r.g with
      | .s n x y, none, none => ob (agI (down all r.dl r.i) done) fun a => match a with | [] => ob (tailI all done rows) fun t => some ((n, x, y) :: t) | _ => none
      | _, _, _ => none) = some t := ht
    split at ht0
    · rename_i n x y hk hd hg
      obtain ⟨ag, hag, ht1⟩ := ob_some ht0
      split at ht1
      · obtain ⟨t', ht', ht2⟩ := ob_some ht1
        cases ht2
        have hq0 : (obR (x e) fun v => v.kPtr .bad fun b o => obR (y e) fun v => bf (lenIs (cellsOf v) n) (bf (bs.any (Pos.eqb b)) .bad (wrTo h b o (cellsOf v) fun h => storesR t' e (b :: bs) h c)) .bad) = res := hq
        obtain ⟨u, hu, hq1⟩ := obR_inv hq0 hne
        obtain ⟨b, o, rfl, hq2⟩ := AV.kPtr_some hq1 hne
        obtain ⟨v, hv, hq3⟩ := obR_inv hq2 hne
        obtain ⟨hl, hq4⟩ := bfR_inv hq3 hne
        have hbs : bs.any (Pos.eqb b) = false := by
          cases hb : bs.any (Pos.eqb b) with
          | false => rfl
          | true => rw [hb] at hq4; exact absurd hq4 hne
        rw [hbs] at hq4
        have hq5 : (wrTo h b o (cellsOf v) fun h => storesR t' e (b :: bs) h c) = res := hq4
        rcases wrTo_eq h b o (cellsOf v) (fun h => storesR t' e (b :: bs) h c) with hbd | ⟨l', t0, g, h1, g1, g2, g3, g4, g5, hw⟩
        · exact absurd (hbd.symm.trans hq5) hne
        · rw [hw] at hq5
          obtain ⟨ws, hF, k1, k2, k3, k4, k5⟩ := stores_inv rows t' (b :: bs) h1 c res ht' hq5 hne
          have hbn : ∀ w ∈ ws, w.b ≠ b := fun w hw c => k4 w hw (by rw [c]; exact List.mem_cons_self)
          have hFb : hF.g b = some (.cells (over o l' (cellsOf v)) t0 g true) := by
            rw [k3.rest b hbn, g4]; exact upd_same _ _ _
          refine ⟨⟨r, n, x, y, b, o, v, l', t0, g⟩ :: ws, hF, k1, by simp [k2], ⟨fun w hw => ?_, List.pairwise_cons.2 ⟨fun w hw => (hbn w hw).symm, k3.nd⟩, fun b' hb' => ?_, k3.nx.trans g5⟩, fun w hw => ?_, fun w hw => ?_⟩
          · rcases List.mem_cons.1 hw with rfl | hw
            · exact ⟨hk, hd, hg, hu, hv, hl, g1, g2, g3, hFb⟩
            · have h2 := k3.ok w hw
              exact ⟨h2.k, h2.d, h2.gd, h2.x, h2.y, h2.len, by rw [← h2.old, g4, upd_ne _ _ (hbn w hw)], h2.one, h2.fit, h2.new⟩
          · rw [k3.rest b' fun w hw => hb' w (List.mem_cons_of_mem _ hw), g4, upd_ne _ _ (hb' _ List.mem_cons_self).symm]
          · rcases List.mem_cons.1 hw with rfl | hw
            · exact any_eqb hbs
            · exact fun c => k4 w hw (List.mem_cons_of_mem _ c)
          · rcases List.mem_cons.1 hw with rfl | hw
            · exact hag
            · exact k5 w hw
      · cases ht1
    · cases ht0
theorem store_ok {rec : Cmd → R} {hF : HP} {wt : Wt} (hw : WOK e h hF wt) : ∃ h', itR rec (itK wt.r.d wt.r.g wt.r.k []) e ds h .nrm = .nrm e ds h' ∧ h'.g = upd h.g wt.b (some (.cells (over wt.o wt.l (cellsOf wt.v)) wt.t wt.g true)) ∧ h'.nx = h.nx := by
  rw [hw.k, hw.d, hw.gd]
  show ∃ h', e_store wt.n wt.x wt.y (fun x => rec (.cl x)) e ds h (fun v ds h => put none v e fun e => bf (again [] e h) (.nrm e ds h) .bad) = .nrm e ds h' ∧ _
  unfold e_store
  rw [hw.x, hw.y]
  show ∃ h', bf (lenIs (cellsOf wt.v) wt.n) (wrTo h wt.b wt.o (cellsOf wt.v) fun h => .nrm e ds h) .bad = .nrm e ds h' ∧ _
  rw [hw.len]
  exact wrTo_ok (c := fun h => .nrm e ds h) hw.old hw.one hw.fit
theorem WsOK.step {A B : List Wt} {wt : Wt} {hF h' : HP} (hw : WsOK e h hF (A ++ wt :: B)) (hg : h'.g = upd h.g wt.b (some (.cells (over wt.o wt.l (cellsOf wt.v)) wt.t wt.g true))) (hn : h'.nx = h.nx) : WsOK e h' hF (A ++ B) := by
  have h2 := (List.perm_middle (l₁ := A) (a := wt) (l₂ := B)).pairwise_iff (R := fun x y : Wt => x.b ≠ y.b) (fun {x y} h => Ne.symm h)
  obtain ⟨h3, h4⟩ := List.pairwise_cons.1 (h2.1 hw.nd)
  have sub : ∀ y ∈ A ++ B, y ∈ A ++ wt :: B := fun y hy => by
    rcases List.mem_append.1 hy with h | h
    · exact List.mem_append_left _ h
    · exact List.mem_append_right _ (List.mem_cons_of_mem _ h)
  have hwt := hw.ok wt (by simp)
  refine ⟨fun y hy => ?_, h4, fun b hb => ?_, hw.nx.trans hn.symm⟩
  · have h5 := hw.ok y (sub y hy)
    exact ⟨h5.k, h5.d, h5.gd, h5.x, h5.y, h5.len, by rw [hg, upd_ne _ _ (h3 y hy).symm]; exact h5.old, h5.one, h5.fit, h5.new⟩
  · rw [hg]
    by_cases e1 : b = wt.b
    · subst e1; rw [upd_same]; exact hwt.new
    · rw [upd_ne _ _ e1]
      refine hw.rest b fun y hy => ?_
      have : y = wt ∨ y ∈ A ++ B := by
        rcases List.mem_append.1 hy with h | h
        · exact .inr (List.mem_append_left _ h)
        · rcases List.mem_cons.1 h with h | h
          · exact .inl h
          · exact .inr (List.mem_append_right _ h)
      rcases this with rfl | h
      · exact Ne.symm e1
      · exact hb y h

theorem DI.to_st (hd : DI p N l all bars ρ0 h0 w0 D done [] listed e ds h ρ a w) : St p N ρ e ds h a w := ⟨hd.size, fun q => hd.env q fun x hx => (by cases hx), hd.dfs, hd.mem, hd.glb⟩

theorem tail_sound {rec : Cmd → R} (hrec : RecOK p fun x => rec (.cl x)) (hF : FW F) (hnd : ∀ r ∈ all, ∀ c, r.o.op ≠ .defer c) (hA : AllOK p.P p.G N l all) (hB : ∀ r ∈ all, BarsOK all bars r) {hE : HP}
    (hQ : ∀ ρ' a' w', St p N ρ' e ds hE a' w' → Stp ρ0 h0.g h0.nx w0 ρ' hE.g hE.nx w' → Q .normal a' w') : ∀ (k : Nat) (ws : List Wt) (D : List Nat) (h : HP), ws.length = k → WsOK e h hE ws → (∀ q ∈ all, q.i ∉ D → ∃ wt ∈ ws, wt.r = q) →
    (∀ wt ∈ ws, wt.r ∈ all ∧ wt.r.i ∉ D ∧ (∀ j ∈ wt.r.dl, j ∈ D) ∧ agI (down all wt.r.dl wt.r.i) done = some []) → (ws.Pairwise fun x y => x.r.i ≠ y.r.i) → (∀ j ∈ D, j < l.length) →
    ∀ pend listed ρ a w fuel, DI p N l all bars ρ0 h0 w0 D done pend listed e ds h ρ a w → cnt l listed ≤ fuel → wpAnyIn F n p.P .any l.toArray Q fuel listed a w := by
  intro k
  induction k with
  | zero =>
    intro ws D h hk hws hall hin hnd' hDl pend listed ρ a w fuel hd hc
    have : ws = [] := List.eq_nil_of_length_eq_zero hk
    subst this
    have hallD : ∀ q ∈ all, q.i ∈ D := fun q hq => Classical.byContradiction fun hn => by
      obtain ⟨_, hw, _⟩ := hall q hq hn
      cases hw
    refine drain hF hnd hA hB hDl (fun listed ρ a w hd _ => ?_) (.inl hallD) (fun q hq hn => absurd (hallD q hq) hn) pend.length pend listed ρ a w fuel rfl hd hc
    have hg : hE.g = h.g := funext fun b => hws.rest b fun w hw => by cases hw
    have hst := hd.to_st
    have hstp := hd.stp
    exact hQ ρ a w ⟨hst.size, hst.env, hst.dfs, by rw [hg, hws.nx]; exact hst.mem, hst.glb⟩ (by rw [hg, hws.nx]; exact hstp)
  | succ k ih =>
    intro ws D h hk hws hall hin hnd' hDl pend listed ρ a w fuel hd hc
    obtain ⟨wt0, hwt0⟩ : ∃ wt, wt ∈ ws := by
      cases ws with
      | nil => cases hk
      | cons x r => exact ⟨x, List.mem_cons_self⟩
    refine drain hF hnd hA hB hDl (fun listed ρ a w hd hallD => absurd (hallD _ (hin wt0 hwt0).1) (hin wt0 hwt0).2.1) (.inr ⟨wt0.r, (hin wt0 hwt0).1, (hin wt0 hwt0).2.1, (hin wt0 hwt0).2.2.1⟩) (fun q hq hn hdl pend listed ρ a w fuel hd hr hc => ?_) pend.length pend listed ρ a w fuel rfl hd hc
    obtain ⟨wt, hwt, rfl⟩ := hall q hq hn
    obtain ⟨A, B, rfl⟩ := List.append_of_mem hwt
    have hwo := hws.ok wt hwt
    have hok := hA.ok _ hq
    obtain ⟨h', g1, g2, g3⟩ := store_ok (rec := rec) (ds := ds) hwo
    obtain ⟨v, ds', h'', f1, f2, f3, f4⟩ := one_op (N := N) hrec hok.op hok.gd hok.oi g1 (by intro c; cases c)
    have hde : putE wt.r.d v e = e := by rw [hwo.d]; rfl
    rw [hde] at f1 f2
    simp only [R.nrm.injEq, true_and] at f1
    obtain ⟨rfl, rfl⟩ := f1
    refine wpOpIn_noExit (hd.sync (ag := []) hF hnd hA hB hq hn hdl hr (hin wt hwt).2.2.2 (by rw [hde]; exact .inl rfl) f4 fun ρ' a' w' hd' => ?_)
    rw [hde] at hd'
    have h2 := (List.perm_middle (l₁ := A) (a := wt) (l₂ := B)).pairwise_iff (R := fun x y : Wt => x.r.i ≠ y.r.i) (fun {x y} h => Ne.symm h)
    obtain ⟨h3, h4⟩ := List.pairwise_cons.1 (h2.1 hnd')
    have sub : ∀ y ∈ A ++ B, y ∈ A ++ wt :: B := fun y hy => by
      rcases List.mem_append.1 hy with h | h
      · exact List.mem_append_left _ h
      · exact List.mem_append_right _ (List.mem_cons_of_mem _ h)
    refine ih (A ++ B) (wt.r.i :: D) h'' (by simp at hk ⊢; omega) (hws.step g2 g3) (fun q hq' hn' => ?_) (fun y hy => ?_) h4 (fun j hj => ?_) pend _ ρ' a' w' fuel hd' ?_
    · obtain ⟨y, hy, rfl⟩ := hall q hq' fun c => hn' (List.mem_cons_of_mem _ c)
      refine ⟨y, ?_, rfl⟩
      rcases List.mem_append.1 hy with h | h
      · exact List.mem_append_left _ h
      · rcases List.mem_cons.1 h with h | h
        · subst h; exact absurd List.mem_cons_self hn'
        · exact List.mem_append_right _ h
    · obtain ⟨f5, f6, f7, f8⟩ := hin y (sub y hy)
      exact ⟨f5, fun c => (List.mem_cons.1 c).elim (fun c => h3 y hy c.symm) f6, fun j hj => List.mem_cons_of_mem _ (f7 j hj), f8⟩
    · rcases List.mem_cons.1 hj with rfl | hj
      · exact hA.lt hq
      · exact hDl j hj
    · have := cnt_step (hA.lt hq) hd.lsz (ready_unlisted hd.lsz hr).2
      omega

theorem DI.more (hd : DI p N l all bars ρ0 h0 w0 D done pend listed e ds h ρ a w) (r : Row) : DI p N l all bars ρ0 h0 w0 D (r :: done) pend listed e ds h ρ a w := { hd with pdn := fun x hx => List.mem_cons_of_mem _ (hd.pdn x hx) }
theorem pln_sound {rec : Cmd → R} (hrec : RecOK p fun x => rec (.cl x)) (hF : FW F) (hnd : ∀ r ∈ all, ∀ c, r.o.op ≠ .defer c) (hA : AllOK p.P p.G N l all) (hB : ∀ r ∈ all, BarsOK all bars r) {res : R} (hne : R.bad ≠ res)
    (hQ : ∀ ρ' e' h' a' w', res = .nrm e' ds h' → St p N ρ' e' ds h' a' w' → Stp ρ0 h0.g h0.nx w0 ρ' h'.g h'.nx w' → Q .normal a' w') {D : List Nat} {done : List Row} {its : List It} (hp : Pln all bars D done its) :
    ∀ (e : Env) (h : HP), sItems rec its e ds h = res → (∀ j ∈ D, j < l.length) → ∀ pend listed ρ a w fuel, DI p N l all bars ρ0 h0 w0 D done pend listed e ds h ρ a w → cnt l listed ≤ fuel → wpAnyIn F n p.P .any l.toArray Q fuel listed a w := by
  induction hp with
  | nil hall =>
    intro e h hq hDl pend listed ρ a w fuel hd hc
    exact drain hF hnd hA hB hDl (fun listed ρ a w hd _ => hQ ρ e h a w hq.symm hd.to_st hd.stp) (.inl hall) (fun q hq hn => absurd (hall q hq) hn) pend.length pend listed ρ a w fuel rfl hd hc
  | @early D done r its hra hrD hrb hdl _ ih =>
    intro e h hq hDl pend listed ρ a w fuel hd hc
    have hE : isE r.k = false := by
      cases hb : isE r.k with
      | false => rfl
      | true => exact absurd ((hB r hra).1 hb) hrb
    obtain ⟨v, b, h', h1, h2, h3⟩ := early_ev (hA.ok r hra) hE (show itR rec (itK r.d r.g r.k []) e ds h (sItems rec its) = res from hq) hne
    exact ih _ h' h1 (fun j hj => (List.mem_cons.1 hj).elim (fun c => by rw [c]; exact hA.lt hra) (hDl j)) _ listed ρ a w fuel (hd.early hA hB hra hrD hrb hdl h2 h3) hc
  | @alone D done r its ag hra hrD hdl hun hag _ ih =>
    intro e h hq hDl pend listed ρ a w fuel hd hc
    have hok := hA.ok r hra
    obtain ⟨v, ds', h', f1, f2, f3, f4⟩ := one_op (N := N) hrec hok.op hok.gd hok.oi (show itR rec (itK r.d r.g r.k ag) e ds h (sItems rec its) = res from hq) hne
    have := f3 (hnd r hra)
    subst this
    refine drain hF hnd hA hB hDl (fun listed ρ a w hd hallD => absurd (hallD r hra) hrD) (.inr ⟨r, hra, hrD, hdl⟩) (fun q hq' hn hqd pend listed ρ a w fuel hd hr hc => ?_) pend.length pend listed ρ a w fuel rfl hd hc
    have hqr : q = r := Classical.byContradiction fun hc => hun q hq' hn (fun c => hc (hA.inj q hq' r hra c)) hqd
    subst hqr
    refine wpOpIn_noExit (hd.sync hF hnd hA hB hra hrD hdl hr hag f2 f4 fun ρ' a' w' hd' => ?_)
    refine ih _ h' f1 (fun j hj => (List.mem_cons.1 hj).elim (fun c => by rw [c]; exact hA.lt hra) (hDl j)) pend _ ρ' a' w' fuel (hd'.more q) ?_
    have := cnt_step (hA.lt hra) hd.lsz (ready_unlisted hd.lsz hr).2
    omega
  | @tail D done rows t hall hin hnd' ht =>
    intro e h hq hDl pend listed ρ a w fuel hd hc
    have hq0 : storesR t e [] h (fun h => .nrm e ds h) = res := hq
    obtain ⟨ws, hE, k1, k2, k3, k4, k5⟩ := stores_inv rows t [] h (fun h => .nrm e ds h) res ht hq0 hne
    have memr : ∀ wt ∈ ws, wt.r ∈ rows := fun wt hwt => by rw [← k2]; exact List.mem_map_of_mem hwt
    refine tail_sound hrec hF hnd hA hB (fun ρ' a' w' hst hstp => hQ ρ' e hE a' w' k1.symm hst hstp) ws.length ws D h rfl k3 (fun q hq' hn => ?_) (fun wt hwt => ?_) ?_ hDl pend listed ρ a w fuel hd hc
    · have h1 := hall q hq' hn
      rw [← k2] at h1
      obtain ⟨wt, h2, h3⟩ := List.mem_map.1 h1
      exact ⟨wt, h2, h3⟩
    · obtain ⟨h1, h2, h3⟩ := hin _ (memr wt hwt)
      exact ⟨h1, h2, h3, k5 wt hwt⟩
    · rw [← k2] at hnd'
      exact (List.pairwise_map (R := fun r q : Row => r.i ≠ q.i)).1 hnd'

/-- **A region.** -/
theorem region_sound {rec : Cmd → R} (hrec : RecOK p fun x => rec (.cl x)) (hmix : p.P.follows .mixedOrders = true) (hF : FW F) {ops : Array Oper} {id : Nat} {draw : Bool} {its : List It} (hi : regI p.P p.G N ops draw = some its) (hdf : F.round = none ∨ ∀ o ∈ ops.toList, isDefer o = false)
    {res : R} (hq : sItems rec its e ds h = res) (hne : R.bad ≠ res) (hst : St p N ρ e ds h a w)
    (hQ : ∀ ρ' e' ds' h' a' w', res = .nrm e' ds' h' → St p N ρ' e' ds' h' a' w' → Stp ρ h.g h.nx w ρ' h'.g h'.nx w' → Q .normal a' w') : (Code.region id ops draw).wpIn F n p.P Q a w := by
  cases draw with
  | false =>
    refine wpIn_region ?_
    have h1 := seq_sound (l := ops.toList) hrec (Q := Q) (n := n) hF hdf ops.toList 0 its rfl hi e ds h res hq hne ρ a w hst hQ
    rw [← List.range_eq_range'] at h1
    simpa using h1
  | true =>
    obtain ⟨hd, hi⟩ := bf_some (show bf (ops.toList.all fun o => !isDefer o) (ob (rowsI p.P p.G N ops.toList ops.toList 0) fun rs => ob (barsI rs rs) fun bars => planI rs bars ops.size rs [] []) none = some its from hi)
    obtain ⟨all, hall, hi⟩ := ob_some hi
    obtain ⟨bars, hbars, hi⟩ := ob_some hi
    have hA := rowsI_all hall
    have hB := barsI_spec hbars
    have hp := planI_spec ops.size all [] [] its ⟨fun q hq => ⟨hq, by simp⟩, fun q hq _ => hq, hA.nd⟩ hi
    have hnd : ∀ r ∈ all, ∀ c, r.o.op ≠ .defer c := fun r hr c hc => by
      have := List.all_eq_true.1 hd r.o (List.mem_of_getElem? (hA.ok r hr).oi)
      simp [isDefer, hc] at this
    refine wpIn_region_any hmix ?_
    have hx : Ext w w.drew := Ext.drew w
    have h1 := pln_sound (F := F) (n := n) (Q := Q) (l := ops.toList) (ρ0 := ρ) (h0 := h) (w0 := w) hrec hF hnd hA hB hne (fun ρ' e' h' a' w' h1 h2 h3 => hQ ρ' e' ds h' a' w' h1 h2 h3) hp e h hq (fun j hj => (by cases hj)) [] (Array.replicate ops.toList.length false) ρ a w.drew ops.toList.length
      ⟨Stp.ext hx, hst.mem.ext hx, hst.dfs, hst.glb, hst.size, fun q _ => hst.env q, fun p o ho hp => by
        have := (List.getElem?_eq_some_iff.1 ho).1
        simp at this
        simp [this] at hp, by simp, fun i hi => by
          simp at hi
          simp [hi], fun r _ hr => (by cases hr), fun x hx => (by cases hx), fun x hx => (by cases hx), fun x hx => (by cases hx), fun x hx => (by cases hx), fun x hx => (by cases hx), .nil, .nil, fun x hx => (by cases hx)⟩ (by
        unfold cnt
        refine Nat.le_trans List.countP_le_length ?_
        simp)
    simpa using h1
end
end Go.Proofs.YtiebkbmnepgacaaGreatDoor.Ew
/-
  Evaluator, part 28: code.
-/
namespace Go.Proofs.YtiebkbmnepgacaaGreatDoor.Ew
open Go Go.Proofs.YtiebkbmnepgacaaGreatDoor Go.RowKit
set_option linter.unusedVariables false

/-- what is asked of what goes by a rule of its own -/
structure ParOK (p : Par) : Prop where
  mix : p.P.follows .mixedOrders = true
  ov : ∀ (f : FuncId) (r : List AV → HP → Option (AV × HP)) (l : List AV) (h : HP) (v : AV) (h' : HP), p.ov f = some r → r l h = some (v, h') → ∀ (ρ : RM) (w : World) (args : Array Value), VrL ρ l args.toList → Hr p.P ρ h.g h.nx w → GlR p.G ρ → Res p.P f args w (Fin p.P ρ h w v h')
  qd : ∀ f, p.quietD f = true → ∀ (args : Array Value) (w : World), args.size ≤ 8 → (callFunc f args).run p.P w = .ok (.enter f args) w ∧ CallsDIn Fence.wide 0 p.P f args .returning w fun e u w' => ∃ v, e = .returned v ∧ settle u = .returning ∧ Ext w w'

theorem kNrm_ne {x : R} {f : Env → List AD → HP → R} {r : R} (hq : x.kNrm f = r) (hne : R.bad ≠ r) : R.bad ≠ x := fun h => by subst h; exact hne hq
theorem kBlk_ne {x : R} {id : Nat} {r : R} (hq : x.kBlk id = r) (hne : R.bad ≠ r) : R.bad ≠ x := fun h => by subst h; exact hne hq

section
variable {p : Par} {N : Nat} {ρ : RM} {h : HP} {w : World}

def Post (p : Par) (N : Nat) (ρ : RM) (h : HP) (w : World) (r : R) : Exit → Act → World → Prop
  | .normal, a', w' => ∃ ρ' e' ds' h', r = .nrm e' ds' h' ∧ St p N ρ' e' ds' h' a' w' ∧ Stp ρ h.g h.nx w ρ' h'.g h'.nx w'
  | .exit j, a', w' => ∃ ρ' e' ds' h', r = .ext j e' ds' h' ∧ St p N ρ' e' ds' h' a' w' ∧ Stp ρ h.g h.nx w ρ' h'.g h'.nx w'
  | .ret, a', w' => ∃ ρ' e' ds' h', r = .ret e' ds' h' ∧ St p N ρ' e' ds' h' a' w' ∧ Stp ρ h.g h.nx w ρ' h'.g h'.nx w'
  | _, _, _ => False
theorem Post.trans {ρ1 : RM} {h1 : HP} {w1 : World} {r : R} (hs : Stp ρ h.g h.nx w ρ1 h1.g h1.nx w1) : ∀ ex a' w', Post p N ρ1 h1 w1 r ex a' w' → Post p N ρ h w r ex a' w' := fun ex a' w' hp => by
  cases ex with
  | normal => obtain ⟨ρ', e', ds', h', k1, k2, k3⟩ := hp; exact ⟨ρ', e', ds', h', k1, k2, hs.trans k3⟩
  | exit j => obtain ⟨ρ', e', ds', h', k1, k2, k3⟩ := hp; exact ⟨ρ', e', ds', h', k1, k2, hs.trans k3⟩
  | ret => obtain ⟨ρ', e', ds', h', k1, k2, k3⟩ := hp; exact ⟨ρ', e', ds', h', k1, k2, hs.trans k3⟩
  | goto t => exact hp
  | panic c => exact hp
  | outgrown => exact hp
def At (p : Par) (N : Nat) (ρ : RM) (h : HP) (w : World) (G : Env → List AD → HP → Prop) (a' : Act) (w' : World) : Prop := ∃ ρ' e' ds' h', G e' ds' h' ∧ St p N ρ' e' ds' h' a' w' ∧ Stp ρ h.g h.nx w ρ' h'.g h'.nx w'
theorem post_nrm {x : R} {f : Env → List AD → HP → R} {r : R} (hq : x.kNrm f = r) : ∀ ex a' w', Post p N ρ h w x ex a' w' → Exit.then (At p N ρ h w fun e' ds' h' => f e' ds' h' = r) (Post p N ρ h w r) ex a' w' := fun ex a' w' hp => by
  cases ex with
  | normal => obtain ⟨ρ', e', ds', h', rfl, k2, k3⟩ := hp; exact ⟨ρ', e', ds', h', hq, k2, k3⟩
  | exit j => obtain ⟨ρ', e', ds', h', rfl, k2, k3⟩ := hp; exact ⟨ρ', e', ds', h', hq.symm, k2, k3⟩
  | ret => obtain ⟨ρ', e', ds', h', rfl, k2, k3⟩ := hp; exact ⟨ρ', e', ds', h', hq.symm, k2, k3⟩
  | goto t => exact hp
  | panic c => exact hp
  | outgrown => exact hp
theorem post_blk {x : R} {id : Nat} {r : R} (hq : x.kBlk id = r) : ∀ ex a' w', Post p N ρ h w x ex a' w' → Exit.inBlock id (Post p N ρ h w r) ex a' w' := fun ex a' w' hp => by
  cases ex with
  | normal => obtain ⟨ρ', e', ds', h', rfl, k2, k3⟩ := hp; exact ⟨ρ', e', ds', h', hq.symm, k2, k3⟩
  | exit j =>
    obtain ⟨ρ', e', ds', h', rfl, k2, k3⟩ := hp
    have hq0 : bf (Nat.beq id j) (.nrm e' ds' h') (.ext j e' ds' h') = r := hq
    show (if j = id then Post p N ρ h w r .normal a' w' else Post p N ρ h w r (.exit j) a' w')
    by_cases hj : j = id
    · subst hj
      rw [if_pos rfl]
      rw [Nat.beq_refl] at hq0
      exact ⟨ρ', e', ds', h', hq0.symm, k2, k3⟩
    · rw [if_neg hj]
      have : Nat.beq id j = false := by
        cases hb : Nat.beq id j with
        | false => rfl
        | true => exact absurd (Nat.eq_of_beq_eq_true hb).symm hj
      rw [this] at hq0
      exact ⟨ρ', e', ds', h', hq0.symm, k2, k3⟩
  | ret => obtain ⟨ρ', e', ds', h', rfl, k2, k3⟩ := hp; exact ⟨ρ', e', ds', h', hq.symm, k2, k3⟩
  | goto t => exact hp
  | panic c => exact hp
  | outgrown => exact hp

theorem roundsIn_mono {F : Fence} {n : Nat} {P : Program} {c : Code} {Q Q' : Exit → Act → World → Prop} (hQ : ∀ e a w, Q e a w → Q' e a w) : ∀ (m : Nat) (a : Act) (w : World), Code.roundsIn F n P c Q m a w → Code.roundsIn F n P c Q' m a w
  | 0, _, _, h => h
  | m + 1, a, w, h => wpIn_mono (show c.wpIn F n P (Exit.then (Code.roundsIn F n P c Q m) Q) a w from h) fun e a w hh => by
    cases e with
    | normal => exact roundsIn_mono hQ m a w hh
    | _ => exact hQ _ _ _ hh
def WPc (F : Fence) (n : Nat) (P : Program) (c : Code) (Q : Exit → Act → World → Prop) (k : Nat) (a : Act) (w : World) : Prop := match c with
  | .loop b => Code.roundsIn F n P b Q k a w
  | c => c.wpIn F n P Q a w
theorem WPc.wp {F : Fence} {n : Nat} {P : Program} {c : Code} {Q : Exit → Act → World → Prop} {k : Nat} {a : Act} {w : World} (hw : WPc F n P c Q k a w) : c.wpIn F n P Q a w := by
  cases c with
  | loop b => exact wpIn_loop_rounds k hw
  | _ => exact hw
def CodeOK (p : Par) (k N : Nat) (rd : Bool) (c : Code) (e : Env) (ds : List AD) (h : HP) (r : R) : Prop := ∀ (ρ : RM) (w : World) (a : Act) (F : Fence) (n : Nat), FW F → (rd = false → F = Fence.wide) → St p N ρ e ds h a w → WPc F n p.P c (Post p N ρ h w r) k a w
def RcOK (p : Par) (k : Nat) (rec : Cmd → R) : Prop := ∀ (N : Nat) (rd : Bool) (c : Code) (e : Env) (ds : List AD) (h : HP) (r : R), rec (.code N rd c e ds h) = r → R.bad ≠ r → CodeOK p k N rd c e ds h r

theorem cReg_inv {rd : Bool} {ops : Array Oper} {draw : Bool} {its : List It} (hi : cReg p N rd ops draw = some its) : regI p.P p.G N ops draw = some its ∧ (rd = true → ∀ o ∈ ops.toList, isDefer o = false) := by
  cases rd with
  | false => exact ⟨hi, fun h => by cases h⟩
  | true =>
    obtain ⟨h1, h2⟩ := bf_some (show bf (ops.toList.all fun o => !isDefer o) (regI p.P p.G N ops draw) none = some its from hi)
    refine ⟨h2, fun _ o ho => ?_⟩
    have := List.all_eq_true.1 h1 o ho
    simpa using this

theorem code_step (hp : ParOK p) {k : Nat} {rec : Cmd → R} (hcl : RecOK p fun x => rec (.cl x)) (hrc : RcOK p k rec)
    (hrange : ∀ (x : Operand) (ps : Array Nat) (a b : Code) (e : Env) (ds : List AD) (h : HP) (r : R), cRange p rec N x ps a b e ds h = r → R.bad ≠ r → CodeOK p (k + 1) N false (.rangeFunc x ps a b) e ds h r)
    (rd : Bool) (c : Code) (e : Env) (ds : List AD) (h : HP) (r : R) (hq : sCode p rec N rd c e ds h = r) (hne : R.bad ≠ r) : CodeOK p (k + 1) N rd c e ds h r := by
  cases c with
  | skip => exact fun ρ w a F n hF hro hst => wpIn_skip ⟨ρ, e, ds, h, hq.symm, hst, Stp.refl⟩
  | label t => exact fun ρ w a F n hF hro hst => wpIn_label ⟨ρ, e, ds, h, hq.symm, hst, Stp.refl⟩
  | ret => exact fun ρ w a F n hF hro hst => wpIn_ret ⟨ρ, e, ds, h, hq.symm, hst, Stp.refl⟩
  | exit id => exact fun ρ w a F n hF hro hst => wpIn_exit ⟨ρ, e, ds, h, hq.symm, hst, Stp.refl⟩
  | goto t => exact absurd hq hne
  | refuse s => exact absurd hq hne
  | scope b =>
    cases rd with
    | true => exact absurd hq hne
    | false =>
      have hq0 : rec (.code N false b e ds h) = r := hq
      refine fun ρ w a F n hF hro hst => ?_
      have := hro rfl
      subst this
      have h1 := (hrc N false b e ds h r hq0 hne ρ w a Fence.wide n hF hro hst).wp
      refine wpIn_wide.2 (wp_scope_straight (wpIn_wide.1 (wpIn_mono h1 fun ex a' w' hpo => ?_)))
      cases ex with
      | goto t => exact hpo
      | _ => exact hpo
  | region id ops draw =>
    have hq0 : (obR (cReg p N rd ops draw) fun l => sItems rec l e ds h) = r := hq
    obtain ⟨its, hits, hq1⟩ := obR_inv hq0 hne
    obtain ⟨h1, h2⟩ := cReg_inv hits
    refine fun ρ w a F n hF hro hst => region_sound hcl hp.mix hF h1 ?_ hq1 hne hst fun ρ' e' ds' h' a' w' k1 k2 k3 => ⟨ρ', e', ds', h', k1, k2, k3⟩
    cases rd with
    | false => exact .inl (by rw [hro rfl]; rfl)
    | true => exact .inr (h2 rfl)
  | seq x y =>
    have hq0 : (rec (.code N rd x e ds h)).kNrm (fun e ds h => rec (.code N rd y e ds h)) = r := hq
    refine fun ρ w a F n hF hro hst => wpIn_seq (wpIn_mono (hrc N rd x e ds h _ rfl (kNrm_ne hq0 hne) ρ w a F n hF hro hst).wp fun ex a' w' hpo => ?_)
    have h1 := post_nrm hq0 ex a' w' hpo
    cases ex with
    | normal =>
      obtain ⟨ρ', e', ds', h', k1, k2, k3⟩ := h1
      exact wpIn_mono (hrc N rd y e' ds' h' r k1 hne ρ' w' a' F n hF hro k2).wp (Post.trans k3)
    | _ => exact h1
  | cond x a b =>
    have hq0 : (obR (cX p.G x) fun x => obR (x e) fun v => v.kBool .bad fun t => bf t (rec (.code N rd a e ds h)) (rec (.code N rd b e ds h))) = r := hq
    obtain ⟨fx, hx, hq1⟩ := obR_inv hq0 hne
    obtain ⟨v, hv, hq2⟩ := obR_inv hq1 hne
    obtain ⟨t, rfl, hq3⟩ := AV.kBool_some hq2 hne
    refine fun ρ w a' F n hF hro hst => ?_
    have hc : a'.eval x = .bool t := opR hst.glb (fun t _ _ => hst.env _) fx _ hx hv
    cases t with
    | true => exact wpIn_cond_true hc (hrc N rd a e ds h r hq3 hne ρ w a' F n hF hro hst).wp
    | false => exact wpIn_cond_false hc (hrc N rd b e ds h r hq3 hne ρ w a' F n hF hro hst).wp
  | block id b =>
    have hq0 : (rec (.code N rd b e ds h)).kBlk id = r := hq
    exact fun ρ w a F n hF hro hst => wpIn_block (wpIn_mono (hrc N rd b e ds h _ rfl (kBlk_ne hq0 hne) ρ w a F n hF hro hst).wp (post_blk hq0))
  | loop b =>
    have hq0 : (rec (.code N rd b e ds h)).kNrm (fun e ds h => rec (.code N rd (.loop b) e ds h)) = r := hq
    refine fun ρ w a F n hF hro hst => ?_
    show b.wpIn F n p.P (Exit.then (Code.roundsIn F n p.P b (Post p N ρ h w r) k) (Post p N ρ h w r)) a w
    refine wpIn_mono (hrc N rd b e ds h _ rfl (kNrm_ne hq0 hne) ρ w a F n hF hro hst).wp fun ex a' w' hpo => ?_
    have h1 := post_nrm hq0 ex a' w' hpo
    cases ex with
    | normal =>
      obtain ⟨ρ', e', ds', h', k1, k2, k3⟩ := h1
      exact roundsIn_mono (Post.trans k3) k a' w' (hrc N rd (.loop b) e' ds' h' r k1 hne ρ' w' a' F n hF hro k2)
    | _ => exact h1
  | rangeFunc x ps a b =>
    cases rd with
    | true => exact absurd hq hne
    | false => exact hrange x ps a b e ds h r hq hne
end
end Go.Proofs.YtiebkbmnepgacaaGreatDoor.Ew
/-
  Evaluator, part 29: functions.
-/
namespace Go.Proofs.YtiebkbmnepgacaaGreatDoor.Ew
open Go Go.Proofs.YtiebkbmnepgacaaGreatDoor Go.RowKit
set_option linter.unusedVariables false

theorem kEnd_inv {x : R} {f : Env → List AD → HP → R} {r : R} (h : x.kEnd f = r) (hn : R.bad ≠ r) : ∃ e ds h, (x = .nrm e ds h ∨ x = .ret e ds h) ∧ f e ds h = r := by
  cases x with
  | nrm e ds h' => exact ⟨e, ds, h', .inl rfl, h⟩
  | ret e ds h' => exact ⟨e, ds, h', .inr rfl, h⟩
  | _ => exact absurd h hn
theorem args_spec : ∀ (l : List AV) (q : Pos) (e : Env) (c : Env → R), ∃ e', args l q e c = c e' ∧ ∀ p v, e'.get p = some v → (∃ i, p.nat = q.nat + i ∧ l[i]? = some v) ∨ e.get p = some v
  | [], q, e, c => ⟨e, rfl, fun p v h => .inr h⟩
  | x :: l, q, e, c => by
    obtain ⟨e', h1, h2⟩ := args_spec l q.succ (e.set q (some x)) c
    refine ⟨e', ?_, fun p v hv => ?_⟩
    · have e1 : args (x :: l) q e c = e.setK q (some x) fun e => q.succK fun q => args l q e c := rfl
      rw [e1, Tri.setK_eq, Pos.succK_eq]; exact h1
    · rcases h2 p v hv with ⟨i, h3, h4⟩ | h3
      · rw [Pos.nat_succ] at h3
        exact .inl ⟨i + 1, by omega, by simpa using h4⟩
      · rw [Tri.get_set] at h3
        by_cases hp : p = q
        · rw [if_pos hp] at h3
          subst hp
          exact .inl ⟨0, by simp, by simpa using h3⟩
        · rw [if_neg hp] at h3; exact .inr h3
theorem aoDfd_inv {a : AO} {f r : R} (h : a.kDfd .bad f = r) (hn : R.bad ≠ r) : a = .dfd ∧ f = r := by
  cases a <;> first | exact ⟨rfl, h⟩ | exact absurd h hn
theorem aoLoop_inv {a : AO} {f : Nat → Env → List Pos → Code → Code → Nat → Option (Option Nat) → R} {r : R} (h : a.kLoop .bad f = r) (hn : R.bad ≠ r) : ∃ N e ps x y st pend, a = .loop N e ps x y st pend ∧ f N e ps x y st pend = r := by
  cases a <;> first | exact ⟨_, _, _, _, _, _, _, rfl, h⟩ | exact absurd h hn
theorem cFn_inv {P : Program} {f : FuncId} {fi : FI} (h : cFn P f = some fi) : ∃ fn c rs, P.funcs[f]? = some fn ∧ (fn.name == "runtime.NumGoroutine") = false ∧ fn.body = some c ∧ seqO (cRes P) fn.results.toList = some rs ∧ fi = ⟨c, fn.ntmps, rs⟩ := by
  obtain ⟨fn, h1, h⟩ := ob_some (x := P.funcs[f]?) h
  obtain ⟨h2, h⟩ := bf_none h
  obtain ⟨c, h3, h⟩ := ob_some h
  obtain ⟨rs, h4, h⟩ := ob_some h
  rw [fN_eq] at h
  cases h
  exact ⟨fn, c, rs, h1, h2, h3, h4, rfl⟩
theorem run_call {P : Program} {f : FuncId} {fn : Func} {c : Code} (h1 : P.funcs[f]? = some fn) (h2 : (fn.name == "runtime.NumGoroutine") = false) (h3 : fn.body = some c) (args : Array Value) (w : World) : (callFunc f args).run P w = .ok (.enter f args) w := by
  have h2' : ¬ fn.name = "runtime.NumGoroutine" := by simpa using h2
  simp [callFunc, program, Sem.run_bind, Sem.run, Result.andThen, h1, h2', h3, Sem.run_pure]

section
variable {P : Program} {ρ : RM} {w : World}
/-- a block is turned, and forgotten -/
theorem hr_drop {g : Gm} {nx b : Pos} {c k : Nat} {o : AO} {w' : World} (hr : Hr P ρ g nx w) (hg : g b = some o) (hρ : ρ b = some (c, k)) (hro : ro o = false) (hw : W1 w w' c) : Hr P ρ (upd g b none) nx w' ∧ Stp ρ g nx w ρ (upd g b none) nx w' := by
  have sub : ∀ i o, upd g b none i = some o → i ≠ b ∧ g i = some o := fun i o h => by
    by_cases e : i = b
    · subst e; rw [upd_same] at h; cases h
    · rw [upd_ne _ _ e] at h; exact ⟨e, h⟩
  refine ⟨⟨fun i hi => ⟨(hr.dom i hi).1, ?_⟩, fun i o1 c1 k1 h1 h2 => ?_, fun i i' o1 o2 c1 k1 k2 h1 h2 h3 h4 => hr.inj i i' o1 o2 c1 k1 k2 (sub i o1 h1).2 (sub i' o2 h2).2 h3 h4⟩, Nat.le_refl _, fun _ _ => rfl, fun i hi e => upd_ne _ _ (fun e' => by subst e'; rw [hρ] at e; cases e), hw.os, hw.tape, hw.output, Nat.le_of_eq hw.size.symm, fun c' hc hu => ?_⟩
  · by_cases e : i = b
    · subst e; exact upd_same _ _ _
    · rw [upd_ne _ _ e]; exact (hr.dom i hi).2
  · obtain ⟨e, h5⟩ := sub i o1 h1
    refine (hr.obj i o1 c1 k1 h5 h2).mono (Le.refl _) (hw.other c1 fun ec => e ?_)
    subst ec
    exact hr.inj i b o1 o c1 k1 k h5 hg h2 hρ
  · have hne : c' ≠ c := fun e => by subst e; have h3 := hu b o k hg hρ; rw [hro] at h3; cases h3
    exact ⟨hw.other c' hne, fun i o1 k1 h1 h2 => hu i o1 k1 (sub i o1 h1).2 h2⟩
theorem w1_put {c : Nat} (o : Obj) : W1 w (w.putObj c o) c := ⟨rfl, rfl, rfl, by simp, fun k hk => World.putObj_heap_other hk⟩
end

section
variable {p : Par} {N : Nat}

/-- one result -/
def resF (tmps : Array Value) : ResultVar → Sem Value
  | .tmp t => pure (tmps.getD t undef)
  | .cell a t => do loadVar t (← asAddr (tmps.getD a undef))
theorem results_eq (fn : Func) (tmps : Array Value) : results fn tmps = (do let vs ← fn.results.mapM (resF tmps); pure (if h : vs.size = 1 then vs[0] else .tuple vs)) := by
  unfold results
  congr 1
/-- the results -/
theorem resOne_run {ρ : RM} {e : Env} {h : HP} {w : World} {tmps : Array Value} {rv : ResultVar} {r : Pos × Option (Nat × Bool)} {v : AV} (hc : cRes p.P rv = some r) (he : EnvR ρ e tmps) (hr : Hr p.P ρ h.g h.nx w) (hq : resOne e h r = some v) :
    ∃ x, (resF tmps rv).run p.P w = .ok x w ∧ Vr ρ v x := by
  cases rv with
  | tmp t =>
    obtain ⟨h1, h2⟩ := posK_some (c := fun q => some (q, none)) hc
    cases h2
    obtain ⟨t', c, h3, h4, h5⟩ := he _ _ (show e.get (posOf t) = some v from hq)
    have : t' = t := by omega
    subst this
    exact ⟨c, by simp [resF, Array.getD_eq_getD_getElem?, h4, Sem.run_pure], h5⟩
  | cell a t =>
    obtain ⟨n, hn, hc⟩ := ob_some (x := szOf p.P t) hc
    obtain ⟨ag, ha, hc⟩ := ob_some hc
    obtain ⟨h1, h2⟩ := posK_some hc
    cases h2
    obtain ⟨y, hy, hq1⟩ := ob_some (x := e.get (posOf a)) hq
    obtain ⟨b, o, rfl, hq2⟩ := AV.kPtr_some hq1 (by simp)
    obtain ⟨l, t', g, wr, hb, h0, hq3⟩ := rd_some (f := one ag) hq2
    obtain ⟨t'', c, h3, h4, cb, k, h5, h6⟩ := he _ _ hy
    have : t'' = a := by omega
    subst this
    subst h6
    obtain ⟨vs, g1, g2, g3⟩ := cells_at (hr_cells hr hb h5) o n h0
    obtain ⟨d, hd, hs⟩ := isAg_some ha
    have hcell : (tmps.getD t'' undef) = .pointer (some ⟨cb, o, none⟩) := by rw [Array.getD_eq_getD_getElem?, h4]; rfl
    have red : ∀ x, (loadVar t ⟨cb, o, none⟩).run p.P w = .ok x w → (resF tmps (.cell t'' t)).run p.P w = .ok x w := fun x hx => by
      show (do loadVar t (← asAddr (tmps.getD t'' undef)) : Sem Value).run p.P w = .ok x w
      rw [hcell]
      simp only [asAddr, Sem.run_bind, Sem.run_pure, Result.andThen, hx]
    rcases one_some hq3 with ⟨rfl, rfl⟩ | ⟨rfl, hl⟩
    · obtain ⟨i, hi, hi2⟩ := szOf_some hn
      haveI : Ag p.P t := ⟨d, hd, by cases d <;> simp at hs ⊢⟩
      haveI : SzN p.P t n := ⟨i, hi, hi2⟩
      exact ⟨.agg vs.toArray, red _ (run_loadVarA (P := p.P) (t := t) g1 g2), _, rfl, by simpa using g3⟩
    · rw [hl] at g3
      obtain ⟨x, r', e1, e2, e3⟩ := g3
      have hx : w.cell? ⟨cb, o, none⟩ = some x := by have := g2 0 x (by rw [e1]; rfl); simpa using this
      haveI : Sc p.P t := ⟨d, hd, by cases d <;> simp at hs ⊢⟩
      exact ⟨x, red _ (run_loadVar (P := p.P) (t := t) hx), e2⟩
theorem resAll_run {ρ : RM} {e : Env} {h : HP} {w : World} {tmps : Array Value} (he : EnvR ρ e tmps) (hr : Hr p.P ρ h.g h.nx w) : ∀ (rvs : List ResultVar) (rs : List (Pos × Option (Nat × Bool))) (c : List AV → R) (r : R), seqO (cRes p.P) rvs = some rs → resAll e h rs c = r → R.bad ≠ r →
    ∃ vs xs, c vs = r ∧ (rvs.mapM (resF tmps)).run p.P w = .ok xs w ∧ VrL ρ vs xs
  | [], rs, c, r, hs, hq, hne => by
    cases hs
    exact ⟨[], [], hq, by simp [Sem.run_pure], VrL.nil⟩
  | rv :: rvs, rs, c, r, hs, hq, hne => by
    obtain ⟨x, h1, hs⟩ := ob_some (x := cRes p.P rv) hs
    obtain ⟨rs', h2, hs⟩ := ob_some hs
    cases hs
    have hq0 : (obR (resOne e h x) fun v => resAll e h rs' fun vs => c (v :: vs)) = r := hq
    obtain ⟨v, hv, hq1⟩ := obR_inv hq0 hne
    obtain ⟨y, h3, h4⟩ := resOne_run h1 he hr hv
    obtain ⟨vs, xs, h5, h6, h7⟩ := resAll_run he hr rvs rs' (fun vs => c (v :: vs)) r h2 hq1 hne
    refine ⟨v :: vs, y :: xs, h5, ?_, VrL.cons h4 h7⟩
    rw [List.mapM_cons, Sem.run_bind, h3]
    simp only [Result.andThen, Sem.run_bind, h6, Sem.run_pure]
theorem tupOf_rel {ρ : RM} {vs : List AV} {xs : List Value} (h : VrL ρ vs xs) : Vr ρ (tupOf vs) (if h : xs.toArray.size = 1 then xs.toArray[0] else .tuple xs.toArray) := by
  cases vs with
  | nil =>
    have : xs = [] := h
    subst this
    exact ⟨#[], rfl, rfl⟩
  | cons v vs =>
    obtain ⟨x, r, rfl, h1, h2⟩ := h
    cases vs with
    | nil =>
      have : r = [] := h2
      subst this
      exact h1
    | cons v' vs =>
      obtain ⟨x', r', rfl, h3, h4⟩ := h2
      exact ⟨_, rfl, x, _, rfl, h1, x', _, rfl, h3, h4⟩

/-- what a function's end does -/
theorem leave_run (hp : ParOK p) {fn : Func} {tmps : Array Value} {Rr : Ending → World → Prop} : ∀ (ds : List AD) (D : List Deferred) (h : HP) (c : HP → R) (r : R) (ρ : RM) (w : World), leave p ds h c = r → R.bad ≠ r → DsR ρ ds D → Hr p.P ρ h.g h.nx w →
    (∀ h' ρ' w', c h' = r → Le ρ ρ' → Hr p.P ρ' h'.g h'.nx w' → Stp ρ h.g h.nx w ρ' h'.g h'.nx w' → ∃ v, (results fn tmps).run p.P w' = .ok v w' ∧ Rr (.returned v) w') → LeavesInM Fence.wide 0 p.P fn tmps Rr D .returning w
  | [], D, h, c, r, ρ, w, hq, hne, hD, hr, hk => by
    have : D = [] := hD
    subst this
    exact hk h ρ w hq (Le.refl _) hr Stp.refl
  | a :: ds, D, h, c, r, ρ, w, hq, hne, hD, hr, hk => by
    obtain ⟨d, D', rfl, h1, h2⟩ := hD
    cases a with
    | mark b =>
      have hq0 : (obR (h.get b) fun o => o.kDfd .bad (h.set b none fun h => leave p ds h c)) = r := hq
      obtain ⟨o, hb, hq1⟩ := obR_inv hq0 hne
      obtain ⟨rfl, hq2⟩ := aoDfd_inv hq1 hne
      obtain ⟨cb, k, h3, rfl⟩ := h1
      rw [HP.get_eq] at hb
      obtain ⟨h', g1, g2, g3⟩ := HP.set_spec h b none (fun h => leave p ds h c)
      rw [g1] at hq2
      have hO : w.heap[cb]? = some (.deferred (some [])) := hr.obj b _ cb k hb h3
      obtain ⟨u1, u2⟩ := hr_drop hr hb h3 rfl (w1_put (w := w) (c := cb) (.deferred none))
      have u1' : Hr p.P ρ h'.g h'.nx (w.putObj cb (.deferred none)) := by rw [g2, g3]; exact u1
      have u2' : Stp ρ h.g h.nx w ρ h'.g h'.nx (w.putObj cb (.deferred none)) := by rw [g2, g3]; exact u2
      refine ⟨by simp, .inl ⟨cb, _, rfl, run_takeDeferred hO, ?_⟩⟩
      exact leave_run hp ds D' h' c r ρ _ hq2 hne h2 u1' fun h'' ρ' w' k1 k2 k3 k4 => hk h'' ρ' w' k1 k2 k3 (u2'.trans k4)
    | call f l =>
      have hq0 : bf (p.quietD f) (bf (Nat.ble (lenK l 0) 8) (leave p ds h c) .bad) .bad = r := hq
      obtain ⟨h3, hq1'⟩ := bfR_inv hq0 hne
      obtain ⟨h5, hq1⟩ := bfR_inv hq1' hne
      obtain ⟨x1, x2, rfl, h4⟩ := h1
      have h6 : (x1 ++ x2).size ≤ 8 := by
        have h7 := Nat.le_of_ble_eq_true h5
        rw [lenK_eq] at h7
        have h8 := h4.length
        simp at h8 ⊢; omega
      obtain ⟨g1, g2⟩ := hp.qd f h3 (x1 ++ x2) w h6
      refine ⟨by simp, .inr ⟨fun h => (by cases h), .func f, x2, f, x1 ++ x2, rfl, ?_, fun _ _ => trivial, ?_⟩⟩
      · simp only [invoke]; exact g1
      · refine CallsDIn.mono g2 fun e u w' ⟨v, he, hu, hx⟩ => ?_
        subst he
        show LeavesInM Fence.wide 0 p.P fn tmps Rr D' (settle u) w'
        rw [hu]
        exact leave_run hp ds D' h c r ρ w' hq1 hne h2 (hr.ext hx) fun h'' ρ' w'' k1 k2 k3 k4 => hk h'' ρ' w'' k1 k2 k3 ((Stp.ext hx).trans k4)

theorem call_step (hp : ParOK p) {k : Nat} {rec : Cmd → R} (hrc : RcOK p k rec) {f : FuncId} {l : List AV} {h : HP} {v : AV} {h' : HP} (hq : sCall p rec f l h = .val v h') : ClOK p v h' (.fn f l h) := by
  have hne : R.bad ≠ .val v h' := by intro c; cases c
  cases hov : p.ov f with
  | some r =>
    have hq0 : (@Option.casesOn (List AV → HP → Option (AV × HP)) (fun _ => R) (p.ov f) (obR (cFn p.P f) fun fi => callFI p rec fi l h) (fun r => obR (r l h) fun x => @Prod.casesOn AV HP (fun _ => R) x .val)) = .val v h' := hq
    rw [hov] at hq0
    obtain ⟨x, hx, hq1⟩ := obR_inv (show (obR (r l h) fun x => @Prod.casesOn AV HP (fun _ => R) x .val) = .val v h' from hq0) hne
    obtain ⟨v1, h1⟩ := x
    have hq2 : R.val v1 h1 = .val v h' := hq1
    cases hq2
    exact fun ρ w args ha hr hG => ⟨hp.ov f r l h _ _ hov hx ρ w args ha hr hG, fun hno => by rw [hov] at hno; cases hno⟩
  | none =>
    have hq0 : (@Option.casesOn (List AV → HP → Option (AV × HP)) (fun _ => R) (p.ov f) (obR (cFn p.P f) fun fi => callFI p rec fi l h) (fun r => obR (r l h) fun x => @Prod.casesOn AV HP (fun _ => R) x .val)) = .val v h' := hq
    rw [hov] at hq0
    obtain ⟨fi, hfi, hq1⟩ := obR_inv (show (obR (cFn p.P f) fun fi => callFI p rec fi l h) = .val v h' from hq0) hne
    obtain ⟨fn, c, rs, h1, h2, h3, h4, rfl⟩ := cFn_inv hfi
    obtain ⟨hl, hq2⟩ := bfR_inv (show bf (Nat.ble (lenK l 0) fn.ntmps) (Ew.args l .h .leaf fun e => (rec (.code fn.ntmps false c e [] h)).kEnd fun e ds h => leave p ds h fun h => resAll e h rs fun vs => .val (tupOf vs) h) .bad = .val v h' from hq1) hne
    have hl : l.length ≤ fn.ntmps := by have := Nat.le_of_ble_eq_true hl; rw [lenK_eq] at this; omega
    obtain ⟨e0, g1, g2⟩ := args_spec l .h .leaf (fun e => (rec (.code fn.ntmps false c e [] h)).kEnd fun e ds h => leave p ds h fun h => resAll e h rs fun vs => .val (tupOf vs) h)
    rw [g1] at hq2
    have main : ∀ (ρ : RM) (w : World) (args : Array Value), VrL ρ l args.toList → Hr p.P ρ h.g h.nx w → GlR p.G ρ → Calls p.P f args w (RG (Fin p.P ρ h w v h')) := fun ρ w args ha hr hG => by
      have hsz : args.size = l.length := by have := ha.length; simpa using this
      have hst : St p fn.ntmps ρ e0 [] h { tmps := args ++ Array.replicate (fn.ntmps - args.size) undef, defers := [] } w := by
        refine ⟨by simp; omega, fun q y hy => ?_, rfl, hr, hG⟩
        rcases g2 q y hy with ⟨i, h5, h6⟩ | h5
        · obtain ⟨x, h7, h8⟩ := ha.get i h6
          have hi : i < args.size := by
            have := (List.getElem?_eq_some_iff.1 h7).1
            simpa using this
          refine ⟨i, x, by simp only [Pos.nat] at h5; omega, ?_, h8⟩
          rw [Array.getElem?_append_left hi]
          simpa using h7
        · rw [Tri.get_leaf] at h5; cases h5
      have hbad : R.bad ≠ rec (.code fn.ntmps false c e0 [] h) := fun hb => by
        rw [← hb] at hq2
        exact hne hq2
      have h5 := (hrc fn.ntmps false c e0 [] h _ rfl hbad ρ w _ Fence.wide 0 FW.wide (fun _ => rfl) hst).wp
      refine callsIn_wide.1 (callsIn_of_wp_marks (n := 0) h1 h3 trivial (wpIn_mono h5 fun ex a' w' hpo => ?_))
      have fin : ∀ ρ' e' ds' h2', (rec (.code fn.ntmps false c e0 [] h) = .nrm e' ds' h2' ∨ rec (.code fn.ntmps false c e0 [] h) = .ret e' ds' h2') → St p fn.ntmps ρ' e' ds' h2' a' w' → Stp ρ h.g h.nx w ρ' h2'.g h2'.nx w' → LeavesInM Fence.wide 0 p.P fn a'.tmps (RG (Fin p.P ρ h w v h')) a'.defers .returning w' := fun ρ' e' ds' h2' hx k2 k3 => by
        have hq3 : (leave p ds' h2' fun h => resAll e' h rs fun vs => .val (tupOf vs) h) = .val v h' := by
          rcases hx with hx | hx <;> (rw [hx] at hq2; exact hq2)
        refine leave_run hp ds' a'.defers h2' _ _ ρ' w' hq3 hne k2.dfs k2.mem fun h3' ρ3 w3 m1 m2 m3 m4 => ?_
        obtain ⟨vs, xs, n1, n2, n3⟩ := resAll_run (tmps := a'.tmps) (k2.env.mono m2) m3 fn.results.toList rs _ _ h4 m1 hne
        have n1' : R.val (tupOf vs) h3' = .val v h' := n1
        cases n1'
        refine ⟨_, ?_, _, rfl, ρ3, tupOf_rel n3, m3, k3.trans m4⟩
        rw [results_eq, Sem.run_bind, Array.mapM_eq_mapM_toList, Sem.run_map, n2]
        simp only [Result.andThen, Sem.run_pure]
      cases ex with
      | normal => obtain ⟨ρ', e', ds', h2', k1, k2, k3⟩ := hpo; exact fin ρ' e' ds' h2' (.inl k1) k2 k3
      | ret => obtain ⟨ρ', e', ds', h2', k1, k2, k3⟩ := hpo; exact fin ρ' e' ds' h2' (.inr k1) k2 k3
      | exit j =>
        obtain ⟨ρ', e', ds', h2', k1, k2, k3⟩ := hpo
        rw [k1] at hq2
        exact absurd hq2 hne
      | goto t => exact hpo.elim
      | panic c => exact hpo.elim
      | outgrown => exact hpo.elim
    exact fun ρ w args ha hr hG => ⟨.inl ⟨run_call h1 h2 h3 args w, main ρ w args ha hr hG⟩, fun _ => ⟨run_call h1 h2 h3 args w, main ρ w args ha hr hG⟩⟩
end
end Go.Proofs.YtiebkbmnepgacaaGreatDoor.Ew
/-
  Evaluator, part 30: ranges over functions; the evaluator is sound.
-/
namespace Go.Proofs.YtiebkbmnepgacaaGreatDoor.Ew
open Go Go.Proofs.YtiebkbmnepgacaaGreatDoor Go.RowKit
set_option linter.unusedVariables false

theorem slots_spec {N : Nat} {ps : Array Nat} {pps : List Pos} (h : slots N ps = some pps) : pps.length = ps.size ∧ ∀ (i : Nat) (t : Nat), ps[i]? = some t → ∃ q : Pos, pps[i]? = some q ∧ q.nat = t + 1 ∧ t < N := by
  obtain ⟨h1, h2⟩ := seqO_spec h
  refine ⟨by simpa using h1, fun i t ht => ?_⟩
  obtain ⟨q, h3, h4⟩ := h2 i t (by simpa using ht)
  obtain ⟨h5, h6⟩ := bf_some h4
  obtain ⟨h7, h8⟩ := posK_some h6
  cases h8
  exact ⟨_, h3, h7, Nat.le_of_ble_eq_true h5⟩
theorem bind_spec {ρ : RM} {N : Nat} {β : Type} (no : β) : ∀ (ps : List Nat) (pps : List Pos) (vs : List AV) (xs : List Value) (e : Env) (c : Env → β) (tmps : Array Value), ps.length = pps.length → (∀ (i t : Nat), ps[i]? = some t → ∃ q : Pos, pps[i]? = some q ∧ q.nat = t + 1 ∧ t < N) → tmps.size = N → EnvR ρ e tmps → VrL ρ vs xs →
    bind no pps vs e c = no ∨ ∃ e', bind no pps vs e c = c e' ∧ vs.length = pps.length ∧ EnvR ρ e' ((ps.zip xs).foldl (fun tmps (t, a) => tmps.setIfInBounds t a) tmps) ∧ ((ps.zip xs).foldl (fun (tmps : Array Value) (t, a) => tmps.setIfInBounds t a) tmps).size = N
  | [], pps, vs, xs, e, c, tmps, hl, hp, hs, he, hv => by
    have : pps = [] := List.eq_nil_of_length_eq_zero hl.symm
    subst this
    cases vs with
    | nil => exact .inr ⟨e, rfl, rfl, by simpa using he, by simpa using hs⟩
    | cons _ _ => exact .inl rfl
  | t :: ps, pps, vs, xs, e, c, tmps, hl, hp, hs, he, hv => by
    cases pps with
    | nil => cases hl
    | cons q pps =>
      cases vs with
      | nil => exact .inl rfl
      | cons v vs =>
        obtain ⟨x, r, rfl, h1, h2⟩ := hv
        obtain ⟨q', h3, h4, h5⟩ := hp 0 t rfl
        simp at h3
        subst h3
        have e1 : bind no (q :: pps) (v :: vs) e c = e.setK q (some v) fun e => bind no pps vs e c := rfl
        rw [e1, Tri.setK_eq]
        have he' : EnvR ρ (e.set q (some v)) (tmps.setIfInBounds t x) := fun i u hu => by
          rw [Tri.get_set] at hu
          by_cases hi : i = q
          · rw [if_pos hi] at hu
            cases hu
            subst hi
            exact ⟨t, x, h4, by simp [hs, h5], h1⟩
          · rw [if_neg hi] at hu
            obtain ⟨t', y, g1, g2, g3⟩ := he i u hu
            refine ⟨t', y, g1, ?_, g3⟩
            have : t ≠ t' := fun e => by subst e; exact hi (Pos.nat_inj (by omega))
            rw [Array.getElem?_setIfInBounds_ne this]; exact g2
        rcases bind_spec no ps pps vs r (e.set q (some v)) c (tmps.setIfInBounds t x) (by simpa using hl) (fun i t ht => hp (i + 1) t (by simpa using ht)) (by simpa using hs) he' h2 with h6 | ⟨e', h6, h7, h8, h9⟩
        · exact .inl h6
        · exact .inr ⟨e', h6, by simp [h7], by simpa using h8, by simpa using h9⟩
theorem kRnd_inv {x : R} {f : Env → HP → R} {g : Nat → HP → R} {k : HP → R} {r : R} (h : x.kRnd f g k = r) (hn : R.bad ≠ r) : (∃ e h', x = .nrm e [] h' ∧ f e h' = r) ∨ (∃ j e h', x = .ext j e [] h' ∧ g j h' = r) ∨ ∃ e h', x = .ret e [] h' ∧ k h' = r := by
  cases x with
  | nrm e ds h' =>
    cases ds with
    | nil => exact .inl ⟨e, h', rfl, h⟩
    | cons _ _ => exact absurd h hn
  | ext j e ds h' =>
    cases ds with
    | nil => exact .inr (.inl ⟨j, e, h', rfl, h⟩)
    | cons _ _ => exact absurd h hn
  | ret e ds h' =>
    cases ds with
    | nil => exact .inr (.inr ⟨e, h', rfl, h⟩)
    | cons _ _ => exact absurd h hn
  | _ => exact absurd h hn

theorem setL_run {h : HP} {q : Pos} {st : Nat} {pend : Option (Option Nat)} {c : HP → R} {r : R} (hq : setL h q st pend c = r) (hne : R.bad ≠ r) : ∃ h', c h' = r ∧ ∀ (P : Program) (ρ : RM) (w : World) (cb k : Nat), ρ q = some (cb, k) → Hr P ρ h.g h.nx w →
    ∃ r0, w.heap[cb]? = some (.loop r0) ∧ ∀ r1 : Loop, r1.params = r0.params → r1.tmps = r0.tmps → r1.assign = r0.assign → r1.body = r0.body → r1.state = stOf st → r1.pending = pend.map jump →
      Hr P ρ h'.g h'.nx (w.putObj cb (.loop r1)) ∧ Stp ρ h.g h.nx w ρ h'.g h'.nx (w.putObj cb (.loop r1)) := by
  obtain ⟨o, ho, hq1⟩ := obR_inv (x := h.get q) hq hne
  obtain ⟨N, e, ps, a, b, st0, pend0, rfl, hq2⟩ := aoLoop_inv hq1 hne
  obtain ⟨h', e1, e2, e3⟩ := HP.set_spec h q (some (.loop N e ps a b st pend)) c
  rw [e1] at hq2
  rw [HP.get_eq] at ho
  refine ⟨h', hq2, fun P ρ w cb k hρ hr => ?_⟩
  obtain ⟨r0, g1, g2⟩ := hr.obj q _ cb k ho hρ
  refine ⟨r0, g1, fun r1 p1 p2 p3 p4 p5 p6 => ?_⟩
  have hlt : cb < w.heap.size := (Array.getElem?_eq_some_iff.1 g1).1
  rw [e2, e3]
  exact ⟨hr.set (w1_put _) ho hρ ⟨r1, World.putObj_heap_same hlt, by rw [p1]; exact g2.params, by rw [p2]; exact g2.size, by rw [p3]; exact g2.assign, by rw [p4]; exact g2.body, by rw [p2]; exact g2.env, p5, p6⟩, Stp.set hr (w1_put _) ho hρ rfl⟩
theorem begL_run {h : HP} {q : Pos} {c : HP → R} {r : R} (hq : begL h q c = r) (hne : R.bad ≠ r) : ∃ h', c h' = r ∧ ∀ (P : Program) (ρ : RM) (w : World) (cb k : Nat), ρ q = some (cb, k) → Hr P ρ h.g h.nx w →
    ∃ r0, w.heap[cb]? = some (.loop r0) ∧ r0.state = .ready ∧ Hr P ρ h'.g h'.nx (w.putObj cb (.loop { r0 with state := .busy })) ∧ Stp ρ h.g h.nx w ρ h'.g h'.nx (w.putObj cb (.loop { r0 with state := .busy })) := by
  obtain ⟨o, ho, hq1⟩ := obR_inv (x := h.get q) hq hne
  obtain ⟨N, e, ps, a, b, st0, pend0, rfl, hq2⟩ := aoLoop_inv hq1 hne
  obtain ⟨h1, hq3⟩ := bfR_inv hq2 hne
  have h1 := Nat.eq_of_beq_eq_true h1
  subst h1
  obtain ⟨h', e1, e2, e3⟩ := HP.set_spec h q (some (.loop N e ps a b 1 pend0)) c
  rw [e1] at hq3
  rw [HP.get_eq] at ho
  refine ⟨h', hq3, fun P ρ w cb k hρ hr => ?_⟩
  obtain ⟨r0, g1, g2⟩ := hr.obj q _ cb k ho hρ
  have hlt : cb < w.heap.size := (Array.getElem?_eq_some_iff.1 g1).1
  refine ⟨r0, g1, g2.state, ?_⟩
  rw [e2, e3]
  exact ⟨hr.set (w1_put _) ho hρ ⟨_, World.putObj_heap_same hlt, g2.params, g2.size, g2.assign, g2.body, g2.env, rfl, g2.pending⟩, Stp.set hr (w1_put _) ho hρ rfl⟩

section
variable {p : Par} {N : Nat}

theorem St.wr {ρ : RM} {e : Env} {ds : List AD} {h h' : HP} {a : Act} {w w' : World} (hs : St p N ρ e ds h a w) (hr : Hr p.P ρ h'.g h'.nx w') : St p N ρ e ds h' a w' := ⟨hs.size, hs.env, hs.dfs, hr, hs.glb⟩

theorem yield_step {k : Nat} {rec : Cmd → R} (hrc : RcOK p k rec) {q : Pos} {l : List AV} {h : HP} {v : AV} {h' : HP} (hq : sYield rec q l h = .val v h') : ClOK p v h' (.yl q l h) := by
  have hne : R.bad ≠ .val v h' := by intro c; cases c
  intro ρ w args c kk F n hF ha hr hG hρ
  obtain ⟨o, ho, hq1⟩ := obR_inv (x := h.get q) hq hne
  obtain ⟨N, e, ps, a, b, st, pend, rfl, hq2⟩ := aoLoop_inv hq1 hne
  obtain ⟨hst, hq3⟩ := bfR_inv hq2 hne
  have hst := Nat.eq_of_beq_eq_true hst
  subst hst
  rw [HP.get_eq] at ho
  obtain ⟨r, h1, h2⟩ := hr.obj q _ c kk ho hρ
  have hlt : c < w.heap.size := (Array.getElem?_eq_some_iff.1 h1).1
  obtain ⟨s1, s2⟩ := slots_spec h2.params
  rcases bind_spec (N := N) R.bad r.params.toList ps l args.toList e _ r.tmps (by simpa using s1.symm) (fun i t ht => s2 i t (by simpa using ht)) h2.size h2.env ha with hb | ⟨e', hb, hlen, henv, hsize⟩
  · exact absurd (hb.symm.trans hq3) hne
  · rw [hb] at hq3
    have hargs : args.size = r.params.size := by have := ha.length; simp at this; omega
    have hy := run_yield (P := p.P) h1 hargs
    have hz : (r.params.zip args).foldl (fun t (p, v) => t.setIfInBounds p v) r.tmps = (r.params.toList.zip args.toList).foldl (fun t (p, v) => t.setIfInBounds p v) r.tmps := by
      rw [← Array.foldl_toList]; simp
    rw [hz] at hy
    refine ⟨r.fn, _, r.assign, r.body, hy, roundIn_of_wpIn (hF.fn _) ?_⟩
    rw [h2.assign, h2.body]
    -- the assignments
    have hneA : R.bad ≠ rec (.code N true a e' [] h) := fun hbad => by rw [← hbad] at hq3; exact hne hq3
    have stA : St p N ρ e' [] h { tmps := (r.params.toList.zip args.toList).foldl (fun t (p, v) => t.setIfInBounds p v) r.tmps, defers := [] } w := ⟨hsize, henv, rfl, hr, hG⟩
    refine wpIn_mono (hrc N true a e' [] h _ rfl hneA ρ w _ (F.inRound c) n (hF.inRound c) (fun h => by cases h) stA).wp fun ex a1 w1 hpo => ?_
    cases ex with
    | goto t => exact hpo.elim
    | panic c => exact hpo.elim
    | outgrown => exact hpo.elim
    | exit j =>
      obtain ⟨ρ1, e1, ds1, h1', k1, k2, k3⟩ := hpo
      rw [k1] at hq3
      rcases kRnd_inv hq3 hne with ⟨_, _, hx, _⟩ | ⟨_, _, _, _, hx⟩ | ⟨_, _, hx, _⟩
      · cases hx
      · exact absurd hx hne
      · cases hx
    | ret =>
      obtain ⟨ρ1, e1, ds1, h1', k1, k2, k3⟩ := hpo
      rw [k1] at hq3
      rcases kRnd_inv hq3 hne with ⟨_, _, hx, _⟩ | ⟨_, _, _, hx, _⟩ | ⟨_, _, _, hx⟩
      · cases hx
      · cases hx
      · exact absurd hx hne
    | normal =>
      obtain ⟨ρ1, e1, ds1, h1', k1, k2, k3⟩ := hpo
      rw [k1] at hq3
      rcases kRnd_inv hq3 hne with ⟨e2, h2', hx, hq4⟩ | ⟨_, _, _, hx, _⟩ | ⟨_, _, hx, _⟩
      case inr.inl => cases hx
      case inr.inr => cases hx
      cases hx
      have hρ1 : ρ1 q = some (c, kk) := (k3.le q (hr.lt hρ)).trans hρ
      obtain ⟨h3, hq5, f1⟩ := begL_run hq4 hne
      obtain ⟨r0, f2, f3, u1, u2⟩ := f1 p.P ρ1 w1 c kk hρ1 k2.mem
      refine ⟨_, run_beginRound f2 f3, ?_⟩
      have stB := k2.wr u1
      have hneB : R.bad ≠ rec (.code N true b e1 [] h3) := fun hbad => by rw [← hbad] at hq5; exact hne hq5
      refine wpIn_mono (hrc N true b e1 [] h3 _ rfl hneB ρ1 _ _ (F.inRound c) n (hF.inRound c) (fun h => by cases h) stB).wp fun ex a2 w2 hpo => ?_
      have fin : ∀ (jump : Option Code) (st : Nat) (pd : Option (Option Nat)) (b0 : Bool) (hE : HP) (ρ2 : RM), setL hE q st pd (fun h => .val (.bool b0) h) = .val v h' → jump = pd.map Ew.jump → stOf st = (if jump.isNone then .ready else .done) → b0 = jump.isNone → Hr p.P ρ2 hE.g hE.nx w2 → Stp ρ1 h3.g h3.nx (w1.putObj c (.loop { r0 with state := .busy })) ρ2 hE.g hE.nx w2 →
          ∃ x w', (Instr.endRound c jump).run p.P w2 = .ok x w' ∧ RG (Fin p.P ρ h w v h') (.returned x) w' := fun jump st pd b0 hE ρ2 hq6 hj hs hb hm hstp => by
        have hρ2 : ρ2 q = some (c, kk) := (hstp.le q (u1.lt hρ1)).trans hρ1
        obtain ⟨h4, hq7, g1⟩ := setL_run hq6 hne
        obtain ⟨r4, g2, g5⟩ := g1 p.P ρ2 w2 c kk hρ2 hm
        cases hq7
        obtain ⟨v1, v2⟩ := g5 { r4 with state := if jump.isNone then .ready else .done, pending := jump } rfl rfl rfl rfl hs.symm hj
        refine ⟨_, _, run_endRound jump g2, _, rfl, ρ2, ?_, v1, ((k3.trans u2).trans hstp).trans v2⟩
        rw [hb]; rfl
      cases ex with
      | goto t => exact hpo.elim
      | panic c => exact hpo.elim
      | outgrown => exact hpo.elim
      | normal =>
        obtain ⟨ρ2, e3, ds3, h5, m1, m2, m3⟩ := hpo
        rw [m1] at hq5
        rcases kRnd_inv hq5 hne with ⟨_, _, hx, hq6⟩ | ⟨_, _, _, hx, _⟩ | ⟨_, _, hx, _⟩
        · cases hx
          exact fin none 0 none true _ ρ2 hq6 rfl rfl rfl m2.mem m3
        · cases hx
        · cases hx
      | exit j =>
        obtain ⟨ρ2, e3, ds3, h5, m1, m2, m3⟩ := hpo
        rw [m1] at hq5
        rcases kRnd_inv hq5 hne with ⟨_, _, hx, _⟩ | ⟨_, _, _, hx, hq6⟩ | ⟨_, _, hx, _⟩
        · cases hx
        · cases hx
          exact fin (some (.exit j)) 2 (some (some j)) false _ ρ2 hq6 rfl rfl rfl m2.mem m3
        · cases hx
      | ret =>
        obtain ⟨ρ2, e3, ds3, h5, m1, m2, m3⟩ := hpo
        rw [m1] at hq5
        rcases kRnd_inv hq5 hne with ⟨_, _, hx, _⟩ | ⟨_, _, _, hx, _⟩ | ⟨_, _, hx, hq6⟩
        · cases hx
        · cases hx
        · cases hx
          exact fin (some .ret) 2 (some none) false _ ρ2 hq6 rfl rfl rfl m2.mem m3

theorem range_step {k : Nat} {rec : Cmd → R} (hcl : RecOK p fun x => rec (.cl x)) (x : Operand) (ps : Array Nat) (a b : Code) (e : Env) (ds : List AD) (h : HP) (r : R) (hq : cRange p rec N x ps a b e ds h = r) (hne : R.bad ≠ r) : CodeOK p (k + 1) N false (.rangeFunc x ps a b) e ds h r := by
  intro ρ w act F n hF hro hst
  have := hro rfl
  subst this
  obtain ⟨fx, hx, hq1⟩ := obR_inv (x := cX p.G x) hq hne
  obtain ⟨pps, hps, hq2⟩ := obR_inv hq1 hne
  obtain ⟨v0, hv0, hq3⟩ := obR_inv hq2 hne
  obtain ⟨f, l1, l2, rfl, hq4⟩ := AV.kFunc_some hq3 hne
  cases hov : p.ov f with
  | some _ =>
    rw [hov] at hq4
    exact absurd hq4 hne
  | none =>
    rw [hov] at hq4
    have hq5 : (h.new .dfd fun d h => h.new (.loop N e pps a b 0 none) fun q h => appK (.yield q :: l2) l1 fun vs => (rec (.cl (.fn f vs h))).kVal fun _ h => endRange d q e ds h) = r := hq4
    obtain ⟨h1, e1, e2, e3⟩ := HP.new_spec h .dfd (fun d h => h.new (.loop N e pps a b 0 none) fun q h => appK (.yield q :: l2) l1 fun vs => (rec (.cl (.fn f vs h))).kVal fun _ h => endRange d q e ds h)
    rw [e1] at hq5
    obtain ⟨h2, e4, e5, e6⟩ := HP.new_spec h1 (.loop N e pps a b 0 none) (fun q h2 => appK (.yield q :: l2) l1 fun vs => (rec (.cl (.fn f vs h2))).kVal fun _ h3 => endRange h.nx q e ds h3)
    rw [e4, appK_eq] at hq5
    obtain ⟨v3, h3, hv3, hq6⟩ := kVal_inv hq5 hne
    obtain ⟨x1, x2, g1, g2, g3⟩ : Vr ρ (.func f l1 l2) (act.eval x) := opR hst.glb (fun t _ _ => hst.env _) fx _ hx hv0
    -- the two blocks
    obtain ⟨rc, hrec⟩ : ∃ rc : FuncId → Loop, rc = fun fn => { state := .ready, pending := none, fn, tmps := act.tmps, params := ps, assign := a, body := b, defers := w.heap.size } := ⟨_, rfl⟩
    have hw1 : ∀ fn, Ext (w.alloc (.deferred (some []))) ((w.alloc (.deferred (some []))).alloc (.loop (rc fn))) := fun fn => Ext.alloc _ _
    obtain ⟨n1, n2, n3⟩ := hr_new (k := 0) (w' := w.alloc (.deferred (some []))) hst.mem e2 e3 (Ext.alloc _ _) (fun ρ' _ => World.alloc_heap_new w _)
    refine wpIn_rangeFunc fun fn _ => ?_
    have hL : ((w.alloc (.deferred (some []))).alloc (.loop (rc fn))).heap[(w.alloc (.deferred (some []))).heap.size]? = some (.loop (rc fn)) := World.alloc_heap_new _ _
    obtain ⟨m1, m2, m3⟩ := hr_new (k := 0) (w' := (w.alloc (.deferred (some []))).alloc (.loop (rc fn))) n1 e5 e6 (hw1 fn) (fun ρ' hle => ⟨rc fn, hL, by rw [hrec]; exact hps, by rw [hrec]; exact hst.size, by rw [hrec], by rw [hrec], by rw [hrec]; exact (hst.env.mono n3).mono hle, by rw [hrec]; rfl, by rw [hrec]; rfl⟩)
    have hsz : (w.alloc (.deferred (some []))).heap.size = w.heap.size + 1 := World.size_alloc w _
    obtain ⟨ρ2, hρ2⟩ : ∃ ρ2, upd (upd ρ h.nx (some (w.heap.size, 0))) h1.nx (some ((w.alloc (.deferred (some []))).heap.size, 0)) = ρ2 := ⟨_, rfl⟩
    rw [hρ2] at m1 m2 m3
    have hq2' : ρ2 h1.nx = some (w.heap.size + 1, 0) := by rw [← hρ2, upd_same, hsz]
    have hd2 : ρ2 h.nx = some (w.heap.size, 0) := by
      rw [← hρ2, upd_ne _ _ (fun c => by rw [e3] at c; have := congrArg Pos.nat c; rw [Pos.nat_succ] at this; omega), upd_same]
    have hargs : VrL ρ2 (l1 ++ (.yield h1.nx :: l2)) (x1 ++ #[Value.func (.yield (w.heap.size + 1)) #[] #[]] ++ x2).toList := by
      simp only [Array.toList_append, List.append_assoc]
      exact (VrL.mono (n3.trans m3) _ _ g2).app (VrL.cons ⟨_, _, hq2', rfl⟩ (VrL.mono (n3.trans m3) _ _ g3))
    obtain ⟨c1, c2⟩ := (hcl _ _ _ hv3 ρ2 _ _ hargs m1 (hst.glb.mono (n3.trans m3))).2 hov
    refine ⟨w.heap.size + 1, [mark w.heap.size], (w.alloc (.deferred (some []))).alloc (.loop (rc fn)), { target := .fn (.func f) x2, args := x1 ++ #[.func (.yield (w.heap.size + 1)) #[] #[]] }, (w.alloc (.deferred (some []))).alloc (.loop (rc fn)), f,
      x1 ++ #[Value.func (.yield (w.heap.size + 1)) #[] #[]] ++ x2, (w.alloc (.deferred (some []))).alloc (.loop (rc fn)), ?_, ?_, fun _ _ => trivial, ?_, FW.wide.hn, ?_⟩
    · rw [hrec]; exact run_enterLoop_outer _ _ _ _ _
    · simp only [resolve, g1]
      simp [go_sem, Deferred.ofValue]
    · simp only [invoke]; exact c1
    · refine CallsIn.mono (callsIn_FW FW.wide c2) ?_
      rintro en w3 ⟨vv, rfl, ρ3, p1, p2, p3⟩
      have hle3 := p3.rm m1
      have hq3' := hle3 _ _ hq2'
      have hd3 := hle3 _ _ hd2
      obtain ⟨o, ho, hq7⟩ := obR_inv (x := h3.get h1.nx) hq6 hne
      obtain ⟨N', e', ps', a', b', st, pend, rfl, hq8⟩ := aoLoop_inv hq7 hne
      rw [HP.get_eq] at ho
      obtain ⟨r3, hh3, hl3⟩ := p2.obj _ _ _ _ ho hq3'
      have fin : ∀ (h4 : HP), h4.g = upd h3.g h1.nx none → h4.nx = h3.nx → Hr p.P ρ3 h4.g h4.nx (w3.putObj (w.heap.size + 1) (.loop { r3 with state := .exhausted })) ∧ Stp ρ h.g h.nx w ρ3 h4.g h4.nx (w3.putObj (w.heap.size + 1) (.loop { r3 with state := .exhausted })) := fun h4 q1 q2 => by
        obtain ⟨u1, u2⟩ := hr_drop p2 ho hq3' rfl (w1_put (w := w3) (c := w.heap.size + 1) (.loop { r3 with state := .exhausted }))
        rw [q1, q2]
        exact ⟨u1, ((n2.trans m2).trans p3).trans u2⟩
      have stF : ∀ (h4 : HP), Hr p.P ρ3 h4.g h4.nx (w3.putObj (w.heap.size + 1) (.loop { r3 with state := .exhausted })) → St p N ρ3 e (.mark h.nx :: ds) h4 { act with defers := [mark w.heap.size] ++ act.defers } (w3.putObj (w.heap.size + 1) (.loop { r3 with state := .exhausted })) := fun h4 hm =>
        ⟨hst.size, (hst.env.mono (n3.trans m3)).mono hle3, ⟨_, _, rfl, ⟨_, _, hd3, rfl⟩, (hst.dfs.mono (n3.trans m3)).mono hle3⟩, hm, (hst.glb.mono (n3.trans m3)).mono hle3⟩
      cases pend with
      | none =>
        obtain ⟨hs0, hq9⟩ := bfR_inv (show bf (Nat.beq st 0) (h3.set h1.nx none fun h4 => .nrm e (.mark h.nx :: ds) h4) .bad = r from hq8) hne
        have hs0 := Nat.eq_of_beq_eq_true hs0
        subst hs0
        obtain ⟨h4, q0, q1, q2⟩ := HP.set_spec h3 h1.nx none (fun h4 => R.nrm e (.mark h.nx :: ds) h4)
        rw [q0] at hq9
        have hend := (run_endLoop (P := p.P) hh3 (by rw [hl3.state]; intro c; cases c)).trans (congrArg (fun x => Result.ok x (w3.putObj (w.heap.size + 1) (.loop { r3 with state := .exhausted }))) hl3.pending)
        exact ⟨none, _, hend, ρ3, e, _, h4, hq9.symm, stF h4 (fin h4 q1 q2).1, (fin h4 q1 q2).2⟩
      | some j =>
        obtain ⟨hs0, hq9⟩ := bfR_inv (show bf (Nat.beq st 2) (h3.set h1.nx none fun h4 => @Option.casesOn Nat (fun _ => R) j (.ret e (.mark h.nx :: ds) h4) fun id => .ext id e (.mark h.nx :: ds) h4) .bad = r from hq8) hne
        have hs0 := Nat.eq_of_beq_eq_true hs0
        subst hs0
        obtain ⟨h4, q0, q1, q2⟩ := HP.set_spec h3 h1.nx none (fun h4 => @Option.casesOn Nat (fun _ => R) j (.ret e (.mark h.nx :: ds) h4) fun id => .ext id e (.mark h.nx :: ds) h4)
        rw [q0] at hq9
        have hend := (run_endLoop (P := p.P) hh3 (by rw [hl3.state]; intro c; cases c)).trans (congrArg (fun x => Result.ok x (w3.putObj (w.heap.size + 1) (.loop { r3 with state := .exhausted }))) hl3.pending)
        cases j with
        | none => exact ⟨some .ret, _, hend, wpIn_ret ⟨ρ3, e, _, h4, hq9.symm, stF h4 (fin h4 q1 q2).1, (fin h4 q1 q2).2⟩⟩
        | some id => exact ⟨some (.exit id), _, hend, wpIn_exit ⟨ρ3, e, _, h4, hq9.symm, stF h4 (fin h4 q1 q2).1, (fin h4 q1 q2).2⟩⟩

/-- **The evaluator is sound.** -/
theorem ev_sound (hp : ParOK p) : ∀ n, (RecOK p fun x => ev p n (.cl x)) ∧ RcOK p n (ev p n)
  | 0 => ⟨fun c v h' hq => (by cases hq), fun N rd c e ds h r hq hne => absurd hq hne⟩
  | n + 1 => by
    obtain ⟨ih1, ih2⟩ := ev_sound hp n
    refine ⟨fun c v h' hq => ?_, fun N rd c e ds h r hq hne => code_step hp ih1 ih2 (fun x ps a b e ds h r hq hne => range_step ih1 x ps a b e ds h r hq hne) rd c e ds h r hq hne⟩
    cases c with
    | fn f l h => exact call_step hp ih2 hq
    | yl q l h => exact yield_step ih2 hq
end
end Go.Proofs.YtiebkbmnepgacaaGreatDoor.Ew
/-
  Evaluator, part 31: a call that needs no memory of what was there.
-/
namespace Go.Proofs.YtiebkbmnepgacaaGreatDoor.Ew
open Go Go.Proofs.YtiebkbmnepgacaaGreatDoor Go.RowKit
set_option linter.unusedVariables false

theorem hr_empty (P : Program) (w : World) : Hr P (fun _ => none) (HP.g ⟨.leaf, .h⟩) Pos.h w := by
  have hg : ∀ b, HP.g ⟨.leaf, .h⟩ b = none := fun b => Tri.get_leaf b
  exact ⟨fun b _ => ⟨rfl, hg b⟩, fun b o c k h => (by rw [hg] at h; cases h), fun b b' o o' c k k' h => (by rw [hg] at h; cases h)⟩
/-- nothing that is written was there before -/
theorem Stp.ext_of {ρ ρ' : RM} {g g' : Gm} {nx nx' : Pos} {w w' : World} (h : Stp ρ g nx w ρ' g' nx' w') (hu : ∀ c, Unrep ρ g c) : Ext w w' := ⟨h.os, h.tape, h.output, h.size, fun c hc => (h.frame c hc (hu c)).1⟩
theorem ev_calls {p : Par} (hp : ParOK p) (hG : p.G = 0) {n : Nat} {f : FuncId} {vs : List AV} {v : AV} {h' : HP} (hv : ev p n (.cl (.fn f vs ⟨.leaf, .h⟩)) = .val v h') (hov : p.ov f = none) {args : Array Value} (ha : VrL (fun _ => none) vs args.toList) (w : World) :
    (callFunc f args).run p.P w = .ok (.enter f args) w ∧ Calls p.P f args w (RG fun x w' => (∃ ρ', Vr ρ' v x) ∧ Ext w w') := by
  obtain ⟨h1, h2⟩ := ((ev_sound hp n).1 _ _ _ hv (fun _ => none) w args ha (hr_empty p.P w) (fun g hg => by rw [hG] at hg; omega)).2 hov
  refine ⟨h1, Calls.mono' h2 fun e w' ⟨x, he, ρ', h3, h4, h5⟩ => ⟨x, he, ⟨ρ', h3⟩, h5.ext_of fun c b o k h6 => ?_⟩⟩
  rw [show HP.g ⟨.leaf, .h⟩ b = none from Tri.get_leaf b] at h6; cases h6
end Go.Proofs.YtiebkbmnepgacaaGreatDoor.Ew
/-
  Evaluator, part 32: a call that was run once, as a rule.
-/
namespace Go.Proofs.YtiebkbmnepgacaaGreatDoor.Ew
open Go Go.Proofs.YtiebkbmnepgacaaGreatDoor Go.RowKit
set_option linter.unusedVariables false

/-- blocks, by their numbers -/
noncomputable def finG (l : List (Nat × AO)) (b : Pos) : Option AO := l.foldr (fun p acc => if b = posOf p.1 then some p.2 else acc) none
noncomputable def layT (l : List (Nat × AO)) (t : Tri AO) : Tri AO := l.foldr (fun p t => t.set (posOf p.1) (some p.2)) t
theorem layT_get (l : List (Nat × AO)) (t : Tri AO) (b : Pos) : (layT l t).get b = (finG l b).or (t.get b) := by
  induction l with
  | nil => rfl
  | cons p l ih =>
    show Tri.get b ((layT l t).set (posOf p.1) (some p.2)) = _
    rw [Tri.get_set, ih]
    by_cases h : b = posOf p.1
    · rw [if_pos h]; simp [finG, h]
    · rw [if_neg h]; simp [finG, h]
theorem finG_some {l : List (Nat × AO)} {b : Pos} {o : AO} (h : finG l b = some o) : ∃ q ∈ l, b = posOf q.1 ∧ q.2 = o := by
  induction l with
  | nil => cases h
  | cons p l ih =>
    by_cases e : b = posOf p.1
    · simp [finG, e] at h
      exact ⟨p, List.mem_cons_self, e, h⟩
    · simp only [finG, List.foldr_cons, if_neg e] at h
      obtain ⟨q, h1, h2⟩ := ih h
      exact ⟨q, List.mem_cons_of_mem _ h1, h2⟩
noncomputable def heapOf (l : List (Nat × AO)) (nx : Nat) : HP := ⟨layT l .leaf, posOf nx⟩
theorem heapOf_g (l : List (Nat × AO)) (nx : Nat) (b : Pos) : (heapOf l nx).g b = finG l b := by
  show (layT l .leaf).get b = _
  rw [layT_get, Tri.get_leaf]; cases finG l b <;> rfl

/-- blocks alike, but for leave to write -/
noncomputable def eqOp (a b : Option Nat) : Bool := match a, b with
  | none, none => true
  | some m, some n => Nat.beq m n
  | _, _ => false
noncomputable def eqO (x y : AO) : Bool := match x, y with
  | .cells l t g _, .cells l' t' g' _ => eqAs (eqA 50) l l' && (Nat.beq t t' && eqOp g g')
  | .map es, .map es' => eqAs (eqA 50) (es.map (·.1)) (es'.map (·.1)) && eqAs (eqA 50) (es.map (·.2)) (es'.map (·.2))
  | _, _ => false
theorem eqOp_inj : ∀ {a b : Option Nat}, eqOp a b = true → a = b
  | none, none, _ => rfl
  | some m, some n, h => congrArg some (Nat.eq_of_beq_eq_true h)
  | none, some _, h => by cases h
  | some _, none, h => by cases h
theorem eqO_or {P : Program} {ρ : RM} {w : World} {c k : Nat} {x y : AO} (h : eqO x y = true) (hro : ro y = true ∨ ro x = false) (hx : Or P ρ w c k x) : Or P ρ w c k y := by
  cases x <;> cases y <;> simp only [eqO, Bool.and_eq_true] at h <;> try (cases h; done)
  · obtain ⟨h1, h2, h3⟩ := h
    have e1 := eqAs_inj (eqA_inj 50) h1
    have e2 := Nat.eq_of_beq_eq_true h2
    have e3 := eqOp_inj h3
    subst e1; subst e2; subst e3
    obtain ⟨t', h4, h5⟩ := hx
    refine ⟨t', fun hw => h4 ?_, h5⟩
    subst hw
    rcases hro with hro | hro
    · cases hro
    · simpa [ro] using hro
  · obtain ⟨h1, h2⟩ := h
    obtain ⟨ents, clk, g1, g2, g3⟩ := hx
    have e1 := eqAs_inj (eqA_inj 50) h1
    have e2 := eqAs_inj (eqA_inj 50) h2
    rw [e1] at g2
    rw [e2] at g3
    exact ⟨ents, clk, g1, g2, g3⟩
/-- blocks alike that may be written, both of them -/
noncomputable def eqW (x y : AO) : Bool := match x, y with
  | .cells _ _ _ true, .cells _ _ _ true => eqO x y
  | .map _, .map _ => eqO x y
  | _, _ => false
theorem eqW_ro {x y : AO} (h : eqW x y = true) : ro x = false ∧ ro y = false ∧ eqO x y = true := by
  unfold eqW at h
  split at h
  · exact ⟨rfl, rfl, h⟩
  · exact ⟨rfl, rfl, h⟩
  · cases h
noncomputable def getIs (h : HP) (f : AO → AO → Bool) (q : Nat × AO) : Bool := match h.get (posOf q.1) with
  | some o => f o q.2
  | none => false
theorem getIs_inv {h : HP} {f : AO → AO → Bool} {q : Nat × AO} (hq : getIs h f q = true) : ∃ o, h.g (posOf q.1) = some o ∧ f o q.2 = true := by
  unfold getIs at hq
  rw [HP.get_eq] at hq
  split at hq
  · rename_i o ho; exact ⟨o, ho, hq⟩
  · cases hq
/-- what a run came to -/
noncomputable def chk (v : AV) (fin : List (Nat × AO)) (nx : Nat) : R → Bool
  | .val v' h => eqA 50 v v' && (Pos.eqb h.nx (posOf nx) && fin.all (getIs h eqW))
  | _ => false

/-- a call that was run once, on blocks that it only reads -/
structure Ran (p : Par) where
  f : FuncId
  vs : List AV
  ini : List (Nat × AO)
  nx0 : Nat
  v : AV
  fin : List (Nat × AO)
  nx1 : Nat
  n : Nat
  run : chk v fin nx1 (ev p n (.cl (.fn f vs (heapOf ini nx0)))) = true
  hini : (ini.all fun q => ro q.2 && Nat.blt q.1 nx0) = true
  hfin : (fin.all fun q => Nat.ble nx0 q.1 && Nat.blt q.1 nx1) = true
  hnx : (Nat.ble nx0 nx1 && Nat.ble nx1 60000) = true
noncomputable def Ran.ov {p : Par} (r : Ran p) (h : HP) : Option (AV × HP) := bf (Pos.eqb h.nx (posOf r.nx0) && r.ini.all (getIs h eqO)) (some (r.v, ⟨layT r.fin h.tri, posOf r.nx1⟩)) none
theorem Ran.ok {p : Par} (hp : ParOK p) (r : Ran p) {h h' : HP} {v : AV} (hq : r.ov h = some (v, h')) {ρ : RM} {w : World} {args : Array Value} (ha : VrL ρ r.vs args.toList) (hr : Hr p.P ρ h.g h.nx w) (hG : GlR p.G ρ) : Res p.P r.f args w (Fin p.P ρ h w v h') := by
  obtain ⟨hc, hq1⟩ := bf_some hq
  cases hq1
  simp only [Bool.and_eq_true] at hc
  obtain ⟨hnx0, hin⟩ := hc
  have hnx0 := Pos.eqb_eq.1 hnx0
  have hnn := r.hnx
  simp only [Bool.and_eq_true] at hnn
  have n1 := Nat.le_of_ble_eq_true hnn.1
  have n2 := Nat.le_of_ble_eq_true hnn.2
  have p0 : (posOf r.nx0).nat = r.nx0 + 1 := posOf_nat _ (by omega)
  have p1 : (posOf r.nx1).nat = r.nx1 + 1 := posOf_nat _ n2
  have ini : ∀ q ∈ r.ini, ro q.2 = true ∧ q.1 < r.nx0 ∧ ∃ o, h.g (posOf q.1) = some o ∧ eqO o q.2 = true := fun q hq => by
    have h1 := List.all_eq_true.1 r.hini q hq
    simp only [Bool.and_eq_true] at h1
    exact ⟨h1.1, Nat.le_of_ble_eq_true h1.2, getIs_inv (List.all_eq_true.1 hin q hq)⟩
  have fin : ∀ q ∈ r.fin, r.nx0 ≤ q.1 ∧ q.1 < r.nx1 := fun q hq => by
    have h1 := List.all_eq_true.1 r.hfin q hq
    simp only [Bool.and_eq_true] at h1
    exact ⟨Nat.le_of_ble_eq_true h1.1, Nat.le_of_ble_eq_true h1.2⟩
  -- the run
  obtain ⟨h1, hev, hnx1, hfin⟩ : ∃ h1, ev p r.n (.cl (.fn r.f r.vs (heapOf r.ini r.nx0))) = .val r.v h1 ∧ h1.nx = posOf r.nx1 ∧ ∀ q ∈ r.fin, ∃ o, h1.g (posOf q.1) = some o ∧ eqW o q.2 = true := by
    have hrun := r.run
    unfold chk at hrun
    split at hrun
    · rename_i v' h1 he
      simp only [Bool.and_eq_true] at hrun
      rw [eqA_inj 50 _ _ hrun.1]
      exact ⟨h1, he, Pos.eqb_eq.1 hrun.2.1, fun q hq => getIs_inv (List.all_eq_true.1 hrun.2.2 q hq)⟩
    · cases hrun
  have hr0 : Hr p.P ρ (heapOf r.ini r.nx0).g (heapOf r.ini r.nx0).nx w := by
    refine ⟨fun b hb => ?_, fun b o c k g1 g2 => ?_, fun b b' o o' c k k' g1 g2 g3 g4 => ?_⟩
    · have hb' : (posOf r.nx0).nat ≤ b.nat := hb
      refine ⟨(hr.dom b (by rw [hnx0]; exact hb')).1, ?_⟩
      rw [heapOf_g]
      cases hg : finG r.ini b with
      | none => rfl
      | some o =>
        obtain ⟨q, h2, h3, _⟩ := finG_some hg
        have h4 := (ini q h2).2.1
        have h5 : (posOf q.1).nat = q.1 + 1 := posOf_nat _ (by omega)
        rw [h3] at hb'
        omega
    · rw [heapOf_g] at g1
      obtain ⟨q, h2, h3, h4⟩ := finG_some g1
      obtain ⟨_, _, o0, h5, h6⟩ := ini q h2
      subst h3; subst h4
      exact eqO_or h6 (.inl (ini q h2).1) (hr.obj _ _ c k h5 g2)
    · rw [heapOf_g] at g1 g2
      obtain ⟨q, h2, h3, h4⟩ := finG_some g1
      obtain ⟨q', h2', h3', h4'⟩ := finG_some g2
      obtain ⟨_, _, o0, h5, _⟩ := ini q h2
      obtain ⟨_, _, o0', h5', _⟩ := ini q' h2'
      subst h3; subst h3'
      exact hr.inj _ _ _ _ c k k' h5 h5' g3 g4
  refine ((ev_sound hp r.n).1 _ _ _ hev ρ w args ha hr0 hG).1.mono fun x w' ⟨ρ', f1, f2, f3⟩ => ⟨ρ', f1, ?_⟩
  have hle := f3.rm hr0
  have unr : ∀ c, Unrep ρ (heapOf r.ini r.nx0).g c := fun c b o k g1 _ => by
    rw [heapOf_g] at g1
    obtain ⟨q, h2, h3, h4⟩ := finG_some g1
    rw [← h4]; exact (ini q h2).1
  have hx : Ext w w' := f3.ext_of unr
  have hg' : ∀ b, HP.g ⟨layT r.fin h.tri, posOf r.nx1⟩ b = (finG r.fin b).or (h.g b) := fun b => layT_get r.fin h.tri b
  have hlt : ∀ {b o}, h.g b = some o → b.nat < (posOf r.nx0).nat := fun {b o} hb => by rw [← hnx0]; exact nx_lt hr hb
  have old : ∀ {b o}, finG r.fin b = none → HP.g ⟨layT r.fin h.tri, posOf r.nx1⟩ b = some o → h.g b = some o := fun {b o} h2 h3 => by rw [hg', h2] at h3; exact h3
  have new : ∀ {b o o'}, finG r.fin b = some o' → HP.g ⟨layT r.fin h.tri, posOf r.nx1⟩ b = some o → o' = o := fun {b o o'} h2 h3 => by
    rw [hg', h2] at h3; exact Option.some.inj h3
  have sameρ : ∀ {b o}, h.g b = some o → ρ' b = ρ b := fun {b o} hb => f3.le b (hlt hb)
  refine ⟨⟨fun b hb => ?_, fun b o c k g1 g2 => ?_, fun b b' o o' c k k' g1 g2 g3 g4 => ?_⟩, ⟨?_, fun b hb => ?_, fun b hb hρ => ?_, f3.os, f3.tape, f3.output, f3.size, fun c hc hu => ⟨(f3.frame c hc (unr c)).1, fun b o k g1 g2 => ?_⟩⟩⟩
  · have hb' : (posOf r.nx1).nat ≤ b.nat := hb
    refine ⟨(f2.dom b (by rw [hnx1]; exact hb')).1, ?_⟩
    rw [hg']
    cases hg : finG r.fin b with
    | some o =>
      obtain ⟨q, h2, h3, _⟩ := finG_some hg
      have h4 := (fin q h2).2
      have h5 : (posOf q.1).nat = q.1 + 1 := posOf_nat _ (by omega)
      rw [h3] at hb'
      omega
    | none => exact (hr.dom b (by rw [hnx0]; omega)).2
  · cases hg : finG r.fin b with
    | some o0 =>
      have := new hg g1
      subst this
      obtain ⟨q, h2, h3, h4⟩ := finG_some hg
      obtain ⟨o1, h5, h6⟩ := hfin q h2
      subst h3; subst h4
      exact eqO_or (eqW_ro h6).2.2 (.inr (eqW_ro h6).1) (f2.obj _ _ c k h5 g2)
    | none =>
      have hb := old hg g1
      rw [sameρ hb] at g2
      have hO := hr.obj b o c k hb g2
      exact hO.mono hle (Below.block hx c hO.lt)
  · have mix : ∀ {b b' : Pos} {o' : AO} {c k k' : Nat} {q : AO}, finG r.fin b = some q → finG r.fin b' = none → HP.g ⟨layT r.fin h.tri, posOf r.nx1⟩ b' = some o' → ρ' b = some (c, k) → ρ' b' = some (c, k') → False := fun {b b' o' c k k' q} hg hg2 g2 g3 g4 => by
      have hb := old hg2 g2
      rw [sameρ hb] at g4
      have hO := hr.obj b' _ c k' hb g4
      obtain ⟨q, h2, h3, h4⟩ := finG_some hg
      obtain ⟨o1, h5, h6⟩ := hfin q h2
      subst h3
      have := (f3.frame c hO.lt (unr c)).2 _ _ _ h5 g3
      rw [(eqW_ro h6).1] at this; cases this
    cases hg : finG r.fin b with
    | some q =>
      cases hg2 : finG r.fin b' with
      | some q' =>
        obtain ⟨q, h2, h3, h4⟩ := finG_some hg
        obtain ⟨o1, h5, h6⟩ := hfin q h2
        obtain ⟨q', h2', h3', h4'⟩ := finG_some hg2
        obtain ⟨o1', h5', h6'⟩ := hfin q' h2'
        subst h3; subst h3'
        exact f2.inj _ _ _ _ c k k' h5 h5' g3 g4
      | none => exact (mix hg hg2 g2 g3 g4).elim
    | none =>
      cases hg2 : finG r.fin b' with
      | some q' => exact (mix hg2 hg g1 g4 g3).elim
      | none =>
        have hb := old hg g1
        have hb' := old hg2 g2
        rw [sameρ hb] at g3
        rw [sameρ hb'] at g4
        exact hr.inj b b' o o' c k k' hb hb' g3 g4
  · rw [hnx0]
    show (posOf r.nx0).nat ≤ (posOf r.nx1).nat
    omega
  · exact f3.le b (by rw [hnx0] at hb; exact hb)
  · rw [hg']
    cases hg : finG r.fin b with
    | some o =>
      obtain ⟨q, h2, h3, _⟩ := finG_some hg
      have h4 := (fin q h2)
      have h5 : (posOf q.1).nat = q.1 + 1 := posOf_nat _ (by omega)
      rw [h3, hnx0] at hb
      omega
    | none => rfl
  · cases hg : finG r.fin b with
    | some o0 =>
      have := new hg g1
      subst this
      obtain ⟨q, h2, h3, h4⟩ := finG_some hg
      obtain ⟨o1, h5, h6⟩ := hfin q h2
      subst h3
      have := (f3.frame c hc (unr c)).2 _ _ _ h5 g2
      rw [(eqW_ro h6).1] at this; cases this
    | none =>
      have hb := old hg g1
      rw [sameρ hb] at g2
      exact hu b o k hb g2
end Go.Proofs.YtiebkbmnepgacaaGreatDoor.Ew
