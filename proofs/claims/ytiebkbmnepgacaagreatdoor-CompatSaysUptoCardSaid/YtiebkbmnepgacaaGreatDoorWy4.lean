import Derived.Test.YtiebkbmnepgacaaGreatDoorWy3
import Derived.Deep.Upon
/-
  Walk of the law CompatSays.
-/
namespace Go.Proofs.YtiebkbmnepgacaaGreatDoor
open Go.RowKit Go.Deep
set_option linter.unusedVariables false
set_option maxRecDepth 100000

section
variable {P : Program} {F : Fence} {n N : Nat} {D : List Deferred} {l : List Oper} {m : Md} {K : Act → World → Prop} {L : List (Nat × Value)} {w : World}
variable {t u t' : TypeId} {pos : String} {af : Array Edge} {g : Option (Nat × Bool)} {dst : Option Tmp} {x y : Operand} {i : Nat} {rest : List (Nat × Bool)}
/-- append(nil, ys...) where ys has no element -/
theorem PL.appNone {e : TypeId} {inf : TypeInfo} {pa : Option Addr} {pc : Nat} (h1 : P.underlying t = some (.slice e)) (h2 : P.info? e = some inf) (hF : FW F)
    (ho : l[i]? = some ⟨dst, .call ⟨.builtin .append, #[x, y], #[t, t]⟩, t', pos, af, g⟩) (hw : wantL l L ⟨dst, .call ⟨.builtin .append, #[x, y], #[t, t]⟩, t', pos, af, g⟩ = some true)
    (hx : ev L x = some (.slice none 0 0)) (hy : ev L y = some (.slice pa 0 pc)) (hin : inT N dst = true) (hE : m.E w w)
    (h : PL P F n N D l m K rest (putL dst (.slice none 0 0) L) w) : PL P F n N D l m K ((i, false) :: rest) L w := by
  refine PL.val (v := .slice none 0 0) (w' := w) ho hw (fun _ e => by cases e) hF hin (fun a ha => ?_) hE h
  have e1 := ha.eval hx; have e2 := ha.eval hy
  have hs : Src P inf.size t (.slice pa 0 pc) 0 [] w := by
    cases pa with
    | none => exact Src.ofNil w h1 pc
    | some a => exact Src.ofSlice w h1 a 0 pc [] (by simp) (fun j u hj => by simp at hj) (fun u hu => by cases hu)
  have hr := run_append_nothing w t t t' e inf h1 h2 none 0 0 (Nat.le_refl _) _ hs
  simp only [execOp, resolve, List.map_toArray, List.map_cons, List.map_nil, e1, e2, Sem.run_bind, Sem.run_pure, Result.andThen, invoke, builtin]
  simp only [hr]
end
theorem TabOk.ext {w w' : World} (h : TabOk w) (hx : Ext w w') : TabOk w' := by
  unfold TabOk Lib.TabIs at h ⊢
  unfold World.var? at h ⊢
  cases hg : Tryz.prog.globalNamed "internal/strconv.uint64pow10" with
  | none => rw [hg] at h; cases h
  | some g =>
    rw [hg] at h
    simp only [Option.bind_some] at h ⊢
    cases hq : w.heap[g]? with
    | none => rw [hq] at h; cases h
    | some o => rw [hq] at h; rw [hx.heap hq]; exact h
abbrev BksAt (w : World) (a : Option Addr) (l : List Bk) : Prop := Elems w a 4 bkC l
theorem says_w (a : Option Addr) (c : Nat) (l : List Bk) (w : World) (hl : Laid w) (ht : TabOk w) (h : BksAt w a l) (hok : ∀ b ∈ l, BkOk w b) (hlen : l.length ≤ 1048576) :
    Rt Tryz.prog 4 [.slice a l.length c] w fun v _ => v = .bool true := by
  refine Rt.of Tryz.func4 rfl Tryz.ntmps4 (by rfl) ?_
  refine CD.rs FW.wide rfl ?_
  refine PL.q rfl rfl (OQ.assign rfl) rfl ?_
  refine PL.to ?_
  refine CD.seq ?_
  refine CD.rs FW.wide rfl ?_
  refine PL.call FW.wide rfl rfl rfl rfl (known_w w hl) ?_
  rintro _ w6 hx6 rfl
  refine PL.q rfl rfl (OQ.not rfl) rfl ?_
  refine PL.to ?_
  refine CD.condF rfl ?_
  refine CD.skip ?_
  refine CD.seq ?_
  refine CD.rs FW.wide rfl ?_
  refine PL.q rfl rfl (OQ.assign rfl) rfl ?_
  refine PL.to ?_
  refine CD.block ?_
  refine CD.loop (α := Nat) (fun s => [(0, .slice a l.length c), (3, .int .i64 s)]) (fun s w' => Ext w w' ∧ s ≤ l.length) (fun s => l.length - s) 0 ⟨rfl, rfl, trivial⟩ ⟨hx6, by omega⟩ ?_
  rintro i w1 ⟨hx1, hi⟩
  refine CD.seq ?_
  refine CD.rs FW.wide rfl ?_
  refine PL.q rfl rfl (OQ.move rfl) rfl ?_
  refine PL.q rfl rfl (OQ.move rfl) rfl ?_
  refine PL.q rfl rfl (OQ.lenS rfl) rfl ?_
  refine PL.q rfl rfl (OQ.lss rfl rfl) rfl ?_
  refine PL.to ?_
  refine CD.condD rfl (fun h4 => ?_) (fun h4 => ?_)
  · have hil : i < l.length := by omega
    obtain ⟨b, o, rfl, hc⟩ := h i hil
    obtain ⟨k, hk⟩ : ∃ k, k = l[i] := ⟨_, rfl⟩
    have kok : BkOk w k := hk ▸ hok _ (List.getElem_mem hil)
    rw [← hk] at hc
    refine CD.skip ?_
    refine CD.seq ?_
    refine CD.block ?_
    refine CD.rs FW.wide rfl ?_
    refine PL.q rfl rfl (OQ.assign rfl) rfl ?_
    refine PL.to ?_
    refine CD.cut (α := Option Addr × Nat) (fun s => [(0, .slice (some ⟨b, o, none⟩) l.length c), (3, .int .i64 i), (4, .slice s.1 k.path.length s.2)]) (fun s w' => Ext w w' ∧ Cells w' s.1 (ints k.path)) ?_ ?_
    · refine CD.r FW.wide rfl ?_
      have q1 : w1.cell? ⟨b, o + i * 4 + 1, none⟩ = some (.slice k.pa k.path.length k.pc) := (hc.ext hx1).at 1 rfl
      refine PL.q rfl rfl (OQ.move rfl) rfl ?_
      refine PL.q rfl rfl (OQ.move rfl) rfl ?_
      refine PL.q rfl rfl (OQ.move rfl) rfl ?_
      refine PL.q rfl rfl (OQ.indexAddr rfl rfl (by first | assumption | omega)) rfl ?_
      refine PL.q rfl rfl ((by first | exact OQ.field0 rfl | exact OQ.field rfl)) rfl ?_
      refine PL.q rfl rfl (OQ.loadS rfl (by assumption)) rfl ?_
      by_cases hp : k.path = []
      · have hlen0 : k.path.length = 0 := by rw [hp]; rfl
        obtain ⟨inf, i1, _, i3, _⟩ := inf_of inf3
        rw [hlen0]
        refine PL.appNone Tryz.underlying29 i1 FW.wide rfl rfl rfl rfl rfl trivial ?_
        refine PL.q rfl rfl (OQ.assign rfl) rfl ?_
        exact PL.nil fun a ha => ⟨(none, 0), ha.sub ⟨rfl, rfl, rfl, trivial⟩, hx1, by rw [hp]; exact Cells.nil _ _⟩
      · obtain ⟨z, r, hzr⟩ : ∃ z r, k.path = z :: r := by
          cases hq : k.path with
          | nil => exact absurd hq hp
          | cons z r => exact ⟨z, r, rfl⟩
        obtain ⟨pb, po, hpa, _⟩ := kok.1 0 (.int .i64 z) (by rw [hzr]; rfl)
        have hcs : CellsAt w1 pb po (ints k.path) := fun j u hu => by
          obtain ⟨b', o', e1, e2⟩ := (kok.1.ext hx1) j u hu
          rw [hpa] at e1; cases e1
          rw [Nat.mul_one] at e2; exact e2
        have hones : (ints k.path).all oneV = true := by
          rw [List.all_eq_true]; intro u hu
          obtain ⟨x, _, rfl⟩ := List.mem_map.1 hu; rfl
        have hpl := kok.2.2.1
        rw [hpa]
        refine PL.app (B := w1.heap.size) (xs := []) (ints k.path) FW.wide rfl rfl rfl rfl rfl (World.ownsRow_nil _ _ _ _) hcs (by simp [ints]) hones (by decide) (by omega) (by omega) (by omega) (fun _ _ => .inl trivial) ?_
        intro v20 w20 own20 hg20 _
        rw [Nat.zero_add, List.nil_append] at own20
        have hx20 : Ext w w20 := hx1.trans' (S := (· < w1.heap.size)) (grown_bl hg20 fun k hk => ⟨hk, fun e => by cases e⟩) (fun k hk => by have := Ext.size hx1; omega)
        obtain ⟨a', c', rfl, hc', _⟩ := own20.slc
        refine PL.q rfl rfl (OQ.assign rfl) rfl ?_
        exact PL.nil fun a ha => ⟨(a', c'), ha.sub ⟨rfl, rfl, rfl, trivial⟩, hx20, hc'⟩
    rintro ⟨pa', pc'⟩ w2 ⟨hx2, hp2⟩
    refine CD.as .ext trivial FW.wide (by kernel_rfl) [(0, true), (1, true), (2, true), (3, true), (4, true), (5, true), (6, true), (7, true), (8, true), (9, true), (10, true), (11, true), (12, true), (13, true), (14, true), (15, true), (16, true), (17, false), (18, true)] (by kernel_rfl) rfl (by kernel_rfl) ?_
    intro w3 hx3 _
    have hx3' : Ext w w3 := hx2.trans hx3
    have c3 := hc.ext hx3'
    have r0 : w3.cell? ⟨b, o + i * 4 + 0, none⟩ = some (.int .i64 k.rule) := c3.at 0 rfl
    have r2 : w3.cell? ⟨b, o + i * 4 + 2, none⟩ = some (.string k.old') := c3.at 2 rfl
    have r3 : w3.cell? ⟨b, o + i * 4 + 3, none⟩ = some (.string k.new') := c3.at 3 rfl
    refine PL.q rfl rfl (OQ.move rfl) rfl ?_
    refine PL.q rfl rfl (OQ.move rfl) rfl ?_
    refine PL.q rfl rfl (OQ.indexAddr rfl rfl (by first | assumption | omega)) rfl ?_
    refine PL.q rfl rfl ((by first | exact OQ.field0 rfl | exact OQ.field rfl)) rfl ?_
    refine PL.q rfl rfl (OQ.loadX rfl (by assumption)) rfl ?_
    refine PL.q rfl rfl (OQ.move rfl) rfl ?_
    refine PL.q rfl rfl (OQ.move rfl) rfl ?_
    refine PL.q rfl rfl (OQ.move rfl) rfl ?_
    refine PL.q rfl rfl (OQ.indexAddr rfl rfl (by first | assumption | omega)) rfl ?_
    refine PL.q rfl rfl ((by first | exact OQ.field0 rfl | exact OQ.field rfl)) rfl ?_
    refine PL.q rfl rfl (OQ.loadX rfl (by assumption)) rfl ?_
    refine PL.q rfl rfl (OQ.move rfl) rfl ?_
    refine PL.q rfl rfl (OQ.move rfl) rfl ?_
    refine PL.q rfl rfl (OQ.indexAddr rfl rfl (by first | assumption | omega)) rfl ?_
    refine PL.q rfl rfl ((by first | exact OQ.field0 rfl | exact OQ.field rfl)) rfl ?_
    refine PL.q rfl rfl (OQ.loadX rfl (by assumption)) rfl ?_
    refine PL.q rfl rfl ((by first | exact OQ.build1 rfl rfl | exact OQ.buildC rfl rfl)) rfl ?_
    have kok3 : BkOk w3 ⟨k.rule, k.path, pa', pc', k.old', k.new'⟩ := ⟨hp2.ext hx3, kok.2⟩
    refine PL.call FW.wide rfl rfl rfl rfl (Say_w ⟨k.rule, k.path, pa', pc', k.old', k.new'⟩ w3 (hl.ext hx3') kok3 (fun w' hx => ht.ext (hx3'.trans hx))) ?_
    rintro _ w38 hx38 rfl
    refine PL.q rfl rfl (OQ.assign rfl) rfl ?_
    refine PL.to ?_
    have hx38' : Ext w w38 := hx3'.trans hx38
    refine CD.rs FW.wide rfl ?_
    refine PL.q rfl rfl (OQ.move rfl) rfl ?_
    refine PL.q rfl rfl (OQ.move rfl) rfl ?_
    refine PL.q rfl rfl (OQ.move rfl) rfl ?_
    refine PL.q rfl rfl (OQ.indexAddr rfl rfl (by first | assumption | omega)) rfl ?_
    refine PL.q rfl rfl (OQ.loadAS (cs := bkC k) rfl rfl (hc.ext hx38')) rfl ?_
    refine PL.call FW.wide rfl rfl rfl rfl (refSay_w k w38 (kok.ext hx38') (ht.ext hx38') (fun w' hx => ht.ext (hx38'.trans hx))) ?_
    rintro _ w44 hx44 rfl
    have hx44' : Ext w w44 := hx38'.trans hx44
    have q1 : w44.cell? ⟨b, o + i * 4 + 1, none⟩ = some (.slice k.pa k.path.length k.pc) := (hc.ext hx44').at 1 rfl
    refine PL.q rfl rfl (OQ.no (OQ.sneq rfl rfl) (by rw [show sayB ⟨k.rule, k.path, pa', pc', k.old', k.new'⟩ = sayB k from rfl]; simp)) rfl ?_
    refine PL.q rfl rfl (OQ.move rfl) rfl ?_
    refine PL.q rfl rfl (OQ.move rfl) rfl ?_
    refine PL.q rfl rfl (OQ.move rfl) rfl ?_
    refine PL.q rfl rfl (OQ.move rfl) rfl ?_
    refine PL.q rfl rfl (OQ.indexAddr rfl rfl (by first | assumption | omega)) rfl ?_
    refine PL.q rfl rfl ((by first | exact OQ.field0 rfl | exact OQ.field rfl)) rfl ?_
    refine PL.q rfl rfl (OQ.loadS rfl (by assumption)) rfl ?_
    refine PL.call FW.wide rfl rfl rfl rfl (sameTrail_w pa' k.pa pc' k.pc k.path k.path w44 (hp2.ext ((hx3.trans hx38).trans hx44)) (kok.1.ext hx44') (by have := kok.2.2.1; omega)) ?_
    rintro _ w53 hx53 rfl
    refine PL.q rfl rfl (OQ.no (OQ.not rfl) (by simp)) rfl ?_
    refine PL.q rfl rfl ((by first | exact OQ.pickT rfl rfl | exact OQ.pickF rfl rfl)) rfl ?_
    refine PL.to ?_
    refine CD.condF rfl ?_
    refine CD.skip ?_
    refine CD.r FW.wide rfl ?_
    refine PL.q rfl rfl (OQ.move rfl) rfl ?_
    refine PL.q rfl rfl (OQ.addW (r := ((i + 1 : Nat) : Int)) rfl rfl (wrap_succ (by omega))) rfl ?_
    refine PL.q rfl rfl (OQ.assign rfl) rfl ?_
    refine PL.nil ?_
    exact fun a ha => ⟨i + 1, ha.sub ⟨rfl, rfl, trivial⟩, ⟨hx44'.trans hx53, by omega⟩, by omega⟩
  · refine CD.exit ?_
    refine CD.rs FW.wide rfl ?_
    refine PL.q rfl rfl (OQ.assign rfl) rfl ?_
    refine PL.to ?_
    exact CD.ret (post1 rfl rfl ⟨_, rfl, hx1, rfl⟩)
end Go.Proofs.YtiebkbmnepgacaaGreatDoor
