import Derived.Test.YtiebkbmnepgacaaGreatDoorWy2
/-
  Walk of compat.Say.
-/
namespace Go.Proofs.YtiebkbmnepgacaaGreatDoor
open Go.RowKit
set_option linter.unusedVariables false
set_option maxRecDepth 100000

section
variable {P : Program} {F : Fence} {n N : Nat} {D : List Deferred} {l : List Oper} {m : Md} {L : List (Nat × Value)} {w : World}
variable {t u t' : TypeId} {pos : String} {af : Array Edge} {g : Option (Nat × Bool)} {dst : Option Tmp} {x y : Operand} {k : IntKind}
/-- the address of an element of an array -/
theorem OQ.indexArr {nn sz : Nat} {e : TypeId} {inf : TypeInfo} (h1 : P.underlying t = some (.array nn e)) (h2 : P.info? e = some inf) (h3 : inf.size = sz) {b o i : Nat} (hx : ev L x = some (.pointer (some ⟨b, o, none⟩))) (hy : ev L y = some (.int k i)) (hi : i < nn) :
    OQ P m N D ⟨dst, .indexAddr t x y, t', pos, af, g⟩ L w (.pointer (some ⟨b, o + i * sz, none⟩)) := fun a ha W _ => by
  have e1 := ha.eval hx; have e2 := ha.eval hy
  simp only [execOp, e1, e2]
  exact run_v (by simp [Instr.indexAt, Instr.sureAddr, asIntOf, underlying, program, sizeOf, typeInfo, Sem.run_bind, Sem.run, Result.andThen, h1, h2, h3, Sem.run_pure, hi, Addr.add_z])
end
def strs (l : List Int) : List Value := l.map fun x => .string (bytes (Lib.itoa x))
theorem join_path (l : List Int) : Lib.join ((l.map fun x => bytes (Lib.itoa x)).map (·.data.toList)) [46] = pathL l := by
  unfold pathL
  congr 1
  simp [bytes]
theorem says_at : ∀ k, 1 ≤ k → k ≤ 6 → saysV[k]? = some (.string (wordsB k)) := fun k h1 h6 => by
  rw [says_eq]
  match k, h1, h6 with
  | 1, _, _ => rfl
  | 2, _, _ => rfl
  | 3, _, _ => rfl
  | 4, _, _ => rfl
  | 5, _, _ => rfl
  | 6, _, _ => rfl
  | n + 7, _, h => exact absurd h (by omega)
theorem join_w (bk c : Nat) (l : List Int) (w : World) (hok : Okn l) (hl : l.length ≤ 1048576) (h : Cells w (some ⟨bk, 0, none⟩) (strs l)) (hbk : bk < w.heap.size) (hcap : l.length ≤ c) :
    Rt Tryz.prog 20 [.slice (some ⟨bk, 0, none⟩) l.length c, .string ⟨#[46]⟩] w fun v _ => v = .string (bytes (pathL l)) := by
  have hj : Lib.join ((l.map fun x => bytes (Lib.itoa x)).map (·.data.toList)) (ByteArray.mk #[46]).data.toList = pathL l := join_path l
  have := Tryz.strings_Join bk 0 c (l.map fun x => bytes (Lib.itoa x)) ⟨#[46]⟩ w (fun j x hj => ?_) hbk (by simp; omega) (by simpa using hcap) (by rw [hj]; have := pathL_len hok; omega)
  · rw [hj] at this
    rw [List.length_map] at this
    refine this.mono ?_
    rintro e w' ⟨he, hb⟩
    exact ⟨_, he, hb, rfl⟩
  · have hs : (strs l)[j]? = some (.string x) := by
      simp only [strs, List.getElem?_map] at hj ⊢
      cases hq : l[j]? with
      | none => rw [hq] at hj; cases hj
      | some y => rw [hq] at hj; simp only [Option.map_some, Option.some.injEq] at hj ⊢; rw [hj]
    obtain ⟨b', o', e1, e2⟩ := h j _ hs
    cases e1
    rw [Nat.mul_one] at e2
    exact e2
theorem Say_w (b : Bk) (w : World) (hl : Laid w) (h : BkOk w b) (hte : ∀ w', Ext w w' → TabOk w') : Rt Tryz.prog 9 [bkV b] w fun v _ => v = .string (sayB b) := by
  obtain ⟨hp, hok, hn, hs1, hs2⟩ := h
  refine Rt.of Tryz.func9 rfl Tryz.ntmps9 (by rfl) ?_
  refine CD.rs FW.wide rfl ?_
  refine PL.box FW.wide rfl rfl rfl rfl ?_
  intro b1 w1 new1
  refine PL.q rfl rfl (OQ.assign rfl) rfl ?_
  refine PL.to ?_
  have p0 : w1.cell? ⟨b1, 0, none⟩ = some (.int .i64 b.rule) := new1.cell rfl
  have p1 : w1.cell? ⟨b1, 1, none⟩ = some (.slice b.pa b.path.length b.pc) := new1.cell rfl
  have p2 : w1.cell? ⟨b1, 2, none⟩ = some (.string b.old') := new1.cell rfl
  have p3 : w1.cell? ⟨b1, 3, none⟩ = some (.string b.new') := new1.cell rfl
  have x1 : Ext w w1 := new1.ext
  refine CD.seq ?_
  refine CD.rs FW.wide rfl ?_
  refine PL.q rfl rfl ((by first | exact OQ.field0 rfl | exact OQ.field rfl)) rfl ?_
  refine PL.q rfl rfl (OQ.loadS rfl (by assumption)) rfl ?_
  refine PL.q rfl rfl (OQ.eql rfl rfl) rfl ?_
  refine PL.to ?_
  refine CD.condD rfl (fun h0 => ?_) (fun h0 => ?_)
  · refine CD.rs FW.wide rfl ?_
    refine PL.q rfl rfl (OQ.assign rfl) rfl ?_
    refine PL.to ?_
    exact CD.ret (post1 rfl rfl ⟨_, rfl, x1, by simp only [sayB, if_pos h0]; rfl⟩)
  refine CD.skip ?_
  refine CD.seq ?_
  refine CD.cut (α := Unit) (fun _ => [(1, .pointer (some ⟨b1, 0, none⟩)), (17, .bool (decide (b.rule < 0 ∨ 7 ≤ b.rule)))]) (fun _ w' => w1 = w') ?_ ?_
  · refine CD.r FW.wide rfl ?_
    refine PL.q rfl rfl ((by first | exact OQ.field0 rfl | exact OQ.field rfl)) rfl ?_
    refine PL.q rfl rfl (OQ.loadS rfl (by assumption)) rfl ?_
    by_cases h1 : b.rule < 0
    · refine PL.q rfl rfl (OQ.yes (OQ.lss rfl rfl) (decide_eq_true h1)) rfl ?_
      refine PL.q rfl rfl (OQ.move rfl) rfl ?_
      refine PL.skip rfl rfl rfl ?_
      refine PL.skip rfl rfl rfl ?_
      refine PL.skip rfl rfl rfl ?_
      refine PL.q rfl rfl (OQ.cast ((by first | exact OQ.pickT rfl rfl | exact OQ.pickF rfl rfl)) ((by simp [h1] : Value.bool true = .bool (decide (b.rule < 0 ∨ 7 ≤ b.rule))))) rfl ?_
      exact PL.nil fun a ha => ⟨(), ha.sub ⟨rfl, rfl, trivial⟩, rfl⟩
    · refine PL.q rfl rfl (OQ.no (OQ.lss rfl rfl) (decide_eq_false h1)) rfl ?_
      refine PL.q rfl rfl (OQ.move rfl) rfl ?_
      refine PL.q rfl rfl ((by first | exact OQ.field0 rfl | exact OQ.field rfl)) rfl ?_
      refine PL.q rfl rfl (OQ.loadS rfl (by assumption)) rfl ?_
      refine PL.q rfl rfl (OQ.geq rfl rfl) rfl ?_
      refine PL.q rfl rfl (OQ.cast ((by first | exact OQ.pickT rfl rfl | exact OQ.pickF rfl rfl)) ((by simp [h1] : Value.bool (decide (7 ≤ b.rule)) = .bool (decide (b.rule < 0 ∨ 7 ≤ b.rule))))) rfl ?_
      exact PL.nil fun a ha => ⟨(), ha.sub ⟨rfl, rfl, trivial⟩, rfl⟩
  rintro _ _ rfl
  refine CD.condD rfl (fun hr => ?_) (fun hr => ?_)
  · refine CD.rs FW.wide rfl ?_
    refine PL.q rfl rfl (OQ.assign rfl) rfl ?_
    refine PL.to ?_
    exact CD.ret (post1 rfl rfl ⟨_, rfl, x1, by simp only [sayB, if_neg h0, if_pos hr]; rfl⟩)
  obtain ⟨k, hk, hk1, hk6⟩ : ∃ k : Nat, b.rule = k ∧ 1 ≤ k ∧ k ≤ 6 := ⟨b.rule.toNat, by omega, by omega, by omega⟩
  have hsay : sayB b = longB b (atB b.path) (wordsB k) := by
    simp only [sayB, if_neg h0, if_neg hr]
    rw [hk]; rfl
  refine CD.skip ?_
  refine CD.rs FW.wide rfl ?_
  refine PL.q rfl rfl (OQ.assign rfl) rfl ?_
  refine PL.to ?_
  refine CD.cut (α := Unit) (fun _ => [(1, .pointer (some ⟨b1, 0, none⟩)), (3, .string (atB b.path))]) (fun _ w' => Ext w1 w') ?_ ?_
  · refine CD.rs FW.wide rfl ?_
    refine PL.q rfl rfl ((by first | exact OQ.field0 rfl | exact OQ.field rfl)) rfl ?_
    refine PL.q rfl rfl (OQ.loadS rfl (by assumption)) rfl ?_
    refine PL.q rfl rfl (OQ.lenS rfl) rfl ?_
    refine PL.q rfl rfl (OQ.gtr rfl rfl) rfl ?_
    refine PL.to ?_
    refine CD.condD rfl (fun h6 => ?_) (fun h6 => ?_)
    · have hne : b.path ≠ [] := fun e => by rw [e] at h6; simp at h6
      refine CD.rs FW.wide rfl ?_
      refine PL.q rfl rfl (OQ.assign rfl) rfl ?_
      refine PL.to ?_
      refine CD.seq ?_
      refine CD.rs FW.wide rfl ?_
      refine PL.q rfl rfl ((by first | exact OQ.field0 rfl | exact OQ.field rfl)) rfl ?_
      refine PL.q rfl rfl (OQ.loadS rfl (by assumption)) rfl ?_
      refine PL.q rfl rfl (OQ.lenS rfl) rfl ?_
      refine PL.q rfl rfl (OQ.move rfl) rfl ?_
      refine PL.to ?_
      refine CD.block ?_
      refine CD.loop (α := Nat × Value) (fun s => [(1, .pointer (some ⟨b1, 0, none⟩)), (4, s.2), (23, .slice b.pa b.path.length b.pc), (24, .int .i64 b.path.length), (25, .int .i64 s.1)]) (fun s w' => Ext w1 w' ∧ s.1 ≤ b.path.length ∧ Own w' w1.heap.size 9 1 s.2 s.1 (strs (b.path.take s.1))) (fun s => b.path.length - s.1) (0, .slice none 0 0) ⟨rfl, rfl, rfl, rfl, rfl, trivial⟩ ⟨Ext.refl _, by simp, World.ownsRow_nil _ _ _ _⟩ ?_
      rintro ⟨i, v⟩ w2 ⟨hx2, hi, hown⟩
      simp only at hi hown
      refine CD.rs FW.wide rfl ?_
      refine PL.q rfl rfl (OQ.lss rfl rfl) rfl ?_
      refine PL.to ?_
      refine CD.seq ?_
      refine CD.condD rfl (fun h9 => ?_) (fun h9 => ?_)
      · have hil : i < b.path.length := by omega
        obtain ⟨pb, po, hpa, hc⟩ := (hp.ext (x1.trans hx2)) i (.int .i64 b.path[i]) (by simp [ints, hil])
        have hpi := hok b.path[i] (List.getElem_mem hil)
        have htake : b.path.take (i + 1) = b.path.take i ++ [b.path[i]] := (List.take_append_getElem hil).symm
        rw [hpa]
        refine CD.skip ?_
        refine CD.seq ?_
        refine CD.block ?_
        refine CD.rs FW.wide rfl ?_
        refine PL.q rfl rfl (OQ.indexAddr rfl rfl (by first | assumption | omega)) rfl ?_
        refine PL.q rfl rfl (OQ.loadS rfl (by assumption)) rfl ?_
        refine PL.q rfl rfl (OQ.assign rfl) rfl ?_
        refine PL.to ?_
        refine CD.r FW.wide rfl ?_
        refine PL.q rfl rfl (OQ.move rfl) rfl ?_
        refine PL.q rfl rfl (OQ.move rfl) rfl ?_
        refine PL.call FW.wide rfl rfl rfl rfl (itoa_w _ hpi w2 (hte _ (x1.trans hx2))) ?_
        rintro _ w31 hx31 rfl
        refine PL.slice1 FW.wide rfl rfl rfl rfl rfl rfl ?_
        intro b32 w32 new32
        have own32 := hown.cext (hx31.trans new32.ext).cext
        have sz2 := Ext.size hx2
        have sz32 := Ext.size (hx31.trans new32.ext)
        refine PL.app [.string (bytes (Lib.itoa b.path[i]))] FW.wide rfl rfl rfl rfl rfl own32 (CellsAt.of_heap new32.heap) rfl rfl (by decide) (by omega) (by omega) (by omega) (fun _ _ => .inl trivial) ?_
        intro v33 w33 hown33 hg33 _
        have hx33 : Ext w1 w33 := (hx2.trans (hx31.trans new32.ext)).trans' (S := (· < w1.heap.size)) (grown_bl hg33 fun k hk => ⟨by omega, fun e => by have := (World.ownsRow.lt own32 k e).1; omega⟩) (fun _ h => h)
        refine PL.q rfl rfl (OQ.assign rfl) rfl ?_
        refine PL.nil ?_
        intro a ha
        refine (show CD Tryz.prog Fence.wide 0 _ [] _ _ _ _ from ?_) a ha
        refine CD.r FW.wide rfl ?_
        refine PL.q rfl rfl (OQ.addW (r := ((i + 1 : Nat) : Int)) rfl rfl (wrap_succ (by omega))) rfl ?_
        refine PL.q rfl rfl (OQ.move rfl) rfl ?_
        refine PL.nil ?_
        refine fun a ha => ⟨(i + 1, v33), ha.sub ⟨rfl, rfl, rfl, rfl, rfl, trivial⟩, ⟨hx33, by simp only; omega, ?_⟩, by simp only; omega⟩
        have e : strs (b.path.take (i + 1)) = strs (b.path.take i) ++ [.string (bytes (Lib.itoa b.path[i]))] := by rw [htake]; unfold strs; rw [List.map_append]; rfl
        simp only
        rw [e]; exact hown33
      · obtain rfl : i = b.path.length := by omega
        rw [List.take_length] at hown
        obtain ⟨a', c', rfl, hc', _⟩ := hown.slc
        refine CD.exit ?_
        refine CD.r FW.wide rfl ?_
        refine PL.q rfl rfl (OQ.move rfl) rfl ?_
        have hcap := hown.cap
        rcases hown.form with ⟨e, _⟩ | ⟨gb, gc, e, hlt1, hlt2⟩
        · exfalso; simp only [Value.slice.injEq] at e; exact hne (List.length_eq_zero_iff.1 e.2.1)
        · simp only [Value.slice.injEq] at e
          obtain ⟨rfl, _, rfl⟩ := e
          refine PL.call FW.wide rfl rfl rfl rfl (join_w gb _ b.path w2 hok hn hc' hlt2 hcap) ?_
          rintro _ w36 hx36 rfl
          refine PL.q rfl rfl (OQ.assign rfl) rfl ?_
          refine PL.nil fun a ha => ⟨(), ha.sub ⟨rfl, ?_, trivial⟩, hx2.trans hx36⟩
          have : atB b.path = bytes (pathL b.path) := by unfold atB; rw [if_neg hne]
          rw [this]; rfl
    · refine CD.skip ?_
      have he : b.path = [] := List.length_eq_zero_iff.1 (by omega)
      refine fun a ha => ⟨(), ha.sub ⟨rfl, ?_, trivial⟩, Ext.refl _⟩
      have : atB b.path = bytes [116, 111, 112] := by unfold atB; rw [if_pos he]
      rw [this]; rfl
  rintro _ w4 hx4
  refine CD.as .ext trivial FW.wide (by kernel_rfl) [(0, true), (1, true), (2, true), (3, true), (4, true), (5, true), (6, true), (7, true), (8, true), (9, true), (10, true), (11, true), (12, true), (13, true), (14, true), (15, true)] (by kernel_rfl) rfl (by kernel_rfl) ?_
  intro w5 hx5 _
  have x15 : Ext w1 w5 := hx4.trans hx5
  have q0 : w5.cell? ⟨b1, 0, none⟩ = some (.int .i64 b.rule) := x15.cell p0
  have q2 : w5.cell? ⟨b1, 2, none⟩ = some (.string b.old') := x15.cell p2
  have q3 : w5.cell? ⟨b1, 3, none⟩ = some (.string b.new') := x15.cell p3
  obtain ⟨gt, hg⟩ := (hl.ext (x1.trans x15)).says
  have qs : w5.cell? ⟨0, 0 + k * 1, none⟩ = some (.string (wordsB k)) := cell_of_heap hg (by rw [Nat.zero_add, Nat.mul_one, List.getElem?_toArray]; exact says_at k hk1 hk6)
  rw [hk] at q0
  have hsz := atB_size hok hn
  have hw := wordsB_size k (by omega)
  obtain ⟨inf, i1, _, i3, _⟩ := inf_of inf9
  refine PL.q rfl rfl ((by first | exact OQ.field0 rfl | exact OQ.field rfl)) rfl ?_
  refine PL.q rfl rfl (OQ.loadX rfl (by assumption)) rfl ?_
  refine PL.q rfl rfl (OQ.sadd (b := bytes [32, 45, 62, 32]) rfl rfl (by rw [szb]; simp only [List.length_cons, List.length_nil]; omega)) rfl ?_
  refine PL.q rfl rfl ((by first | exact OQ.field0 rfl | exact OQ.field rfl)) rfl ?_
  refine PL.q rfl rfl (OQ.loadX rfl (by assumption)) rfl ?_
  refine PL.q rfl rfl (OQ.sadd rfl rfl (by rw [ByteArray.size_append, szb]; simp only [List.length_cons, List.length_nil]; omega)) rfl ?_
  refine PL.q rfl rfl (OQ.sadd (b := bytes [32, 97, 116, 32]) rfl rfl (by rw [ByteArray.size_append, ByteArray.size_append, szb, szb]; simp only [List.length_cons, List.length_nil]; omega)) rfl ?_
  refine PL.q rfl rfl (OQ.move rfl) rfl ?_
  refine PL.q rfl rfl (OQ.sadd rfl rfl (by rw [ByteArray.size_append, ByteArray.size_append, ByteArray.size_append, szb, szb]; simp only [List.length_cons, List.length_nil]; omega)) rfl ?_
  refine PL.q rfl rfl (OQ.sadd (b := bytes [58, 32]) rfl rfl (by rw [ByteArray.size_append, ByteArray.size_append, ByteArray.size_append, ByteArray.size_append, szb, szb, szb]; simp only [List.length_cons, List.length_nil]; omega)) rfl ?_
  refine PL.q rfl rfl ((by first | exact OQ.field0 rfl | exact OQ.field rfl)) rfl ?_
  refine PL.q rfl rfl (OQ.loadX rfl (by assumption)) rfl ?_
  refine PL.q rfl rfl (OQ.indexArr (i := k) Tryz.underlying58 i1 i3 rfl rfl (by omega)) rfl ?_
  refine PL.q rfl rfl (OQ.loadX rfl (by assumption)) rfl ?_
  refine PL.q rfl rfl (OQ.sadd rfl rfl (by rw [ByteArray.size_append, ByteArray.size_append, ByteArray.size_append, ByteArray.size_append, ByteArray.size_append, szb, szb, szb]; simp only [List.length_cons, List.length_nil]; omega)) rfl ?_
  refine PL.q rfl rfl (OQ.assign rfl) rfl ?_
  refine PL.to ?_
  exact CD.ret (post1 rfl rfl ⟨_, rfl, x1.trans x15, by rw [hsay]; rfl⟩)
end Go.Proofs.YtiebkbmnepgacaaGreatDoor
