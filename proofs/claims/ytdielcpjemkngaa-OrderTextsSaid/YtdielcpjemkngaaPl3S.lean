/-
  The walk of the laws' helper runs: every sequence, to its end or not, twice: keys: texts.
-/
import Derived.Test.YtdielcpjemkngaaPl2S
namespace Go.Proofs.Ytdielcpjemkngaa.OS
open Go.RowKit
set_option linter.unusedVariables false

theorem prefix_at {α : Type} {pre xs : List α} {x : α} (h : pre ++ [x] <+: xs) : ∃ hlt : pre.length < xs.length, xs[pre.length] = x := by
  obtain ⟨r, rfl⟩ := h
  exact ⟨by simp, by simp⟩

theorem runs_w (B bI : Nat) (Ks : List ByteArray) (vs : List Ver) (o : Op6) (w : World) (hw : WI w B bI Ks vs) (h1 : 1 ≤ vs.length) (hn : vs.length ≤ 5000) (hK : Ks.length ≤ 5000) (hok : OpOk o) :
    Rt Try.prog 87 [.pointer (some ⟨bI, 0, none⟩), .agg (opC o).toArray] w fun x _ => x = .bool true := by
  refine Rt.ofM Try.func87 rfl Try.ntmps87 (by rfl) ?_
  refine CD.rs FW.wide rfl ?_
  refine PL.box FW.wide rfl rfl rfl rfl ?_
  intro b3 w3 new3
  refine PL.alloc FW.wide rfl rfl rfl ?_
  intro b4 w4 new4
  have hh3 : w3.heap[b3]? = some (.cells (opC o).toArray 54 (0, 0)) := new3.heap
  have hx04 : Ext w w4 := new3.ext.trans new4.ext
  refine PL.to ?_
  refine CD.as .ext trivial FW.wide (by kernel_rfl) [(0, true), (1, true), (2, true), (3, true), (4, true), (5, true), (6, true), (7, false), (8, true)] (by kernel_rfl) rfl (by kernel_rfl) ?_
  intro w1 hx1 _
  have hx01 := hx04.trans hx1
  have hh31 : w1.heap[b3]? = some (.cells (opC o).toArray 54 (0, 0)) := hx1.heap (new4.ext.heap hh3)
  have hh41 : w1.heap[b4]? = some (.cells #[.bool false] 4 (0, 0)) := hx1.heap new4.heap
  have p1 : w1.cell? ⟨b3, 1, none⟩ = some (.int .i64 o.on) := cell_of_heap hh31 rfl
  obtain ⟨am, cm, ar, cr, hh, hBb, om, or', hvs⟩ := hw.ext hx01
  have d0 : w1.cell? ⟨bI, 0, none⟩ = some (.slice am vs.length cm) := cell_of_heap hh rfl
  have d1 : w1.cell? ⟨bI, 1, none⟩ = some (.slice ar vs.length cr) := cell_of_heap hh rfl
  refine PL.q rfl rfl ((by first | exact OQ.field0 rfl | exact OQ.field rfl)) rfl ?_
  refine PL.q rfl rfl (OQ.loadX rfl (by assumption)) rfl ?_
  refine PL.q rfl rfl (OQ.move rfl) rfl ?_
  refine PL.q rfl rfl ((by first | exact OQ.nilp rfl | exact OQ.nily rfl | exact OQ.nilf rfl)) rfl ?_
  refine PL.q rfl rfl ((by first | exact OQ.field0 rfl | exact OQ.field rfl)) rfl ?_
  refine PL.q rfl rfl (OQ.loadX rfl (by assumption)) rfl ?_
  refine PL.q rfl rfl (OQ.lenS rfl) rfl ?_
  refine PL.call FW.wide rfl rfl rfl rfl (within_w o.on vs.length w1 (by omega) (by omega) hok.1) ?_
  rintro _ _ _ ⟨rfl, rfl⟩
  have hj := within_lt o.on (n := vs.length) (by omega)
  generalize within o.on vs.length = j at *
  refine PL.q rfl rfl (OQ.assign rfl) rfl ?_
  obtain ⟨g, rfl, hcm⟩ := om.atN (f := verM) (fun _ => rfl) rfl j hj
  obtain ⟨f, rfl, hcr⟩ := or'.atN (f := verR) (fun _ => rfl) rfl j hj
  have hvj := hvs _ (List.getElem_mem hj)
  have cM : w1.cell? ⟨g, 0 + j * 1, none⟩ = some (ptr vs[j].m) := hcm 0 _ rfl
  have cR : w1.cell? ⟨f, 0 + j * 1, none⟩ = some (.slice vs[j].a vs[j].t.toL.length vs[j].c) := hcr 0 _ rfl
  have lj := hvj.len
  generalize vs[j] = vj at *
  obtain ⟨mj, tj, aj, cj⟩ := vj
  have hF : Fits Ks tj := hvj.2.1
  have hcap : tj.toL.length ≤ cj := hvj.2.2.2
  have lj' : tj.toL.length ≤ Ks.length := lj
  have h5000 : tj.toL.length ≤ 5000 := by omega
  refine PL.to ?_
  refine CD.rs FW.wide rfl ?_
  refine PL.q rfl rfl (OQ.move rfl) rfl ?_
  refine PL.q rfl rfl ((by first | exact OQ.nilp rfl | exact OQ.nily rfl | exact OQ.nilf rfl)) rfl ?_
  refine PL.q rfl rfl ((by first | exact OQ.field0 rfl | exact OQ.field rfl)) rfl ?_
  refine PL.q rfl rfl (OQ.loadS rfl (by assumption)) rfl ?_
  refine PL.q rfl rfl (OQ.move rfl) rfl ?_
  refine PL.q rfl rfl (OQ.indexAddr rfl rfl (by first | assumption | omega)) rfl ?_
  refine PL.q rfl rfl (OQ.loadS rfl (by assumption)) rfl ?_
  refine PL.call FW.wide rfl rfl rfl rfl (All_w mj w1) ?_
  rintro _ w5 hx5 ⟨bA, rfl, hbA, hbA', hhA⟩
  refine PL.q rfl rfl (OQ.assign rfl) rfl ?_
  have f1 := hx5.cell d1; have f2 := hx5.cell cR
  refine PL.to ?_
  refine CD.rs FW.wide rfl ?_
  refine PL.q rfl rfl (OQ.move rfl) rfl ?_
  refine PL.q rfl rfl ((by first | exact OQ.nilp rfl | exact OQ.nily rfl | exact OQ.nilf rfl)) rfl ?_
  refine PL.q rfl rfl ((by first | exact OQ.field0 rfl | exact OQ.field rfl)) rfl ?_
  refine PL.q rfl rfl (OQ.loadS rfl (by assumption)) rfl ?_
  refine PL.q rfl rfl (OQ.move rfl) rfl ?_
  refine PL.q rfl rfl (OQ.indexAddr rfl rfl (by first | assumption | omega)) rfl ?_
  refine PL.q rfl rfl (OQ.loadS rfl (by assumption)) rfl ?_
  refine PL.alloc FW.wide rfl rfl rfl ?_
  intro b7 w7 new7
  refine PL.put FW.wide rfl rfl rfl rfl rfl new7.heap rfl rfl rfl rfl (fun _ _ => .inl trivial) ?_
  intro w8 hw8
  have hb7 : w5.heap.size = b7 := new7.idx.symm
  have hx58 : Ext w5 w8 := hw8.ext new7.ext (by omega)
  have hx18 : Ext w1 w8 := hx5.trans hx58
  have hx08 : Ext w w8 := hx01.trans hx18
  have hh38 := hx18.heap hh31
  have hh48 := hx18.heap hh41
  have hh78 : w8.heap[b7]? = some (.cells #[.slice aj tj.toL.length cj] 113 (0, 0)) := hw8.heap
  have hmj8 := hvj.1.ext hx18
  have hpa8 := hvj.2.2.1.ext hx18
  have hb3ge : w.heap.size = b3 := new3.idx.symm
  have hb4ge : w3.heap.size = b4 := new4.idx.symm
  have s3 : w3.heap.size = b3 + 1 := new3.size
  have s4 : w4.heap.size = b4 + 1 := new4.size
  have s15 := hx5.size
  have s41 := hx1.size
  refine PL.to ?_
  refine CD.cut (α := FuncId × List Value × Ents ByteArray × Option Addr × Nat) (fun s => [(3, .pointer (some ⟨b3, 0, none⟩)), (4, .pointer (some ⟨b4, 0, none⟩)), (6, .func (.func s.1) #[] s.2.1.toArray), (7, .pointer (some ⟨b7, 0, none⟩))])
    (fun s w' => En Try.prog s.1 ∧ Ext w w' ∧ Ext w1 w' ∧ w'.heap[b3]? = some (.cells (opC o).toArray 54 (0, 0)) ∧ w'.heap[b4]? = some (.cells #[.bool false] 4 (0, 0)) ∧ w'.heap[b7]? = some (.cells #[.slice s.2.2.2.1 s.2.2.1.length s.2.2.2.2] 113 (0, 0)) ∧
      PA w' s.2.2.2.1 s.2.2.1 ∧ s.2.2.1.length ≤ s.2.2.2.2 ∧ s.2.2.1.length ≤ 5000 ∧ ∀ (W : World) (S : Nat → Prop), Ext w1 W → KT 113 w' W → (∀ k, k < w'.heap.size → S k) → It Try.prog s.1 s.2.1 enc s.2.2.1 S W) ?_ ?_
  · have p0 : w8.cell? ⟨b3, 0, none⟩ = some (.int .i64 o.kind) := cell_of_heap hh38 rfl
    refine CD.rs FW.wide rfl ?_
    refine PL.q rfl rfl ((by first | exact OQ.field0 rfl | exact OQ.field rfl)) rfl ?_
    refine PL.q rfl rfl (OQ.loadS rfl (by assumption)) rfl ?_
    refine PL.q rfl rfl (OQ.eql rfl rfl) rfl ?_
    refine PL.to ?_
    refine CD.condD rfl (fun h4 => ?_) (fun h4 => ?_)
    · refine CD.as .ext trivial FW.wide (by kernel_rfl) [(0, true), (1, true), (2, true), (3, true), (4, true), (5, true), (6, true), (7, true), (8, true), (9, false), (10, true)] (by kernel_rfl) rfl (by kernel_rfl) ?_
      intro w2 hx2 _
      have e0 := (hx18.trans hx2).cell d0; have e1 := (hx18.trans hx2).cell cM
      have pk : w2.cell? ⟨b3, 5, none⟩ = some (kv (keyO o)) := key_cell (hx2.heap hh38)
      refine PL.q rfl rfl (OQ.move rfl) rfl ?_
      refine PL.q rfl rfl ((by first | exact OQ.nilp rfl | exact OQ.nily rfl | exact OQ.nilf rfl)) rfl ?_
      refine PL.q rfl rfl ((by first | exact OQ.field0 rfl | exact OQ.field rfl)) rfl ?_
      refine PL.q rfl rfl (OQ.loadX rfl (by assumption)) rfl ?_
      refine PL.q rfl rfl (OQ.move rfl) rfl ?_
      refine PL.q rfl rfl (OQ.indexAddr rfl rfl (by first | assumption | omega)) rfl ?_
      refine PL.q rfl rfl (OQ.loadX rfl (by assumption)) rfl ?_
      refine PL.q rfl rfl ((by first | exact OQ.field0 rfl | exact OQ.field rfl)) rfl ?_
      refine PL.q rfl rfl (OQ.loadX rfl (by assumption)) rfl ?_
      refine PL.call FW.wide rfl rfl rfl rfl (From_w mj (keyO o) w2) ?_
      rintro _ w6 hx6 ⟨bF, cF, rfl, hF1, hF3, hF5, hF6⟩
      refine PL.q rfl rfl (OQ.assign rfl) rfl ?_
      refine PL.to ?_
      have hx86 : Ext w8 w6 := hx2.trans hx6
      have hh76 := hx86.heap hh78
      have q7 : w6.cell? ⟨b7, 0, none⟩ = some (.slice aj tj.toL.length cj) := cell_of_heap hh76 rfl
      have pk6 : w6.cell? ⟨b3, 5, none⟩ = some (kv (keyO o)) := key_cell (hx86.heap hh38)
      refine CD.r FW.wide rfl ?_
      refine PL.q rfl rfl (OQ.loadS rfl (by assumption)) rfl ?_
      refine PL.q rfl rfl ((by first | exact OQ.field0 rfl | exact OQ.field rfl)) rfl ?_
      refine PL.q rfl rfl (OQ.loadS rfl (by assumption)) rfl ?_
      refine PL.call FW.wide rfl rfl rfl rfl (fFrom_w aj cj tj.toL (keyO o) w6 (hpa8.ext hx86) hF.1 (by omega) hcap) ?_
      rintro _ w9 hx9 ⟨a', c', rfl, hp', hc'⟩
      have hh79 := hx9.heap hh76
      refine PL.put FW.wide rfl rfl rfl rfl rfl hh79 rfl rfl rfl rfl (fun _ _ => .inl trivial) ?_
      intro w10 hw10
      have hx010 : Ext w w10 := hw10.ext ((hx08.trans hx86).trans hx9) (by omega)
      have hx89 : Ext w8 w9 := hx86.trans hx9
      have hx110 : Ext w1 w10 := hw10.ext ((hx18.trans hx86).trans hx9) (by omega)
      have k10 : KT 113 w9 w10 := hw10.kt hh79
      have e3 := hw10.ne (hx89.heap hh38) (by omega)
      have e4 := hw10.ne (hx89.heap hh48) (by omega)
      have hlu : (upto lt (keyO o) tj.toL).length ≤ tj.toL.length := List.length_filter_le _ _
      refine PL.nil fun a ha => ⟨(102, [.pointer (some ⟨bF, 0, none⟩), .pointer (some ⟨cF, 0, none⟩)], upto lt (keyO o) tj.toL, a', c'), ha.sub ⟨rfl, rfl, rfl, rfl, trivial⟩, inferInstance, hx010, hx110, e3, e4, hw10.heap, ElT.kt k10 hp' (by decide), hc', Nat.le_trans hlu h5000, ?_⟩
      intro W S hxW hkW hS
      have gb := hkW.out _ _ _ _ (by decide) (k10.out _ _ _ _ (by decide) (hx9.heap hF5))
      have gc := hkW.out _ _ _ _ (by decide) (k10.out _ _ _ _ (by decide) (hx9.heap hF6))
      have hsz := (hx9.size); have hszw := hw10.size; have hsz1 := hx110.size
      rw [← fromL_eq (keyO o) tj hF.1]
      exact From_it mj bF cF (keyO o) tj w1 W hvj.1 gb gc S (fun k hk => hS _ (by omega)) (hS _ (by omega)) (hS _ (by omega)) hxW
    · refine CD.skip fun a ha => ⟨(100, [.pointer (some ⟨bA, 0, none⟩)], tj.toL, aj, cj), ha.sub ⟨rfl, rfl, rfl, rfl, trivial⟩, inferInstance, hx08, hx18, hh38, hh48, hh78, hpa8, hcap, h5000, ?_⟩
      intro W S hxW hkW hS
      have s58 := hx58.size
      exact All_it mj bA tj w1 W hvj.1 (hkW.out _ _ _ _ (by decide) (hx58.heap hhA)) S (fun k hk => hS _ (by omega)) (hS _ (by omega)) hxW
  rintro ⟨gf, caps, xs, ax, cx⟩ wA ⟨hen, hx0A, hx1A, hh3A, hh4A, hh7A, hpaA, hcapA, hlenA, hitA⟩
  simp only at hen hx0A hx1A hh3A hh4A hh7A hpaA hcapA hlenA hitA
  refine CD.seq ?_
  refine CD.rs FW.wide rfl ?_
  refine PL.q rfl rfl (OQ.move rfl) rfl ?_
  refine PL.q rfl rfl (OQ.eqF rfl rfl) rfl ?_
  refine PL.to ?_
  refine CD.condF rfl ?_
  refine CD.skip ?_
  have pB : wA.cell? ⟨b3, 4, none⟩ = some (.int .i64 o.b) := cell_of_heap hh3A rfl
  have q7 : wA.cell? ⟨b7, 0, none⟩ = some (.slice ax xs.length cx) := cell_of_heap hh7A rfl
  obtain ⟨want, hwant⟩ : ∃ want : Ents ByteArray, want = if 0 ≤ o.b ∧ o.b < xs.length then xs.take o.b.toNat else xs := ⟨_, rfl⟩
  refine CD.cut (α := Unit) (fun _ => [(3, .pointer (some ⟨b3, 0, none⟩)), (4, .pointer (some ⟨b4, 0, none⟩)), (6, .func (.func gf) #[] caps.toArray), (7, .pointer (some ⟨b7, 0, none⟩))])
    (fun _ w' => Ext w w' ∧ Ext w1 w' ∧ KT 113 wA w' ∧ wA.heap.size ≤ w'.heap.size ∧ w'.heap[b3]? = some (.cells (opC o).toArray 54 (0, 0)) ∧ w'.heap[b4]? = some (.cells #[.bool false] 4 (0, 0)) ∧ w'.heap[b7]? = some (.cells #[.slice ax want.length cx] 113 (0, 0)) ∧ PA w' ax want) ?_ ?_
  · refine CD.rs FW.wide rfl ?_
    by_cases h0 : 0 ≤ o.b
    · refine PL.q rfl rfl ((by first | exact OQ.field0 rfl | exact OQ.field rfl)) rfl ?_
      refine PL.q rfl rfl (OQ.loadS rfl (by assumption)) rfl ?_
      refine PL.q rfl rfl (OQ.yes (OQ.geq rfl rfl) (by simp only [decide_eq_true_eq]; omega)) rfl ?_
      refine PL.q rfl rfl (OQ.move rfl) rfl ?_
      refine PL.q rfl rfl ((by first | exact OQ.field0 rfl | exact OQ.field rfl)) rfl ?_
      refine PL.q rfl rfl (OQ.loadS rfl (by assumption)) rfl ?_
      refine PL.q rfl rfl (OQ.loadS rfl (by assumption)) rfl ?_
      refine PL.q rfl rfl (OQ.lenS rfl) rfl ?_
      refine PL.q rfl rfl (OQ.lss rfl rfl) rfl ?_
      refine PL.q rfl rfl ((by first | exact OQ.pickT rfl rfl | exact OQ.pickF rfl rfl)) rfl ?_
      refine PL.to ?_
      refine CD.condD rfl (fun h9 => ?_) (fun h9 => ?_)
      · obtain ⟨n, hn'⟩ : ∃ n : Nat, o.b = n := ⟨o.b.toNat, by omega⟩
        rw [hn'] at pB h9 hwant
        rw [if_pos ⟨by omega, h9⟩] at hwant
        have hwl : want.length = n := by rw [hwant]; simp; omega
        refine CD.r FW.wide rfl ?_
        refine PL.q rfl rfl (OQ.loadS rfl (by assumption)) rfl ?_
        refine PL.q rfl rfl ((by first | exact OQ.field0 rfl | exact OQ.field rfl)) rfl ?_
        refine PL.q rfl rfl (OQ.loadS rfl (by assumption)) rfl ?_
        refine PL.q rfl rfl (OQ.sliceHi (hi := n) rfl rfl (by omega)) rfl ?_
        refine PL.put FW.wide rfl rfl rfl rfl rfl hh7A rfl rfl rfl rfl (fun _ _ => .inl trivial) ?_
        intro w2 hw2
        have k2 : KT 113 wA w2 := hw2.kt hh7A
        refine PL.nil fun a ha => ⟨(), ha.sub ⟨rfl, rfl, rfl, rfl, trivial⟩, hw2.ext hx0A (by have := hx18.size; have := hx5.size; omega), hw2.ext hx1A (by omega), k2, Nat.le_of_eq hw2.size.symm, hw2.ne hh3A (by omega), hw2.ne hh4A (by omega), by rw [hwl]; exact hw2.heap, ?_⟩
        rw [hwant]
        exact (ElT.kt k2 hpaA (by decide)).take _
      · rw [if_neg (by omega)] at hwant
        subst hwant
        exact CD.skip fun a ha => ⟨(), ha.sub ⟨rfl, rfl, rfl, rfl, trivial⟩, hx0A, hx1A, KT.refl _ _, Nat.le_refl _, hh3A, hh4A, hh7A, hpaA⟩
    · rw [if_neg (by omega)] at hwant
      subst hwant
      refine PL.q rfl rfl ((by first | exact OQ.field0 rfl | exact OQ.field rfl)) rfl ?_
      refine PL.q rfl rfl (OQ.loadS rfl (by assumption)) rfl ?_
      refine PL.q rfl rfl (OQ.no (OQ.geq rfl rfl) (by simp only [decide_eq_false_iff_not]; omega)) rfl ?_
      refine PL.q rfl rfl (OQ.move rfl) rfl ?_
      refine PL.skip rfl rfl rfl ?_
      refine PL.skip rfl rfl rfl ?_
      refine PL.skip rfl rfl rfl ?_
      refine PL.skip rfl rfl rfl ?_
      refine PL.skip rfl rfl rfl ?_
      refine PL.q rfl rfl ((by first | exact OQ.pickT rfl rfl | exact OQ.pickF rfl rfl)) rfl ?_
      refine PL.to ?_
      refine CD.condF rfl ?_
      exact CD.skip fun a ha => ⟨(), ha.sub ⟨rfl, rfl, rfl, rfl, trivial⟩, hx0A, hx1A, KT.refl _ _, Nat.le_refl _, hh3A, hh4A, hh7A, hpaA⟩
  rintro _ wL ⟨hx0L, hx1L, hkL, hsL, hh3L, hh4L, hh7L, hpaL⟩
  have hwl : want.length ≤ xs.length := by rw [hwant]; split <;> simp <;> omega
  have hwat : ∀ i (h : i < want.length), want[i] = xs[i]'(by omega) := by
    subst hwant
    intro i h
    split at h
    · rename_i hc; simp only [if_pos hc, List.getElem_take]
    · rename_i hc; simp only [if_neg hc]
  have hcut : ∀ n : Nat, n < xs.length → (n : Int) = o.b → want.length = n := fun n h1 h2 => by
    rw [hwant, if_pos (by omega)]; simp; omega
  have hgo : ∀ n : Nat, n < xs.length → n ≤ want.length → (n : Int) ≠ o.b → n < want.length := fun n h1 h2 h3 => by
    by_cases hc : 0 ≤ o.b ∧ o.b < xs.length
    · rw [if_pos hc] at hwant
      have : want.length = o.b.toNat := by rw [hwant]; simp; omega
      omega
    · rw [if_neg hc] at hwant; rw [hwant]; exact h1
  clear hwant
  refine CD.seq ?_
  refine CD.rs FW.wide rfl ?_
  refine PL.q rfl rfl (OQ.assign rfl) rfl ?_
  refine PL.to ?_
  refine CD.block ?_
  refine CD.loopD (α := Nat × List Nat) (fun s => s.2.map mark) (fun s => [(3, .pointer (some ⟨b3, 0, none⟩)), (4, .pointer (some ⟨b4, 0, none⟩)), (6, .func (.func gf) #[] caps.toArray), (7, .pointer (some ⟨b7, 0, none⟩)), (8, .int .i64 s.1)])
    (fun s w' => Ext wL w' ∧ s.1 ≤ 2 ∧ s.2.Nodup ∧ ∀ M ∈ s.2, wL.heap.size ≤ M ∧ w'.heap[M]? = some (.deferred (some []))) (fun s => 2 - s.1) (0, []) rfl ⟨rfl, rfl, rfl, rfl, rfl, trivial⟩ ⟨Ext.refl _, by simp, List.nodup_nil, by simp⟩ ?_
  rintro ⟨r, Ms⟩ wr ⟨hxr, hr, hnd, hMs⟩
  simp only at hr hnd hMs
  refine CD.seq ?_
  refine CD.rs FW.wide rfl ?_
  refine PL.q rfl rfl (OQ.move rfl) rfl ?_
  refine PL.q rfl rfl (OQ.lss rfl rfl) rfl ?_
  refine PL.to ?_
  refine CD.condD rfl (fun h12 => ?_) (fun h12 => ?_)
  · refine CD.skip ?_
    refine CD.seq ?_
    refine CD.block ?_
    refine CD.rs FW.wide rfl ?_
    refine PL.alloc FW.wide rfl rfl rfl ?_
    intro b9 w9 new9
    refine PL.put FW.wide rfl rfl rfl rfl rfl new9.heap rfl rfl rfl rfl (fun _ _ => .inl trivial) ?_
    intro w2 hw2
    have hb9 : wr.heap.size = b9 := new9.idx.symm
    have hxr2 : Ext wr w2 := hw2.ext new9.ext (by omega)
    have hh92 : w2.heap[b9]? = some (.cells #[.int .i64 0] 3 (0, 0)) := hw2.heap
    have s2 : w2.heap.size = b9 + 1 := by rw [hw2.size, new9.size]
    refine PL.to ?_
    refine CD.cutD (α := List Nat) (fun s => s.map mark) (fun s => [(3, .pointer (some ⟨b3, 0, none⟩)), (4, .pointer (some ⟨b4, 0, none⟩)), (6, .func (.func gf) #[] caps.toArray), (7, .pointer (some ⟨b7, 0, none⟩)), (8, .int .i64 r), (9, .pointer (some ⟨b9, 0, none⟩))])
      (fun s w' => Ext wL w' ∧ w'.heap[b9]? = some (.cells #[.int .i64 want.length] 3 (0, 0)) ∧ s.Nodup ∧ ∀ M ∈ s, wL.heap.size ≤ M ∧ w'.heap[M]? = some (.deferred (some []))) ?_ ?_
    · refine CD.rs FW.wide rfl ?_
      refine PL.q rfl rfl (OQ.move rfl) rfl ?_
      refine PL.to ?_
      refine CD.block ?_
      have sL := hxr.size
      have marks : ∀ (M : Nat) (W : World), Bl (· < wr.heap.size) w2 W → w2.heap.size ≤ M → W.heap[M]? = some (.deferred (some [])) → (M :: Ms).Nodup ∧ ∀ M' ∈ M :: Ms, wL.heap.size ≤ M' ∧ W.heap[M']? = some (.deferred (some [])) := fun M W hb hM hd => by
        have hlt : ∀ M' ∈ Ms, M' < wr.heap.size := fun M' h => (Array.getElem?_eq_some_iff.1 (hMs M' h).2).1
        refine ⟨List.nodup_cons.2 ⟨fun h => by have := hlt M h; omega, hnd⟩, fun M' h => ?_⟩
        rcases List.mem_cons.1 h with rfl | h
        · exact ⟨by omega, hd⟩
        · exact ⟨(hMs M' h).1, hb.heap (hlt M' h) (hxr2.heap (hMs M' h).2)⟩
      refine CD.range (caps := caps) (encs := enc) (xs := xs) (B := (· < wr.heap.size)) rfl (hitA w2 _ ((hx1L.trans hxr).trans hxr2) (hkL.trans (hxr.trans hxr2).kt) (fun k hk => by omega)) (fun k hk => by omega) (fun _ => rfl) rfl
        (fun pre W => W.heap[b9]? = some (.cells #[.int .i64 (pre.length : Nat)] 3 (0, 0)) ∧ pre.length ≤ want.length) (fun c _ W => c = .exit 2 ∧ W.heap[b9]? = some (.cells #[.int .i64 want.length] 3 (0, 0)))
        (fun pre W W' hc h => ⟨hc.cells _ _ _ _ h.1, h.2⟩) (fun c pre W W' hc h => ⟨h.1, hc.cells _ _ _ _ h.2⟩) ⟨hh92, by simp⟩
        (fun x => [(3, .pointer (some ⟨b3, 0, none⟩)), (7, .pointer (some ⟨b7, 0, none⟩)), (9, .pointer (some ⟨b9, 0, none⟩)), (10, kv x.1), (11, .int .i64 x.2)]) ?_ ?_ ?_ ?_
      · intro l x W
        refine CD.rs (FW.wide.inRound l) rfl ?_
        refine PL.q rfl rfl (OQ.assign rfl) rfl ?_
        refine PL.to (CD.r (FW.wide.inRound l) rfl ?_)
        refine PL.q rfl rfl (OQ.assign rfl) rfl ?_
        exact PL.nil fun a ha => ⟨rfl, ha.sub ⟨rfl, rfl, rfl, rfl, rfl, trivial⟩⟩
      · rintro l pre x W hp ⟨h9, hle⟩ hbW hsz
        obtain ⟨hlt, hxx⟩ := prefix_at hp
        have hxW : Ext wL W := (hxr.trans hxr2).trans' hbW (fun k hk => by omega)
        have d9 : W.cell? ⟨b9, 0, none⟩ = some (.int .i64 (pre.length : Nat)) := cell_of_heap h9 rfl
        have dB : W.cell? ⟨b3, 4, none⟩ = some (.int .i64 o.b) := cell_of_heap (hxW.heap hh3L) rfl
        refine CD.block ?_
        refine CD.seq ?_
        refine CD.rs (FW.wide.inRound l) rfl ?_
        refine PL.q rfl rfl (OQ.loadS rfl (by assumption)) rfl ?_
        refine PL.q rfl rfl ((by first | exact OQ.field0 rfl | exact OQ.field rfl)) rfl ?_
        refine PL.q rfl rfl (OQ.loadS rfl (by assumption)) rfl ?_
        refine PL.q rfl rfl (OQ.eql rfl rfl) rfl ?_
        refine PL.to ?_
        refine CD.condD rfl (fun h18 => ?_) (fun h18 => ?_)
        · have hc := hcut _ hlt h18
          exact CD.exit fun a ha => ⟨Kb.refl _ _, rfl, by rw [hc]; exact h9⟩
        · have hng := hgo _ hlt hle h18
          have hwx : want[pre.length] = x := by rw [hwat _ hng, hxx]
          obtain ⟨bw, ow, ea, hcw, _⟩ := (hpaL.ext hxW) pre.length hng
          rw [hwx] at hcw
          have c0 : W.cell? ⟨bw, ow + pre.length * 2 + 0, none⟩ = some (kv x.1) := hcw 0 _ rfl
          have c1 : W.cell? ⟨bw, ow + pre.length * 2 + 1, none⟩ = some (.int .i64 x.2) := hcw 1 _ rfl
          have d7 : W.cell? ⟨b7, 0, none⟩ = some (.slice (some ⟨bw, ow, none⟩) want.length cx) := by rw [← ea]; exact cell_of_heap (hxW.heap hh7L) rfl
          refine CD.skip ?_
          refine CD.seq ?_
          refine CD.rs (FW.wide.inRound l) rfl ?_
          refine PL.q rfl rfl (OQ.loadS rfl (by assumption)) rfl ?_
          refine PL.q rfl rfl (OQ.loadS rfl (by assumption)) rfl ?_
          refine PL.q rfl rfl (OQ.lenS rfl) rfl ?_
          refine PL.q rfl rfl (OQ.no (OQ.geq rfl rfl) (by simp only [decide_eq_false_iff_not]; omega)) rfl ?_
          refine PL.q rfl rfl (OQ.move rfl) rfl ?_
          refine PL.q rfl rfl (OQ.move rfl) rfl ?_
          refine PL.q rfl rfl (OQ.loadS rfl (by assumption)) rfl ?_
          refine PL.q rfl rfl (OQ.loadS rfl (by assumption)) rfl ?_
          refine PL.q rfl rfl (OQ.indexAddr rfl rfl (by first | assumption | omega)) rfl ?_
          refine PL.q rfl rfl (OQ.field rfl) rfl ?_
          refine PL.q rfl rfl (OQ.loadS rfl (by assumption)) rfl ?_
          refine PL.q rfl rfl (OQ.cast (OQ.sneq rfl rfl) ((show _ = Value.bool false by simp))) rfl ?_
          refine PL.q rfl rfl ((by first | exact OQ.pickT rfl rfl | exact OQ.pickF rfl rfl)) rfl ?_
          refine PL.q rfl rfl (OQ.move rfl) rfl ?_
          refine PL.q rfl rfl (OQ.move rfl) rfl ?_
          refine PL.q rfl rfl (OQ.loadS rfl (by assumption)) rfl ?_
          refine PL.q rfl rfl (OQ.loadS rfl (by assumption)) rfl ?_
          refine PL.q rfl rfl (OQ.indexAddr rfl rfl (by first | assumption | omega)) rfl ?_
          refine PL.q rfl rfl (OQ.field rfl) rfl ?_
          refine PL.q rfl rfl (OQ.loadS rfl (by assumption)) rfl ?_
          refine PL.q rfl rfl (OQ.no (OQ.neq rfl rfl) (by simp)) rfl ?_
          refine PL.q rfl rfl ((by first | exact OQ.pickT rfl rfl | exact OQ.pickF rfl rfl)) rfl ?_
          refine PL.to ?_
          refine CD.condF rfl ?_
          refine CD.skip ?_
          refine CD.r (FW.wide.inRound l) rfl ?_
          refine PL.q rfl rfl (OQ.loadS rfl (by assumption)) rfl ?_
          refine PL.q rfl rfl (OQ.addW (r := ((pre.length + 1 : Nat) : Int)) rfl rfl (wrap_succ (by omega))) rfl ?_
          refine PL.put (FW.wide.inRound l) rfl rfl rfl rfl rfl h9 rfl rfl rfl rfl (fun _ _ => .inl trivial) ?_
          intro w3 hw3
          refine PL.nil fun a ha => ⟨hw3.kb h9 (by simp; omega), ?_, ?_⟩
          · have : (pre ++ [x]).length = pre.length + 1 := by simp
            rw [this]; exact hw3.heap
          · simp; omega
      · rintro M W ⟨h9, hle⟩ hbW hM hdef
        have hxW : Ext wL W := (hxr.trans hxr2).trans' hbW (fun k hk => by omega)
        have he : want.length = xs.length := by omega
        have hm := marks M W hbW hM hdef
        exact fun a ha => ⟨M :: Ms, ha.sub ⟨rfl, rfl, rfl, rfl, rfl, rfl, trivial⟩, hxW, by rw [he]; exact h9, hm⟩
      · rintro M c pre W hpre ⟨rfl, h9⟩ hbW hM hdef
        have hxW : Ext wL W := (hxr.trans hxr2).trans' hbW (fun k hk => by omega)
        have hm := marks M W hbW hM hdef
        exact CD.exit fun a ha => ⟨M :: Ms, ha.sub ⟨rfl, rfl, rfl, rfl, rfl, rfl, trivial⟩, hxW, h9, hm⟩
    rintro Ms' w3 ⟨hx3, h9, hnd', hMs'⟩
    have d9 : w3.cell? ⟨b9, 0, none⟩ = some (.int .i64 want.length) := cell_of_heap h9 rfl
    have d7 : w3.cell? ⟨b7, 0, none⟩ = some (.slice ax want.length cx) := cell_of_heap (hx3.heap hh7L) rfl
    refine CD.rs FW.wide rfl ?_
    refine PL.q rfl rfl (OQ.loadS rfl (by assumption)) rfl ?_
    refine PL.q rfl rfl (OQ.loadS rfl (by assumption)) rfl ?_
    refine PL.q rfl rfl (OQ.lenS rfl) rfl ?_
    refine PL.q rfl rfl (OQ.no (OQ.neq rfl rfl) (by simp)) rfl ?_
    refine PL.to ?_
    refine CD.condF rfl ?_
    refine CD.skip ?_
    refine CD.r FW.wide rfl ?_
    refine PL.q rfl rfl (OQ.move rfl) rfl ?_
    refine PL.q rfl rfl (OQ.addW (r := ((r + 1 : Nat) : Int)) rfl rfl (wrap_succ (by omega))) rfl ?_
    refine PL.q rfl rfl (OQ.assign rfl) rfl ?_
    refine PL.nil ?_
    exact fun a ha => ⟨(r + 1, Ms'), ha.sub ⟨rfl, rfl, rfl, rfl, rfl, trivial⟩, ⟨hx3, by simp only; omega, hnd', hMs'⟩, by simp only; omega⟩
  · refine CD.exit ?_
    refine CD.rs FW.wide rfl ?_
    have hh4r := hxr.heap hh4L
    refine PL.put FW.wide rfl rfl rfl rfl rfl hh4r rfl rfl rfl rfl (fun _ _ => .inl trivial) ?_
    intro w3 hw3
    have b4lt : b4 < wL.heap.size := (Array.getElem?_eq_some_iff.1 hh4L).1
    have hh43 : w3.heap[b4]? = some (.cells #[.bool true] 4 (0, 0)) := hw3.heap
    have hx3 : Ext w w3 := hw3.ext (hx0L.trans hxr) (by omega)
    refine PL.to ?_
    refine CD.ret (postMC (Ms := Ms) (B := (· < w.heap.size)) rfl rfl (cell_of_heap (v := .bool true) hh43 rfl) ?_ hnd ?_)
    · intro M hM
      have h1 := (hMs M hM).1
      have h2 := hx0L.size
      exact ⟨by omega, hw3.ne (hMs M hM).2 (by omega)⟩
    · intro w' hc hb
      exact ⟨_, rfl, hx3.trans' hb (fun _ h => h), rfl⟩
end Go.Proofs.Ytdielcpjemkngaa.OS
