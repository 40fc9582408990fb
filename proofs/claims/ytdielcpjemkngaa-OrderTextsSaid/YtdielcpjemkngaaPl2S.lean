/-
  The walk of the laws' helper makes: a version more: keys: texts.
-/
import Derived.Test.YtdielcpjemkngaaPl1S
import Derived.Test.YtdielcpjemkngaaOs
import Derived.Test.YtdielcpjemkngaaWn
namespace Go.Proofs.Ytdielcpjemkngaa.OS
open Go.RowKit
set_option linter.unusedVariables false

abbrev keyO : Op6 → ByteArray := fun o => o.s
/-- the cell of a step's key -/
theorem key_cell {w : World} {b : Nat} {o : Op6} (h : w.heap[b]? = some (.cells (opC o).toArray 54 (0, 0))) : w.cell? ⟨b, 5, none⟩ = some (kv (keyO o)) := cell_of_heap h rfl

theorem makes_w (B bI : Nat) (Ks : List ByteArray) (vs : List Ver) (o : Op6) (w : World) (hw : WI w B bI Ks vs) (h1 : 1 ≤ vs.length) (hn : vs.length ≤ 5000) (hK : Ks.length ≤ 5000) (hok : OpOk o) (hB : B ≤ w.heap.size) :
    Rg Try.prog 77 [.pointer (some ⟨bI, 0, none⟩), .agg (opC o).toArray] w fun x w' => x = .bool true ∧ Bl (· < B) w w' ∧ KW w w' ∧ ∃ nv, WI w' B bI (keyO o :: Ks) (vs ++ [nv]) := by
  have up : ∀ k ∈ Ks, k ∈ keyO o :: Ks := fun k hk => by simp [hk]
  have fin : ∀ w1 w2 w3 : World, Ext w w1 → Ext w1 w2 → Bl (· < B) w2 w3 → Bl (· < B) w w3 := fun w1 w2 w3 hx1 hx2 hb => ((hx1.trans hx2).bl fun k hk => by omega).trans hb
  refine Rg.of Try.func77 rfl Try.ntmps77 (by rfl) ?_
  refine CD.rs FW.wide rfl ?_
  refine PL.box FW.wide rfl rfl rfl rfl ?_
  intro b3 w3 new3
  refine PL.q rfl rfl (OQ.assign rfl) rfl ?_
  have hx3 := new3.ext
  have hh3 : w3.heap[b3]? = some (.cells (opC o).toArray 54 (0, 0)) := new3.heap
  have hw3 := hw.ext hx3
  refine PL.to ?_
  refine CD.as .ext trivial FW.wide (by kernel_rfl) [(0, true), (1, true), (2, true), (3, true), (4, true), (5, true), (6, true), (7, false), (8, true)] (by kernel_rfl) rfl (by kernel_rfl) ?_
  intro w1 hx1 _
  have hh31 := hx1.heap hh3
  have p1 : w1.cell? ⟨b3, 1, none⟩ = some (.int .i64 o.on) := cell_of_heap hh31 rfl
  obtain ⟨am, cm, ar, cr, hh, hBb, om, or', hvs⟩ := hw3.ext hx1
  have d0 : w1.cell? ⟨bI, 0, none⟩ = some (.slice am vs.length cm) := cell_of_heap hh rfl
  refine PL.q rfl rfl ((by first | exact OQ.field0 rfl | exact OQ.field rfl)) rfl ?_
  refine PL.q rfl rfl (OQ.loadX rfl (by assumption)) rfl ?_
  refine PL.q rfl rfl (OQ.move rfl) rfl ?_
  refine PL.q rfl rfl ((by first | exact OQ.nilp rfl | exact OQ.nily rfl | exact OQ.nilf rfl)) rfl ?_
  refine PL.q rfl rfl ((by first | exact OQ.field0 rfl | exact OQ.field rfl)) rfl ?_
  refine PL.q rfl rfl (OQ.loadX rfl (by assumption)) rfl ?_
  refine PL.q rfl rfl (OQ.lenS rfl) rfl ?_
  refine PL.call FW.wide rfl rfl rfl rfl (within_w o.on vs.length w1 (by omega) (by omega) hok.1) ?_
  rintro _ _ _ ⟨rfl, rfl⟩
  have hj := within_lt o.on (n := vs.length) (by omega)
  generalize within o.on vs.length = j at *
  refine PL.q rfl rfl (OQ.assign rfl) rfl ?_
  refine PL.to ?_
  refine CD.as .ext trivial FW.wide (by kernel_rfl) [(0, true), (1, true), (2, true), (3, true), (4, true), (5, true), (6, true), (7, false), (8, true)] (by kernel_rfl) rfl (by kernel_rfl) ?_
  intro w2 hx2 _
  have hh32 := hx2.heap hh31
  have p2 : w2.cell? ⟨b3, 2, none⟩ = some (.int .i64 o.other) := cell_of_heap hh32 rfl
  have hhI := hx2.heap hh
  have d02 : w2.cell? ⟨bI, 0, none⟩ = some (.slice am vs.length cm) := cell_of_heap hhI rfl
  have d12 : w2.cell? ⟨bI, 1, none⟩ = some (.slice ar vs.length cr) := cell_of_heap hhI rfl
  refine PL.q rfl rfl ((by first | exact OQ.field0 rfl | exact OQ.field rfl)) rfl ?_
  refine PL.q rfl rfl (OQ.loadX rfl (by assumption)) rfl ?_
  refine PL.q rfl rfl (OQ.move rfl) rfl ?_
  refine PL.q rfl rfl ((by first | exact OQ.nilp rfl | exact OQ.nily rfl | exact OQ.nilf rfl)) rfl ?_
  refine PL.q rfl rfl ((by first | exact OQ.field0 rfl | exact OQ.field rfl)) rfl ?_
  refine PL.q rfl rfl (OQ.loadX rfl (by assumption)) rfl ?_
  refine PL.q rfl rfl (OQ.lenS rfl) rfl ?_
  refine PL.call FW.wide rfl rfl rfl rfl (within_w o.other vs.length w2 (by omega) (by omega) hok.2.1) ?_
  rintro _ _ _ ⟨rfl, rfl⟩
  have hj' := within_lt o.other (n := vs.length) (by omega)
  generalize within o.other vs.length = j' at *
  refine PL.q rfl rfl (OQ.assign rfl) rfl ?_
  have om2 := om.cext hx2.cext
  have or2 := or'.cext hx2.cext
  have hx02 : Ext w w2 := (hx3.trans hx1).trans hx2
  have hwi2 : WI w2 B bI Ks vs := hw.ext hx02
  obtain ⟨g, rfl, hcm⟩ := om2.atN (f := verM) (fun _ => rfl) rfl j hj
  obtain ⟨g', e', hcm'⟩ := om2.atN (f := verM) (fun _ => rfl) rfl j' hj'
  obtain rfl : g = g' := by simpa using e'
  obtain ⟨f, rfl, hcr⟩ := or2.atN (f := verR) (fun _ => rfl) rfl j hj
  obtain ⟨f', e'', hcr'⟩ := or2.atN (f := verR) (fun _ => rfl) rfl j' hj'
  obtain rfl : f = f' := by simpa using e''
  have hvj := (hvs _ (List.getElem_mem hj)).ext hx2
  have hvj' := (hvs _ (List.getElem_mem hj')).ext hx2
  have cM : w2.cell? ⟨g, 0 + j * 1, none⟩ = some (ptr vs[j].m) := hcm 0 _ rfl
  have cM' : w2.cell? ⟨g, 0 + j' * 1, none⟩ = some (ptr vs[j'].m) := hcm' 0 _ rfl
  have cR : w2.cell? ⟨f, 0 + j * 1, none⟩ = some (.slice vs[j].a vs[j].t.toL.length vs[j].c) := hcr 0 _ rfl
  have cR' : w2.cell? ⟨f, 0 + j' * 1, none⟩ = some (.slice vs[j'].a vs[j'].t.toL.length vs[j'].c) := hcr' 0 _ rfl
  have lj := hvj.len
  have lj' := hvj'.len
  generalize vs[j] = vj at *
  generalize vs[j'] = vj' at *
  obtain ⟨mj, tj, aj, cj⟩ := vj
  obtain ⟨mj', tj', aj', cj'⟩ := vj'
  try simp only at cM cM' cR cR' lj lj'
  have zj := Tr.length_toL tj
  have zj' := Tr.length_toL tj'
  have hF := hvj.2.1; have hF' := hvj'.2.1
  try simp only at hF hF'
  refine PL.to ?_
  refine CD.rs FW.wide rfl ?_
  refine PL.q rfl rfl (OQ.move rfl) rfl ?_
  refine PL.q rfl rfl ((by first | exact OQ.nilp rfl | exact OQ.nily rfl | exact OQ.nilf rfl)) rfl ?_
  refine PL.q rfl rfl ((by first | exact OQ.field0 rfl | exact OQ.field rfl)) rfl ?_
  refine PL.q rfl rfl (OQ.loadS rfl (by assumption)) rfl ?_
  refine PL.q rfl rfl (OQ.move rfl) rfl ?_
  refine PL.q rfl rfl (OQ.indexAddr rfl rfl (by first | assumption | omega)) rfl ?_
  refine PL.q rfl rfl (OQ.loadS rfl (by assumption)) rfl ?_
  refine PL.q rfl rfl (OQ.assign rfl) rfl ?_
  refine PL.to ?_
  refine CD.rs FW.wide rfl ?_
  refine PL.q rfl rfl (OQ.move rfl) rfl ?_
  refine PL.q rfl rfl ((by first | exact OQ.nilp rfl | exact OQ.nily rfl | exact OQ.nilf rfl)) rfl ?_
  refine PL.q rfl rfl ((by first | exact OQ.field0 rfl | exact OQ.field rfl)) rfl ?_
  refine PL.q rfl rfl (OQ.loadS rfl (by assumption)) rfl ?_
  refine PL.q rfl rfl (OQ.move rfl) rfl ?_
  refine PL.q rfl rfl (OQ.indexAddr rfl rfl (by first | assumption | omega)) rfl ?_
  refine PL.q rfl rfl (OQ.loadS rfl (by assumption)) rfl ?_
  refine PL.q rfl rfl (OQ.assign rfl) rfl ?_
  have p0 : w2.cell? ⟨b3, 0, none⟩ = some (.int .i64 o.kind) := cell_of_heap hh32 rfl
  refine PL.to ?_
  refine CD.seq ?_
  refine CD.rs FW.wide rfl ?_
  refine PL.q rfl rfl ((by first | exact OQ.field0 rfl | exact OQ.field rfl)) rfl ?_
  refine PL.q rfl rfl (OQ.loadS rfl (by assumption)) rfl ?_
  refine PL.to ?_
  refine CD.block ?_
  refine CD.rs FW.wide rfl ?_
  refine PL.q rfl rfl (OQ.eql rfl rfl) rfl ?_
  refine PL.q rfl rfl (OQ.assign rfl) rfl ?_
  refine PL.to ?_
  refine CD.condD rfl (fun h6 => ?_) (fun h6 => ?_)
  · refine CD.as .ext trivial FW.wide (by kernel_rfl) [(0, true), (1, true), (2, true), (3, true), (4, true), (5, true), (7, true), (8, true), (9, true), (10, true), (11, true), (6, false), (12, false), (13, false), (14, true)] (by kernel_rfl) rfl (by kernel_rfl) ?_
    intro w4 hx4 _
    have pk : w4.cell? ⟨b3, 5, none⟩ = some (kv (keyO o)) := key_cell (hx4.heap hh32)
    have pb : w4.cell? ⟨b3, 4, none⟩ = some (.int .i64 o.b) := cell_of_heap (hx4.heap hh32) rfl
    refine PL.q rfl rfl (OQ.move rfl) rfl ?_
    refine PL.q rfl rfl (OQ.move rfl) rfl ?_
    refine PL.q rfl rfl ((by first | exact OQ.field0 rfl | exact OQ.field rfl)) rfl ?_
    refine PL.q rfl rfl (OQ.loadX rfl (by assumption)) rfl ?_
    refine PL.q rfl rfl ((by first | exact OQ.field0 rfl | exact OQ.field rfl)) rfl ?_
    refine PL.q rfl rfl (OQ.loadX rfl (by assumption)) rfl ?_
    refine PL.q rfl rfl (OQ.move rfl) rfl ?_
    refine PL.q rfl rfl ((by first | exact OQ.field0 rfl | exact OQ.field rfl)) rfl ?_
    refine PL.q rfl rfl (OQ.loadX rfl (by assumption)) rfl ?_
    refine PL.q rfl rfl ((by first | exact OQ.field0 rfl | exact OQ.field rfl)) rfl ?_
    refine PL.q rfl rfl (OQ.loadX rfl (by assumption)) rfl ?_
    refine PL.call FW.wide rfl rfl rfl rfl (Put_w mj (keyO o) o.b tj w4 (hvj.1.ext hx4) (by omega)) ?_
    rintro _ w5 hx5 ⟨m', rfl, hm'⟩
    refine PL.call FW.wide rfl rfl rfl rfl (fPut_w aj cj tj.toL (keyO o) o.b w5 ((hvj.2.2.1.ext hx4).ext hx5) hF.1 (by omega)) ?_
    rintro _ w6 hx6 hoa
    rw [← toL_put _ _ _ hF.1] at hoa
    obtain ⟨a', c', rfl, hp', hc'⟩ := OA.out hoa
    have hx26 : Ext w2 w6 := (hx4.trans hx5).trans hx6
    refine PL.callL FW.wide rfl rfl rfl rfl (add_w B bI Ks (keyO o :: Ks) vs ⟨m', tj.put lt (keyO o) o.b, a', c'⟩ w6 (hwi2.ext hx26) hn (by simp; omega) up ⟨hm'.ext hx6, (hF.mono up).put (by simp) _, hp', hc'⟩) (fun _ _ _ => .inr (by kernel_rfl)) ?_
    rintro _ w7 ⟨rfl, hbl, hkw, hwi⟩
    refine PL.q rfl rfl (OQ.assign rfl) rfl ?_
    refine PL.to ?_
    have hfin := fin _ _ _ hx02 hx26 hbl
    exact CD.ret (post1 rfl rfl ⟨_, rfl, rfl, hfin, (KW.ext (hx02.trans hx26)).trans hkw, _, hwi⟩)
  · refine CD.rs FW.wide rfl ?_
    refine PL.q rfl rfl (OQ.eql rfl rfl) rfl ?_
    refine PL.q rfl rfl (OQ.assign rfl) rfl ?_
    refine PL.to ?_
    refine CD.condD rfl (fun h8 => ?_) (fun h8 => ?_)
    · refine CD.as .ext trivial FW.wide (by kernel_rfl) [(0, true), (1, true), (2, true), (3, true), (5, true), (6, true), (7, true), (4, false), (8, false), (9, false), (10, true)] (by kernel_rfl) rfl (by kernel_rfl) ?_
      intro w4 hx4 _
      have pk : w4.cell? ⟨b3, 5, none⟩ = some (kv (keyO o)) := key_cell (hx4.heap hh32)
      refine PL.q rfl rfl (OQ.move rfl) rfl ?_
      refine PL.q rfl rfl (OQ.move rfl) rfl ?_
      refine PL.q rfl rfl ((by first | exact OQ.field0 rfl | exact OQ.field rfl)) rfl ?_
      refine PL.q rfl rfl (OQ.loadX rfl (by assumption)) rfl ?_
      refine PL.q rfl rfl (OQ.move rfl) rfl ?_
      refine PL.q rfl rfl ((by first | exact OQ.field0 rfl | exact OQ.field rfl)) rfl ?_
      refine PL.q rfl rfl (OQ.loadX rfl (by assumption)) rfl ?_
      refine PL.call FW.wide rfl rfl rfl rfl (Drop_w mj (keyO o) tj w4 (hvj.1.ext hx4) (by omega)) ?_
      rintro _ w5 hx5 ⟨m', rfl, hm'⟩
      refine PL.call FW.wide rfl rfl rfl rfl (fDrop_w aj cj tj.toL (keyO o) w5 ((hvj.2.2.1.ext hx4).ext hx5) (by omega)) ?_
      rintro _ w6 hx6 hoa
      rw [← Tr.toL_drop lo _ _ hF.1] at hoa
      obtain ⟨a', c', rfl, hp', hc'⟩ := OA.out hoa
      have hx26 : Ext w2 w6 := (hx4.trans hx5).trans hx6
      refine PL.callL FW.wide rfl rfl rfl rfl (add_w B bI Ks (keyO o :: Ks) vs ⟨m', tj.drop lt (keyO o), a', c'⟩ w6 (hwi2.ext hx26) hn (by simp; omega) up ⟨hm'.ext hx6, (hF.mono up).drop _, hp', hc'⟩) (fun _ _ _ => .inr (by kernel_rfl)) ?_
      rintro _ w7 ⟨rfl, hbl, hkw, hwi⟩
      refine PL.q rfl rfl (OQ.assign rfl) rfl ?_
      refine PL.to ?_
      have hfin := fin _ _ _ hx02 hx26 hbl
      exact CD.ret (post1 rfl rfl ⟨_, rfl, rfl, hfin, (KW.ext (hx02.trans hx26)).trans hkw, _, hwi⟩)
    · refine CD.rs FW.wide rfl ?_
      refine PL.q rfl rfl (OQ.eql rfl rfl) rfl ?_
      refine PL.q rfl rfl (OQ.assign rfl) rfl ?_
      refine PL.to ?_
      refine CD.condD rfl (fun h10 => ?_) (fun h10 => ?_)
      · refine CD.as .ext trivial FW.wide (by kernel_rfl) [(0, true), (1, true), (2, true), (3, true), (4, true), (5, true), (6, true), (7, true), (8, true), (10, true), (11, true), (12, true), (13, true), (14, true), (15, true), (16, true), (17, true), (9, false), (18, false), (19, false), (20, true)] (by kernel_rfl) rfl (by kernel_rfl) ?_
        intro w4 hx4 _
        have f0 := hx4.cell d02; have f1 := hx4.cell d12; have f2 := hx4.cell cM'; have f3 := hx4.cell cR'
        refine PL.q rfl rfl (OQ.move rfl) rfl ?_
        refine PL.q rfl rfl (OQ.move rfl) rfl ?_
        refine PL.q rfl rfl (OQ.move rfl) rfl ?_
        refine PL.q rfl rfl ((by first | exact OQ.nilp rfl | exact OQ.nily rfl | exact OQ.nilf rfl)) rfl ?_
        refine PL.q rfl rfl ((by first | exact OQ.field0 rfl | exact OQ.field rfl)) rfl ?_
        refine PL.q rfl rfl (OQ.loadX rfl (by assumption)) rfl ?_
        refine PL.q rfl rfl (OQ.move rfl) rfl ?_
        refine PL.q rfl rfl (OQ.indexAddr rfl rfl (by first | assumption | omega)) rfl ?_
        refine PL.q rfl rfl (OQ.loadX rfl (by assumption)) rfl ?_
        refine PL.q rfl rfl (OQ.move rfl) rfl ?_
        refine PL.q rfl rfl (OQ.move rfl) rfl ?_
        refine PL.q rfl rfl ((by first | exact OQ.nilp rfl | exact OQ.nily rfl | exact OQ.nilf rfl)) rfl ?_
        refine PL.q rfl rfl ((by first | exact OQ.field0 rfl | exact OQ.field rfl)) rfl ?_
        refine PL.q rfl rfl (OQ.loadX rfl (by assumption)) rfl ?_
        refine PL.q rfl rfl (OQ.move rfl) rfl ?_
        refine PL.q rfl rfl (OQ.indexAddr rfl rfl (by first | assumption | omega)) rfl ?_
        refine PL.q rfl rfl (OQ.loadX rfl (by assumption)) rfl ?_
        refine PL.call FW.wide rfl rfl rfl rfl (Join_w mj mj' tj tj' w4 (hvj.1.ext hx4) (hvj'.1.ext hx4) (by omega)) ?_
        rintro _ w5 hx5 ⟨m', rfl, hm'⟩
        refine PL.call FW.wide rfl rfl rfl rfl (fJoin_w aj aj' cj cj' tj.toL tj'.toL w5 ((hvj.2.2.1.ext hx4).ext hx5) hvj.2.2.2 ((hvj'.2.2.1.ext hx4).ext hx5) hF.1 (by omega)) ?_
        have ej : joinL tj.toL tj'.toL = (joinT tj tj'.toL).toL := (toL_joinT _ _ hF.1).symm
        rw [ej]
        rintro _ w6 hx6 ⟨a', c', rfl, hp', hc'⟩
        have hx26 : Ext w2 w6 := (hx4.trans hx5).trans hx6
        refine PL.callL FW.wide rfl rfl rfl rfl (add_w B bI Ks (keyO o :: Ks) vs ⟨m', joinT tj tj'.toL, a', c'⟩ w6 (hwi2.ext hx26) hn (by simp; omega) up ⟨hm'.ext hx6, Fits.join (hF'.mono up).2 (hF.mono up), hp', hc'⟩) (fun _ _ _ => .inr (by kernel_rfl)) ?_
        rintro _ w7 ⟨rfl, hbl, hkw, hwi⟩
        refine PL.q rfl rfl (OQ.assign rfl) rfl ?_
        refine PL.to ?_
        have hfin := fin _ _ _ hx02 hx26 hbl
        exact CD.ret (post1 rfl rfl ⟨_, rfl, rfl, hfin, (KW.ext (hx02.trans hx26)).trans hkw, _, hwi⟩)
      · refine CD.rs FW.wide rfl ?_
        refine PL.q rfl rfl (OQ.eql rfl rfl) rfl ?_
        refine PL.q rfl rfl (OQ.assign rfl) rfl ?_
        refine PL.to ?_
        refine CD.condD rfl (fun h12 => ?_) (fun h12 => ?_)
        · refine CD.as .ext trivial FW.wide (by kernel_rfl) [(0, true), (1, true), (2, true), (3, true), (4, true), (5, true), (6, true), (7, true), (8, true), (10, true), (11, true), (12, true), (13, true), (14, true), (15, true), (16, true), (17, true), (9, false), (18, false), (19, false), (20, true)] (by kernel_rfl) rfl (by kernel_rfl) ?_
          intro w4 hx4 _
          have f0 := hx4.cell d02; have f1 := hx4.cell d12; have f2 := hx4.cell cM'; have f3 := hx4.cell cR'
          refine PL.q rfl rfl (OQ.move rfl) rfl ?_
          refine PL.q rfl rfl (OQ.move rfl) rfl ?_
          refine PL.q rfl rfl (OQ.move rfl) rfl ?_
          refine PL.q rfl rfl ((by first | exact OQ.nilp rfl | exact OQ.nily rfl | exact OQ.nilf rfl)) rfl ?_
          refine PL.q rfl rfl ((by first | exact OQ.field0 rfl | exact OQ.field rfl)) rfl ?_
          refine PL.q rfl rfl (OQ.loadX rfl (by assumption)) rfl ?_
          refine PL.q rfl rfl (OQ.move rfl) rfl ?_
          refine PL.q rfl rfl (OQ.indexAddr rfl rfl (by first | assumption | omega)) rfl ?_
          refine PL.q rfl rfl (OQ.loadX rfl (by assumption)) rfl ?_
          refine PL.q rfl rfl (OQ.move rfl) rfl ?_
          refine PL.q rfl rfl (OQ.move rfl) rfl ?_
          refine PL.q rfl rfl ((by first | exact OQ.nilp rfl | exact OQ.nily rfl | exact OQ.nilf rfl)) rfl ?_
          refine PL.q rfl rfl ((by first | exact OQ.field0 rfl | exact OQ.field rfl)) rfl ?_
          refine PL.q rfl rfl (OQ.loadX rfl (by assumption)) rfl ?_
          refine PL.q rfl rfl (OQ.move rfl) rfl ?_
          refine PL.q rfl rfl (OQ.indexAddr rfl rfl (by first | assumption | omega)) rfl ?_
          refine PL.q rfl rfl (OQ.loadX rfl (by assumption)) rfl ?_
          refine PL.call FW.wide rfl rfl rfl rfl (Only_w mj mj' tj tj' w4 (hvj.1.ext hx4) (hvj'.1.ext hx4) (by omega)) ?_
          rintro _ w5 hx5 ⟨m', rfl, hm'⟩
          refine PL.call FW.wide rfl rfl rfl rfl (fSift_w aj aj' cj cj' tj.toL tj'.toL true w5 ((hvj.2.2.1.ext hx4).ext hx5) ((hvj'.2.2.1.ext hx4).ext hx5) hF'.1 (by omega) (by omega)) ?_
          rintro _ w6 hx6 hoa
          rw [← toL_sift _ _ _ hF'.1 hF.1] at hoa
          obtain ⟨a', c', rfl, hp', hc'⟩ := OA.out hoa
          have hx26 : Ext w2 w6 := (hx4.trans hx5).trans hx6
          refine PL.callL FW.wide rfl rfl rfl rfl (add_w B bI Ks (keyO o :: Ks) vs ⟨m', siftT tj' true tj tj.toL, a', c'⟩ w6 (hwi2.ext hx26) hn (by simp; omega) up ⟨hm'.ext hx6, (hF.mono up).sift hF'.1 _, hp', hc'⟩) (fun _ _ _ => .inr (by kernel_rfl)) ?_
          rintro _ w7 ⟨rfl, hbl, hkw, hwi⟩
          refine PL.q rfl rfl (OQ.assign rfl) rfl ?_
          refine PL.to ?_
          have hfin := fin _ _ _ hx02 hx26 hbl
          exact CD.ret (post1 rfl rfl ⟨_, rfl, rfl, hfin, (KW.ext (hx02.trans hx26)).trans hkw, _, hwi⟩)
        · refine CD.skip ?_
          refine CD.as .ext trivial FW.wide (by kernel_rfl) [(0, true), (1, true), (2, true), (3, true), (4, true), (5, true), (6, true), (7, true), (8, true), (10, true), (11, true), (12, true), (13, true), (14, true), (15, true), (16, true), (17, true), (9, false), (18, false), (19, false), (20, true)] (by kernel_rfl) rfl (by kernel_rfl) ?_
          intro w4 hx4 _
          have f0 := hx4.cell d02; have f1 := hx4.cell d12; have f2 := hx4.cell cM'; have f3 := hx4.cell cR'
          refine PL.q rfl rfl (OQ.move rfl) rfl ?_
          refine PL.q rfl rfl (OQ.move rfl) rfl ?_
          refine PL.q rfl rfl (OQ.move rfl) rfl ?_
          refine PL.q rfl rfl ((by first | exact OQ.nilp rfl | exact OQ.nily rfl | exact OQ.nilf rfl)) rfl ?_
          refine PL.q rfl rfl ((by first | exact OQ.field0 rfl | exact OQ.field rfl)) rfl ?_
          refine PL.q rfl rfl (OQ.loadX rfl (by assumption)) rfl ?_
          refine PL.q rfl rfl (OQ.move rfl) rfl ?_
          refine PL.q rfl rfl (OQ.indexAddr rfl rfl (by first | assumption | omega)) rfl ?_
          refine PL.q rfl rfl (OQ.loadX rfl (by assumption)) rfl ?_
          refine PL.q rfl rfl (OQ.move rfl) rfl ?_
          refine PL.q rfl rfl (OQ.move rfl) rfl ?_
          refine PL.q rfl rfl ((by first | exact OQ.nilp rfl | exact OQ.nily rfl | exact OQ.nilf rfl)) rfl ?_
          refine PL.q rfl rfl ((by first | exact OQ.field0 rfl | exact OQ.field rfl)) rfl ?_
          refine PL.q rfl rfl (OQ.loadX rfl (by assumption)) rfl ?_
          refine PL.q rfl rfl (OQ.move rfl) rfl ?_
          refine PL.q rfl rfl (OQ.indexAddr rfl rfl (by first | assumption | omega)) rfl ?_
          refine PL.q rfl rfl (OQ.loadX rfl (by assumption)) rfl ?_
          refine PL.call FW.wide rfl rfl rfl rfl (Without_w mj mj' tj tj' w4 (hvj.1.ext hx4) (hvj'.1.ext hx4) (by omega)) ?_
          rintro _ w5 hx5 ⟨m', rfl, hm'⟩
          refine PL.call FW.wide rfl rfl rfl rfl (fSift_w aj aj' cj cj' tj.toL tj'.toL false w5 ((hvj.2.2.1.ext hx4).ext hx5) ((hvj'.2.2.1.ext hx4).ext hx5) hF'.1 (by omega) (by omega)) ?_
          rintro _ w6 hx6 hoa
          rw [← toL_sift _ _ _ hF'.1 hF.1] at hoa
          obtain ⟨a', c', rfl, hp', hc'⟩ := OA.out hoa
          have hx26 : Ext w2 w6 := (hx4.trans hx5).trans hx6
          refine PL.callL FW.wide rfl rfl rfl rfl (add_w B bI Ks (keyO o :: Ks) vs ⟨m', siftT tj' false tj tj.toL, a', c'⟩ w6 (hwi2.ext hx26) hn (by simp; omega) up ⟨hm'.ext hx6, (hF.mono up).sift hF'.1 _, hp', hc'⟩) (fun _ _ _ => .inr (by kernel_rfl)) ?_
          rintro _ w7 ⟨rfl, hbl, hkw, hwi⟩
          refine PL.q rfl rfl (OQ.assign rfl) rfl ?_
          refine PL.to ?_
          have hfin := fin _ _ _ hx02 hx26 hbl
          exact CD.ret (post1 rfl rfl ⟨_, rfl, rfl, hfin, (KW.ext (hx02.trans hx26)).trans hkw, _, hwi⟩)
end Go.Proofs.Ytdielcpjemkngaa.OS
