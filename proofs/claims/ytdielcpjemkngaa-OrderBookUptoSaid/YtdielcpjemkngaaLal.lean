/-
  The walk of the law OrderAlgebra: for lists of at most a million keys together.
-/
import Derived.Test.YtdielcpjemkngaaOb3
import Derived.Test.YtdielcpjemkngaaOrQ
namespace Go.Proofs.Ytdielcpjemkngaa
open Go.RowKit OI
set_option linter.unusedVariables false

theorem made_get (l : List (Int × Nat)) : ∀ t : Tr Int, Srt lt t.toL → Srt lt (l.foldl madeStep t).toL ∧ ∀ k, ((getL lt k t.toL).isSome = true ∨ ∃ e ∈ l, e.1 = k) → (getL lt k (l.foldl madeStep t).toL).isSome = true := by
  induction l with
  | nil => intro t h; exact ⟨h, fun k hk => by simpa using hk⟩
  | cons x r ih =>
    intro t h
    have e := toL_put x.1 x.2 t h
    have hs : Srt lt (madeStep t x).toL := by rw [madeStep, e]; exact srt_ins lo _ _ h
    refine ⟨(ih _ hs).1, fun k hk => (ih _ hs).2 k ?_⟩
    by_cases hx : x.1 = k
    · left; rw [madeStep, e, getL_ins lo h, hx, lo.irr]; rfl
    · rcases hk with hk | ⟨y, hy, rfl⟩
      · left
        rw [madeStep, e, getL_ins lo h, if_pos]
        · exact hk
        · simp only [lt, Bool.or_eq_true, decide_eq_true_eq]; omega
      · rcases List.mem_cons.1 hy with rfl | hy
        · exact absurd rfl hx
        · exact .inr ⟨y, hy, rfl⟩
theorem made_srt (z : List Int) : Srt lt (madeT z).toL := (made_get _ .leaf (by simp [Srt, Tr.toL])).1
theorem made_has (z : List Int) (k : Int) (h : k ∈ z) : (getL lt k (madeT z).toL).isSome = true := (made_get _ .leaf (by simp [Srt, Tr.toL])).2 k (.inr (by
  obtain ⟨i, hi, rfl⟩ := List.getElem_of_mem h
  exact ⟨(z[i], i), List.mem_zipIdx_iff_getElem?.2 (by simp [hi]), rfl⟩))
theorem made_size (z : List Int) : (madeT z).size ≤ z.length := by
  have := size_made_le z.zipIdx .leaf
  simpa [Tr.size, madeT] using this

theorem algebra_w (a a' : Option Addr) (c c' : Nat) (z z' : List Int) (w : World) (h : IntsAt w .i64 a z) (h' : IntsAt w .i64 a' z') (hn : z.length + z'.length ≤ 1048576) :
    Rt Try.prog 6 [.slice a z.length c, .slice a' z'.length c'] w fun v _ => v = .bool true := by
  refine Rt.of Try.func6 rfl Try.ntmps6 (by rfl) ?_
  refine CD.rs FW.wide rfl ?_
  refine PL.q rfl rfl (OQ.assign rfl) rfl ?_
  refine PL.to ?_
  refine CD.rs FW.wide rfl ?_
  refine PL.q rfl rfl (OQ.move rfl) rfl ?_
  refine PL.call FW.wide rfl rfl rfl rfl (made_w a c z w h (by omega)) ?_
  rintro _ w1 hx1 ⟨ma, rfl, hma⟩
  refine PL.q rfl rfl (OQ.assign rfl) rfl ?_
  refine PL.to ?_
  refine CD.rs FW.wide rfl ?_
  refine PL.q rfl rfl (OQ.move rfl) rfl ?_
  refine PL.call FW.wide rfl rfl rfl rfl (made_w a' c' z' w1 (h'.ext hx1) (by omega)) ?_
  rintro _ w2 hx2 ⟨mb, rfl, hmb⟩
  refine PL.q rfl rfl (OQ.assign rfl) rfl ?_
  refine PL.to ?_
  refine CD.rs FW.wide rfl ?_
  refine PL.slice1 FW.wide rfl rfl rfl rfl rfl rfl ?_
  intro b23 w23 new23
  have h4 : IntsAt w23 .i64 (some ⟨b23, 0, none⟩) [4] := fun i u hu => ⟨b23, 0, rfl, by
    match i, hu with
    | 0, hu => simp at hu; subst hu; exact new23.cell rfl
    | i + 1, hu => simp at hu⟩
  refine PL.call FW.wide rfl rfl rfl rfl (made_w (some ⟨b23, 0, none⟩) 1 [4] w23 h4 (by simp)) ?_
  rintro _ w3 hx3 ⟨m4, rfl, hm4⟩
  refine PL.q rfl rfl (OQ.assign rfl) rfl ?_
  have hx23 : Ext w2 w3 := new23.ext.trans hx3
  refine PL.to ?_
  refine CD.seq ?_
  refine CD.rs FW.wide rfl ?_
  refine PL.q rfl rfl (OQ.move rfl) rfl ?_
  refine PL.q rfl rfl ((by first | exact OQ.eqNN rfl rfl | exact OQ.eqNS rfl rfl | exact OQ.eqN rfl rfl)) rfl ?_
  refine PL.q rfl rfl (OQ.move rfl) rfl ?_
  refine PL.q rfl rfl (OQ.move rfl) rfl ?_
  refine PL.q rfl rfl ((by first | exact OQ.eqNN rfl rfl | exact OQ.eqNS rfl rfl | exact OQ.eqN rfl rfl)) rfl ?_
  refine PL.q rfl rfl ((by first | exact OQ.pickT rfl rfl | exact OQ.pickF rfl rfl)) rfl ?_
  refine PL.q rfl rfl (OQ.move rfl) rfl ?_
  refine PL.q rfl rfl (OQ.move rfl) rfl ?_
  refine PL.q rfl rfl ((by first | exact OQ.eqNN rfl rfl | exact OQ.eqNS rfl rfl | exact OQ.eqN rfl rfl)) rfl ?_
  refine PL.q rfl rfl ((by first | exact OQ.pickT rfl rfl | exact OQ.pickF rfl rfl)) rfl ?_
  refine PL.q rfl rfl (OQ.move rfl) rfl ?_
  refine PL.q rfl rfl (OQ.move rfl) rfl ?_
  refine PL.call FW.wide rfl rfl rfl rfl (Len_w m4 _ w3 hm4) ?_
  rintro _ _ _ ⟨rfl, rfl⟩
  refine PL.q rfl rfl (OQ.no (OQ.neq rfl rfl) ((by rfl))) rfl ?_
  refine PL.q rfl rfl ((by first | exact OQ.pickT rfl rfl | exact OQ.pickF rfl rfl)) rfl ?_
  refine PL.q rfl rfl (OQ.move rfl) rfl ?_
  refine PL.q rfl rfl (OQ.move rfl) rfl ?_
  refine PL.call FW.wide rfl rfl rfl rfl (goes_w m4 w3) ?_
  rintro _ w4 hx4 rfl
  refine PL.q rfl rfl (OQ.not rfl) rfl ?_
  refine PL.q rfl rfl ((by first | exact OQ.pickT rfl rfl | exact OQ.pickF rfl rfl)) rfl ?_
  have hx34 : Ext w2 w4 := hx23.trans hx4
  have A := (hma.ext hx2).ext hx34
  have B := hmb.ext hx34
  have sA := made_srt z
  have sB := made_srt z'
  have zA := made_size z
  have zB := made_size z'
  have hasA := made_has z
  generalize madeT z = ta at *
  generalize madeT z' = tb at *
  have hx04 : Ext w w4 := (hx1.trans hx2).trans hx34
  refine PL.to ?_
  refine CD.condF rfl ?_
  refine CD.skip ?_
  refine CD.rs FW.wide rfl ?_
  refine PL.q rfl rfl (OQ.move rfl) rfl ?_
  refine PL.q rfl rfl (OQ.move rfl) rfl ?_
  refine PL.call FW.wide rfl rfl rfl rfl (Join_w ma mb ta tb w4 A B (by omega)) ?_
  rintro _ w5 hx5 ⟨mj, rfl, J⟩
  refine PL.q rfl rfl (OQ.assign rfl) rfl ?_
  refine PL.to ?_
  refine CD.rs FW.wide rfl ?_
  refine PL.q rfl rfl (OQ.move rfl) rfl ?_
  refine PL.q rfl rfl (OQ.move rfl) rfl ?_
  refine PL.call FW.wide rfl rfl rfl rfl (Only_w ma mb ta tb w5 (A.ext hx5) (B.ext hx5) (by omega)) ?_
  rintro _ w6 hx6 ⟨mo, rfl, O⟩
  refine PL.q rfl rfl (OQ.assign rfl) rfl ?_
  refine PL.to ?_
  refine CD.rs FW.wide rfl ?_
  refine PL.q rfl rfl (OQ.move rfl) rfl ?_
  refine PL.q rfl rfl (OQ.move rfl) rfl ?_
  have A6 := (A.ext hx5).ext hx6
  have B6 := (B.ext hx5).ext hx6
  refine PL.call FW.wide rfl rfl rfl rfl (Without_w ma mb ta tb w6 A6 B6 (by omega)) ?_
  rintro _ w7 hx7 ⟨mw, rfl, Wt⟩
  refine PL.q rfl rfl (OQ.assign rfl) rfl ?_
  have A7 := A6.ext hx7
  have B7 := B6.ext hx7
  have J7 := (J.ext hx6).ext hx7
  have O7 := O.ext hx7
  have hx07 : Ext w w7 := ((hx04.trans hx5).trans hx6).trans hx7
  -- what the three have
  have eJ := toL_joinT tb.toL ta sA
  have eO := toL_sift tb true ta sB sA
  have eW := toL_sift tb false ta sB sA
  have sJ : Srt lt (joinT ta tb.toL).toL := by rw [eJ]; exact srt_joins lo _ sA
  have sO : Srt lt (siftT tb true ta ta.toL).toL := by rw [eO]; exact sA.filter _
  have sW : Srt lt (siftT tb false ta ta.toL).toL := by rw [eW]; exact sA.filter _
  have gJ : ∀ k, getL lt k (joinT ta tb.toL).toL = (getL lt k tb.toL).or (getL lt k ta.toL) := fun k => by rw [eJ]; exact getL_joins lo k _ _ sA sB
  have gO : ∀ k, getL lt k (siftT tb true ta ta.toL).toL = if (getL lt k tb.toL).isSome == true then getL lt k ta.toL else none := fun k => by rw [eO]; exact getL_keys lo (fun k => (getL lt k tb.toL).isSome == true) k _
  have gW : ∀ k, getL lt k (siftT tb false ta ta.toL).toL = if (getL lt k tb.toL).isSome == false then getL lt k ta.toL else none := fun k => by rw [eW]; exact getL_keys lo (fun k => (getL lt k tb.toL).isSome == false) k _
  have zJ := size_joinT tb.toL ta
  rw [Tr.length_toL] at zJ
  have zO := size_siftT tb true ta.toL ta
  have zW := size_siftT tb false ta.toL ta
  have lJ : (joinT ta tb.toL).size = tb.size + (siftT tb false ta ta.toL).size := by
    have e1 : (joinT ta tb.toL).toL = tb.toL.foldl (fun a x => ins lt x.1 x.2 a) (siftT tb false ta ta.toL).toL := get_ext lo sJ (srt_joins lo _ sW) fun k => by
      rw [gJ, getL_joins lo k _ _ sW sB, gW]
      cases getL lt k tb.toL <;> simp
    have e2 := length_joins_new lo tb.toL (siftT tb false ta ta.toL).toL sW sB (fun e he => by
      have : (getL lt e.1 tb.toL).isSome = true := (getL_isSome lo).2 ⟨e, he, rfl⟩
      rw [gW, this]; rfl)
    rw [← e1] at e2
    simp only [Tr.length_toL] at e2
    omega
  have lA : (siftT tb true ta ta.toL).size + (siftT tb false ta ta.toL).size = ta.size := by
    have := length_parts (fun e : Int × Int => (getL lt e.1 tb.toL).isSome) ta.toL
    rw [← eO, ← eW] at this
    simpa only [Tr.length_toL] using this
  generalize joinT ta tb.toL = tj at *
  generalize siftT tb true ta ta.toL = to at *
  generalize siftT tb false ta ta.toL = tw at *
  refine PL.to ?_
  refine CD.seq ?_
  refine CD.rs FW.wide rfl ?_
  refine PL.q rfl rfl (OQ.move rfl) rfl ?_
  refine PL.q rfl rfl ((by first | exact OQ.eqNN rfl rfl | exact OQ.eqNS rfl rfl | exact OQ.eqN rfl rfl)) rfl ?_
  refine PL.q rfl rfl (OQ.move rfl) rfl ?_
  refine PL.q rfl rfl (OQ.move rfl) rfl ?_
  refine PL.q rfl rfl ((by first | exact OQ.eqNN rfl rfl | exact OQ.eqNS rfl rfl | exact OQ.eqN rfl rfl)) rfl ?_
  refine PL.q rfl rfl ((by first | exact OQ.pickT rfl rfl | exact OQ.pickF rfl rfl)) rfl ?_
  refine PL.q rfl rfl (OQ.move rfl) rfl ?_
  refine PL.q rfl rfl (OQ.move rfl) rfl ?_
  refine PL.q rfl rfl ((by first | exact OQ.eqNN rfl rfl | exact OQ.eqNS rfl rfl | exact OQ.eqN rfl rfl)) rfl ?_
  refine PL.q rfl rfl ((by first | exact OQ.pickT rfl rfl | exact OQ.pickF rfl rfl)) rfl ?_
  refine PL.to ?_
  refine CD.condF rfl ?_
  refine CD.skip ?_
  refine CD.seq ?_
  refine CD.rs FW.wide rfl ?_
  refine PL.q rfl rfl (OQ.move rfl) rfl ?_
  refine PL.call FW.wide rfl rfl rfl rfl (Len_w mj _ w7 J7) ?_
  rintro _ _ _ ⟨rfl, rfl⟩
  refine PL.q rfl rfl (OQ.move rfl) rfl ?_
  refine PL.call FW.wide rfl rfl rfl rfl (Len_w mb _ w7 B7) ?_
  rintro _ _ _ ⟨rfl, rfl⟩
  refine PL.q rfl rfl (OQ.move rfl) rfl ?_
  refine PL.call FW.wide rfl rfl rfl rfl (Len_w mw _ w7 Wt) ?_
  rintro _ _ _ ⟨rfl, rfl⟩
  refine PL.q rfl rfl (OQ.addW (r := ((tb.size + tw.size : Nat) : Int)) rfl rfl (by rw [wrapI _ (by omega) (by omega)]; omega)) rfl ?_
  refine PL.q rfl rfl (OQ.no (OQ.neq rfl rfl) (by simp only [decide_eq_false_iff_not]; omega)) rfl ?_
  refine PL.q rfl rfl (OQ.move rfl) rfl ?_
  refine PL.q rfl rfl (OQ.move rfl) rfl ?_
  refine PL.call FW.wide rfl rfl rfl rfl (Len_w mo _ w7 O7) ?_
  rintro _ _ _ ⟨rfl, rfl⟩
  refine PL.q rfl rfl (OQ.move rfl) rfl ?_
  refine PL.call FW.wide rfl rfl rfl rfl (Len_w mw _ w7 Wt) ?_
  rintro _ _ _ ⟨rfl, rfl⟩
  refine PL.q rfl rfl (OQ.addW (r := ((to.size + tw.size : Nat) : Int)) rfl rfl (by rw [wrapI _ (by omega) (by omega)]; omega)) rfl ?_
  refine PL.q rfl rfl (OQ.move rfl) rfl ?_
  refine PL.call FW.wide rfl rfl rfl rfl (Len_w ma _ w7 A7) ?_
  rintro _ _ _ ⟨rfl, rfl⟩
  refine PL.q rfl rfl (OQ.no (OQ.neq rfl rfl) (by simp only [decide_eq_false_iff_not]; omega)) rfl ?_
  refine PL.q rfl rfl ((by first | exact OQ.pickT rfl rfl | exact OQ.pickF rfl rfl)) rfl ?_
  refine PL.to ?_
  refine CD.condF rfl ?_
  refine CD.skip ?_
  refine CD.seq ?_
  refine CD.rs FW.wide rfl ?_
  refine PL.q rfl rfl (OQ.assign rfl) rfl ?_
  refine PL.to ?_
  refine CD.block ?_
  refine CD.loop (α := Nat) (fun s => [(0, .slice a z.length c), (5, ptr ma), (6, ptr mb), (8, ptr mj), (9, ptr mo), (10, ptr mw), (11, .int .i64 s)]) (fun s w' => w7 = w' ∧ s ≤ z.length) (fun s => z.length - s) 0 ⟨rfl, rfl, rfl, rfl, rfl, rfl, rfl, trivial⟩ ⟨rfl, by simp⟩ ?_
  rintro i _ ⟨rfl, hi⟩
  refine CD.seq ?_
  refine CD.rs FW.wide rfl ?_
  refine PL.q rfl rfl (OQ.move rfl) rfl ?_
  refine PL.q rfl rfl (OQ.move rfl) rfl ?_
  refine PL.q rfl rfl (OQ.lenS rfl) rfl ?_
  refine PL.q rfl rfl (OQ.lss rfl rfl) rfl ?_
  refine PL.to ?_
  refine CD.condD rfl (fun h14 => ?_) (fun h14 => ?_)
  · have hlt : i < z.length := by omega
    obtain ⟨b, o, rfl, hc⟩ := IntsAt.at (h.ext hx07) i hlt
    have hin := hasA z[i] (by simp)
    refine CD.skip ?_
    refine CD.seq ?_
    refine CD.block ?_
    refine CD.rs FW.wide rfl ?_
    refine PL.q rfl rfl (OQ.move rfl) rfl ?_
    refine PL.q rfl rfl (OQ.move rfl) rfl ?_
    refine PL.q rfl rfl (OQ.move rfl) rfl ?_
    refine PL.q rfl rfl (OQ.indexAddr rfl rfl (by first | assumption | omega)) rfl ?_
    refine PL.q rfl rfl (OQ.loadS rfl (by assumption)) rfl ?_
    refine PL.call FW.wide rfl rfl rfl rfl (Get_w ma z[i] ta w7 A7) ?_
    rintro _ _ _ ⟨rfl, rfl⟩
    rw [find_eq _ _ sA]
    refine PL.q rfl rfl (OQ.move rfl) rfl ?_
    refine PL.q rfl rfl (OQ.extract rfl rfl) rfl ?_
    refine PL.q rfl rfl (OQ.extract rfl rfl) rfl ?_
    refine PL.q rfl rfl (OQ.assign rfl) rfl ?_
    refine PL.q rfl rfl (OQ.assign rfl) rfl ?_
    refine PL.to ?_
    refine CD.rs FW.wide rfl ?_
    refine PL.q rfl rfl (OQ.move rfl) rfl ?_
    refine PL.q rfl rfl (OQ.move rfl) rfl ?_
    refine PL.q rfl rfl (OQ.move rfl) rfl ?_
    refine PL.q rfl rfl (OQ.indexAddr rfl rfl (by first | assumption | omega)) rfl ?_
    refine PL.q rfl rfl (OQ.loadS rfl (by assumption)) rfl ?_
    refine PL.call FW.wide rfl rfl rfl rfl (Get_w mb z[i] tb w7 B7) ?_
    rintro _ _ _ ⟨rfl, rfl⟩
    rw [find_eq _ _ sB]
    refine PL.q rfl rfl (OQ.move rfl) rfl ?_
    refine PL.q rfl rfl (OQ.extract rfl rfl) rfl ?_
    refine PL.q rfl rfl (OQ.extract rfl rfl) rfl ?_
    refine PL.q rfl rfl (OQ.assign rfl) rfl ?_
    refine PL.q rfl rfl (OQ.assign rfl) rfl ?_
    refine PL.to ?_
    refine CD.rs FW.wide rfl ?_
    refine PL.q rfl rfl (OQ.move rfl) rfl ?_
    refine PL.q rfl rfl (OQ.move rfl) rfl ?_
    refine PL.q rfl rfl (OQ.move rfl) rfl ?_
    refine PL.q rfl rfl (OQ.indexAddr rfl rfl (by first | assumption | omega)) rfl ?_
    refine PL.q rfl rfl (OQ.loadS rfl (by assumption)) rfl ?_
    refine PL.call FW.wide rfl rfl rfl rfl (Get_w mj z[i] tj w7 J7) ?_
    rintro _ _ _ ⟨rfl, rfl⟩
    rw [find_eq _ _ sJ, gJ]
    obtain ⟨va, hva⟩ := Option.isSome_iff_exists.1 hin
    rw [hva]
    refine PL.q rfl rfl (OQ.move rfl) rfl ?_
    refine PL.q rfl rfl (OQ.extract rfl rfl) rfl ?_
    refine PL.q rfl rfl (OQ.extract rfl rfl) rfl ?_
    refine PL.q rfl rfl (OQ.assign rfl) rfl ?_
    refine PL.q rfl rfl (OQ.assign rfl) rfl ?_
    refine PL.to ?_
    refine CD.cut (α := Unit) (fun _ => [(0, .slice (some ⟨b, o, none⟩) z.length c), (5, ptr ma), (6, ptr mb), (8, ptr mj), (9, ptr mo), (10, ptr mw), (11, .int .i64 i), (137, .bool false)]) (fun _ w' => w7 = w') ?_ ?_
    · refine CD.r FW.wide rfl ?_
      cases getL lt z[i] tb.toL with
      | some vb =>
        refine PL.q rfl rfl (OQ.move rfl) rfl ?_
        refine PL.q rfl rfl (OQ.not rfl) rfl ?_
        refine PL.q rfl rfl (OQ.move rfl) rfl ?_
        refine PL.q rfl rfl (OQ.move rfl) rfl ?_
        refine PL.q rfl rfl (OQ.not rfl) rfl ?_
        refine PL.q rfl rfl ((by first | exact OQ.pickT rfl rfl | exact OQ.pickF rfl rfl)) rfl ?_
        refine PL.q rfl rfl (OQ.move rfl) rfl ?_
        refine PL.q rfl rfl (OQ.move rfl) rfl ?_
        refine PL.q rfl rfl (OQ.move rfl) rfl ?_
        refine PL.q rfl rfl (OQ.move rfl) rfl ?_
        refine PL.q rfl rfl (OQ.move rfl) rfl ?_
        refine PL.q rfl rfl (OQ.no (OQ.neq rfl rfl) (by simp)) rfl ?_
        refine PL.q rfl rfl ((by first | exact OQ.pickT rfl rfl | exact OQ.pickF rfl rfl)) rfl ?_
        refine PL.q rfl rfl ((by first | exact OQ.pickT rfl rfl | exact OQ.pickF rfl rfl)) rfl ?_
        refine PL.q rfl rfl (OQ.move rfl) rfl ?_
        refine PL.q rfl rfl (OQ.move rfl) rfl ?_
        refine PL.q rfl rfl (OQ.not rfl) rfl ?_
        refine PL.q rfl rfl (OQ.move rfl) rfl ?_
        refine PL.skip rfl rfl rfl ?_
        refine PL.skip rfl rfl rfl ?_
        refine PL.skip rfl rfl rfl ?_
        refine PL.q rfl rfl ((by first | exact OQ.pickT rfl rfl | exact OQ.pickF rfl rfl)) rfl ?_
        refine PL.q rfl rfl ((by first | exact OQ.pickT rfl rfl | exact OQ.pickF rfl rfl)) rfl ?_
        exact PL.nil fun a ha => ⟨(), ha.sub ⟨rfl, rfl, rfl, rfl, rfl, rfl, rfl, rfl, trivial⟩, rfl⟩
      | none =>
        refine PL.q rfl rfl (OQ.move rfl) rfl ?_
        refine PL.q rfl rfl (OQ.not rfl) rfl ?_
        refine PL.q rfl rfl (OQ.move rfl) rfl ?_
        refine PL.q rfl rfl (OQ.move rfl) rfl ?_
        refine PL.q rfl rfl (OQ.not rfl) rfl ?_
        refine PL.q rfl rfl ((by first | exact OQ.pickT rfl rfl | exact OQ.pickF rfl rfl)) rfl ?_
        refine PL.q rfl rfl (OQ.move rfl) rfl ?_
        refine PL.q rfl rfl (OQ.move rfl) rfl ?_
        refine PL.q rfl rfl (OQ.move rfl) rfl ?_
        refine PL.skip rfl rfl rfl ?_
        refine PL.skip rfl rfl rfl ?_
        refine PL.skip rfl rfl rfl ?_
        refine PL.q rfl rfl ((by first | exact OQ.pickT rfl rfl | exact OQ.pickF rfl rfl)) rfl ?_
        refine PL.q rfl rfl ((by first | exact OQ.pickT rfl rfl | exact OQ.pickF rfl rfl)) rfl ?_
        refine PL.q rfl rfl (OQ.move rfl) rfl ?_
        refine PL.q rfl rfl (OQ.move rfl) rfl ?_
        refine PL.q rfl rfl (OQ.not rfl) rfl ?_
        refine PL.q rfl rfl (OQ.move rfl) rfl ?_
        refine PL.q rfl rfl (OQ.move rfl) rfl ?_
        refine PL.q rfl rfl (OQ.move rfl) rfl ?_
        refine PL.q rfl rfl (OQ.no (OQ.neq rfl rfl) (by simp)) rfl ?_
        refine PL.q rfl rfl ((by first | exact OQ.pickT rfl rfl | exact OQ.pickF rfl rfl)) rfl ?_
        refine PL.q rfl rfl ((by first | exact OQ.pickT rfl rfl | exact OQ.pickF rfl rfl)) rfl ?_
        exact PL.nil fun a ha => ⟨(), ha.sub ⟨rfl, rfl, rfl, rfl, rfl, rfl, rfl, rfl, trivial⟩, rfl⟩
    rintro _ _ rfl
    refine CD.condF rfl ?_
    refine CD.skip ?_
    refine CD.r FW.wide rfl ?_
    refine PL.q rfl rfl (OQ.move rfl) rfl ?_
    refine PL.q rfl rfl (OQ.addW (r := ((i + 1 : Nat) : Int)) rfl rfl (wrap_succ (by omega))) rfl ?_
    refine PL.q rfl rfl (OQ.assign rfl) rfl ?_
    refine PL.nil ?_
    exact fun a ha => ⟨i + 1, ha.sub ⟨rfl, rfl, rfl, rfl, rfl, rfl, rfl, trivial⟩, ⟨rfl, by omega⟩, by omega⟩
  · refine CD.exit ?_
    refine CD.rs FW.wide rfl ?_
    refine PL.q rfl rfl (OQ.move rfl) rfl ?_
    refine PL.q rfl rfl (OQ.move rfl) rfl ?_
    refine PL.call FW.wide rfl rfl rfl rfl (Without_w ma ma ta ta w7 A7 A7 (by omega)) ?_
    rintro _ w8 hx8 ⟨mn, rfl, Nn⟩
    refine PL.q rfl rfl (OQ.assign rfl) rfl ?_
    have zN : (siftT ta false ta ta.toL).size = 0 := by
      have e := toL_sift ta false ta sA sA
      have : (siftT ta false ta ta.toL).toL.length = 0 := by
        rw [e, List.length_eq_zero_iff, List.filter_eq_nil_iff]
        intro x hx
        have : (getL lt x.1 ta.toL).isSome = true := (getL_isSome lo).2 ⟨x, hx, rfl⟩
        rw [this]; simp
      rwa [Tr.length_toL] at this
    refine PL.to ?_
    refine CD.seq ?_
    refine CD.rs FW.wide rfl ?_
    refine PL.q rfl rfl (OQ.move rfl) rfl ?_
    refine PL.q rfl rfl ((by first | exact OQ.eqNN rfl rfl | exact OQ.eqNS rfl rfl | exact OQ.eqN rfl rfl)) rfl ?_
    refine PL.q rfl rfl (OQ.move rfl) rfl ?_
    refine PL.q rfl rfl (OQ.move rfl) rfl ?_
    refine PL.call FW.wide rfl rfl rfl rfl (Len_w mn _ w8 Nn) ?_
    rintro _ _ _ ⟨rfl, rfl⟩
    refine PL.q rfl rfl (OQ.no (OQ.neq rfl rfl) (by simp only [decide_eq_false_iff_not]; omega)) rfl ?_
    refine PL.q rfl rfl ((by first | exact OQ.pickT rfl rfl | exact OQ.pickF rfl rfl)) rfl ?_
    refine PL.to ?_
    refine CD.condF rfl ?_
    refine CD.skip ?_
    have A8 := A7.ext hx8
    have B8 := B7.ext hx8
    have J8 := J7.ext hx8
    have O8 := O7.ext hx8
    have W8 := Wt.ext hx8
    refine CD.rs FW.wide rfl ?_
    refine PL.q rfl rfl (OQ.move rfl) rfl ?_
    refine PL.q rfl rfl (OQ.move rfl) rfl ?_
    refine PL.call FW.wide rfl rfl rfl rfl (Join_w mw mo tw to w8 W8 O8 (by omega)) ?_
    rintro _ w9 hx9 ⟨m1, rfl, M1⟩
    refine PL.q rfl rfl (OQ.move rfl) rfl ?_
    have e1 := toL_joinT to.toL tw sW
    have z1 := size_joinT to.toL tw
    rw [Tr.length_toL] at z1
    have s1 : Srt lt (joinT tw to.toL).toL := by rw [e1]; exact srt_joins lo _ sW
    refine PL.call FW.wide rfl rfl rfl rfl (alike_w m1 ma _ ta w9 M1 (A8.ext hx9) s1 sA (by omega) (get_ext lo sA s1 fun k => by
      rw [e1, getL_joins lo k _ _ sW sO, gO, gW]
      cases getL lt k tb.toL <;> simp)) ?_
    rintro _ w10 hx10 rfl
    refine PL.q rfl rfl (OQ.move rfl) rfl ?_
    refine PL.q rfl rfl (OQ.move rfl) rfl ?_
    refine PL.q rfl rfl (OQ.move rfl) rfl ?_
    have hx810 := hx9.trans hx10
    refine PL.call FW.wide rfl rfl rfl rfl (Join_w mw mb tw tb w10 (W8.ext hx810) (B8.ext hx810) (by omega)) ?_
    rintro _ w11 hx11 ⟨m2, rfl, M2⟩
    refine PL.q rfl rfl (OQ.move rfl) rfl ?_
    have e2 := toL_joinT tb.toL tw sW
    have z2 := size_joinT tb.toL tw
    rw [Tr.length_toL] at z2
    have s2 : Srt lt (joinT tw tb.toL).toL := by rw [e2]; exact srt_joins lo _ sW
    refine PL.call FW.wide rfl rfl rfl rfl (alike_w m2 mj _ tj w11 M2 ((J8.ext hx810).ext hx11) s2 sJ (by omega) (get_ext lo sJ s2 fun k => by
      rw [e2, getL_joins lo k _ _ sW sB, gJ, gW]
      cases getL lt k tb.toL <;> simp)) ?_
    rintro _ w12 hx12 rfl
    refine PL.q rfl rfl ((by first | exact OQ.pickT rfl rfl | exact OQ.pickF rfl rfl)) rfl ?_
    refine PL.q rfl rfl (OQ.move rfl) rfl ?_
    refine PL.q rfl rfl (OQ.move rfl) rfl ?_
    refine PL.q rfl rfl (OQ.move rfl) rfl ?_
    have hx812 := (hx810.trans hx11).trans hx12
    refine PL.call FW.wide rfl rfl rfl rfl (Join_w ma ma ta ta w12 (A8.ext hx812) (A8.ext hx812) (by omega)) ?_
    rintro _ w13 hx13 ⟨m3, rfl, M3⟩
    refine PL.q rfl rfl (OQ.move rfl) rfl ?_
    have e3 := toL_joinT ta.toL ta sA
    have z3 := size_joinT ta.toL ta
    rw [Tr.length_toL] at z3
    have s3 : Srt lt (joinT ta ta.toL).toL := by rw [e3]; exact srt_joins lo _ sA
    refine PL.call FW.wide rfl rfl rfl rfl (alike_w m3 ma _ ta w13 M3 ((A8.ext hx812).ext hx13) s3 sA (by omega) (get_ext lo sA s3 fun k => by
      rw [e3, getL_joins lo k _ _ sA sA]
      cases getL lt k ta.toL <;> simp)) ?_
    rintro _ w14 hx14 rfl
    refine PL.q rfl rfl ((by first | exact OQ.pickT rfl rfl | exact OQ.pickF rfl rfl)) rfl ?_
    refine PL.q rfl rfl (OQ.move rfl) rfl ?_
    refine PL.q rfl rfl (OQ.move rfl) rfl ?_
    refine PL.q rfl rfl (OQ.move rfl) rfl ?_
    have hx814 := (hx812.trans hx13).trans hx14
    refine PL.call FW.wide rfl rfl rfl rfl (Only_w ma ma ta ta w14 (A8.ext hx814) (A8.ext hx814) (by omega)) ?_
    rintro _ w15 hx15 ⟨m4', rfl, M4⟩
    refine PL.q rfl rfl (OQ.move rfl) rfl ?_
    have e4 := toL_sift ta true ta sA sA
    have z4 := size_siftT ta true ta.toL ta
    have s4 : Srt lt (siftT ta true ta ta.toL).toL := by rw [e4]; exact sA.filter _
    refine PL.call FW.wide rfl rfl rfl rfl (alike_w m4' ma _ ta w15 M4 ((A8.ext hx814).ext hx15) s4 sA (by omega) (get_ext lo sA s4 fun k => by
      rw [e4, getL_keys lo (fun k => (getL lt k ta.toL).isSome == true) k]
      cases getL lt k ta.toL <;> simp)) ?_
    rintro _ w16 hx16 rfl
    refine PL.q rfl rfl ((by first | exact OQ.pickT rfl rfl | exact OQ.pickF rfl rfl)) rfl ?_
    refine PL.q rfl rfl (OQ.move rfl) rfl ?_
    refine PL.q rfl rfl (OQ.move rfl) rfl ?_
    refine PL.q rfl rfl (OQ.move rfl) rfl ?_
    have hx816 := (hx814.trans hx15).trans hx16
    refine PL.call FW.wide rfl rfl rfl rfl (Without_w mj mb tj tb w16 (J8.ext hx816) (B8.ext hx816) (by omega)) ?_
    rintro _ w17 hx17 ⟨m5, rfl, M5⟩
    refine PL.q rfl rfl (OQ.move rfl) rfl ?_
    have e5 := toL_sift tb false tj sB sJ
    have z5 := size_siftT tb false tj.toL tj
    have s5 : Srt lt (siftT tb false tj tj.toL).toL := by rw [e5]; exact sJ.filter _
    refine PL.call FW.wide rfl rfl rfl rfl (alike_w m5 mw _ tw w17 M5 ((W8.ext hx816).ext hx17) s5 sW (by omega) (get_ext lo sW s5 fun k => by
      rw [e5, getL_keys lo (fun k => (getL lt k tb.toL).isSome == false) k, gJ, gW]
      cases getL lt k tb.toL <;> simp)) ?_
    rintro _ w18 hx18 rfl
    refine PL.q rfl rfl ((by first | exact OQ.pickT rfl rfl | exact OQ.pickF rfl rfl)) rfl ?_
    refine PL.q rfl rfl (OQ.move rfl) rfl ?_
    refine PL.q rfl rfl (OQ.move rfl) rfl ?_
    refine PL.q rfl rfl (OQ.move rfl) rfl ?_
    have hx818 := (hx816.trans hx17).trans hx18
    refine PL.call FW.wide rfl rfl rfl rfl (Only_w mo mb to tb w18 (O8.ext hx818) (B8.ext hx818) (by omega)) ?_
    rintro _ w19 hx19 ⟨m6, rfl, M6⟩
    refine PL.q rfl rfl (OQ.move rfl) rfl ?_
    have e6 := toL_sift tb true to sB sO
    have z6 := size_siftT tb true to.toL to
    have s6 : Srt lt (siftT tb true to to.toL).toL := by rw [e6]; exact sO.filter _
    refine PL.call FW.wide rfl rfl rfl rfl (alike_w m6 mo _ to w19 M6 ((O8.ext hx818).ext hx19) s6 sO (by omega) (get_ext lo sO s6 fun k => by
      rw [e6, getL_keys lo (fun k => (getL lt k tb.toL).isSome == true) k, gO]
      cases getL lt k tb.toL <;> simp)) ?_
    rintro _ w20 hx20 rfl
    refine PL.q rfl rfl ((by first | exact OQ.pickT rfl rfl | exact OQ.pickF rfl rfl)) rfl ?_
    refine PL.q rfl rfl (OQ.assign rfl) rfl ?_
    refine PL.to ?_
    exact CD.ret (post1 rfl rfl ⟨_, rfl, (((hx07.trans hx8).trans hx818).trans hx19).trans hx20, rfl⟩)
end Go.Proofs.Ytdielcpjemkngaa
