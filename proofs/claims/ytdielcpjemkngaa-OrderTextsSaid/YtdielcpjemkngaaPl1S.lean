/-
  The walk of the laws' helper add: versions of a map, and the document's: keys: texts.
-/
import Derived.Test.YtdielcpjemkngaaRf3S
namespace Go.Proofs.Ytdielcpjemkngaa.OS
open Go.RowKit
set_option linter.unusedVariables false

/-- the keys rise, each one of Ks -/
def Fits (Ks : List ByteArray) (t : Tr ByteArray) : Prop := Srt lt t.toL ∧ ∀ e ∈ t.toL, e.1 ∈ Ks
theorem Fits.size {Ks : List ByteArray} {t : Tr ByteArray} (h : Fits Ks t) : t.size ≤ Ks.length := by
  have := sorted_len lo t.toL Ks h.1 h.2
  rwa [Tr.length_toL] at this
theorem Fits.mono {Ks Ks' : List ByteArray} {t : Tr ByteArray} (h : Fits Ks t) (hm : ∀ k ∈ Ks, k ∈ Ks') : Fits Ks' t := ⟨h.1, fun e he => hm _ (h.2 e he)⟩
theorem fits_leaf (Ks : List ByteArray) : Fits Ks .leaf := ⟨by simp [Srt, Tr.toL], by simp [Tr.toL]⟩
theorem mem_ins' {k : ByteArray} {v : Int} {l : Ents ByteArray} {e : ByteArray × Int} (h : e ∈ ins lt k v l) : e = (k, v) ∨ e ∈ l := by
  simp only [ins, List.mem_append, List.mem_cons, lows, highs, List.mem_filter] at h
  rcases h with h | h | h
  · exact .inr h.1
  · exact .inl h
  · exact .inr h.1
theorem Fits.put {Ks : List ByteArray} {t : Tr ByteArray} (h : Fits Ks t) {k : ByteArray} (hk : k ∈ Ks) (v : Int) : Fits Ks (t.put lt k v) := by
  have e := toL_put k v t h.1
  refine ⟨by rw [e]; exact srt_ins lo _ _ h.1, fun x hx => ?_⟩
  rw [e] at hx
  rcases mem_ins' hx with rfl | hx
  · exact hk
  · exact h.2 x hx
theorem Fits.drop {Ks : List ByteArray} {t : Tr ByteArray} (h : Fits Ks t) (k : ByteArray) : Fits Ks (t.drop lt k) := by
  have e := Tr.toL_drop lo k t h.1
  refine ⟨by rw [e]; exact h.1.filter _, fun x hx => ?_⟩
  rw [e] at hx
  exact h.2 x (List.mem_filter.1 hx).1
theorem Fits.join {Ks : List ByteArray} {l : Ents ByteArray} (hu : ∀ e ∈ l, e.1 ∈ Ks) : ∀ {t : Tr ByteArray}, Fits Ks t → Fits Ks (joinT t l) := by
  induction l with
  | nil => intro t h; exact h
  | cons x r ih =>
    intro t h
    exact ih (fun e he => hu e (by simp [he])) (h.put (hu x (by simp)) x.2)
theorem Fits.sift {Ks : List ByteArray} {u t : Tr ByteArray} (hu : Srt lt u.toL) (h : Fits Ks t) (b : Bool) : Fits Ks (siftT u b t t.toL) := by
  have e := toL_sift u b t hu h.1
  refine ⟨by rw [e]; exact h.1.filter _, fun x hx => ?_⟩
  rw [e] at hx
  exact h.2 x (List.mem_filter.1 hx).1
theorem MapAt.kt2 {w w' : World} {e : TypeId} (h : KT e w w') (hne : (142 : Nat) ≠ e) (hne' : (129 : Nat) ≠ e) {m : Nat} {t : Tr ByteArray} (hm : MapAt w m t) : MapAt w' m t :=
  let ⟨p, h1, h2⟩ := hm; ⟨p, h.out _ _ _ _ hne' h1, h2.keep fun k c f hk => h.out k c 142 f hne hk⟩

/-- a version: the map, and the document's list -/
structure Ver where
  m : Nat
  t : Tr ByteArray
  a : Option Addr
  c : Nat
def verM (v : Ver) : List Value := [ptr v.m]
def verR (v : Ver) : List Value := [.slice v.a v.t.toL.length v.c]
def VOk (Ks : List ByteArray) (w : World) (v : Ver) : Prop := MapAt w v.m v.t ∧ Fits Ks v.t ∧ PA w v.a v.t.toL ∧ v.t.toL.length ≤ v.c
theorem VOk.ext {Ks : List ByteArray} {w w' : World} {v : Ver} (h : VOk Ks w v) (hx : Ext w w') : VOk Ks w' v := ⟨h.1.ext hx, h.2.1, h.2.2.1.ext hx, h.2.2.2⟩
theorem VOk.kt {Ks : List ByteArray} {w w' : World} {v : Ver} {e : TypeId} (h : VOk Ks w v) (hk : KT e w w') (h1 : (142 : Nat) ≠ e) (h2 : (129 : Nat) ≠ e) (h3 : (145 : Nat) ≠ e) : VOk Ks w' v := ⟨h.1.kt2 hk h1 h2, h.2.1, ElT.kt hk h.2.2.1 h3, h.2.2.2⟩
theorem VOk.mono {Ks Ks' : List ByteArray} {w : World} {v : Ver} (h : VOk Ks w v) (hm : ∀ k ∈ Ks, k ∈ Ks') : VOk Ks' w v := ⟨h.1, h.2.1.mono hm, h.2.2⟩
theorem VOk.len {Ks : List ByteArray} {w : World} {v : Ver} (h : VOk Ks w v) : v.t.toL.length ≤ Ks.length := by rw [Tr.length_toL]; exact h.2.1.size
/-- the versions at bI -/
def WI (w : World) (B bI : Nat) (Ks : List ByteArray) (vs : List Ver) : Prop := ∃ am cm ar cr, w.heap[bI]? = some (.cells #[.slice am vs.length cm, .slice ar vs.length cr] 100 (0, 0)) ∧ B ≤ bI ∧
  Own w B 105 1 (.slice am vs.length cm) vs.length (vs.flatMap verM) ∧ Own w B 113 1 (.slice ar vs.length cr) vs.length (vs.flatMap verR) ∧ ∀ v ∈ vs, VOk Ks w v
theorem WI.ext {w w' : World} {B bI : Nat} {Ks : List ByteArray} {vs : List Ver} (h : WI w B bI Ks vs) (hx : Ext w w') : WI w' B bI Ks vs :=
  let ⟨am, cm, ar, cr, h1, h2, h3, h4, h5⟩ := h; ⟨am, cm, ar, cr, hx.heap h1, h2, h3.cext hx.cext, h4.cext hx.cext, fun v hv => (h5 v hv).ext hx⟩

/-- what stays while versions are added -/
def KW (w w' : World) : Prop := ∀ (k : Nat) (c : Array Value) (t : TypeId) (f : Nat × Nat), t ≠ 100 → t ≠ 105 → t ≠ 113 → w.heap[k]? = some (.cells c t f) → w'.heap[k]? = some (.cells c t f)
theorem KW.trans {a b c : World} (h : KW a b) (k : KW b c) : KW a c := fun i cs t f h1 h2 h3 hi => k i cs t f h1 h2 h3 (h i cs t f h1 h2 h3 hi)
theorem KW.ext {w w' : World} (h : Ext w w') : KW w w' := fun _ _ _ _ _ _ _ hk => h.heap hk
theorem KW.kt {w w' : World} {e : TypeId} (h : KT e w w') (he : e = 100 ∨ e = 105 ∨ e = 113) : KW w w' := fun k c t f h1 h2 h3 hk => h.out k c t f (by rcases he with rfl | rfl | rfl <;> assumption) hk

theorem add_w (B bI : Nat) (Ks Ks' : List ByteArray) (vs : List Ver) (nv : Ver) (w : World) (hw : WI w B bI Ks vs) (hn : vs.length ≤ 5000) (hK : Ks'.length ≤ 100000) (hsub : ∀ k ∈ Ks, k ∈ Ks') (hv : VOk Ks' w nv) :
    Rg Try.prog 104 [.pointer (some ⟨bI, 0, none⟩), ptr nv.m, .slice nv.a nv.t.toL.length nv.c] w fun x w' => x = .bool true ∧ Bl (· < B) w w' ∧ KW w w' ∧ WI w' B bI Ks' (vs ++ [nv]) := by
  have hlen := hv.len
  have hsz : nv.t.size = nv.t.toL.length := (Tr.length_toL _).symm
  refine Rg.of Try.func104 rfl Try.ntmps104 (by rfl) ?_
  refine CD.rs FW.wide rfl ?_
  refine PL.q rfl rfl (OQ.assign rfl) rfl ?_
  refine PL.to ?_
  refine CD.seq ?_
  refine CD.rs FW.wide rfl ?_
  refine PL.q rfl rfl (OQ.move rfl) rfl ?_
  refine PL.q rfl rfl ((by first | exact OQ.eqNN rfl rfl | exact OQ.eqNS rfl rfl | exact OQ.eqN rfl rfl)) rfl ?_
  refine PL.q rfl rfl (OQ.move rfl) rfl ?_
  refine PL.q rfl rfl (OQ.move rfl) rfl ?_
  refine PL.call FW.wide rfl rfl rfl rfl (Len_w nv.m nv.t w hv.1) ?_
  rintro _ _ _ ⟨rfl, rfl⟩
  refine PL.q rfl rfl (OQ.move rfl) rfl ?_
  refine PL.q rfl rfl (OQ.lenS rfl) rfl ?_
  refine PL.q rfl rfl (OQ.no (OQ.neq rfl rfl) (by simp only [decide_eq_false_iff_not]; omega)) rfl ?_
  refine PL.q rfl rfl ((by first | exact OQ.pickT rfl rfl | exact OQ.pickF rfl rfl)) rfl ?_
  refine PL.to ?_
  refine CD.condF rfl ?_
  refine CD.skip ?_
  refine CD.seq ?_
  refine CD.rs FW.wide rfl ?_
  refine PL.q rfl rfl (OQ.assign rfl) rfl ?_
  refine PL.to ?_
  refine CD.block ?_
  refine CD.loop (α := Nat) (fun s => [(0, .pointer (some ⟨bI, 0, none⟩)), (1, ptr nv.m), (2, .slice nv.a nv.t.toL.length nv.c), (7, .int .i64 s)]) (fun s w' => Ext w w' ∧ s ≤ nv.t.toL.length) (fun s => nv.t.toL.length - s) 0 ⟨rfl, rfl, rfl, rfl, trivial⟩ ⟨Ext.refl _, by simp⟩ ?_
  rintro i w1 ⟨hx1, hi⟩
  have hv1 := hv.ext hx1
  refine CD.seq ?_
  refine CD.rs FW.wide rfl ?_
  refine PL.q rfl rfl (OQ.move rfl) rfl ?_
  refine PL.q rfl rfl (OQ.move rfl) rfl ?_
  refine PL.q rfl rfl (OQ.lenS rfl) rfl ?_
  refine PL.q rfl rfl (OQ.lss rfl rfl) rfl ?_
  refine PL.to ?_
  refine CD.condD rfl (fun h4 => ?_) (fun h4 => ?_)
  · have hlt : i < nv.t.toL.length := by omega
    have q4 : atT nv.t (i : Int) = some nv.t.toL[i] := by rw [atT_eq, if_pos (by omega)]; simp [hlt]
    refine CD.skip ?_
    refine CD.seq ?_
    refine CD.block ?_
    refine CD.rs FW.wide rfl ?_
    refine PL.q rfl rfl (OQ.move rfl) rfl ?_
    refine PL.q rfl rfl (OQ.move rfl) rfl ?_
    refine PL.call FW.wide rfl rfl rfl rfl (At_w nv.m i nv.t w1 hv1.1 (by omega) (by omega) (by omega)) ?_
    rintro _ w29 hx29 rfl
    rw [q4]
    obtain ⟨b, o, ea, hc, _⟩ := (hv1.2.2.1.ext hx29) i hlt
    have c0 : w29.cell? ⟨b, o + i * 2 + 0, none⟩ = some (kv nv.t.toL[i].1) := hc 0 _ rfl
    have c1 : w29.cell? ⟨b, o + i * 2 + 1, none⟩ = some (.int .i64 nv.t.toL[i].2) := hc 1 _ rfl
    refine PL.sub [(0, .pointer (some ⟨bI, 0, none⟩)), (1, ptr nv.m), (2, .slice (some ⟨b, o, none⟩) nv.t.toL.length nv.c), (7, .int .i64 i), (29, .tuple #[kv nv.t.toL[i].1, .int .i64 nv.t.toL[i].2, .bool true])] ⟨rfl, rfl, by rw [← ea]; rfl, rfl, rfl, trivial⟩ ?_
    refine PL.q rfl rfl (OQ.move rfl) rfl ?_
    refine PL.q rfl rfl (OQ.extract rfl rfl) rfl ?_
    refine PL.q rfl rfl (OQ.extract rfl rfl) rfl ?_
    refine PL.q rfl rfl (OQ.extract rfl rfl) rfl ?_
    refine PL.q rfl rfl (OQ.assign rfl) rfl ?_
    refine PL.q rfl rfl (OQ.assign rfl) rfl ?_
    refine PL.q rfl rfl (OQ.assign rfl) rfl ?_
    refine PL.to ?_
    refine CD.rs FW.wide rfl ?_
    refine PL.q rfl rfl (OQ.move rfl) rfl ?_
    refine PL.q rfl rfl (OQ.not rfl) rfl ?_
    refine PL.q rfl rfl (OQ.move rfl) rfl ?_
    refine PL.q rfl rfl (OQ.move rfl) rfl ?_
    refine PL.q rfl rfl (OQ.move rfl) rfl ?_
    refine PL.q rfl rfl (OQ.move rfl) rfl ?_
    refine PL.q rfl rfl (OQ.indexAddr rfl rfl (by first | assumption | omega)) rfl ?_
    refine PL.q rfl rfl (OQ.field rfl) rfl ?_
    refine PL.q rfl rfl (OQ.loadS rfl (by assumption)) rfl ?_
    refine PL.q rfl rfl (OQ.cast (OQ.sneq rfl rfl) ((show _ = Value.bool false by simp))) rfl ?_
    refine PL.q rfl rfl ((by first | exact OQ.pickT rfl rfl | exact OQ.pickF rfl rfl)) rfl ?_
    refine PL.q rfl rfl (OQ.move rfl) rfl ?_
    refine PL.q rfl rfl (OQ.move rfl) rfl ?_
    refine PL.q rfl rfl (OQ.move rfl) rfl ?_
    refine PL.q rfl rfl (OQ.move rfl) rfl ?_
    refine PL.q rfl rfl (OQ.indexAddr rfl rfl (by first | assumption | omega)) rfl ?_
    refine PL.q rfl rfl (OQ.field rfl) rfl ?_
    refine PL.q rfl rfl (OQ.loadS rfl (by assumption)) rfl ?_
    refine PL.q rfl rfl (OQ.no (OQ.neq rfl rfl) (by simp)) rfl ?_
    refine PL.q rfl rfl ((by first | exact OQ.pickT rfl rfl | exact OQ.pickF rfl rfl)) rfl ?_
    refine PL.to ?_
    refine CD.condF rfl ?_
    refine CD.skip ?_
    refine CD.r FW.wide rfl ?_
    refine PL.q rfl rfl (OQ.move rfl) rfl ?_
    refine PL.q rfl rfl (OQ.addW (r := ((i + 1 : Nat) : Int)) rfl rfl (wrap_succ (by omega))) rfl ?_
    refine PL.q rfl rfl (OQ.assign rfl) rfl ?_
    refine PL.nil ?_
    exact fun a ha => ⟨i + 1, ha.sub ⟨rfl, rfl, by rw [← ea]; rfl, rfl, trivial⟩, ⟨hx1.trans hx29, by omega⟩, by omega⟩
  · refine CD.exit ?_
    obtain ⟨am, cm, ar, cr, hh, hB, om, or', hvs⟩ := hw.ext hx1
    have d0 : w1.cell? ⟨bI, 0, none⟩ = some (.slice am vs.length cm) := cell_of_heap hh rfl
    refine CD.rs FW.wide rfl ?_
    refine PL.q rfl rfl (OQ.move rfl) rfl ?_
    refine PL.q rfl rfl (OQ.move rfl) rfl ?_
    refine PL.q rfl rfl ((by first | exact OQ.nilp rfl | exact OQ.nily rfl | exact OQ.nilf rfl)) rfl ?_
    refine PL.q rfl rfl ((by first | exact OQ.field0 rfl | exact OQ.field rfl)) rfl ?_
    refine PL.q rfl rfl (OQ.loadS rfl (by assumption)) rfl ?_
    refine PL.q rfl rfl (OQ.move rfl) rfl ?_
    refine PL.slice1 FW.wide rfl rfl rfl rfl rfl rfl ?_
    intro b6 w6 new6
    have hbI : bI < w1.heap.size := (Array.getElem?_eq_some_iff.1 hh).1
    have s6 := new6.ext.size
    refine PL.app [ptr nv.m] FW.wide rfl rfl rfl rfl rfl (om.cext new6.ext.cext) (CellsAt.of_heap new6.heap) rfl rfl (by decide) (by omega) (by omega) (by omega) (fun _ _ => .inl trivial) ?_
    intro v7 w7 om7 hg7 _
    have k7 : KT 105 w6 w7 := grown_kt (om.cext new6.ext.cext) hg7
    have hh7 := grown_heap hg7 (new6.ext.heap hh) (own_ne om hh (by decide))
    have bl7 : Bl (· < B) w6 w7 := grown_bl hg7 fun k hk => ⟨by omega, fun e => by have := (World.ownsRow.lt om k e).1; omega⟩
    have or7 := Own.kt k7 (or'.cext new6.ext.cext) (by decide)
    obtain ⟨am7, cm7, rfl⟩ : ∃ a c, v7 = .slice a (vs.length + 1) c := by
      rcases om7.form with ⟨_, h0⟩ | ⟨g7, cap, rfl, _, _⟩
      · omega
      · exact ⟨_, _, rfl⟩
    refine PL.q rfl rfl ((by first | exact OQ.nilp rfl | exact OQ.nily rfl | exact OQ.nilf rfl)) rfl ?_
    refine PL.q rfl rfl ((by first | exact OQ.field0 rfl | exact OQ.field rfl)) rfl ?_
    refine PL.put FW.wide rfl rfl rfl rfl rfl hh7 rfl rfl rfl rfl (fun _ _ => .inl trivial) ?_
    intro w8 hw8
    have k8 : KT 100 w7 w8 := hw8.kt hh7
    have hh8 : w8.heap[bI]? = some (.cells #[.slice am7 (vs.length + 1) cm7, .slice ar vs.length cr] 100 (0, 0)) := hw8.heap
    have om8 := Own.kt k8 om7 (by decide)
    have or8 := Own.kt k8 or7 (by decide)
    have bl8 : Bl (· < B) w7 w8 := hw8.bl (by simp; omega)
    refine PL.to ?_
    refine CD.rs FW.wide rfl ?_
    have d1 : w8.cell? ⟨bI, 1, none⟩ = some (.slice ar vs.length cr) := cell_of_heap hh8 rfl
    refine PL.q rfl rfl (OQ.move rfl) rfl ?_
    refine PL.q rfl rfl (OQ.move rfl) rfl ?_
    refine PL.q rfl rfl ((by first | exact OQ.nilp rfl | exact OQ.nily rfl | exact OQ.nilf rfl)) rfl ?_
    refine PL.q rfl rfl ((by first | exact OQ.field0 rfl | exact OQ.field rfl)) rfl ?_
    refine PL.q rfl rfl (OQ.loadS rfl (by assumption)) rfl ?_
    refine PL.q rfl rfl (OQ.move rfl) rfl ?_
    refine PL.slice1 FW.wide rfl rfl rfl rfl rfl rfl ?_
    intro b9 w9 new9
    have s7 := hg7.size
    have s8 := hw8.size
    have s9 := new9.ext.size
    refine PL.app [.slice nv.a nv.t.toL.length nv.c] FW.wide rfl rfl rfl rfl rfl (or8.cext new9.ext.cext) (CellsAt.of_heap new9.heap) rfl rfl (by decide) (by omega) (by omega) (by omega) (fun _ _ => .inl trivial) ?_
    intro v10 w10 or10 hg10 _
    have k10 : KT 113 w9 w10 := grown_kt (or8.cext new9.ext.cext) hg10
    have hh10 := grown_heap hg10 (new9.ext.heap hh8) (own_ne or8 hh8 (by decide))
    have bl10 : Bl (· < B) w9 w10 := grown_bl hg10 fun k hk => ⟨by omega, fun e => by have := (World.ownsRow.lt or8 k e).1; omega⟩
    have om10 := Own.kt k10 (om8.cext new9.ext.cext) (by decide)
    obtain ⟨ar10, cr10, rfl⟩ : ∃ a c, v10 = .slice a (vs.length + 1) c := by
      rcases or10.form with ⟨_, h0⟩ | ⟨g7, cap, rfl, _, _⟩
      · omega
      · exact ⟨_, _, rfl⟩
    refine PL.q rfl rfl ((by first | exact OQ.nilp rfl | exact OQ.nily rfl | exact OQ.nilf rfl)) rfl ?_
    refine PL.q rfl rfl ((by first | exact OQ.field0 rfl | exact OQ.field rfl)) rfl ?_
    refine PL.put FW.wide rfl rfl rfl rfl rfl hh10 rfl rfl rfl rfl (fun _ _ => .inl trivial) ?_
    intro w11 hw11
    have k11 : KT 100 w10 w11 := hw11.kt hh10
    have om11 := Own.kt k11 om10 (by decide)
    have or11 := Own.kt k11 or10 (by decide)
    have hh11 : w11.heap[bI]? = some (.cells #[.slice am7 (vs.length + 1) cm7, .slice ar10 (vs.length + 1) cr10] 100 (0, 0)) := hw11.heap
    have bl11 : Bl (· < B) w10 w11 := hw11.bl (by simp; omega)
    have bl01 : Bl (· < B) w w1 := hx1.bl fun k hk => by
      obtain ⟨_, _, _, _, hh0, hB0, _⟩ := hw
      have := (Array.getElem?_eq_some_iff.1 hh0).1; omega
    have all : ∀ v, VOk Ks' w1 v → VOk Ks' w11 v := fun v hv => (((((hv.ext new6.ext).kt k7 (by decide) (by decide) (by decide)).kt k8 (by decide) (by decide) (by decide)).ext new9.ext).kt k10 (by decide) (by decide) (by decide)).kt k11 (by decide) (by decide) (by decide)
    refine PL.to ?_
    refine CD.rs FW.wide rfl ?_
    refine PL.q rfl rfl (OQ.assign rfl) rfl ?_
    refine PL.to ?_
    refine CD.ret (post1 rfl rfl ⟨_, rfl, rfl, ?_, ?_, am7, cm7, ar10, cr10, ?_, hB, ?_, ?_, ?_⟩)
    · exact (((((bl01.trans (new6.ext.bl fun k hk => by omega)).trans bl7).trans bl8).trans (new9.ext.bl fun k hk => by omega)).trans bl10).trans bl11
    · exact (((((KW.ext (hx1.trans new6.ext)).trans (.kt k7 (by simp))).trans (.kt k8 (by simp))).trans (.ext new9.ext)).trans (.kt k10 (by simp))).trans (.kt k11 (by simp))
    · simpa using hh11
    · have e : (vs ++ [nv]).flatMap verM = vs.flatMap verM ++ [ptr nv.m] := by simp [verM]
      simpa [e] using om11
    · have e : (vs ++ [nv]).flatMap verR = vs.flatMap verR ++ [.slice nv.a nv.t.toL.length nv.c] := by simp [verR]
      simpa [e] using or11
    · intro v hvv
      rcases List.mem_append.1 hvv with h | h
      · exact all v ((hvs v h).mono hsub)
      · obtain rfl : v = nv := by simpa using h
        exact all v hv1
end Go.Proofs.Ytdielcpjemkngaa.OS
