/-
  The walks of the laws' helpers still and alike; which keys a version may have.
-/
import Derived.Test.YtdielcpjemkngaaOb2
namespace Go.Proofs.Ytdielcpjemkngaa
open Go.RowKit OI
set_option linter.unusedVariables false

theorem own_ints {w : World} {B k c : Nat} {a : Option Addr} {z : List Int} (h : Own w B 3 1 (.slice a k c) k (i64s z)) : IntsAt w .i64 a z := h.cells1

theorem still_w (m : Nat) (t : Tr Int) (ak : Option Addr) (ck : Nat) (av : Option Addr) (cv : Nat) (w : World) (hm : MapAt w m t) (hs : Srt lt t.toL) (hsz : t.size * 8 ≤ 140737488355328) (hk : IntsAt w .i64 ak (keysL t)) (hv : IntsAt w .i64 av (valsL t)) :
    Rt Try.prog 30 [.agg #[ptr m, .slice ak t.size ck, .slice av t.size cv]] w fun v _ => v = .bool true := by
  refine Rt.of Try.func30 rfl Try.ntmps30 (by rfl) ?_
  refine CD.rs FW.wide rfl ?_
  refine PL.box FW.wide rfl rfl rfl rfl ?_
  intro b1 w1 new1
  refine PL.q rfl rfl (OQ.assign rfl) rfl ?_
  refine PL.to ?_
  refine CD.rs FW.wide rfl ?_
  have hh1 : w1.heap[b1]? = some (.cells #[ptr m, .slice ak t.size ck, .slice av t.size cv] 41 (0, 0)) := new1.heap
  have c0 : w1.cell? ⟨b1, 0, none⟩ = some (ptr m) := cell_of_heap hh1 rfl
  refine PL.q rfl rfl ((by first | exact OQ.field0 rfl | exact OQ.field rfl)) rfl ?_
  refine PL.q rfl rfl (OQ.loadS rfl (by assumption)) rfl ?_
  refine PL.call FW.wide rfl rfl rfl rfl (snap_w m t w1 (hm.ext new1.ext) hs hsz) ?_
  rintro _ w8 hx8 ⟨ak', ck', av', cv', rfl, ok, ov⟩
  refine PL.q rfl rfl (OQ.move rfl) rfl ?_
  refine PL.q rfl rfl (OQ.extract rfl rfl) rfl ?_
  refine PL.q rfl rfl (OQ.extract rfl rfl) rfl ?_
  refine PL.alloc FW.wide rfl rfl rfl ?_
  intro b3 w3 new3
  refine PL.put FW.wide rfl rfl rfl rfl rfl new3.heap rfl rfl rfl rfl (fun _ _ => .inl trivial) ?_
  intro w17 hw17
  refine PL.q rfl rfl (OQ.assign rfl) rfl ?_
  have b3ge : w8.heap.size = b3 := new3.idx.symm
  have hx17 : Ext w8 w17 := hw17.ext new3.ext (by omega)
  have hx117 : Ext w1 w17 := hx8.trans hx17
  have hx017 : Ext w w17 := new1.ext.trans hx117
  have d1 : w17.cell? ⟨b1, 1, none⟩ = some (.slice ak t.size ck) := cell_of_heap (hx117.heap hh1) rfl
  have d2 : w17.cell? ⟨b1, 2, none⟩ = some (.slice av t.size cv) := cell_of_heap (hx117.heap hh1) rfl
  have hh3 : w17.heap[b3]? = some (.cells #[ptr m, .slice ak' t.size ck', .slice av' t.size cv'] 41 (0, 0)) := hw17.heap
  have e1 : w17.cell? ⟨b3, 1, none⟩ = some (.slice ak' t.size ck') := cell_of_heap hh3 rfl
  have e2 : w17.cell? ⟨b3, 2, none⟩ = some (.slice av' t.size cv') := cell_of_heap hh3 rfl
  have hlk := length_keysL t
  have hlv := length_valsL t
  refine PL.to ?_
  refine CD.rs FW.wide rfl ?_
  refine PL.q rfl rfl (OQ.move rfl) rfl ?_
  refine PL.q rfl rfl (OQ.move rfl) rfl ?_
  refine PL.q rfl rfl ((by first | exact OQ.field0 rfl | exact OQ.field rfl)) rfl ?_
  refine PL.q rfl rfl (OQ.loadS rfl (by assumption)) rfl ?_
  refine PL.q rfl rfl ((by first | exact OQ.field0 rfl | exact OQ.field rfl)) rfl ?_
  refine PL.q rfl rfl (OQ.loadS rfl (by assumption)) rfl ?_
  have s1 := sameInts_w ak ak' ck ck' (keysL t) (keysL t) w17 (hk.ext hx017) ((own_ints ok).ext hx17) (by omega)
  rw [hlk] at s1
  refine PL.call FW.wide rfl rfl rfl rfl s1 ?_
  rintro _ w20 hx20 rfl
  rw [decide_eq_true rfl]
  have d2' := hx20.cell d2
  have e2' := hx20.cell e2
  refine PL.q rfl rfl ((by first | exact OQ.pickT rfl rfl | exact OQ.pickF rfl rfl)) rfl ?_
  refine PL.q rfl rfl (OQ.move rfl) rfl ?_
  refine PL.q rfl rfl ((by first | exact OQ.field0 rfl | exact OQ.field rfl)) rfl ?_
  refine PL.q rfl rfl (OQ.loadS rfl (by assumption)) rfl ?_
  refine PL.q rfl rfl ((by first | exact OQ.field0 rfl | exact OQ.field rfl)) rfl ?_
  refine PL.q rfl rfl (OQ.loadS rfl (by assumption)) rfl ?_
  have s2 := sameInts_w av av' cv cv' (valsL t) (valsL t) w20 (hv.ext (hx017.trans hx20)) (((own_ints ov).ext hx17).ext hx20) (by omega)
  rw [hlv] at s2
  refine PL.call FW.wide rfl rfl rfl rfl s2 ?_
  rintro _ w21 hx21 rfl
  rw [decide_eq_true rfl]
  refine PL.q rfl rfl ((by first | exact OQ.pickT rfl rfl | exact OQ.pickF rfl rfl)) rfl ?_
  refine PL.q rfl rfl (OQ.assign rfl) rfl ?_
  refine PL.to ?_
  exact CD.ret (post1 rfl rfl ⟨_, rfl, (hx017.trans hx20).trans hx21, rfl⟩)

theorem alike_w (m m' : Nat) (t t' : Tr Int) (w : World) (hm : MapAt w m t) (hm' : MapAt w m' t') (hs : Srt lt t.toL) (hs' : Srt lt t'.toL) (hsz : t.size * 8 ≤ 140737488355328) (he : t'.toL = t.toL) :
    Rt Try.prog 40 [ptr m, ptr m'] w fun v _ => v = .bool true := by
  have hsz' : t'.size = t.size := by rw [← Tr.length_toL, he, Tr.length_toL]
  have ek : keysL t' = keysL t := by simp [keysL, he]
  have ev' : valsL t' = valsL t := by simp [valsL, he]
  refine Rt.of Try.func40 rfl Try.ntmps40 (by rfl) ?_
  refine CD.rs FW.wide rfl ?_
  refine PL.q rfl rfl (OQ.assign rfl) rfl ?_
  refine PL.to ?_
  refine CD.seq ?_
  refine CD.rs FW.wide rfl ?_
  refine PL.q rfl rfl (OQ.move rfl) rfl ?_
  refine PL.q rfl rfl ((by first | exact OQ.eqNN rfl rfl | exact OQ.eqNS rfl rfl | exact OQ.eqN rfl rfl)) rfl ?_
  refine PL.q rfl rfl (OQ.move rfl) rfl ?_
  refine PL.q rfl rfl (OQ.move rfl) rfl ?_
  refine PL.q rfl rfl ((by first | exact OQ.eqNN rfl rfl | exact OQ.eqNS rfl rfl | exact OQ.eqN rfl rfl)) rfl ?_
  refine PL.q rfl rfl ((by first | exact OQ.pickT rfl rfl | exact OQ.pickF rfl rfl)) rfl ?_
  refine PL.to ?_
  refine CD.condF rfl ?_
  refine CD.skip ?_
  refine CD.rs FW.wide rfl ?_
  refine PL.q rfl rfl (OQ.move rfl) rfl ?_
  refine PL.call FW.wide rfl rfl rfl rfl (snap_w m t w hm hs hsz) ?_
  rintro _ w1 hx1 ⟨ak, ck, av, cv, rfl, ok, ov⟩
  refine PL.q rfl rfl (OQ.move rfl) rfl ?_
  refine PL.q rfl rfl (OQ.extract rfl rfl) rfl ?_
  refine PL.q rfl rfl (OQ.extract rfl rfl) rfl ?_
  refine PL.alloc FW.wide rfl rfl rfl ?_
  intro b5 w5 new5
  refine PL.put FW.wide rfl rfl rfl rfl rfl new5.heap rfl rfl rfl rfl (fun _ _ => .inl trivial) ?_
  intro w2 hw2
  refine PL.q rfl rfl (OQ.assign rfl) rfl ?_
  have hb5 : w1.heap.size = b5 := new5.idx.symm
  have hx2 : Ext w1 w2 := hw2.ext new5.ext (by omega)
  have hh5 : w2.heap[b5]? = some (.cells #[ptr m, .slice ak t.size ck, .slice av t.size cv] 41 (0, 0)) := hw2.heap
  refine PL.to ?_
  refine CD.rs FW.wide rfl ?_
  refine PL.q rfl rfl (OQ.move rfl) rfl ?_
  refine PL.call FW.wide rfl rfl rfl rfl (snap_w m' t' w2 (hm'.ext (hx1.trans hx2)) hs' (by omega)) ?_
  rintro _ w3 hx3 ⟨ak', ck', av', cv', rfl, ok', ov'⟩
  refine PL.q rfl rfl (OQ.move rfl) rfl ?_
  refine PL.q rfl rfl (OQ.extract rfl rfl) rfl ?_
  refine PL.q rfl rfl (OQ.extract rfl rfl) rfl ?_
  refine PL.alloc FW.wide rfl rfl rfl ?_
  intro b7 w7 new7
  refine PL.put FW.wide rfl rfl rfl rfl rfl new7.heap rfl rfl rfl rfl (fun _ _ => .inl trivial) ?_
  intro w4 hw4
  refine PL.q rfl rfl (OQ.assign rfl) rfl ?_
  have hb7 : w3.heap.size = b7 := new7.idx.symm
  have hx4 : Ext w3 w4 := hw4.ext new7.ext (by omega)
  have hh7 : w4.heap[b7]? = some (.cells #[ptr m', .slice ak' t'.size ck', .slice av' t'.size cv'] 41 (0, 0)) := hw4.heap
  have hx24 : Ext w2 w4 := hx3.trans hx4
  have d1 : w4.cell? ⟨b5, 1, none⟩ = some (.slice ak t.size ck) := cell_of_heap (hx24.heap hh5) rfl
  have d2 : w4.cell? ⟨b5, 2, none⟩ = some (.slice av t.size cv) := cell_of_heap (hx24.heap hh5) rfl
  have e1 : w4.cell? ⟨b7, 1, none⟩ = some (.slice ak' t'.size ck') := cell_of_heap hh7 rfl
  have e2 : w4.cell? ⟨b7, 2, none⟩ = some (.slice av' t'.size cv') := cell_of_heap hh7 rfl
  have hlk := length_keysL t
  have hlv := length_valsL t
  have hlk' := length_keysL t'
  have hlv' := length_valsL t'
  refine PL.to ?_
  refine CD.rs FW.wide rfl ?_
  refine PL.q rfl rfl (OQ.move rfl) rfl ?_
  refine PL.q rfl rfl (OQ.move rfl) rfl ?_
  refine PL.q rfl rfl (OQ.move rfl) rfl ?_
  refine PL.q rfl rfl ((by first | exact OQ.pickT rfl rfl | exact OQ.pickF rfl rfl)) rfl ?_
  refine PL.q rfl rfl (OQ.move rfl) rfl ?_
  refine PL.q rfl rfl ((by first | exact OQ.field0 rfl | exact OQ.field rfl)) rfl ?_
  refine PL.q rfl rfl (OQ.loadS rfl (by assumption)) rfl ?_
  refine PL.q rfl rfl ((by first | exact OQ.field0 rfl | exact OQ.field rfl)) rfl ?_
  refine PL.q rfl rfl (OQ.loadS rfl (by assumption)) rfl ?_
  have s1 := sameInts_w ak ak' ck ck' (keysL t) (keysL t') w4 ((own_ints ok).ext (hx2.trans hx24)) ((own_ints ok').ext hx4) (by omega)
  rw [hlk, hlk'] at s1
  refine PL.call FW.wide rfl rfl rfl rfl s1 ?_
  rintro _ w5 hx5 rfl
  rw [decide_eq_true ek.symm]
  have d2' := hx5.cell d2
  have e2' := hx5.cell e2
  refine PL.q rfl rfl ((by first | exact OQ.pickT rfl rfl | exact OQ.pickF rfl rfl)) rfl ?_
  refine PL.q rfl rfl (OQ.move rfl) rfl ?_
  refine PL.q rfl rfl ((by first | exact OQ.field0 rfl | exact OQ.field rfl)) rfl ?_
  refine PL.q rfl rfl (OQ.loadS rfl (by assumption)) rfl ?_
  refine PL.q rfl rfl ((by first | exact OQ.field0 rfl | exact OQ.field rfl)) rfl ?_
  refine PL.q rfl rfl (OQ.loadS rfl (by assumption)) rfl ?_
  have s2 := sameInts_w av av' cv cv' (valsL t) (valsL t') w5 ((own_ints ov).ext ((hx2.trans hx24).trans hx5)) ((own_ints ov').ext (hx4.trans hx5)) (by omega)
  rw [hlv, hlv'] at s2
  refine PL.call FW.wide rfl rfl rfl rfl s2 ?_
  rintro _ w6 hx6 rfl
  rw [decide_eq_true ev'.symm]
  refine PL.q rfl rfl ((by first | exact OQ.pickT rfl rfl | exact OQ.pickF rfl rfl)) rfl ?_
  refine PL.q rfl rfl (OQ.assign rfl) rfl ?_
  refine PL.to ?_
  exact CD.ret (post1 rfl rfl ⟨_, rfl, (((hx1.trans hx2).trans hx24).trans hx5).trans hx6, rfl⟩)

/-- the keys rise, each one of Ks -/
def Fit (Ks : List Int) (t : Tr Int) : Prop := Srt lt t.toL ∧ ∀ e ∈ t.toL, e.1 ∈ Ks
theorem sorted_length : ∀ (l Ks : List Int), l.Pairwise (· < ·) → (∀ e ∈ l, e ∈ Ks) → l.length ≤ Ks.length
  | [], _, _, _ => by simp
  | x :: r, Ks, hp, hm => by
    have hx : x ∈ Ks := hm x (by simp)
    have hp' := List.pairwise_cons.1 hp
    have ih := sorted_length r (Ks.erase x) hp'.2 (fun e he => by
      have hne : e ≠ x := fun c => by have := hp'.1 e he; omega
      exact (List.mem_erase_of_ne hne).2 (hm e (by simp [he])))
    rw [List.length_erase_of_mem hx] at ih
    have := List.length_pos_of_mem hx
    simp only [List.length_cons]; omega
theorem Fit.size {Ks : List Int} {t : Tr Int} (h : Fit Ks t) : t.size ≤ Ks.length := by
  have h1 : (keysL t).Pairwise (· < ·) := by
    rw [keysL, List.pairwise_map]
    exact h.1.imp fun hab => by simpa [lt] using hab
  have := sorted_length (keysL t) Ks h1 (fun e he => by
    obtain ⟨x, hx, rfl⟩ := List.mem_map.1 he
    exact h.2 x hx)
  rwa [length_keysL] at this
theorem Fit.mono {Ks Ks' : List Int} {t : Tr Int} (h : Fit Ks t) (hm : ∀ k ∈ Ks, k ∈ Ks') : Fit Ks' t := ⟨h.1, fun e he => hm _ (h.2 e he)⟩
theorem fit_leaf (Ks : List Int) : Fit Ks .leaf := ⟨by simp [Srt, Tr.toL], by simp [Tr.toL]⟩
theorem mem_ins {k v : Int} {l : Ents Int} {e : Int × Int} (h : e ∈ ins lt k v l) : e = (k, v) ∨ e ∈ l := by
  simp only [ins, List.mem_append, List.mem_cons, lows, highs, List.mem_filter] at h
  rcases h with h | h | h
  · exact .inr h.1
  · exact .inl h
  · exact .inr h.1
theorem Fit.put {Ks : List Int} {t : Tr Int} (h : Fit Ks t) {k : Int} (hk : k ∈ Ks) (v : Int) : Fit Ks (t.put lt k v) := by
  have e := toL_put k v t h.1
  refine ⟨by rw [e]; exact srt_ins lo _ _ h.1, fun x hx => ?_⟩
  rw [e] at hx
  rcases mem_ins hx with rfl | hx
  · exact hk
  · exact h.2 x hx
theorem Fit.drop {Ks : List Int} {t : Tr Int} (h : Fit Ks t) (k : Int) : Fit Ks (t.drop lt k) := by
  have e := Tr.toL_drop lo k t h.1
  refine ⟨by rw [e]; exact h.1.filter _, fun x hx => ?_⟩
  rw [e] at hx
  exact h.2 x (List.mem_filter.1 hx).1
theorem Fit.join {Ks : List Int} {u : Tr Int} (hu : ∀ e ∈ u.toL, e.1 ∈ Ks) : ∀ {t : Tr Int}, Fit Ks t → Fit Ks (joinT t u.toL) := by
  generalize u.toL = l at hu
  induction l with
  | nil => intro t h; exact h
  | cons x r ih =>
    intro t h
    exact ih (fun e he => hu e (by simp [he])) (h.put (hu x (by simp)) x.2)
theorem Fit.sift {Ks : List Int} {u t : Tr Int} (hu : Srt lt u.toL) (h : Fit Ks t) (b : Bool) : Fit Ks (siftT u b t t.toL) := by
  have e := toL_sift u b t hu h.1
  refine ⟨by rw [e]; exact h.1.filter _, fun x hx => ?_⟩
  rw [e] at hx
  exact h.2 x (List.mem_filter.1 hx).1
theorem IsT.kt {w w' : World} {e : TypeId} (h : KT e w w') (hne : (86 : Nat) ≠ e) {p : Option Addr} {t : Tr Int} (ht : Tt w p t) : Tt w' p t := ht.keep fun k c f hk => h.out k c 86 f hne hk
theorem OI.MapAt.kt {w w' : World} {e : TypeId} (h : KT e w w') (hne : (86 : Nat) ≠ e) (hne' : (77 : Nat) ≠ e) {m : Nat} {t : Tr Int} (hm : MapAt w m t) : MapAt w' m t := let ⟨p, h1, h2⟩ := hm; ⟨p, h.out _ _ _ _ hne' h1, IsT.kt h hne h2⟩
end Go.Proofs.Ytdielcpjemkngaa
