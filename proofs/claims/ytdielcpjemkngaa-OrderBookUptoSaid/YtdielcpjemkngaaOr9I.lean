/-
  What the tables' further answers are, of their lists of entries: keys: numbers.
-/
import Derived.Test.YtdielcpjemkngaaOr8I
import Derived.Test.YtdielcpjemkngaaOr5I
import Derived.Test.YtdielcpjemkngaaOr7I
namespace Go.Proofs.Ytdielcpjemkngaa.OI

theorem atT_eq (t : Tr Int) : ∀ i : Int, atT t i = if 0 ≤ i then t.toL[i.toNat]? else none := by
  induction t with
  | leaf => intro i; simp [atT, Tr.toL]
  | node l k v r il ir =>
    intro i
    rw [atT, Tr.toL]
    have hl := Tr.length_toL l
    by_cases c : i < (l.size : Nat)
    · rw [if_pos c, il]
      by_cases d : 0 ≤ i
      · rw [if_pos d, if_pos d, List.getElem?_append_left (by omega)]
      · rw [if_neg d, if_neg d]
    · have h0 : 0 ≤ i := by omega
      rw [if_neg c, if_pos h0, List.getElem?_append_right (by omega)]
      by_cases d : ((l.size : Nat) : Int) < i
      · rw [if_pos d, ir, if_pos (by omega)]
        have e : i.toNat - l.toL.length = (i - (l.size : Nat) - 1).toNat + 1 := by omega
        rw [e, List.getElem?_cons_succ]
      · rw [if_neg d]
        have e : i.toNat - l.toL.length = 0 := by omega
        rw [e]; rfl
theorem fromL_eq (k : Int) (t : Tr Int) (h : Srt lt t.toL) : fromL k t = upto lt k t.toL := by
  induction t with
  | leaf => rfl
  | node l k' v r il ir =>
    have ⟨h1, h2, h3, h4⟩ := Srt.app (lt := lt) (l := l.toL) (r := r.toL) (k := k') (v := v) h
    rw [Tr.toL, upto_mid lo h, fromL, ← il h1, ← ir h2]
    cases lt k' k <;> simp
theorem toL_joinT (l : Ents Int) : ∀ t : Tr Int, Srt lt t.toL → (joinT t l).toL = l.foldl (fun a x => ins lt x.1 x.2 a) t.toL := by
  induction l with
  | nil => intro t _; rfl
  | cons x r ih =>
    intro t h
    have e := toL_put x.1 x.2 t h
    have := ih (t.put lt x.1 x.2) (by rw [e]; exact srt_ins lo _ _ h)
    rw [e] at this
    exact this
theorem toL_siftT (u : Tr Int) (there : Bool) (hu : Srt lt u.toL) (l : Ents Int) : ∀ t : Tr Int, Srt lt t.toL →
    (siftT u there t l).toL = t.toL.filter fun e => !(l.any fun x => !(lt x.1 e.1 || lt e.1 x.1) && ((getL lt x.1 u.toL).isSome != there)) := by
  induction l with
  | nil => intro t _; rw [siftT]; exact (List.filter_eq_self.2 fun _ _ => rfl).symm
  | cons x r ih =>
    intro t h
    rw [siftT, List.foldl_cons, find_eq _ _ hu]
    cases c : ((getL lt x.1 u.toL).isSome != there) with
    | true =>
      have e := Tr.toL_drop lo x.1 t h
      have := ih (t.drop lt x.1) (by rw [e]; exact h.filter _)
      rw [siftT] at this
      rw [cond_true, this, e, del, List.filter_filter]
      refine List.filter_congr fun y hy => ?_
      rw [List.any_cons, c]
      cases lt x.1 y.1 <;> cases lt y.1 x.1 <;> simp
    | false =>
      have := ih t h
      rw [siftT] at this
      rw [cond_false, this]
      refine List.filter_congr fun y hy => ?_
      rw [List.any_cons, c]
      simp
theorem toL_sift (u : Tr Int) (there : Bool) (t : Tr Int) (hu : Srt lt u.toL) (h : Srt lt t.toL) : (siftT u there t t.toL).toL = t.toL.filter fun e => (getL lt e.1 u.toL).isSome == there := by
  rw [toL_siftT u there hu _ _ h]
  refine List.filter_congr fun y hy => ?_
  cases c : ((getL lt y.1 u.toL).isSome == there) with
  | true =>
    simp only [Bool.not_eq_true', List.any_eq_false, Bool.and_eq_true, Bool.not_eq_true', Bool.or_eq_false_iff, not_and, and_imp]
    intro x hx h1 h2
    have e := lo.tot _ _ h1 h2
    rw [e, bne, c]; simp
  | false =>
    simp only [Bool.not_eq_false', List.any_eq_true]
    exact ⟨y, hy, by rw [lo.irr, bne, c]; rfl⟩
end Go.Proofs.Ytdielcpjemkngaa.OI
