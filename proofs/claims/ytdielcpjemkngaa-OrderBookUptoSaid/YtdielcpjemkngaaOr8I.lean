/-
  What the tables' answers are, of their lists of entries: keys: numbers.
-/
import Derived.Test.YtdielcpjemkngaaOrP
import Derived.Test.YtdielcpjemkngaaOr2I
namespace Go.Proofs.Ytdielcpjemkngaa.OI

theorem lo : Lo lt := ⟨fun a => by simp [lt], fun a b c => by simp only [lt, decide_eq_true_eq]; omega, fun a b => by simp only [lt, decide_eq_false_iff_not]; omega⟩
theorem ne_eq (a b : Int) : ne a b = (lt a b || lt b a) := by
  rw [Bool.eq_iff_iff]; simp only [ne, lt, Bool.or_eq_true, decide_eq_true_eq]; omega
theorem eq_eq (a b : Int) : eq a b = !(lt a b || lt b a) := by
  rw [Bool.eq_iff_iff]; simp only [eq, lt, Bool.not_eq_true', Bool.or_eq_false_iff, decide_eq_true_eq, decide_eq_false_iff_not]; omega
theorem le_eq (a b : Int) : le a b = !lt b a := by
  rw [Bool.eq_iff_iff]; simp only [le, lt, Bool.not_eq_true', decide_eq_true_eq, decide_eq_false_iff_not]; omega
theorem find_eq (k : Int) (t : Tr Int) (h : Srt lt t.toL) : find k t = getL lt k t.toL := by
  induction t with
  | leaf => rfl
  | node l k' v r il ir =>
    have ⟨h1, h2, h3, h4⟩ := Srt.app (lt := lt) (l := l.toL) (r := r.toL) (k := k') (v := v) h
    rw [Tr.toL, getL_mid lo h, find, ne_eq, ← il h1, ← ir h2]
    cases c : lt k k' <;> cases d : lt k' k <;> simp
theorem rank_eq (k : Int) (t : Tr Int) (h : Srt lt t.toL) : ∀ n, (rank k t n).1 = n + (lows lt k t.toL).length ∧ (rank k t n).2 = (getL lt k t.toL).isSome := by
  induction t with
  | leaf => intro n; exact ⟨rfl, rfl⟩
  | node l k' v r il ir =>
    intro n
    have ⟨h1, h2, h3, h4⟩ := Srt.app (lt := lt) (l := l.toL) (r := r.toL) (k := k') (v := v) h
    rw [Tr.toL, getL_mid lo h, lows_mid_len lo h, rank, eq_eq, le_eq]
    rw [Tr.length_toL]
    cases c : lt k k' <;> cases d : lt k' k
    · simp
    · simp [ir h2]; omega
    · simp [il h1]
    · rw [lo.asy c] at d; cases d
theorem toL_put (k : Int) (v : Int) (t : Tr Int) (h : Srt lt t.toL) : (t.put lt k v).toL = ins lt k v t.toL := Tr.toL_put lo k v t h
end Go.Proofs.Ytdielcpjemkngaa.OI
