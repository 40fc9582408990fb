/-
  What the tables' answers are, of their lists of entries: keys: texts.
-/
import Derived.Test.YtdielcpjemkngaaOrP
import Derived.Test.YtdielcpjemkngaaOr2S
namespace Go.Proofs.Ytdielcpjemkngaa.OS

theorem lo : Lo lt := ⟨fun a => bl_irrefl _, fun a b c => bl_trans _ _ _, fun a b h1 h2 => ba_inj (bl_total _ _ h1 h2)⟩
theorem ne_eq (a b : ByteArray) : ne a b = (lt a b || lt b a) := by
  exact bl_ne _ _
theorem eq_eq (a b : ByteArray) : eq a b = !(lt a b || lt b a) := by
  exact bl_eqq _ _
theorem le_eq (a b : ByteArray) : le a b = !lt b a := by
  exact bl_le _ _
theorem find_eq (k : ByteArray) (t : Tr ByteArray) (h : Srt lt t.toL) : find k t = getL lt k t.toL := by
  induction t with
  | leaf => rfl
  | node l k' v r il ir =>
    have ⟨h1, h2, h3, h4⟩ := Srt.app (lt := lt) (l := l.toL) (r := r.toL) (k := k') (v := v) h
    rw [Tr.toL, getL_mid lo h, find, ne_eq, ← il h1, ← ir h2]
    cases c : lt k k' <;> cases d : lt k' k <;> simp
theorem rank_eq (k : ByteArray) (t : Tr ByteArray) (h : Srt lt t.toL) : ∀ n, (rank k t n).1 = n + (lows lt k t.toL).length ∧ (rank k t n).2 = (getL lt k t.toL).isSome := by
  induction t with
  | leaf => intro n; exact ⟨rfl, rfl⟩
  | node l k' v r il ir =>
    intro n
    have ⟨h1, h2, h3, h4⟩ := Srt.app (lt := lt) (l := l.toL) (r := r.toL) (k := k') (v := v) h
    rw [Tr.toL, getL_mid lo h, lows_mid_len lo h, rank, eq_eq, le_eq]
    rw [Tr.length_toL]
    cases c : lt k k' <;> cases d : lt k' k
    · simp
    · simp [ir h2]; omega
    · simp [il h1]
    · rw [lo.asy c] at d; cases d
theorem toL_put (k : ByteArray) (v : Int) (t : Tr ByteArray) (h : Srt lt t.toL) : (t.put lt k v).toL = ins lt k v t.toL := Tr.toL_put lo k v t h
end Go.Proofs.Ytdielcpjemkngaa.OS
