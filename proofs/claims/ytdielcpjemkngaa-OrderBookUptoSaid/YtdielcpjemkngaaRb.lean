/-
  What the second form's bound tells of lengths.
-/
import Derived.Test.YtdielcpjemkngaaRows
namespace Go.Proofs.Ytdielcpjemkngaa

theorem bulk_one {H : Type} (d : DataW H) : 1 ≤ Rows.uptoBulk d := by
  cases d with
  | lit l => cases l <;> simp [Rows.uptoBulk]
  | nil => simp [Rows.uptoBulk]
  | ptr d => simp [Rows.uptoBulk]
  | slice elems spare => simp [Rows.uptoBulk]
  | agg parts => simp [Rows.uptoBulk]
  | iface t d => simp [Rows.uptoBulk]
  | map entries => simp [Rows.uptoBulk]
  | held h => simp [Rows.uptoBulk]
theorem bulk_length {H : Type} (l : List (DataW H)) : l.length ≤ Rows.uptoBulkAll l := by
  induction l with
  | nil => simp [Rows.uptoBulkAll]
  | cons x r ih => have := bulk_one x; simp only [Rows.uptoBulkAll, List.length_cons]; omega
theorem bulk_len {H : Type} {d : DataW H} {len : Nat} (h : len = 0 ∨ ∃ es sp, d = .slice es sp ∧ len ≤ es.length + sp.length) : len ≤ Rows.uptoBulk d := by
  rcases h with rfl | ⟨es, sp, rfl, h⟩
  · exact Nat.zero_le _
  · have h1 := bulk_length es
    have h2 := bulk_length sp
    simp only [Rows.uptoBulk]
    omega
theorem bulk_two {H : Type} {d e : DataW H} (hk : Rows.uptoSmall H [d, e] = true) : Rows.uptoBulk d + Rows.uptoBulk e ≤ 1048576 := by
  have h : Rows.uptoBulkAll [d, e] ≤ 1048576 := of_decide_eq_true hk
  simp only [Rows.uptoBulkAll] at h
  omega
end Go.Proofs.Ytdielcpjemkngaa
