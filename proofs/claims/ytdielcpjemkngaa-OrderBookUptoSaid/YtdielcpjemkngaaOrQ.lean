/-
  The plain law of sorted lists, more: a list is what is found in it; joining, keeping, leaving out. No program.
-/
import Derived.Test.YtdielcpjemkngaaOrP
namespace Go.Proofs.Ytdielcpjemkngaa
set_option linter.unusedVariables false

section
variable {κ : Type} {lt : κ → κ → Bool}
theorem srt_ext (o : Lo lt) : ∀ (l l' : Ents κ), Srt lt l → Srt lt l' → (∀ e, e ∈ l ↔ e ∈ l') → l = l'
  | [], [], _, _, _ => rfl
  | [], y :: s, _, _, h => by have := (h y).2 (by simp); simp at this
  | x :: r, [], _, _, h => by have := (h x).1 (by simp); simp at this
  | x :: r, y :: s, h1, h2, h => by
    have ⟨p1, p2⟩ := Srt.cons h1
    have ⟨q1, q2⟩ := Srt.cons h2
    have hxy : x = y := by
      have hx := (h x).1 (by simp)
      have hy := (h y).2 (by simp)
      rcases List.mem_cons.1 hx with e | hx
      · exact e
      · rcases List.mem_cons.1 hy with e | hy
        · exact e.symm
        · have a := q2 x hx; have b := p2 y hy
          rw [o.asy a] at b; cases b
    subst hxy
    congr 1
    refine srt_ext o r s p1 q1 fun e => ⟨fun he => ?_, fun he => ?_⟩
    · rcases List.mem_cons.1 ((h e).1 (by simp [he])) with e1 | he'
      · subst e1; have := p2 e he; rw [o.irr] at this; cases this
      · exact he'
    · rcases List.mem_cons.1 ((h e).2 (by simp [he])) with e1 | he'
      · subst e1; have := q2 e he; rw [o.irr] at this; cases this
      · exact he'
/-- what is found tells the list -/
theorem get_ext (o : Lo lt) {l l' : Ents κ} (h : Srt lt l) (h' : Srt lt l') (he : ∀ k, getL lt k l = getL lt k l') : l = l' :=
  srt_ext o l l' h h' fun e => by
    obtain ⟨k, v⟩ := e
    rw [← getL_mem o h, ← getL_mem o h', he]
theorem getL_keys (o : Lo lt) (p : κ → Bool) (k : κ) : ∀ l : Ents κ, getL lt k (l.filter fun e => p e.1) = if p k then getL lt k l else none
  | [] => by simp [getL]
  | e :: r => by
    have ih := getL_keys o p k r
    rw [List.filter_cons]
    by_cases c : (lt e.1 k || lt k e.1) = true
    · have e1 : getL lt k (e :: r) = getL lt k r := by rw [getL, if_pos c]
      rw [e1, ← ih]
      split
      · rw [getL, if_pos c]
      · rfl
    · have c' := c
      simp only [Bool.or_eq_true, not_or, Bool.not_eq_true] at c'
      have e1 : e.1 = k := o.tot _ _ c'.1 c'.2
      rw [e1]
      cases hp : p k with
      | true => simp only [if_true]; rw [getL, if_neg c, getL, if_neg c]
      | false => rw [hp] at ih; simpa using ih
theorem getL_joins (o : Lo lt) (k : κ) : ∀ (l2 l : Ents κ), Srt lt l → Srt lt l2 → getL lt k (l2.foldl (fun a x => ins lt x.1 x.2 a) l) = (getL lt k l2).or (getL lt k l)
  | [], l, _, _ => by simp [getL]
  | e :: r, l, h, h2 => by
    have ⟨p1, p2⟩ := Srt.cons h2
    rw [List.foldl_cons, getL_joins o k r _ (srt_ins o _ _ h) p1, getL_ins o h]
    by_cases c : (lt e.1 k || lt k e.1) = true
    · have c2 : (lt k e.1 || lt e.1 k) = true := by rw [Bool.or_comm]; exact c
      rw [getL, if_pos c, if_pos c2]
    · have c' := c
      simp only [Bool.or_eq_true, not_or, Bool.not_eq_true] at c'
      have e1 : e.1 = k := o.tot _ _ c'.1 c'.2
      have hn : getL lt k r = none := getL_none fun x hx => by rw [← e1, p2 x hx, Bool.or_true]
      have c2 : ¬ (lt k e.1 || lt e.1 k) = true := by rw [Bool.or_comm]; exact c
      rw [getL, if_neg c, if_neg c2, hn]; rfl
theorem length_ins_new (o : Lo lt) (k : κ) (v : Int) : ∀ l : Ents κ, getL lt k l = none → (ins lt k v l).length = l.length + 1
  | [], _ => by simp [ins, lows, highs]
  | e :: r, h => by
    rw [getL] at h
    by_cases c : (lt e.1 k || lt k e.1) = true
    · rw [if_pos c] at h
      have ih := length_ins_new o k v r h
      simp only [ins, lows, highs, List.filter_cons, List.length_append, List.length_cons] at ih ⊢
      by_cases d : lt e.1 k = true
      · rw [if_pos d, if_neg (by rw [o.asy d]; simp)]; simp only [List.length_cons]; omega
      · have d2 : lt k e.1 = true := by simpa [d] using c
        rw [if_neg d, if_pos d2]; simp only [List.length_cons]; omega
    · rw [if_neg c] at h; cases h
theorem length_joins_new (o : Lo lt) : ∀ (l2 l : Ents κ), Srt lt l → Srt lt l2 → (∀ e ∈ l2, getL lt e.1 l = none) → (l2.foldl (fun a x => ins lt x.1 x.2 a) l).length = l.length + l2.length
  | [], l, _, _, _ => by simp
  | e :: r, l, h, h2, hn => by
    have ⟨p1, p2⟩ := Srt.cons h2
    rw [List.foldl_cons, length_joins_new o r _ (srt_ins o _ _ h) p1 (fun x hx => by
      rw [getL_ins o h, if_pos (by rw [p2 x hx, Bool.or_true])]
      exact hn x (by simp [hx])), length_ins_new o _ _ _ (hn e (by simp)), List.length_cons]
    omega
theorem length_parts (p : κ × Int → Bool) : ∀ l : Ents κ, (l.filter fun e => p e == true).length + (l.filter fun e => p e == false).length = l.length
  | [] => rfl
  | e :: r => by
    have ih := length_parts p r
    rw [List.filter_cons, List.filter_cons]
    cases hp : p e <;> simp only [beq_self_eq_true, beq_iff_eq, Bool.false_eq_true, Bool.true_eq_false, reduceCtorEq, if_true, if_false, List.length_cons] <;> simp at ih ⊢ <;> omega
end
end Go.Proofs.Ytdielcpjemkngaa
