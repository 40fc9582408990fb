/-
  The plain law of sorted tables: what the trees' functions do to their lists of entries. No program.
-/
import Derived.Test.YtdielcpjemkngaaOrT
import Derived.Laws.Strings
namespace Go.Proofs.Ytdielcpjemkngaa
set_option linter.unusedVariables false

/-- a total order -/
structure Lo {κ : Type} (lt : κ → κ → Bool) : Prop where
  irr : ∀ a, lt a a = false
  tr : ∀ a b c, lt a b = true → lt b c = true → lt a c = true
  tot : ∀ a b, lt a b = false → lt b a = false → a = b
namespace Lo
variable {κ : Type} {lt : κ → κ → Bool}
theorem asy (o : Lo lt) {a b : κ} (h : lt a b = true) : lt b a = false := by
  cases e : lt b a with
  | false => rfl
  | true => have := o.tr a b a h e; rw [o.irr] at this; cases this
theorem le_lt (o : Lo lt) {a b c : κ} (h : lt b a = false) (h' : lt b c = true) : lt a c = true := by
  cases e : lt a b with
  | true => exact o.tr a b c e h'
  | false => rw [o.tot a b e h]; exact h'
theorem lt_le (o : Lo lt) {a b c : κ} (h : lt a b = true) (h' : lt c b = false) : lt a c = true := by
  cases e : lt b c with
  | true => exact o.tr a b c h e
  | false => rw [← o.tot b c e h']; exact h
end Lo

section
variable {κ : Type} (lt : κ → κ → Bool)
abbrev Ents (κ : Type) := List (κ × Int)
/-- rising keys -/
def Srt (l : Ents κ) : Prop := l.Pairwise fun a b => lt a.1 b.1 = true
def lows (k : κ) (l : Ents κ) : Ents κ := l.filter fun e => lt e.1 k
def highs (k : κ) (l : Ents κ) : Ents κ := l.filter fun e => lt k e.1
def ins (k : κ) (v : Int) (l : Ents κ) : Ents κ := lows lt k l ++ (k, v) :: highs lt k l
def del (k : κ) (l : Ents κ) : Ents κ := l.filter fun e => lt e.1 k || lt k e.1
def upto (k : κ) (l : Ents κ) : Ents κ := l.filter fun e => !lt e.1 k
def getL (k : κ) : Ents κ → Option Int
  | [] => none
  | e :: l => if lt e.1 k || lt k e.1 then getL k l else some e.2
end
variable {κ : Type} {lt : κ → κ → Bool}

theorem Srt.app {l r : Ents κ} {k : κ} {v : Int} (h : Srt lt (l ++ (k, v) :: r)) :
    Srt lt l ∧ Srt lt r ∧ (∀ e ∈ l, lt e.1 k = true) ∧ (∀ e ∈ r, lt k e.1 = true) := by
  unfold Srt at h
  rw [List.pairwise_append, List.pairwise_cons] at h
  exact ⟨h.1, h.2.1.2, fun e he => h.2.2 e he (k, v) (by simp), h.2.1.1⟩
theorem Srt.cons {r : Ents κ} {e : κ × Int} (h : Srt lt (e :: r)) : Srt lt r ∧ (∀ x ∈ r, lt e.1 x.1 = true) :=
  ⟨(List.pairwise_cons.1 h).2, (List.pairwise_cons.1 h).1⟩
theorem Srt.mk {l r : Ents κ} {k : κ} {v : Int} (o : Lo lt) (h1 : Srt lt l) (h2 : Srt lt r) (h3 : ∀ e ∈ l, lt e.1 k = true) (h4 : ∀ e ∈ r, lt k e.1 = true) : Srt lt (l ++ (k, v) :: r) := by
  unfold Srt
  rw [List.pairwise_append, List.pairwise_cons]
  refine ⟨h1, ⟨h4, h2⟩, fun e he x hx => ?_⟩
  rcases List.mem_cons.1 hx with rfl | hx
  · exact h3 e he
  · exact o.tr _ _ _ (h3 e he) (h4 x hx)
theorem Srt.filter {l : Ents κ} (p : κ × Int → Bool) (h : Srt lt l) : Srt lt (l.filter p) := List.Pairwise.filter p h

theorem lows_all {l : Ents κ} {k : κ} (h : ∀ e ∈ l, lt e.1 k = true) : lows lt k l = l := List.filter_eq_self.2 h
theorem highs_all {l : Ents κ} {k : κ} (h : ∀ e ∈ l, lt k e.1 = true) : highs lt k l = l := List.filter_eq_self.2 h
theorem lows_none {l : Ents κ} {k : κ} (h : ∀ e ∈ l, lt e.1 k = false) : lows lt k l = [] := List.filter_eq_nil_iff.2 fun e he => by rw [h e he]; simp
theorem highs_none {l : Ents κ} {k : κ} (h : ∀ e ∈ l, lt k e.1 = false) : highs lt k l = [] := List.filter_eq_nil_iff.2 fun e he => by rw [h e he]; simp
theorem lows_mid (k k' : κ) (v : Int) (l r : Ents κ) : lows lt k (l ++ (k', v) :: r) = lows lt k l ++ (if lt k' k then (k', v) :: lows lt k r else lows lt k r) := by
  simp [lows, List.filter_cons]
theorem highs_mid (k k' : κ) (v : Int) (l r : Ents κ) : highs lt k (l ++ (k', v) :: r) = highs lt k l ++ (if lt k k' then (k', v) :: highs lt k r else highs lt k r) := by
  simp [highs, List.filter_cons]

theorem srt_ins (o : Lo lt) (k : κ) (v : Int) {l : Ents κ} (h : Srt lt l) : Srt lt (ins lt k v l) :=
  Srt.mk o (h.filter _) (h.filter _) (fun e he => by simpa using (List.mem_filter.1 he).2) (fun e he => by simpa using (List.mem_filter.1 he).2)

namespace Tr
theorem toL_put (o : Lo lt) (k : κ) (v : Int) : ∀ t : Tr κ, Srt lt t.toL → (t.put lt k v).toL = ins lt k v t.toL
  | leaf, _ => by simp [put, toL, ins, lows, highs]
  | node l k' v' r, h => by
    have ⟨h1, h2, h3, h4⟩ := Srt.app (lt := lt) (l := l.toL) (r := r.toL) (k := k') (v := v') h
    have i1 := toL_put o k v l h1; have i2 := toL_put o k v r h2
    rw [put, ins, toL, lows_mid, highs_mid]
    by_cases c : lt k k' = true
    · have c' := o.asy c
      rw [if_pos c, toL_over, i1, if_neg (by rw [c']; simp), if_pos c, ins, lows_none (l := r.toL) fun e he => o.asy (o.tr _ _ _ c (h4 e he)),
        highs_all (l := r.toL) fun e he => o.tr _ _ _ c (h4 e he)]
      simp
    · have c' : lt k k' = false := by simpa using c
      by_cases d : lt k' k = true
      · rw [if_neg c, if_pos d, toL_over, i2, if_pos d, if_neg c, ins, lows_all (l := l.toL) fun e he => o.tr _ _ _ (h3 e he) d,
          highs_none (l := l.toL) fun e he => o.asy (o.tr _ _ _ (h3 e he) d)]
        simp
      · have d' : lt k' k = false := by simpa using d
        obtain rfl := o.tot _ _ c' d'
        rw [if_neg c, if_neg c, toL, lows_all h3, lows_none (l := r.toL) fun e he => o.asy (h4 e he), highs_none (l := l.toL) fun e he => o.asy (h3 e he), highs_all h4]
        simp [c']
theorem first_toL : ∀ (t : Tr κ) (k : κ) (v : Int), ∃ r, (t.toL = [] ∧ t.first k v = (k, v)) ∨ t.toL = t.first k v :: r
  | leaf, k, v => ⟨[], .inl ⟨rfl, rfl⟩⟩
  | node l k' v' r, k, v => by
    obtain ⟨q, ⟨e1, e2⟩ | e⟩ := first_toL l k' v'
    · exact ⟨r.toL, .inr (by simp [toL, first, e1, e2])⟩
    · exact ⟨q ++ (k', v') :: r.toL, .inr (by rw [toL, first, e]; simp)⟩
theorem first_node (l : Tr κ) (k : κ) (v : Int) (r : Tr κ) : ∃ q, (node l k v r).toL = l.first k v :: q := by
  obtain ⟨q, ⟨e1, e2⟩ | e⟩ := first_toL l k v
  · exact ⟨r.toL, by simp [toL, e1, e2]⟩
  · exact ⟨q ++ (k, v) :: r.toL, by rw [toL, e]; simp⟩
end Tr
theorem del_mid (k k' : κ) (v : Int) (l r : Ents κ) : del lt k (l ++ (k', v) :: r) = del lt k l ++ (if lt k' k || lt k k' then (k', v) :: del lt k r else del lt k r) := by
  simp [del, List.filter_cons]
theorem del_all {l : Ents κ} {k : κ} (h : ∀ e ∈ l, (lt e.1 k || lt k e.1) = true) : del lt k l = l := List.filter_eq_self.2 h
theorem Tr.toL_drop (o : Lo lt) (k : κ) (t : Tr κ) (h : Srt lt t.toL) : (t.drop lt k).toL = del lt k t.toL := by
  induction t generalizing k with
  | leaf => simp [Tr.drop, Tr.toL, del]
  | node l k' v' r il ir =>
    have ⟨h1, h2, h3, h4⟩ := Srt.app (lt := lt) (l := l.toL) (r := r.toL) (k := k') (v := v') h
    have i1 := il k h1; have i2 := ir k h2
    rw [Tr.toL, del_mid]
    by_cases c : lt k k' = true
    · have c' := o.asy c
      rw [Tr.drop.eq_def]; simp only
      rw [if_pos c, toL_over, i1, if_pos (by rw [c]; simp), del_all (l := r.toL) fun e he => by rw [o.tr _ _ _ c (h4 e he)]; simp]
    · have c' : lt k k' = false := by simpa using c
      by_cases d : lt k' k = true
      · rw [Tr.drop.eq_def]; simp only
        rw [if_neg c, if_pos d, toL_over, i2, if_pos (by rw [d]; simp), del_all (l := l.toL) fun e he => by rw [o.tr _ _ _ (h3 e he) d]; simp]
      · have d' : lt k' k = false := by simpa using d
        obtain rfl := o.tot _ _ c' d'
        rw [del_all (l := l.toL) fun e he => by rw [h3 e he]; simp, if_neg (by rw [c']; simp), del_all (l := r.toL) fun e he => by rw [h4 e he]; simp]
        cases r with
        | leaf => simp [Tr.drop, c', Tr.toL]
        | node rl rk rv rr =>
          obtain ⟨q, hq⟩ := Tr.first_node rl rk rv rr
          have i3 := ir (rl.first rk rv).1 h2
          have hs := h2; rw [hq] at hs
          have ⟨g1, g2⟩ := Srt.cons hs
          rw [Tr.drop.eq_def]; simp only
          rw [if_neg c, if_neg c, toL_over, i3, hq, del, List.filter_cons, o.irr]
          simp only [Bool.or_self, Bool.false_eq_true, if_false, Prod.eta]
          congr 2
          exact List.filter_eq_self.2 fun e he => by rw [g2 e he]; simp
theorem getL_append (k : κ) : ∀ (l r : Ents κ), getL lt k (l ++ r) = (getL lt k l).or (getL lt k r)
  | [], r => rfl
  | e :: l, r => by
    simp only [List.cons_append, getL]
    split
    · exact getL_append k l r
    · rfl
theorem getL_none {k : κ} : ∀ {l : Ents κ}, (∀ e ∈ l, (lt e.1 k || lt k e.1) = true) → getL lt k l = none
  | [], _ => rfl
  | e :: l, h => by
    rw [getL, if_pos (h e (by simp))]
    exact getL_none fun x hx => h x (by simp [hx])
theorem getL_mem (o : Lo lt) {k : κ} {v : Int} : ∀ {l : Ents κ}, Srt lt l → (getL lt k l = some v ↔ (k, v) ∈ l)
  | [], _ => by simp [getL]
  | e :: l, h => by
    have ⟨h1, h2⟩ := Srt.cons h
    rw [getL]
    by_cases c : (lt e.1 k || lt k e.1) = true
    · rw [if_pos c, getL_mem o h1]
      constructor
      · intro h; simp [h]
      · intro h
        rcases List.mem_cons.1 h with rfl | h
        · simp [o.irr] at c
        · exact h
    · rw [if_neg c]
      simp only [Bool.or_eq_true, not_or, Bool.not_eq_true] at c
      obtain rfl := o.tot _ _ c.1 c.2
      constructor
      · intro h; simp only [Option.some.injEq] at h; subst h; simp
      · intro h
        rcases List.mem_cons.1 h with h | h
        · rw [← h]
        · have := h2 _ h; rw [o.irr] at this; cases this
theorem getL_isSome (o : Lo lt) {k : κ} : ∀ {l : Ents κ}, (getL lt k l).isSome = true ↔ ∃ e ∈ l, e.1 = k
  | [] => by simp [getL]
  | e :: l => by
    rw [getL]
    by_cases c : (lt e.1 k || lt k e.1) = true
    · rw [if_pos c, getL_isSome o]
      constructor
      · rintro ⟨x, hx, e⟩; exact ⟨x, by simp [hx], e⟩
      · rintro ⟨x, hx, rfl⟩
        rcases List.mem_cons.1 hx with rfl | h
        · simp [o.irr] at c
        · exact ⟨x, h, rfl⟩
    · rw [if_neg c]
      simp only [Bool.or_eq_true, not_or, Bool.not_eq_true] at c
      exact ⟨fun _ => ⟨e, by simp, o.tot _ _ c.1 c.2⟩, fun _ => rfl⟩
theorem getL_mid (o : Lo lt) {l r : Ents κ} {k k' : κ} {v : Int} (h : Srt lt (l ++ (k', v) :: r)) :
    getL lt k (l ++ (k', v) :: r) = if lt k k' then getL lt k l else if lt k' k then getL lt k r else some v := by
  have ⟨h1, h2, h3, h4⟩ := h.app
  rw [getL_append, getL]
  by_cases c : lt k k' = true
  · rw [if_pos c, if_pos (by simp [c]), getL_none (l := r) fun e he => by rw [o.tr _ _ _ c (h4 e he)]; simp]
    simp
  · have c' : lt k k' = false := by simpa using c
    by_cases d : lt k' k = true
    · rw [if_neg c, if_pos d, if_pos (by simp [d]), getL_none (l := l) fun e he => by rw [o.tr _ _ _ (h3 e he) d]; simp]
      simp
    · have d' : lt k' k = false := by simpa using d
      obtain rfl := o.tot _ _ c' d'
      rw [if_neg c, if_neg c, if_neg (by simp [c']), getL_none (l := l) fun e he => by rw [h3 e he]; simp]
      simp
theorem upto_mid (o : Lo lt) {l r : Ents κ} {k k' : κ} {v : Int} (h : Srt lt (l ++ (k', v) :: r)) :
    upto lt k (l ++ (k', v) :: r) = if lt k' k then upto lt k r else upto lt k l ++ (k', v) :: r := by
  have ⟨h1, h2, h3, h4⟩ := h.app
  by_cases c : lt k' k = true
  · have : upto lt k l = [] := List.filter_eq_nil_iff.2 fun e he => by rw [o.tr _ _ _ (h3 e he) c]; simp
    rw [if_pos c]
    simp only [upto] at this ⊢
    rw [List.filter_append, this, List.filter_cons]
    simp [c]
  · have c' : lt k' k = false := by simpa using c
    have : upto lt k r = r := List.filter_eq_self.2 fun e he => by
      have := o.le_lt c' (h4 e he); rw [o.asy this]; rfl
    rw [if_neg c]
    simp only [upto] at this ⊢
    rw [List.filter_append, List.filter_cons, this]
    simp [c']
theorem lows_mid_len (o : Lo lt) {l r : Ents κ} {k k' : κ} {v : Int} (h : Srt lt (l ++ (k', v) :: r)) :
    (lows lt k (l ++ (k', v) :: r)).length = if lt k k' then (lows lt k l).length else if lt k' k then l.length + 1 + (lows lt k r).length else l.length := by
  have ⟨h1, h2, h3, h4⟩ := h.app
  rw [lows_mid]
  by_cases c : lt k k' = true
  · have c' := o.asy c
    rw [if_pos c, if_neg (by simp [c']), lows_none (l := r) fun e he => o.asy (o.tr _ _ _ c (h4 e he))]
    simp
  · have c' : lt k k' = false := by simpa using c
    rw [if_neg c]
    by_cases d : lt k' k = true
    · rw [if_pos d, if_pos d, lows_all (l := l) fun e he => o.tr _ _ _ (h3 e he) d]
      simp; omega
    · have d' : lt k' k = false := by simpa using d
      obtain rfl := o.tot _ _ c' d'
      rw [if_neg c, if_neg c, lows_all h3, lows_none (l := r) fun e he => o.asy (h4 e he)]
      simp
theorem srt_joins (o : Lo lt) (l : Ents κ) : ∀ {a : Ents κ}, Srt lt a → Srt lt (l.foldl (fun a x => ins lt x.1 x.2 a) a) := by
  induction l with
  | nil => intro a h; exact h
  | cons e r ih => intro a h; exact ih (srt_ins o _ _ h)
theorem getL_filter {k : κ} (o : Lo lt) (p : κ × Int → Bool) : ∀ {l : Ents κ}, (∀ e ∈ l, e.1 = k → p e = true) → getL lt k (l.filter p) = getL lt k l
  | [], _ => rfl
  | e :: l, h => by
    have ih := getL_filter o p (l := l) fun x hx => h x (by simp [hx])
    rw [List.filter_cons]
    cases hp : p e with
    | true => simp [getL, ih]
    | false =>
      have hne : (lt e.1 k || lt k e.1) = true := by
        cases hc : (lt e.1 k || lt k e.1) with
        | true => rfl
        | false =>
          simp only [Bool.or_eq_false_iff] at hc
          have := h e (by simp) (o.tot _ _ hc.1 hc.2)
          rw [hp] at this; cases this
      simp only [Bool.false_eq_true, if_false, ih, getL]
      rw [if_pos hne]
theorem getL_ins (o : Lo lt) {l : Ents κ} (h : Srt lt l) (k k' : κ) (v : Int) : getL lt k (ins lt k' v l) = if lt k k' || lt k' k then getL lt k l else some v := by
  rw [ins, getL_mid o (srt_ins o k' v h)]
  by_cases c : lt k k' = true
  · rw [if_pos c, if_pos (by simp [c])]
    exact getL_filter o _ fun e _ he => by rw [he, c]
  · by_cases d : lt k' k = true
    · rw [if_neg c, if_pos d, if_pos (by simp [d])]
      exact getL_filter o _ fun e _ he => by rw [he, d]
    · rw [if_neg c, if_neg d, if_neg (by simp [c, d])]
theorem Srt.at (o : Lo lt) {l : Ents κ} (h : Srt lt l) (i : Nat) (hi : i < l.length) : (lows lt l[i].1 l).length = i ∧ getL lt l[i].1 l = some l[i].2 := by
  have e : l = l.take i ++ (l[i].1, l[i].2) :: l.drop (i + 1) := by
    rw [Prod.eta, List.getElem_cons_drop, List.take_append_drop]
  have h' : Srt lt (l.take i ++ (l[i].1, l[i].2) :: l.drop (i + 1)) := by rw [← e]; exact h
  have h1 := lows_mid_len (k := l[i].1) o h'
  have h2 := getL_mid (k := l[i].1) o h'
  rw [← e] at h1 h2
  rw [h1, h2, o.irr]
  simp; omega
theorem Srt.rise {l : Ents κ} (h : Srt lt l) (i : Nat) (hi : i + 1 < l.length) : lt l[i].1 l[i + 1].1 = true := List.pairwise_iff_getElem.1 h i (i + 1) (by omega) hi (by omega)
theorem ins_ne_nil (k : κ) (v : Int) (l : Ents κ) : ins lt k v l ≠ [] := by simp [ins]
theorem length_ins (o : Lo lt) (k : κ) (v : Int) (l : Ents κ) : (ins lt k v l).length ≤ l.length + 1 := by
  induction l with
  | nil => simp [ins, lows, highs]
  | cons e r ih =>
    simp only [ins, lows, highs, List.filter_cons, List.length_append, List.length_cons] at ih ⊢
    by_cases c : lt e.1 k = true
    · rw [if_pos c, if_neg (by rw [o.asy c]; simp)]; simp only [List.length_cons]; omega
    · rw [if_neg c]; split
      · simp only [List.length_cons]; omega
      · omega
/-- where a key stands, or would stand -/
theorem find_split (o : Lo lt) {k : κ} {l1 l2 : Ents κ} (h : Srt lt (l1 ++ l2)) (h1 : ∀ e ∈ l1, lt e.1 k = true) (h2 : ∀ e r, l2 = e :: r → lt e.1 k = false) :
    lows lt k (l1 ++ l2) = l1 ∧ upto lt k (l1 ++ l2) = l2 ∧ (l2 = [] → getL lt k (l1 ++ l2) = none) ∧ (∀ e r, l2 = e :: r → getL lt k (l1 ++ l2) = if lt k e.1 then none else some e.2) := by
  have hp := List.pairwise_append.1 h
  have h3 : ∀ e ∈ l2, lt e.1 k = false := by
    cases l2 with
    | nil => simp
    | cons e r =>
      have h0 := h2 e r rfl
      intro x hx
      rcases List.mem_cons.1 hx with rfl | hx
      · exact h0
      · cases c : lt x.1 k with
        | false => rfl
        | true => have := o.tr _ _ _ ((List.pairwise_cons.1 hp.2.1).1 x hx) c; rw [h0] at this; cases this
  have hn : getL lt k l1 = none := getL_none fun e he => by rw [h1 e he]; rfl
  refine ⟨?_, ?_, fun e => by rw [e, List.append_nil, hn], fun e r e2 => ?_⟩
  · simp only [lows, List.filter_append]
    have e1 : l1.filter (fun e => lt e.1 k) = l1 := List.filter_eq_self.2 h1
    have e2 : l2.filter (fun e => lt e.1 k) = [] := List.filter_eq_nil_iff.2 fun e he => by rw [h3 e he]; simp
    rw [e1, e2, List.append_nil]
  · simp only [upto, List.filter_append]
    have e1 : l1.filter (fun e => !lt e.1 k) = [] := List.filter_eq_nil_iff.2 fun e he => by rw [h1 e he]; simp
    have e2 : l2.filter (fun e => !lt e.1 k) = l2 := List.filter_eq_self.2 fun e he => by rw [h3 e he]; rfl
    rw [e1, e2, List.nil_append]
  · rw [getL_append, hn, e2, getL]
    have h0 := h2 e r e2
    rw [h0]
    cases c : lt k e.1 with
    | true =>
      simp only [Bool.or_true, if_true, Option.none_or]
      refine getL_none fun x hx => ?_
      have hx2 := (List.pairwise_cons.1 (e2 ▸ hp.2.1)).1 x hx
      rw [o.tr _ _ _ c hx2, Bool.or_true]
    | false => simp
/-- keys from k on -/
theorem upto_drop (o : Lo lt) {k : κ} {l : Ents κ} (h : Srt lt l) : upto lt k l = l.drop (lows lt k l).length := by
  induction l with
  | nil => rfl
  | cons e r ih =>
    have ⟨h1, h2⟩ := Srt.cons h
    simp only [upto, lows, List.filter_cons]
    cases c : lt e.1 k with
    | true => simpa [upto, lows] using ih h1
    | false =>
      simp only [Bool.not_false, if_true, Bool.false_eq_true, if_false]
      have h4 : ∀ x ∈ r, lt x.1 k = false := fun x hx => by
        cases d : lt x.1 k with
        | false => rfl
        | true => have := o.tr _ _ _ (h2 x hx) d; rw [c] at this; cases this
      have e1 : r.filter (fun x => lt x.1 k) = [] := List.filter_eq_nil_iff.2 fun x hx => by rw [h4 x hx]; simp
      have e2 : r.filter (fun x => !lt x.1 k) = r := List.filter_eq_self.2 fun x hx => by rw [h4 x hx]; rfl
      rw [e1, e2]; rfl
theorem sorted_len [DecidableEq κ] (o : Lo lt) : ∀ (l : Ents κ) (Ks : List κ), Srt lt l → (∀ e ∈ l, e.1 ∈ Ks) → l.length ≤ Ks.length
  | [], _, _, _ => by simp
  | x :: r, Ks, hp, hm => by
    have hx : x.1 ∈ Ks := hm x (by simp)
    have ⟨h1, h2⟩ := Srt.cons hp
    have ih := sorted_len o r (Ks.erase x.1) h1 (fun e he => by
      have hne : e.1 ≠ x.1 := fun c => by have := h2 e he; rw [c, o.irr] at this; cases this
      exact (List.mem_erase_of_ne hne).2 (hm e (by simp [he])))
    rw [List.length_erase_of_mem hx] at ih
    have := List.length_pos_of_mem hx
    simp only [List.length_cons]; omega

/-! ### texts, byte by byte -/
theorem ba_inj {a b : ByteArray} (h : a.toList = b.toList) : a = b := by
  rw [ByteArray.toList_eq, ByteArray.toList_eq] at h
  obtain ⟨⟨x⟩⟩ := a
  obtain ⟨⟨y⟩⟩ := b
  simp at h
  rw [h]
theorem bl_ne (x y : List UInt8) : (!(x == y)) = (Op.bytesLess x y || Op.bytesLess y x) := by
  by_cases h : x = y
  · subst h; simp [bl_irrefl]
  · have h1 : (x == y) = false := by simpa using h
    rw [h1]
    cases c : Op.bytesLess x y with
    | true => rfl
    | false =>
      cases d : Op.bytesLess y x with
      | true => rfl
      | false => exact absurd (bl_total x y c d) h
theorem bl_eqq (x y : List UInt8) : (x == y) = !(Op.bytesLess x y || Op.bytesLess y x) := by rw [← bl_ne, Bool.not_not]
theorem bl_le (x y : List UInt8) : (Op.bytesLess x y || (x == y)) = !Op.bytesLess y x := by
  rw [bl_eqq]
  cases c : Op.bytesLess x y with
  | true => rw [bl_asymm _ _ c]; rfl
  | false => cases Op.bytesLess y x <;> rfl
end Go.Proofs.Ytdielcpjemkngaa
