/- Where words stand, in plain Lean. No program here. -/
import Derived.Test.YtnfkeaplglknlaaWordsBlanksLaw
import Derived.Test.YtnfkeaplglknlaaWordsPartsLaw
namespace Go.Proofs.Ytnfkeaplglknlaa.words

/-- what is told from a line on: of this line, and of what is behind it -/
theorem line_end (l : List UInt8) (f k n : Nat) (h : f ≤ k) (hk : k ≤ l.length) (hx : ∀ b ∈ (l.drop f).take (k - f), isEnd b = false) (he : k = l.length ∨ ∃ h : k < l.length, isEnd l[k] = true) :
    allRows (l.drop f) n = ly (wds ((l.drop f).take (k - f)) n 1 [] []) ++ allRows (l.drop (k + 1)) (n + 1) := by
  rcases he with rfl | ⟨hlt, he⟩
  · have e1 : (l.drop f).take (l.length - f) = l.drop f := List.take_of_length_le (by rw [List.length_drop]; omega)
    rw [e1] at hx ⊢
    have e2 : l.drop (l.length + 1) = [] := List.drop_of_length_le (by omega)
    rw [rows_last _ _ hx, e2, all_nil, List.append_nil]
  · have e1 : l.drop f = (l.drop f).take (k - f) ++ l[k] :: l.drop (k + 1) := by
      conv => lhs; rw [← List.take_append_drop (k - f) (l.drop f)]
      rw [List.drop_drop, show f + (k - f) = k by omega, List.drop_eq_getElem_cons hlt]
    conv => lhs; rw [e1]
    exact rows_line _ _ _ he hx
theorem stands_at {l : List UInt8} {f k n : Nat} {w : Wd} (hfk : f ≤ k) (hk : k ≤ l.length) (h : Stands ((l.drop f).take (k - f)) n w) :
    ∃ a, a + 1 = f + w.col ∧ f ≤ a ∧ a + w.text.length ≤ k ∧ 0 < w.text.length ∧ (l.drop a).take w.text.length = w.text ∧
      (f < a → ∃ a', ∃ h : a' < l.length, a = a' + 1 ∧ (l[a']).toNat ≤ 32) ∧ (a + w.text.length < k → ∃ h : a + w.text.length < l.length, (l[a + w.text.length]).toNat ≤ 32) := by
  obtain ⟨h1, h2, h3, p, s, hx, hp, hpb, hsb⟩ := h
  have hxl := congrArg List.length hx
  rw [List.length_take, List.length_drop, List.length_append, List.length_append] at hxl
  have hl : l = (l.take f ++ p) ++ (w.text ++ (s ++ l.drop k)) := by
    conv => lhs; rw [← List.take_append_drop f l, ← List.take_append_drop (k - f) (l.drop f), List.drop_drop, show f + (k - f) = k by omega, hx]
    simp
  have hfl : (l.take f).length = f := by rw [List.length_take]; omega
  have hbl : ∀ b, isBlank b = true → b.toNat ≤ 32 := by
    intro b hb
    unfold isBlank at hb
    simp only [Bool.or_eq_true, beq_iff_eq] at hb
    omega
  refine ⟨f + p.length, by omega, by omega, by omega, List.length_pos_iff.2 h3, ?_, ?_, ?_⟩
  · have e : (l.take f ++ p).length = f + p.length := by rw [List.length_append, hfl]
    have e2 : l.drop (f + p.length) = w.text ++ (s ++ l.drop k) := by
      rw [← e]
      generalize (l.take f ++ p) = q at hl
      generalize (s ++ l.drop k) = r at hl
      rw [hl]
      exact List.drop_left
    rw [e2]
    exact List.take_left
  · intro hlt
    have hpne : p ≠ [] := by rintro rfl; simp at hlt
    refine ⟨f + p.length - 1, by omega, by omega, hbl _ (hpb _ ?_)⟩
    have e : l[f + p.length - 1]? = p.getLast? := by
      have : ∀ (q r : List UInt8), q.length = f → l = q ++ p ++ r → l[f + p.length - 1]? = p.getLast? := by
        rintro q r hq rfl
        have := List.length_pos_iff.2 hpne
        rw [List.append_assoc, List.getElem?_append_right (by omega), List.getElem?_append_left (by omega), List.getLast?_eq_getElem?]
        congr 1
        omega
      exact this _ _ hfl hl
    rw [← e, List.getElem?_eq_getElem]
  · intro hlt
    have hsl : 0 < s.length := by omega
    refine ⟨by omega, hbl _ (hsb _ ?_)⟩
    have e : l[f + p.length + w.text.length]? = s.head? := by
      have : ∀ (q t r : List UInt8), q.length = f → t.length = w.text.length → l = (q ++ p) ++ (t ++ (s ++ r)) → l[f + p.length + w.text.length]? = s.head? := by
        rintro q t r hq ht rfl
        rw [List.getElem?_append_right (by rw [List.length_append]; omega), List.length_append, List.getElem?_append_right (by omega), List.getElem?_append_left (by omega), List.head?_eq_getElem?]
        congr 1
        omega
      exact this _ _ _ hfl rfl hl
    rw [← e, List.getElem?_eq_getElem]
theorem all_bytes {l : List UInt8} {f k : Nat} (hf : f ≤ k) (hlt : k < l.length) (h : ∀ b ∈ (l.drop f).take (k - f), isEnd b = false) (hk : isEnd l[k] = false) : ∀ b ∈ (l.drop f).take (k + 1 - f), isEnd b = false := by
  have e : (l.drop f).take (k + 1 - f) = (l.drop f).take (k - f) ++ [l[k]] := by
    rw [show k + 1 - f = k - f + 1 by omega, List.take_succ_eq_append_getElem (by rw [List.length_drop]; omega), List.getElem_drop]
    congr 3
    omega
  rw [e]
  intro b hb
  rcases List.mem_append.1 hb with hb | hb
  · exact h b hb
  · rw [List.mem_singleton] at hb
    subst hb
    exact hk
/-- at a line's end: the row that comes next is of this line, or of a later one -/
theorem next_row {l : List UInt8} {X : List (List Wd)} {f k n nx : Nat} (h : f ≤ k) (hk : k ≤ l.length) (hx : ∀ b ∈ (l.drop f).take (k - f), isEnd b = false) (he : k = l.length ∨ ∃ h : k < l.length, isEnd l[k] = true) (hX : X.drop nx = allRows (l.drop f) n) (hnx : nx ≤ X.length) :
    (∃ h : nx < X.length, X[nx] = wds ((l.drop f).take (k - f)) n 1 [] [] ∧ X[nx] ≠ [] ∧ X.drop (nx + 1) = allRows (l.drop (k + 1)) (n + 1)) ∨
    (X.drop nx = allRows (l.drop (k + 1)) (n + 1) ∧ (nx = X.length ∨ ∃ h : nx < X.length, ∃ x r, X[nx] = x :: r ∧ n < x.line)) := by
  rw [line_end l f k n h hk hx he] at hX
  cases ht : told (wds ((l.drop f).take (k - f)) n 1 [] []) with
  | true =>
    rw [ly_told ht, List.singleton_append] at hX
    have hlt : nx < X.length := by
      rcases Nat.lt_or_ge nx X.length with h | h
      · exact h
      · rw [List.drop_of_length_le h] at hX; cases hX
    rw [List.drop_eq_getElem_cons hlt] at hX
    injection hX with h1 h2
    exact .inl ⟨hlt, h1, by rw [h1]; exact told_ne ht, h2⟩
  | false =>
    rw [ly_not ht, List.nil_append] at hX
    refine .inr ⟨hX, ?_⟩
    rcases Nat.lt_or_ge nx X.length with hlt | h
    · refine .inr ⟨hlt, ?_⟩
      have hm : X[nx] ∈ allRows (l.drop (k + 1)) (n + 1) := by
        rw [← hX, List.drop_eq_getElem_cons hlt]
        exact List.mem_cons_self ..
      obtain ⟨h1, h2⟩ := all_words hm
      cases hc : X[nx] with
      | nil => exact absurd hc h1
      | cons x r => exact ⟨x, r, rfl, by have := (h2 x (by rw [hc]; exact List.mem_cons_self ..)).1; omega⟩
    · exact .inl (by omega)
end Go.Proofs.Ytnfkeaplglknlaa.words
