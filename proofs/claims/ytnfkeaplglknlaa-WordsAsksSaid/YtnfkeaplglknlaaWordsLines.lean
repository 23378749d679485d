/- Words of a text, line by line, in plain Lean. No program here. -/
import Derived.Test.YtnfkeaplglknlaaWordsPlain
namespace Go.Proofs.Ytnfkeaplglknlaa.words

/-- the words of one line, from a column on, where a word and a row are under way -/
def wds : List UInt8 → Nat → Nat → List UInt8 → List Wd → List Wd
  | [], n, c, cur, row => kp cur row n c
  | b :: r, n, c, cur, row => if isBlank b then wds r n (c + 1) [] (kp cur row n c) else wds r n (c + 1) (cur ++ [b]) row
/-- the lines of a text -/
def lns : List UInt8 → List UInt8 × List (List UInt8)
  | [] => ([], [])
  | b :: r => if isEnd b then ([], (lns r).1 :: (lns r).2) else (b :: (lns r).1, (lns r).2)
def rows : List (List UInt8) → Nat → List (List Wd)
  | [], _ => []
  | x :: r, n => ly (wds x n 1 [] []) ++ rows r (n + 1)
def allRows (l : List UInt8) (n : Nat) : List (List Wd) := rows ((lns l).1 :: (lns l).2) n

theorem scan_lns : ∀ (l : List UInt8) (n c : Nat) (cur : List UInt8) (row : List Wd), l.all good = true → (scan l n c cur row []).out = ly (wds (lns l).1 n c cur row) ++ rows (lns l).2 (n + 1)
  | [], _, _, _, _, _ => by simp [scan, lns, wds, rows]
  | b :: r, n, c, cur, row, h => by
    have h' : good b = true ∧ r.all good = true := by simpa using h
    unfold scan
    by_cases h1 : isEnd b = true
    · rw [if_pos h1, scan_out r _ _ _ _ _ h'.2, scan_lns r _ _ _ _ h'.2]
      simp [lns, h1, rows, wds]
    · rw [if_neg h1]
      by_cases h2 : isBlank b = true
      · rw [if_pos h2, scan_lns r _ _ _ _ h'.2]
        simp [lns, h1, wds, h2]
      · rw [if_neg h2]
        by_cases h3 : isVis b = true
        · rw [if_pos h3, scan_lns r _ _ _ _ h'.2]
          simp [lns, h1, wds, h2]
        · have := h'.1
          simp [good, h1, h2, h3] at this
theorem split_rows {l : List UInt8} (h : l.length ≤ 1048576) (hg : l.all good = true) : (split l).out = allRows l 1 := by
  unfold split allRows rows
  rw [if_neg (by omega)]
  exact scan_lns l 1 1 [] [] hg
theorem split_err {l : List UInt8} (h : l.length ≤ 1048576) : (split l).err = if l.all good then 0 else 20 := by
  unfold split
  rw [if_neg (by omega)]
  exact scan_err l 1 1 [] [] []
theorem split_good {l : List UInt8} (h : l.length ≤ 1048576) (he : (split l).err = 0) : l.all good = true := by
  rw [split_err h] at he
  split at he
  · assumption
  · omega
theorem split_bad {l : List UInt8} (h : l.length ≤ 1048576) (he : (split l).err ≠ 0) : (split l).out = [] ∧ (split l).err = 20 := by
  rw [split_err h] at he ⊢
  split at he
  · exact absurd rfl he
  · rename_i hb
    rw [if_neg hb]
    refine ⟨?_, rfl⟩
    unfold split
    rw [if_neg (by omega)]
    exact scan_bad l 1 1 [] [] [] (by simpa using hb)
theorem scan_place : ∀ (l : List UInt8) (n c : Nat) (cur : List UInt8) (row : List Wd) (out : List (List Wd)), 1 ≤ n → 1 ≤ c → (scan l n c cur row out).err ≠ 0 → 1 ≤ (scan l n c cur row out).line ∧ 1 ≤ (scan l n c cur row out).col ∧ (scan l n c cur row out).line ≤ n + l.length ∧ (scan l n c cur row out).col ≤ c + l.length
  | [], _, _, _, _, _, _, _, h => by simp [scan] at h
  | b :: r, n, c, cur, row, out, hn, hc, h => by
    unfold scan at h ⊢
    by_cases h1 : isEnd b = true
    · rw [if_pos h1] at h ⊢
      obtain ⟨p, q, s, t⟩ := scan_place r _ _ _ _ _ (by omega) (by omega) h
      exact ⟨p, q, by simp only [List.length_cons]; omega, by simp only [List.length_cons]; omega⟩
    · rw [if_neg h1] at h ⊢
      by_cases h2 : isBlank b = true
      · rw [if_pos h2] at h ⊢
        obtain ⟨p, q, s, t⟩ := scan_place r _ _ _ _ _ (by omega) (by omega) h
        exact ⟨p, q, by simp only [List.length_cons]; omega, by simp only [List.length_cons]; omega⟩
      · rw [if_neg h2] at h ⊢
        by_cases h3 : isVis b = true
        · rw [if_pos h3] at h ⊢
          obtain ⟨p, q, s, t⟩ := scan_place r _ _ _ _ _ (by omega) (by omega) h
          exact ⟨p, q, by simp only [List.length_cons]; omega, by simp only [List.length_cons]; omega⟩
        · rw [if_neg h3]
          exact ⟨hn, hc, by simp only; omega, by simp only; omega⟩

/-- a word stands in a line: its bytes are there, between blanks or the line's ends -/
structure Stands (x : List UInt8) (n : Nat) (w : Wd) : Prop where
  line : w.line = n
  pos : 1 ≤ w.col
  ne : w.text ≠ []
  bytes : ∃ p s, x = p ++ w.text ++ s ∧ p.length + 1 = w.col ∧ (∀ b, p.getLast? = some b → isBlank b = true) ∧ (∀ b, s.head? = some b → isBlank b = true)
/-- and each behind the one ahead of it -/
def Rise : List Wd → Prop
  | [] => True
  | w :: r => (∀ v, r.head? = some v → w.col + w.text.length < v.col) ∧ Rise r

theorem rise_add : ∀ (l : List Wd) (v : Wd), Rise l → (∀ w, l.getLast? = some w → w.col + w.text.length < v.col) → Rise (l ++ [v])
  | [], v, _, _ => by simp [Rise]
  | [w], v, _, h => by
    refine ⟨?_, by simp [Rise]⟩
    intro u hu
    simp at hu
    subst hu
    exact h w rfl
  | w :: u :: r, v, hr, h => by
    refine ⟨?_, ?_⟩
    · intro y hy
      exact hr.1 y (by simpa using hy)
    · exact rise_add (u :: r) v hr.2 (fun y hy => h y (by simpa using hy))
theorem rise_at : ∀ (l : List Wd) (i : Nat) (h : i + 1 < l.length), Rise l → (l[i]).col + (l[i]).text.length < (l[i + 1]).col
  | w :: u :: r, 0, _, hr => hr.1 u rfl
  | w :: u :: r, i + 1, h, hr => rise_at (u :: r) i (by simpa using h) hr.2

theorem kp_nil (row : List Wd) (n c : Nat) : kp [] row n c = row := by simp [kp]
theorem kp_ne {cur : List UInt8} (h : cur ≠ []) (row : List Wd) (n c : Nat) : kp cur row n c = row ++ [⟨cur, n, c - cur.length⟩] := by simp [kp, h]

/-- the words of a line stand in it: where `pre` is what lies ahead of the word under way -/
theorem wds_stand : ∀ (l : List UInt8) (n : Nat) (pre cur : List UInt8) (row : List Wd) (x : List UInt8), x = pre ++ cur ++ l →
    (∀ b, pre.getLast? = some b → isBlank b = true) → (∀ w ∈ row, Stands x n w) → Rise row → (∀ w, row.getLast? = some w → w.col + w.text.length ≤ pre.length) →
    (∀ w ∈ wds l n (pre.length + cur.length + 1) cur row, Stands x n w) ∧ Rise (wds l n (pre.length + cur.length + 1) cur row)
  | [], n, pre, cur, row, x, hx, hp, hs, hr, hl => by
    unfold wds
    by_cases hc : cur = []
    · subst hc
      rw [kp_nil]
      exact ⟨hs, hr⟩
    · rw [kp_ne hc]
      have e : pre.length + cur.length + 1 - cur.length = pre.length + 1 := by omega
      refine ⟨?_, rise_add _ _ hr (fun w hw => ?_)⟩
      · intro w hw
        rcases List.mem_append.1 hw with hw | hw
        · exact hs w hw
        · simp only [List.mem_singleton] at hw
          subst hw
          exact ⟨rfl, by show 1 ≤ _ - _; omega, hc, pre, [], by simpa using hx, by show _ = _ - _; omega, hp, fun b hb => by simp at hb⟩
      · have := hl w hw
        show _ < _ - _
        omega
  | b :: r, n, pre, cur, row, x, hx, hp, hs, hr, hl => by
    unfold wds
    by_cases h2 : isBlank b = true
    · rw [if_pos h2]
      have e3 : pre.length + cur.length + 1 + 1 = (pre ++ cur ++ [b]).length + ([] : List UInt8).length + 1 := by simp; omega
      rw [e3]
      refine wds_stand r n (pre ++ cur ++ [b]) [] _ x (by simpa using hx) (fun y hy => by simp at hy; rw [← hy]; exact h2) ?_ ?_ ?_
      · by_cases hc : cur = []
        · subst hc
          rw [kp_nil]
          exact hs
        · rw [kp_ne hc]
          intro w hw
          rcases List.mem_append.1 hw with hw | hw
          · exact hs w hw
          · simp only [List.mem_singleton] at hw
            subst hw
            exact ⟨rfl, by show 1 ≤ _ - _; omega, hc, pre, b :: r, by simpa using hx, by show _ = _ - _; omega, hp, fun y hy => by simp at hy; rw [← hy]; exact h2⟩
      · by_cases hc : cur = []
        · subst hc
          rw [kp_nil]
          exact hr
        · rw [kp_ne hc]
          refine rise_add _ _ hr (fun w hw => ?_)
          have := hl w hw
          show _ < _ - _
          omega
      · intro w hw
        by_cases hc : cur = []
        · subst hc
          rw [kp_nil] at hw
          have := hl w hw
          simp only [List.length_append, List.length_cons, List.length_nil]
          omega
        · rw [kp_ne hc] at hw
          simp only [List.getLast?_append, List.getLast?_singleton, Option.some_or, Option.some.injEq] at hw
          subst hw
          simp only [List.length_append, List.length_cons, List.length_nil]
          omega
    · rw [if_neg h2]
      have e3 : pre.length + cur.length + 1 + 1 = pre.length + (cur ++ [b]).length + 1 := by simp; omega
      rw [e3]
      exact wds_stand r n pre (cur ++ [b]) row x (by simpa using hx) hp hs hr hl
theorem line_stand (x : List UInt8) (n : Nat) : (∀ w ∈ wds x n 1 [] [], Stands x n w) ∧ Rise (wds x n 1 [] []) :=
  wds_stand x n [] [] [] x rfl (fun b h => by simp at h) (fun w h => by simp at h) trivial (fun w h => by simp at h)
theorem lns_pre : ∀ (x r : List UInt8), (∀ b ∈ x, isEnd b = false) → lns (x ++ r) = (x ++ (lns r).1, (lns r).2)
  | [], _, _ => rfl
  | b :: x, r, h => by
    have h1 := h b (List.mem_cons_self ..)
    have h2 := lns_pre x r (fun y hy => h y (List.mem_cons_of_mem _ hy))
    have e : lns (b :: x ++ r) = if isEnd b then ([], (lns (x ++ r)).1 :: (lns (x ++ r)).2) else (b :: (lns (x ++ r)).1, (lns (x ++ r)).2) := rfl
    rw [e, h1, h2]
    simp
theorem lns_end (r : List UInt8) {b : UInt8} (h : isEnd b = true) : lns (b :: r) = ([], (lns r).1 :: (lns r).2) := by
  conv => lhs; unfold lns
  rw [if_pos h]
/-- what is told of a text whose first line is known -/
theorem rows_line (x r : List UInt8) (n : Nat) {b : UInt8} (hb : isEnd b = true) (h : ∀ b ∈ x, isEnd b = false) : allRows (x ++ b :: r) n = ly (wds x n 1 [] []) ++ allRows r (n + 1) := by
  unfold allRows
  rw [lns_pre x _ h, lns_end r hb]
  simp [rows]
theorem rows_last (x : List UInt8) (n : Nat) (h : ∀ b ∈ x, isEnd b = false) : allRows x n = ly (wds x n 1 [] []) := by
  have h1 := lns_pre x [] h
  rw [List.append_nil] at h1
  unfold allRows
  rw [h1]
  simp [rows, lns]
theorem ly_told {row : List Wd} (h : told row = true) : ly row = [row] := by simp [ly, h]
theorem ly_not {row : List Wd} (h : told row = false) : ly row = [] := by simp [ly, h]
theorem told_ne {row : List Wd} (h : told row = true) : row ≠ [] := by intro e; subst e; simp [told] at h
/-- each row that is told has words, of a line no earlier -/
theorem rows_lines : ∀ (ls : List (List UInt8)) (n : Nat), ∀ row ∈ rows ls n, ∃ m x, n ≤ m ∧ m < n + ls.length ∧ x ∈ ls ∧ row = wds x m 1 [] [] ∧ row ≠ [] ∧ told row = true
  | [], n, row, h => by simp [rows] at h
  | x :: r, n, row, h => by
    unfold rows at h
    rcases List.mem_append.1 h with h | h
    · by_cases ht : told (wds x n 1 [] []) = true
      · rw [ly_told ht, List.mem_singleton] at h
        subst h
        exact ⟨n, x, Nat.le_refl _, by simp, List.mem_cons_self .., rfl, told_ne ht, ht⟩
      · rw [ly_not (by simpa using ht)] at h; simp at h
    · obtain ⟨m, y, h1, h2, h3, h4⟩ := rows_lines r (n + 1) row h
      exact ⟨m, y, by omega, by simp only [List.length_cons]; omega, List.mem_cons_of_mem _ h3, h4⟩
end Go.Proofs.Ytnfkeaplglknlaa.words
