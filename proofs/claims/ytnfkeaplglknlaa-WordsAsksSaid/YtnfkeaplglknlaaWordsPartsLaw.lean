/- The lines of two texts, one behind the other, in plain Lean. No program here. -/
import Derived.Test.YtnfkeaplglknlaaWordsLines
namespace Go.Proofs.Ytnfkeaplglknlaa.words

theorem lns_app : ∀ (u v : List UInt8) {b : UInt8}, isEnd b = true → lns (u ++ b :: v) = ((lns u).1, (lns u).2 ++ (lns v).1 :: (lns v).2)
  | [], v, b, hb => by rw [List.nil_append, lns_end v hb]; rfl
  | x :: u, v, b, hb => by
    have ih := lns_app u v hb
    have e1 : lns (x :: u ++ b :: v) = if isEnd x then ([], (lns (u ++ b :: v)).1 :: (lns (u ++ b :: v)).2) else (x :: (lns (u ++ b :: v)).1, (lns (u ++ b :: v)).2) := rfl
    have e2 : lns (x :: u) = if isEnd x then ([], (lns u).1 :: (lns u).2) else (x :: (lns u).1, (lns u).2) := rfl
    rw [e1, e2, ih]
    split <;> simp
theorem lns_len : ∀ u : List UInt8, (lns u).2.length = u.countP isEnd
  | [] => rfl
  | x :: u => by
    have ih := lns_len u
    have e2 : lns (x :: u) = if isEnd x then ([], (lns u).1 :: (lns u).2) else (x :: (lns u).1, (lns u).2) := rfl
    rw [e2, List.countP_cons]
    split <;> rename_i h <;> simp [h, ih]
theorem rows_app : ∀ (A B : List (List UInt8)) (n : Nat), rows (A ++ B) n = rows A n ++ rows B (n + A.length)
  | [], B, n => by simp [rows]
  | x :: A, B, n => by
    have ih := rows_app A B (n + 1)
    show ly _ ++ rows (A ++ B) (n + 1) = (ly _ ++ rows A (n + 1)) ++ rows B (n + (A.length + 1))
    rw [ih, List.append_assoc, show n + 1 + A.length = n + (A.length + 1) by omega]
theorem all_app (u v : List UInt8) {b : UInt8} (hb : isEnd b = true) (n : Nat) : allRows (u ++ b :: v) n = allRows u n ++ allRows v (n + 1 + u.countP isEnd) := by
  unfold allRows
  rw [lns_app u v hb, ← List.cons_append, rows_app]
  congr 2
  rw [List.length_cons, lns_len]
  omega
theorem all_nil (n : Nat) : allRows [] n = [] := rfl

def shW (m : Nat) (w : Wd) : Wd := ⟨w.text, w.line + m, w.col⟩
theorem kp_shift (m n c : Nat) (cur : List UInt8) (row : List Wd) : kp cur (row.map (shW m)) (n + m) c = (kp cur row n c).map (shW m) := by
  unfold kp
  split
  · rfl
  · simp [shW]
theorem wds_shift (m : Nat) : ∀ (l : List UInt8) (n c : Nat) (cur : List UInt8) (row : List Wd), wds l (n + m) c cur (row.map (shW m)) = (wds l n c cur row).map (shW m)
  | [], n, c, cur, row => kp_shift m n c cur row
  | b :: r, n, c, cur, row => by
    unfold wds
    split
    · rw [kp_shift, wds_shift m r]
    · rw [wds_shift m r]
theorem told_shift (m : Nat) (row : List Wd) : told (row.map (shW m)) = told row := by
  cases row <;> rfl
theorem ly_shift (m : Nat) (row : List Wd) : ly (row.map (shW m)) = (ly row).map (List.map (shW m)) := by
  unfold ly
  rw [told_shift]
  split <;> rfl
theorem rows_shift (m : Nat) : ∀ (ls : List (List UInt8)) (n : Nat), rows ls (n + m) = (rows ls n).map (List.map (shW m))
  | [], _ => rfl
  | x :: r, n => by
    have ih := rows_shift m r (n + 1)
    show ly _ ++ rows r (n + m + 1) = List.map _ (ly _ ++ rows r (n + 1))
    rw [List.map_append, ← ih, ← ly_shift]
    have h := wds_shift m x n 1 [] []
    rw [List.map_nil] at h
    rw [h, show n + m + 1 = n + 1 + m by omega]
theorem all_shift (l : List UInt8) (n m : Nat) : allRows l (n + m) = (allRows l n).map (List.map (shW m)) := rows_shift m _ n
theorem all_words {l : List UInt8} {n : Nat} {row : List Wd} (h : row ∈ allRows l n) : row ≠ [] ∧ ∀ w ∈ row, n ≤ w.line ∧ w.line ≤ n + l.length ∧ w.col ≤ l.length + 1 ∧ w.text.length ≤ l.length := by
  obtain ⟨m, x, h1, h2, h3, rfl, h5, -⟩ := rows_lines _ _ _ h
  refine ⟨h5, fun w hw => ?_⟩
  obtain ⟨q1, q2, q3, p, s, e, q4, -⟩ := (line_stand x m).1 w hw
  have hlen := lns_len l
  have hc := List.countP_le_length (p := isEnd) (l := l)
  rw [List.length_cons, hlen] at h2
  have hx : x.length ≤ l.length := by
    have : ∀ (l x : List UInt8), x ∈ (lns l).1 :: (lns l).2 → x.length ≤ l.length := by
      intro l
      induction l with
      | nil => intro x h; simp [lns] at h; subst h; exact Nat.le_refl _
      | cons b r ih =>
        intro x h
        have e2 : lns (b :: r) = if isEnd b then ([], (lns r).1 :: (lns r).2) else (b :: (lns r).1, (lns r).2) := rfl
        rw [e2] at h
        split at h
        · rcases List.mem_cons.1 h with rfl | h
          · simp
          · have := ih x h; simp only [List.length_cons]; omega
        · rcases List.mem_cons.1 h with rfl | h
          · have := ih _ (List.mem_cons_self ..)
            simp only [List.length_cons]
            omega
          · have := ih x (List.mem_cons_of_mem _ h)
            simp only [List.length_cons]
            omega
    exact this l x h3
  have hxl := congrArg List.length e
  rw [List.length_append, List.length_append] at hxl
  omega
theorem rows_len : ∀ (ls : List (List UInt8)) (n : Nat), (rows ls n).length ≤ ls.length
  | [], _ => Nat.le_refl _
  | x :: r, n => by
    have ih := rows_len r (n + 1)
    have h : (ly (wds x n 1 [] [])).length ≤ 1 := by unfold ly; split <;> simp
    show (ly _ ++ rows r (n + 1)).length ≤ r.length + 1
    rw [List.length_append]
    omega
theorem all_len (l : List UInt8) (n : Nat) : (allRows l n).length ≤ l.length + 1 := by
  have h := rows_len ((lns l).1 :: (lns l).2) n
  have hc := List.countP_le_length (p := isEnd) (l := l)
  rw [List.length_cons, lns_len] at h
  exact Nat.le_trans h (by omega)
end Go.Proofs.Ytnfkeaplglknlaa.words
