/- The document's answer for words, in plain Lean. No program here. -/
import Derived.Test.YtnfkeaplglknlaaWordsBackLaw
namespace Go.Proofs.Ytnfkeaplglknlaa.words

/-- the words of a line that are told -/
def lineOf (x : List UInt8) (n : Nat) : List Wd := if told (wds x n 1 [] []) then wds x n 1 [] [] else []
theorem lineOf_rows (x : List UInt8) (n : Nat) : (if lineOf x n = [] then [] else [lineOf x n]) = ly (wds x n 1 [] []) := by
  unfold lineOf ly
  cases h : told (wds x n 1 [] []) with
  | true => simp [told_ne h]
  | false => simp
/-- the bytes ahead of the first blank -/
def upto (l : List UInt8) : Nat := (l.takeWhile fun b => !isBlank b).length
theorem wds_run : ∀ (x rest : List UInt8) (n c : Nat) (cur : List UInt8) (row : List Wd), (∀ b ∈ x, isBlank b = false) → wds (x ++ rest) n c cur row = wds rest n (c + x.length) (cur ++ x) row
  | [], rest, n, c, cur, row, _ => by simp
  | b :: x, rest, n, c, cur, row, h => by
    show wds (b :: (x ++ rest)) n c cur row = _
    conv => lhs; unfold wds
    rw [if_neg (by simp [h b (List.mem_cons_self ..)]), wds_run x rest n (c + 1) (cur ++ [b]) row (fun y hy => h y (List.mem_cons_of_mem _ hy)), List.length_cons, List.append_assoc, List.singleton_append]
    congr 1
    omega
theorem wds_blank (b : UInt8) (r : List UInt8) (n c : Nat) (row : List Wd) (h : isBlank b = true) : wds (b :: r) n c [] row = wds r n (c + 1) [] row := by
  conv => lhs; unfold wds
  rw [if_pos h, kp_nil]
/-- a word from byte k to byte m, with a blank or the line's end behind it -/
theorem wds_next (x : List UInt8) (n k m : Nat) (row : List Wd) (hk : k < m) (hm : m ≤ x.length) (hv : ∀ b ∈ (x.drop k).take (m - k), isBlank b = false) (he : m = x.length ∨ ∃ h : m < x.length, isBlank x[m] = true) :
    wds (x.drop k) n (k + 1) [] row = wds (x.drop m) n (m + 1) [] (row ++ [⟨(x.drop k).take (m - k), n, k + 1⟩]) := by
  have hl : ((x.drop k).take (m - k)).length = m - k := by rw [List.length_take, List.length_drop]; omega
  have hne : (x.drop k).take (m - k) ≠ [] := by intro e; rw [e] at hl; simp at hl; omega
  have e1 : x.drop k = (x.drop k).take (m - k) ++ x.drop m := by
    conv => lhs; rw [← List.take_append_drop (m - k) (x.drop k)]
    rw [List.drop_drop, show k + (m - k) = m by omega]
  conv => lhs; rw [e1]
  rw [wds_run _ _ _ _ _ _ hv, List.nil_append, hl, show k + 1 + (m - k) = m + 1 by omega]
  have e2 : ∀ (t : List UInt8), t.length = m - k → t ≠ [] → kp t row n (m + 1) = row ++ [⟨t, n, k + 1⟩] := by
    intro t ht hn
    rw [kp_ne hn, ht, show m + 1 - (m - k) = k + 1 by omega]
  rcases he with rfl | ⟨h, hb⟩
  · rw [List.drop_length]
    unfold wds
    rw [e2 _ hl hne, kp_nil]
  · rw [List.drop_eq_getElem_cons h]
    unfold wds
    rw [if_pos hb, if_pos hb, e2 _ hl hne, kp_nil]
/-- a row that is under way stays ahead -/
theorem wds_pre : ∀ (l : List UInt8) (n c : Nat) (cur : List UInt8) (row : List Wd), ∃ r, wds l n c cur row = row ++ r
  | [], n, c, cur, row => by
    unfold wds kp
    split
    · exact ⟨[], by simp⟩
    · exact ⟨_, rfl⟩
  | b :: l, n, c, cur, row => by
    unfold wds
    split
    · obtain ⟨r1, h1⟩ : ∃ r, kp cur row n c = row ++ r := by
        unfold kp
        split
        · exact ⟨[], by simp⟩
        · exact ⟨_, rfl⟩
      obtain ⟨r2, h2⟩ := wds_pre l n (c + 1) [] (kp cur row n c)
      exact ⟨r1 ++ r2, by rw [h2, h1, List.append_assoc]⟩
    · exact wds_pre l n (c + 1) (cur ++ [b]) row
theorem told_pre {row r : List Wd} (h : row ≠ []) : told (row ++ r) = told row := by
  cases row with
  | nil => exact absurd rfl h
  | cons w t => rfl
end Go.Proofs.Ytnfkeaplglknlaa.words
