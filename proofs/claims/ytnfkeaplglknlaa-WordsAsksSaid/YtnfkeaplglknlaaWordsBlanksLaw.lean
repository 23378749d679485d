/- More blanks change no words, in plain Lean. No program here. -/
import Derived.Test.YtnfkeaplglknlaaWordsLines
namespace Go.Proofs.Ytnfkeaplglknlaa.words

def bl (j : Nat) : UInt8 := if j % 2 = 0 then 32 else 9
def bls (m : Nat) : List UInt8 := (List.range m).map bl
def more (b : UInt8) : Bool := b.toNat == 32 || b.toNat == 10
def wide (m : Nat) (b : UInt8) : List UInt8 := b :: (if more b then bls m else [])
/-- with so many blanks more behind each blank and each end -/
def stretch (m : Nat) (l : List UInt8) : List UInt8 := l.flatMap (wide m)
theorem bls_len (m : Nat) : (bls m).length = m := by simp [bls]
theorem bls_blank (m : Nat) : ∀ b ∈ bls m, isBlank b = true := by
  intro b hb
  obtain ⟨j, _, rfl⟩ := List.mem_map.1 hb
  unfold bl
  split <;> rfl
theorem stretch_cons (m : Nat) (b : UInt8) (r : List UInt8) : stretch m (b :: r) = b :: ((if more b then bls m else []) ++ stretch m r) := by simp [stretch, wide]
theorem stretch_snoc (m : Nat) (l : List UInt8) (k : Nat) (h : k < l.length) : stretch m (l.take (k + 1)) = stretch m (l.take k) ++ wide m l[k] := by
  unfold stretch
  rw [List.take_succ_eq_append_getElem h, List.flatMap_append]
  simp
theorem stretch_len (m : Nat) (l : List UInt8) : (stretch m l).length ≤ (m + 1) * l.length := by
  induction l with
  | nil => simp [stretch]
  | cons b r ih =>
    rw [stretch_cons, List.length_cons, List.length_append, List.length_cons]
    have : (if more b = true then bls m else []).length ≤ m := by
      split
      · rw [bls_len]; omega
      · simp
    rw [Nat.mul_add, Nat.mul_one]
    omega

def RW : List Wd → List Wd → Prop
  | [], [] => True
  | a :: r, b :: s => (a.text = b.text ∧ a.line = b.line ∧ a.col ≤ b.col) ∧ RW r s
  | _, _ => False
def RO : List (List Wd) → List (List Wd) → Prop
  | [], [] => True
  | a :: r, b :: s => RW a b ∧ RO r s
  | _, _ => False
theorem RW.snoc : ∀ {r s : List Wd} {a b : Wd}, RW r s → (a.text = b.text ∧ a.line = b.line ∧ a.col ≤ b.col) → RW (r ++ [a]) (s ++ [b])
  | [], [], _, _, _, h => ⟨h, trivial⟩
  | x :: r, y :: s, _, _, h1, h2 => ⟨h1.1, RW.snoc h1.2 h2⟩
theorem RO.snoc : ∀ {r s : List (List Wd)} {a b : List Wd}, RO r s → RW a b → RO (r ++ [a]) (s ++ [b])
  | [], [], _, _, _, h => ⟨h, trivial⟩
  | x :: r, y :: s, _, _, h1, h2 => ⟨h1.1, RO.snoc h1.2 h2⟩
theorem RW.len : ∀ {r s : List Wd}, RW r s → r.length = s.length
  | [], [], _ => rfl
  | x :: r, y :: s, h => by simp [RW.len h.2]
theorem RO.len : ∀ {r s : List (List Wd)}, RO r s → r.length = s.length
  | [], [], _ => rfl
  | x :: r, y :: s, h => by simp [RO.len h.2]
theorem RW.at_ : ∀ {r s : List Wd} (_ : RW r s) (i : Nat) (h1 : i < r.length) (h2 : i < s.length), (r[i]).text = (s[i]).text ∧ (r[i]).line = (s[i]).line ∧ (r[i]).col ≤ (s[i]).col
  | x :: r, y :: s, h, 0, _, _ => h.1
  | x :: r, y :: s, h, i + 1, h1, h2 => RW.at_ h.2 i (by simpa using h1) (by simpa using h2)
theorem RO.at_ : ∀ {r s : List (List Wd)} (_ : RO r s) (i : Nat) (h1 : i < r.length) (h2 : i < s.length), RW r[i] s[i]
  | x :: r, y :: s, h, 0, _, _ => h.1
  | x :: r, y :: s, h, i + 1, h1, h2 => RO.at_ h.2 i (by simpa using h1) (by simpa using h2)
theorem RW.told_ : ∀ {r s : List Wd}, RW r s → told r = told s
  | [], [], _ => rfl
  | x :: r, y :: s, h => by
    show (x.text.head? != some 35) = (y.text.head? != some 35)
    rw [h.1.1]
theorem RW.kp_ {r s : List Wd} (h : RW r s) (cur : List UInt8) (n : Nat) {c c' : Nat} (hc : c ≤ c') : RW (kp cur r n c) (kp cur s n c') := by
  by_cases hcur : cur = []
  · rw [hcur, kp_nil, kp_nil]; exact h
  · rw [kp_ne hcur, kp_ne hcur]
    exact h.snoc ⟨rfl, rfl, Nat.sub_le_sub_right hc _⟩
theorem RO.ly_ {o p : List (List Wd)} (h : RO o p) {r s : List Wd} (h2 : RW r s) : RO (o ++ ly r) (p ++ ly s) := by
  unfold ly
  rw [h2.told_]
  split
  · exact h.snoc h2
  · rw [List.append_nil, List.append_nil]; exact h
theorem scan_bls : ∀ (bs s : List UInt8) (n c : Nat) (row : List Wd) (out : List (List Wd)), (∀ b ∈ bs, isBlank b = true) → scan (bs ++ s) n c [] row out = scan s n (c + bs.length) [] row out
  | [], _, _, _, _, _, _ => rfl
  | b :: bs, s, n, c, row, out, h => by
    have hb := h b (List.mem_cons_self ..)
    have he : isEnd b = false := by
      unfold isBlank at hb
      unfold isEnd
      simp only [Bool.or_eq_true, beq_iff_eq] at hb
      rw [beq_eq_false_iff_ne]
      omega
    show scan (b :: (bs ++ s)) n c [] row out = _
    conv => lhs; unfold scan
    rw [if_neg (by simp [he]), if_pos hb, kp_nil, scan_bls bs s n (c + 1) row out (fun x hx => h x (List.mem_cons_of_mem _ hx)), List.length_cons]
    congr 1
    omega
theorem scan_stretch (m : Nat) : ∀ (l : List UInt8) (n c c' : Nat) (cur : List UInt8) (row row' : List Wd) (out out' : List (List Wd)), c ≤ c' → RW row row' → RO out out' →
    (scan l n c cur row out).err = (scan (stretch m l) n c' cur row' out').err ∧ RO (scan l n c cur row out).out (scan (stretch m l) n c' cur row' out').out
  | [], n, c, c', cur, row, row', out, out', hc, hr, ho => ⟨rfl, ho.ly_ (hr.kp_ cur n hc)⟩
  | b :: r, n, c, c', cur, row, row', out, out', hc, hr, ho => by
    rw [stretch_cons]
    unfold scan
    by_cases h1 : isEnd b = true
    · have hm : more b = true := by
        unfold isEnd at h1
        unfold more
        rw [h1, Bool.or_true]
      rw [if_pos h1, if_pos h1, if_pos hm, scan_bls _ _ _ _ _ _ (bls_blank m)]
      exact scan_stretch m r _ _ _ _ _ _ _ _ (by omega) trivial (ho.ly_ (hr.kp_ cur n hc))
    · rw [if_neg h1, if_neg h1]
      by_cases h2 : isBlank b = true
      · rw [if_pos h2, if_pos h2]
        by_cases hm : more b = true
        · rw [if_pos hm, scan_bls _ _ _ _ _ _ (bls_blank m)]
          exact scan_stretch m r _ _ _ _ _ _ _ _ (by omega) (hr.kp_ cur n hc) ho
        · rw [if_neg hm, List.nil_append]
          exact scan_stretch m r _ _ _ _ _ _ _ _ (by omega) (hr.kp_ cur n hc) ho
      · rw [if_neg h2, if_neg h2]
        have hm : ¬ more b = true := by
          intro h
          unfold more at h
          unfold isEnd at h1
          unfold isBlank at h2
          simp only [Bool.or_eq_true, beq_iff_eq] at h h1 h2
          omega
        rw [if_neg hm, List.nil_append]
        by_cases h3 : isVis b = true
        · rw [if_pos h3, if_pos h3]
          exact scan_stretch m r _ _ _ _ _ _ _ _ (by omega) hr ho
        · rw [if_neg h3, if_neg h3]
          exact ⟨rfl, trivial⟩
theorem split_stretch (m : Nat) (l : List UInt8) (h : (m + 1) * l.length ≤ 1048576) : (split l).err = (split (stretch m l)).err ∧ RO (split l).out (split (stretch m l)).out := by
  have h2 := stretch_len m l
  have h3 : l.length ≤ (m + 1) * l.length := by rw [Nat.add_mul, Nat.one_mul]; omega
  unfold split
  rw [if_neg (by omega), if_neg (by omega)]
  exact scan_stretch m l 1 1 1 [] [] [] [] [] (Nat.le_refl _) trivial trivial
theorem wds_few : ∀ (l : List UInt8) (n c : Nat) (cur : List UInt8) (row : List Wd), (wds l n c cur row).length ≤ row.length + cur.length + l.length
  | [], n, c, cur, row => by
    unfold wds kp
    split
    · simp
    · rename_i h
      have := List.length_pos_iff.2 h
      simp
      omega
  | b :: r, n, c, cur, row => by
    unfold wds
    split
    · have h1 := wds_few r n (c + 1) [] (kp cur row n c)
      have h2 : (kp cur row n c).length ≤ row.length + cur.length := wds_few [] n c cur row
      simp only [List.length_nil, List.length_cons] at h1 ⊢
      omega
    · have h1 := wds_few r n (c + 1) (cur ++ [b]) row
      simp only [List.length_append, List.length_nil, List.length_cons] at h1 ⊢
      omega
theorem lns_short : ∀ (l x : List UInt8), x ∈ (lns l).1 :: (lns l).2 → x.length ≤ l.length
  | [], x, h => by simp [lns] at h; subst h; exact Nat.le_refl _
  | b :: r, x, h => by
    have e2 : lns (b :: r) = if isEnd b then ([], (lns r).1 :: (lns r).2) else (b :: (lns r).1, (lns r).2) := rfl
    rw [e2] at h
    split at h
    · rcases List.mem_cons.1 h with rfl | h
      · simp
      · have := lns_short r x h; simp only [List.length_cons]; omega
    · rcases List.mem_cons.1 h with rfl | h
      · have := lns_short r _ (List.mem_cons_self ..)
        simp only [List.length_cons]
        omega
      · have := lns_short r x (List.mem_cons_of_mem _ h)
        simp only [List.length_cons]
        omega
/-- a row has no more words than the text has bytes -/
theorem all_few {l : List UInt8} {n : Nat} {row : List Wd} (h : row ∈ allRows l n) : row.length ≤ l.length := by
  obtain ⟨m, x, h1, h2, h3, rfl, h5, -⟩ := rows_lines _ _ _ h
  have h6 := wds_few x m 1 [] []
  have h7 := lns_short l x h3
  simp only [List.length_nil] at h6
  omega
theorem split_few {l : List UInt8} (h : l.length ≤ 1048576) {row : List Wd} (hr : row ∈ (split l).out) : row.length ≤ l.length := by
  by_cases he : (split l).err = 0
  · rw [split_rows h (split_good h he)] at hr
    exact all_few hr
  · rw [(split_bad h he).1] at hr
    simp at hr
theorem bls_take (m j : Nat) (h : j < m) : (bls m).take (j + 1) = (bls m).take j ++ [bl j] := by
  have hl : j < (bls m).length := by rw [bls_len]; exact h
  rw [List.take_succ_eq_append_getElem hl]
  congr 2
  simp [bls]
end Go.Proofs.Ytnfkeaplglknlaa.words
