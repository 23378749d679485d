/- Words that are joined are split into the same, in plain Lean. No program here. -/
import Derived.Test.YtnfkeaplglknlaaWordsStandLaw
import Derived.Lib.Join
namespace Go.Proofs.Ytnfkeaplglknlaa.words

/-- a word that stands in a line by itself: `i` is whether it is the line's first -/
def wordOk (x : List UInt8) : Prop := x ≠ [] ∧ x.all isVis = true
def lineOk (l : List (List UInt8)) : Prop := l ≠ [] ∧ (∀ x ∈ l, wordOk x) ∧ ∀ x, l.head? = some x → x.head? ≠ some 35
theorem vis_blank {b : UInt8} (h : isVis b = true) : isBlank b = false := by
  unfold isVis at h
  unfold isBlank
  simp only [Bool.and_eq_true, decide_eq_true_eq] at h
  rw [Bool.or_eq_false_iff, beq_eq_false_iff_ne, beq_eq_false_iff_ne]
  omega
theorem vis_end {b : UInt8} (h : isVis b = true) : isEnd b = false := by
  unfold isVis at h
  unfold isEnd
  simp only [Bool.and_eq_true, decide_eq_true_eq] at h
  rw [beq_eq_false_iff_ne]
  omega
theorem wds_word : ∀ (x rest : List UInt8) (n c : Nat) (cur : List UInt8) (row : List Wd), x.all isVis = true → wds (x ++ rest) n c cur row = wds rest n (c + x.length) (cur ++ x) row
  | [], rest, n, c, cur, row, _ => by simp
  | b :: x, rest, n, c, cur, row, h => by
    have h' : isVis b = true ∧ x.all isVis = true := by simpa using h
    show wds (b :: (x ++ rest)) n c cur row = _
    conv => lhs; unfold wds
    rw [if_neg (by simp [vis_blank h'.1]), wds_word x rest n (c + 1) (cur ++ [b]) row h'.2, List.length_cons, List.append_assoc, List.singleton_append]
    congr 1
    omega
theorem join_two (x y : List UInt8) (r : List (List UInt8)) : Lib.join (x :: y :: r) [32] = x ++ 32 :: Lib.join (y :: r) [32] := by
  rw [Lib.join_cons, Lib.join_cons]
  simp [Lib.joinTail]
theorem wds_join : ∀ (l : List (List UInt8)) (n c : Nat) (row : List Wd), l ≠ [] → (∀ x ∈ l, wordOk x) → (wds (Lib.join l [32]) n c [] row).map Wd.text = row.map Wd.text ++ l ∧ ∀ w ∈ wds (Lib.join l [32]) n c [] row, w ∈ row ∨ w.line = n
  | [], _, _, _, h, _ => absurd rfl h
  | [x], n, c, row, _, h => by
    have hx := h x (List.mem_cons_self ..)
    have e := wds_word x [] n c [] row hx.2
    rw [List.append_nil, List.nil_append] at e
    rw [Lib.join_one, e]
    unfold wds
    rw [kp_ne hx.1]
    refine ⟨by simp, fun w hw => ?_⟩
    rcases List.mem_append.1 hw with hw | hw
    · exact .inl hw
    · rw [List.mem_singleton] at hw
      subst hw
      exact .inr rfl
  | x :: y :: r, n, c, row, _, h => by
    have hx := h x (List.mem_cons_self ..)
    rw [join_two, wds_word x _ n c [] row hx.2, List.nil_append]
    have hb : isBlank 32 = true := rfl
    unfold wds
    rw [if_pos hb, kp_ne hx.1]
    obtain ⟨h1, h2⟩ := wds_join (y :: r) n (c + x.length + 1) (row ++ [⟨x, n, c + x.length - x.length⟩]) (by simp) (fun z hz => h z (List.mem_cons_of_mem _ hz))
    refine ⟨by rw [h1]; simp, fun w hw => ?_⟩
    rcases h2 w hw with h3 | h3
    · rcases List.mem_append.1 h3 with h4 | h4
      · exact .inl h4
      · rw [List.mem_singleton] at h4
        subst h4
        exact .inr rfl
    · exact .inr h3
theorem join_bytes : ∀ (l : List (List UInt8)), (∀ x ∈ l, wordOk x) → ∀ b ∈ Lib.join l [32], isVis b = true ∨ b = 32
  | [], _, b, hb => by simp [Lib.join_nil] at hb
  | [x], h, b, hb => by
    rw [Lib.join_one] at hb
    exact .inl (List.all_eq_true.1 (h x (List.mem_cons_self ..)).2 b hb)
  | x :: y :: r, h, b, hb => by
    rw [join_two] at hb
    rcases List.mem_append.1 hb with hb | hb
    · exact .inl (List.all_eq_true.1 (h x (List.mem_cons_self ..)).2 b hb)
    · rcases List.mem_cons.1 hb with hb | hb
      · exact .inr hb
      · exact join_bytes (y :: r) (fun z hz => h z (List.mem_cons_of_mem _ hz)) b hb

def joinLine (l : List (List UInt8)) : List UInt8 := Lib.join l [32] ++ [10]
/-- lines of words, joined -/
def joinText (ls : List (List (List UInt8))) : List UInt8 := ls.flatMap joinLine
theorem joinText_cons (l : List (List UInt8)) (r : List (List (List UInt8))) : joinText (l :: r) = Lib.join l [32] ++ 10 :: joinText r := by
  simp [joinText, joinLine]
theorem join_good : ∀ ls : List (List (List UInt8)), (∀ l ∈ ls, lineOk l) → (joinText ls).all good = true
  | [], _ => rfl
  | l :: r, h => by
    rw [joinText_cons, List.all_append, Bool.and_eq_true]
    refine ⟨List.all_eq_true.2 fun b hb => ?_, ?_⟩
    · rcases join_bytes l (h l (List.mem_cons_self ..)).2.1 b hb with h1 | h1
      · unfold good; rw [h1, Bool.or_true]
      · subst h1; rfl
    · show (good 10 && (joinText r).all good) = true
      rw [join_good r (fun x hx => h x (List.mem_cons_of_mem _ hx))]
      rfl
theorem join_rows : ∀ (ls : List (List (List UInt8))) (n : Nat), (∀ l ∈ ls, lineOk l) → (allRows (joinText ls) n).map (List.map Wd.text) = ls ∧ ∀ k (h : k < (allRows (joinText ls) n).length), ∀ w ∈ (allRows (joinText ls) n)[k], w.line = n + k
  | [], n, _ => ⟨rfl, fun k h => by simp [joinText, all_nil] at h⟩
  | l :: r, n, h => by
    have hl := h l (List.mem_cons_self ..)
    obtain ⟨h1, h2⟩ := join_rows r (n + 1) (fun x hx => h x (List.mem_cons_of_mem _ hx))
    obtain ⟨h3, h4⟩ := wds_join l n 1 [] hl.1 hl.2.1
    have hne : ∀ b ∈ Lib.join l [32], isEnd b = false := fun b hb => by
      rcases join_bytes l hl.2.1 b hb with h5 | h5
      · exact vis_end h5
      · subst h5; rfl
    have e : allRows (joinText (l :: r)) n = ly (wds (Lib.join l [32]) n 1 [] []) ++ allRows (joinText r) (n + 1) := by
      rw [joinText_cons]
      exact rows_line _ _ _ rfl hne
    have ht : told (wds (Lib.join l [32]) n 1 [] []) = true := by
      rw [List.map_nil, List.nil_append] at h3
      obtain ⟨x, l', rfl⟩ := List.exists_cons_of_ne_nil hl.1
      cases hw : wds (Lib.join (x :: l') [32]) n 1 [] [] with
      | nil => rw [hw] at h3; cases h3
      | cons w ws =>
        rw [hw] at h3
        injection h3 with h6 h7
        show (w.text.head? != some 35) = true
        rw [h6, bne_iff_ne]
        exact hl.2.2 x rfl
    rw [ly_told ht, List.singleton_append] at e
    rw [e]
    refine ⟨by rw [List.map_cons, h1, h3]; rfl, fun k hk w hw => ?_⟩
    cases k with
    | zero =>
      rcases h4 w hw with h5 | h5
      · cases h5
      · omega
    | succ k =>
      have := h2 k (by simpa using hk) w (by simpa using hw)
      omega
theorem join_split (ls : List (List (List UInt8))) (h : ∀ l ∈ ls, lineOk l) (hl : (joinText ls).length ≤ 1048576) :
    (split (joinText ls)).err = 0 ∧ (split (joinText ls)).out.map (List.map Wd.text) = ls ∧ ∀ k (h : k < (split (joinText ls)).out.length), ∀ w ∈ (split (joinText ls)).out[k], w.line = k + 1 := by
  have hg := join_good ls h
  have e := split_rows hl hg
  obtain ⟨h1, h2⟩ := join_rows ls 1 h
  rw [← e] at h1 h2
  exact ⟨by rw [split_err hl, if_pos hg], h1, fun k hk w hw => by have := h2 k hk w hw; omega⟩

/-! what is split may be joined -/
def wt (l : List (List UInt8)) : Nat := (l.map fun x => x.length + 1).sum
theorem wt_snoc (l : List (List UInt8)) (x : List UInt8) : wt (l ++ [x]) = wt l + (x.length + 1) := by simp [wt]
theorem join_wt : ∀ l : List (List UInt8), l ≠ [] → (joinLine l).length = wt l
  | [], h => absurd rfl h
  | [x], _ => by simp [joinLine, Lib.join_one, wt]
  | x :: y :: r, _ => by
    have ih := join_wt (y :: r) (by simp)
    have e : (joinLine (x :: y :: r)).length = x.length + 1 + (joinLine (y :: r)).length := by
      unfold joinLine
      rw [join_two]
      simp
      omega
    rw [e, ih]
    simp [wt]
theorem kp_wt (cur : List UInt8) (row : List Wd) (n c : Nat) : wt ((kp cur row n c).map Wd.text) ≤ wt (row.map Wd.text) + (if cur = [] then 0 else cur.length + 1) := by
  by_cases h : cur = []
  · subst h; rw [kp_nil]; simp
  · rw [kp_ne h, List.map_append, List.map_cons, List.map_nil, wt_snoc, if_neg h]
    exact Nat.le_refl _
theorem wds_wt : ∀ (l : List UInt8) (n c : Nat) (cur : List UInt8) (row : List Wd), wt ((wds l n c cur row).map Wd.text) ≤ wt (row.map Wd.text) + cur.length + l.length + 1
  | [], n, c, cur, row => by
    have := kp_wt cur row n c
    unfold wds
    split at this <;> simp <;> omega
  | b :: r, n, c, cur, row => by
    unfold wds
    split
    · have h1 := wds_wt r n (c + 1) [] (kp cur row n c)
      have h2 := kp_wt cur row n c
      simp only [List.length_nil, List.length_cons] at h1 ⊢
      split at h2 <;> omega
    · have h1 := wds_wt r n (c + 1) (cur ++ [b]) row
      simp only [List.length_append, List.length_nil, List.length_cons] at h1 ⊢
      omega
def ltot : List (List UInt8) → Nat
  | [] => 0
  | x :: r => x.length + 1 + ltot r
theorem lns_tot : ∀ l : List UInt8, ltot ((lns l).1 :: (lns l).2) = l.length + 1
  | [] => rfl
  | b :: r => by
    have ih := lns_tot r
    have e2 : lns (b :: r) = if isEnd b then ([], (lns r).1 :: (lns r).2) else (b :: (lns r).1, (lns r).2) := rfl
    rw [e2]
    split
    · show 0 + 1 + ltot ((lns r).1 :: (lns r).2) = r.length + 1 + 1
      rw [ih]
      omega
    · show (lns r).1.length + 1 + 1 + ltot (lns r).2 = r.length + 1 + 1
      have : (lns r).1.length + 1 + ltot (lns r).2 = r.length + 1 := ih
      omega
theorem rows_tot : ∀ (ls : List (List UInt8)) (n : Nat), (joinText ((rows ls n).map (List.map Wd.text))).length ≤ ltot ls
  | [], _ => Nat.le_refl _
  | x :: r, n => by
    have ih := rows_tot r (n + 1)
    show (joinText ((ly (wds x n 1 [] []) ++ rows r (n + 1)).map (List.map Wd.text))).length ≤ x.length + 1 + ltot r
    cases ht : told (wds x n 1 [] []) with
    | true =>
      rw [ly_told ht, List.singleton_append, List.map_cons]
      have hne := told_ne ht
      have h2 := join_wt ((wds x n 1 [] []).map Wd.text) (by simpa using hne)
      have h3 := wds_wt x n 1 [] []
      have e : (joinText ((wds x n 1 [] []).map Wd.text :: (rows r (n + 1)).map (List.map Wd.text))).length = (joinLine ((wds x n 1 [] []).map Wd.text)).length + (joinText ((rows r (n + 1)).map (List.map Wd.text))).length := by
        simp [joinText]
      rw [e, h2]
      have : wt (([] : List Wd).map Wd.text) = 0 := rfl
      simp only [List.length_nil] at h3
      omega
    | false =>
      rw [ly_not ht, List.nil_append]
      omega
theorem wds_vis : ∀ (l : List UInt8) (n c : Nat) (cur : List UInt8) (row : List Wd), (∀ b ∈ l, isBlank b = true ∨ isVis b = true) → cur.all isVis = true → (∀ w ∈ row, wordOk w.text) → ∀ w ∈ wds l n c cur row, wordOk w.text
  | [], n, c, cur, row, _, hc, hr => by
    unfold wds kp
    split
    · exact hr
    · rename_i h
      intro w hw
      rcases List.mem_append.1 hw with hw | hw
      · exact hr w hw
      · rw [List.mem_singleton] at hw
        subst hw
        exact ⟨h, hc⟩
  | b :: r, n, c, cur, row, hl, hc, hr => by
    unfold wds
    split
    · refine wds_vis r n (c + 1) [] _ (fun x hx => hl x (List.mem_cons_of_mem _ hx)) rfl ?_
      exact wds_vis [] n c cur row (fun x hx => by cases hx) hc hr
    · rename_i h
      have hb : isVis b = true := (hl b (List.mem_cons_self ..)).resolve_left h
      refine wds_vis r n (c + 1) _ row (fun x hx => hl x (List.mem_cons_of_mem _ hx)) ?_ hr
      rw [List.all_append, hc]
      simp [hb]
theorem lns_bytes : ∀ (l : List UInt8), l.all good = true → ∀ x ∈ (lns l).1 :: (lns l).2, ∀ b ∈ x, isBlank b = true ∨ isVis b = true
  | [], _, x, hx, b, hb => by simp [lns] at hx; subst hx; cases hb
  | c :: r, h, x, hx, b, hb => by
    have h' : good c = true ∧ r.all good = true := by simpa using h
    have ih := lns_bytes r h'.2
    have e2 : lns (c :: r) = if isEnd c then ([], (lns r).1 :: (lns r).2) else (c :: (lns r).1, (lns r).2) := rfl
    rw [e2] at hx
    split at hx
    · rcases List.mem_cons.1 hx with rfl | hx
      · cases hb
      · exact ih x hx b hb
    · rename_i he
      rcases List.mem_cons.1 hx with rfl | hx
      · rcases List.mem_cons.1 hb with rfl | hb
        · have h1 := h'.1
          unfold good at h1
          simp only [Bool.or_eq_true] at h1
          rcases h1 with (h1 | h1) | h1
          · exact absurd h1 he
          · exact .inl h1
          · exact .inr h1
        · exact ih _ (List.mem_cons_self ..) b hb
      · exact ih x (List.mem_cons_of_mem _ hx) b hb
theorem told_head {row : List Wd} (h : told row = true) : ∀ x, (row.map Wd.text).head? = some x → x.head? ≠ some 35 := by
  cases row with
  | nil => simp [told] at h
  | cons w r =>
    intro x hx
    simp at hx
    subst hx
    have h2 : (w.text.head? != some 35) = true := h
    exact bne_iff_ne.1 h2
/-- the rows of a text may be joined -/
theorem split_back {l : List UInt8} (h : l.length ≤ 1048576) : (∀ x ∈ (split l).out.map (List.map Wd.text), lineOk x) ∧ (joinText ((split l).out.map (List.map Wd.text))).length ≤ l.length + 1 := by
  by_cases he : (split l).err = 0
  · have hg := split_good h he
    rw [split_rows h hg]
    refine ⟨fun x hx => ?_, ?_⟩
    · obtain ⟨row, hr, rfl⟩ := List.mem_map.1 hx
      obtain ⟨m, y, h1, h2, h3, rfl, h5, h6⟩ := rows_lines _ _ _ hr
      refine ⟨by simpa using h5, fun z hz => ?_, told_head h6⟩
      obtain ⟨w, hw, rfl⟩ := List.mem_map.1 hz
      exact wds_vis y m 1 [] [] (lns_bytes l hg y h3) rfl (fun w hw => by cases hw) w hw
    · have := rows_tot ((lns l).1 :: (lns l).2) 1
      rw [lns_tot] at this
      exact this
  · rw [(split_bad h he).1]
    exact ⟨fun x hx => by simp at hx, by simp [joinText]⟩
end Go.Proofs.Ytnfkeaplglknlaa.words
