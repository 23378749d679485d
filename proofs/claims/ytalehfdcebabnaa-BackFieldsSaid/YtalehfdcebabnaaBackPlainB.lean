/- What was told, in plain Lean: what is rendered is read. No program here. -/
import Derived.Test.YtalehfdcebabnaaBackPlain
namespace Go.Proofs.Ytalehfdcebabnaa.back
open Go.Proofs.Ytalehfdcebabnaa.head

/-- numbers by their names, as a head's lines -/
def txt (ls : List (List UInt8 × Int)) : List UInt8 := ls.flatMap fun x => line x.1 x.2
def ltext (x : List UInt8 × Int) : List UInt8 := x.1 ++ (colon ++ dig.digs x.2.toNat)
def plain (b : UInt8) : Bool := b != 13 && b != 58
/-- names without ends of lines and colons, and numbers in their bounds -/
def Good (ls : List (List UInt8 × Int)) : Prop := ∀ x ∈ ls, x.1.all plain = true ∧ 0 ≤ x.2 ∧ x.2 ≤ 18446744073709551615
def firsts (l : List UInt8) : List (List UInt8) := (lines l).map (·.1)

theorem plain_13 {n : List UInt8} (h : n.all plain = true) : ∀ c ∈ n, c ≠ 13 := by
  intro c hc e
  have := List.all_eq_true.1 h c hc
  rw [e] at this
  simp [plain] at this
theorem plain_58 {n : List UInt8} (h : n.all plain = true) : ∀ c ∈ n, c ≠ 58 := by
  intro c hc e
  have := List.all_eq_true.1 h c hc
  rw [e] at this
  simp [plain] at this
theorem ltext_13 {x : List UInt8 × Int} (h : x.1.all plain = true) (hn : 0 ≤ x.2 ∧ x.2 ≤ 18446744073709551615) : ∀ c ∈ ltext x, c ≠ 13 := by
  intro c hc
  simp only [ltext, List.mem_append] at hc
  rcases hc with hc | hc | hc
  · exact plain_13 h c hc
  · simp [colon] at hc
    rcases hc with rfl | rfl <;> decide
  · exact digs_no13 _ (by omega) c hc
theorem ltext_ne (x : List UInt8 × Int) : ltext x ≠ [] := by simp [ltext, colon]
theorem line_text (x : List UInt8 × Int) (r : List UInt8) : line x.1 x.2 ++ r = ltext x ++ (crlf ++ r) := by simp [line, ltext]
theorem lines_txt : ∀ (ls : List (List UInt8 × Int)) (t : List UInt8), Good ls → firsts (txt ls ++ (crlf ++ t)) = ls.map ltext ++ [[]] ∧ body (txt ls ++ (crlf ++ t)) = t
  | [], t, _ => by
    have h := lines_at (a := []) t (by simp)
    simp only [List.nil_append, if_pos] at h
    constructor
    · simp [firsts, txt, h]
    · simp [body, txt, h]
  | x :: ls, t, hg => by
    obtain ⟨hx, hn⟩ := hg x (by simp)
    obtain ⟨ih1, ih2⟩ := lines_txt ls t (fun y hy => hg y (by simp [hy]))
    have e : txt (x :: ls) ++ (crlf ++ t) = ltext x ++ (crlf ++ (txt ls ++ (crlf ++ t))) := by
      rw [show txt (x :: ls) = line x.1 x.2 ++ txt ls from rfl, List.append_assoc, line_text]
    have h := lines_at (txt ls ++ (crlf ++ t)) (ltext_13 hx hn)
    rw [if_neg (ltext_ne x)] at h
    rw [e]
    constructor
    · unfold firsts at ih1 ⊢
      rw [h]
      simp [ih1]
    · unfold body at ih2 ⊢
      rw [h]
      have hne : (ltext x).isEmpty = false := by simpa using ltext_ne x
      simp only [List.find?_cons, hne]
      exact ih2
theorem firsts_head {a : List UInt8} (r : List UInt8) (h : ∀ c ∈ a, c ≠ 13) (hne : a ≠ []) : firsts (a ++ (crlf ++ r)) = a :: firsts r ∧ body (a ++ (crlf ++ r)) = body r := by
  have h := lines_at r h
  rw [if_neg hne] at h
  constructor
  · unfold firsts
    rw [h]
    rfl
  · unfold body
    rw [h]
    have he : a.isEmpty = false := by simpa using hne
    simp only [List.find?_cons, he]

/-- the lines of an answer -/
def fls (a : Ans) : List (List UInt8 × Int) :=
  if a.code = 1 then [(nLimit, a.limit), (nLeft, a.left), (nReset, a.reset)] else
  if a.code = 2 then [(nLimit, a.limit), (nLeft, a.left), (nReset, a.reset)] ++ (if a.retry then [(nAfter, a.after), (nNanos, a.nanos)] else []) else
  if a.code = 3 then [(nLimit, a.limit)] else
  if a.code = 5 then [(nError, a.err)] else
  if a.code = 6 then [(nCount, max 0 a.many)] else
  if a.code = 7 then [(nError, a.err)] else
  if a.code = 8 then [(nLength, a.body.length)] else []
theorem fields_txt (a : Ans) : fields a = txt (fls a) := by
  unfold fields fls
  split
  · simp [txt]
  · split
    · cases a.retry <;> simp [txt]
    · split
      · simp [txt]
      · split
        · simp [txt]
        · split
          · simp [txt]
          · split
            · simp [txt]
            · split <;> simp [txt]
theorem names_plain : nLimit.all plain = true ∧ nLeft.all plain = true ∧ nReset.all plain = true ∧ nAfter.all plain = true ∧ nNanos.all plain = true ∧ nError.all plain = true ∧ nCount.all plain = true ∧ nLength.all plain = true := by decide
theorem fls_good {a : Ans} (h : Fine a) : Good (fls a) := by
  obtain ⟨h0, h1, h2, h3, h4, h5, h6, h7, h8⟩ := h
  obtain ⟨p1, p2, p3, p4, p5, p6, p7, p8⟩ := names_plain
  intro x hx
  unfold fls at hx
  split at hx
  · simp at hx
    rcases hx with rfl | rfl | rfl
    · exact ⟨p1, h2⟩
    · exact ⟨p2, h3⟩
    · exact ⟨p3, h4⟩
  · split at hx
    · simp at hx
      rcases hx with rfl | rfl | rfl | ⟨-, rfl | rfl⟩
      · exact ⟨p1, h2⟩
      · exact ⟨p2, h3⟩
      · exact ⟨p3, h4⟩
      · exact ⟨p4, h5⟩
      · exact ⟨p5, h6⟩
    · split at hx
      · simp at hx
        subst hx
        exact ⟨p1, h2⟩
      · split at hx
        · simp at hx
          subst hx
          exact ⟨p6, by simp; omega⟩
        · split at hx
          · simp at hx
            subst hx
            exact ⟨p7, by simp; omega⟩
          · split at hx
            · simp at hx
              subst hx
              exact ⟨p6, by simp; omega⟩
            · split at hx
              · simp at hx
                subst hx
                exact ⟨p8, by simp; omega⟩
              · simp at hx

def first (a : Ans) : List UInt8 := http ++ status a.code
theorem first_13 {a : Ans} (h : isCode a.code) : (∀ c ∈ first a, c ≠ 13) ∧ first a ≠ [] := by
  unfold first
  rcases h with h | h | h | h | h | h | h | h <;> rw [h] <;> exact ⟨by decide +kernel, by decide +kernel⟩
theorem render_first {a : Ans} (h : isCode a.code) : render a = first a ++ (crlf ++ (txt (fls a) ++ (crlf ++ tail a))) := by
  rw [render_some h, fields_txt]
  simp [first]
theorem render_lines {a : Ans} (h : isCode a.code) (hF : Fine a) : firsts (render a) = first a :: ((fls a).map ltext ++ [[]]) ∧ body (render a) = tail a := by
  obtain ⟨h1, h2⟩ := first_13 h
  obtain ⟨h3, h4⟩ := firsts_head (txt (fls a) ++ (crlf ++ tail a)) h1 h2
  obtain ⟨h5, h6⟩ := lines_txt (fls a) (tail a) (fls_good hF)
  rw [render_first h, h3, h4, h5, h6]
  exact ⟨rfl, rfl⟩

theorem seen_firsts (l : List UInt8) : seen l = (firsts l).foldl step blank := by
  unfold seen firsts
  rw [List.foldl_map]
theorem field_firsts (l name : List UInt8) : field l name = ((firsts l).drop 1).findSome? (hit name) := by
  unfold field firsts
  rw [← List.map_drop, List.findSome?_map]
  rfl
theorem step_first {a : Ans} (h : isCode a.code) : step blank (first a) = { blank with code := a.code.toNat } := by
  unfold first
  rcases h with h | h | h | h | h | h | h | h <;> rw [h] <;> rfl
theorem step_line {s : Seen} (hs : s.code ≠ 0) {x : List UInt8 × Int} (hx : x.1.all plain = true) (hn : 0 ≤ x.2 ∧ x.2 ≤ 18446744073709551615) : step s (ltext x) = put s x.1 x.2.toNat := by
  have hc : Lib.cut (ltext x) colon = (x.1, dig.digs x.2.toNat, true) := cut_at (dig.digs x.2.toNat) (plain_58 hx)
  unfold step
  rw [if_neg (by omega), hc]
  simp only [dig.parse_digs x.2.toNat (by omega)]
  simp
theorem step_nil {s : Seen} : step s [] = s := by
  have h1 : codeOf [] = 0 := by decide +kernel
  have h2 : Lib.cut [] colon = ([], [], false) := rfl
  unfold step
  rw [h1, h2]
  simp
theorem put_code (s : Seen) (n : List UInt8) (k : Nat) : (put s n k).code = s.code := by
  unfold put
  repeat' split
  all_goals rfl
theorem fold_lines : ∀ (ls : List (List UInt8 × Int)) (s : Seen), s.code ≠ 0 → Good ls → (ls.map ltext ++ [[]]).foldl step s = ls.foldl (fun s x => put s x.1 x.2.toNat) s
  | [], s, _, _ => by simp [step_nil]
  | x :: ls, s, hs, hg => by
    obtain ⟨hx, hn⟩ := hg x (by simp)
    simp only [List.map_cons, List.cons_append, List.foldl_cons]
    rw [step_line hs hx hn]
    exact fold_lines ls _ (by rw [put_code]; exact hs) (fun y hy => hg y (by simp [hy]))
theorem seen_render {a : Ans} (h : isCode a.code) (hF : Fine a) : seen (render a) = (fls a).foldl (fun s x => put s x.1 x.2.toNat) { blank with code := a.code.toNat } := by
  rw [seen_firsts, (render_lines h hF).1, List.foldl_cons, step_first h]
  refine fold_lines _ _ ?_ (fls_good hF)
  show a.code.toNat ≠ 0
  unfold isCode at h
  omega

theorem wrap_small {x : Int} (h0 : 0 ≤ x) (h1 : x ≤ 9223372036854775807) : IntKind.i64.wrap x = x := by
  unfold IntKind.wrap
  simp [IntKind.bits, IntKind.signed, IntKind.min, IntKind.max]
  omega
theorem clean_told {a : Ans} (h : isCode a.code) (hF : Fine a) : clean (told (seen (render a)) (body (render a))) = clean a := by
  rw [seen_render h hF, (render_lines h hF).2]
  obtain ⟨h0, h1, h2, h3, h4, h5, h6, h7, h8⟩ := hF
  obtain ⟨code, err, limit, left, reset, after, nanos, retry, many, body⟩ := a
  simp only at h0 h1 h2 h3 h4 h5 h6 h7 h8 h
  have e1 : ((limit.toNat : Nat) : Int) = limit := by omega
  have e2 : ((left.toNat : Nat) : Int) = left := by omega
  have e3 : ((reset.toNat : Nat) : Int) = reset := by omega
  have e4 : ((after.toNat : Nat) : Int) = after := by omega
  have e5 : ((nanos.toNat : Nat) : Int) = nanos := by omega
  have e6 : ((err.toNat % 65536 : Nat) : Int) = err := by omega
  have e7 : IntKind.i64.wrap (((max 0 many).toNat : Nat) : Int) = max 0 many := by
    rw [wrap_small (by omega) (by omega)]
    omega
  rcases h with rfl | rfl | rfl | rfl | rfl | rfl | rfl | rfl
  · simp [fls, put, nLimit, nLeft, nReset, blank, told, clean, tail, e1, e2, e3]
  · cases retry
    · simp [fls, put, nLimit, nLeft, nReset, blank, told, clean, tail, e1, e2, e3]
    · simp [fls, put, nLimit, nLeft, nReset, nAfter, nNanos, blank, told, clean, tail, e1, e2, e3, e4, e5]
  · simp [fls, put, nLimit, blank, told, clean, tail, e1]
  · simp [fls, put, blank, told, clean, tail]
  · simp [fls, put, nLimit, nLeft, nReset, nAfter, nNanos, nError, blank, told, clean, tail]
    omega
  · simp only [fls, put, nLimit, nLeft, nReset, nAfter, nNanos, nError, nCount, blank, told, clean, tail]
    simp
    rw [wrap_small (x := max 0 many) (by omega) (by omega)]
    omega
  · simp [fls, put, nLimit, nLeft, nReset, nAfter, nNanos, nError, blank, told, clean, tail]
    omega
  · simp [fls, put, nLimit, nLeft, nReset, nAfter, nNanos, nError, nCount, nLength, blank, told, clean, tail]
/-- what is rendered is read, clean -/
theorem parse_render {a : Ans} (h : isCode a.code) (hF : Fine a) : parse (render a) = (clean a, 0) := by
  unfold parse
  rw [clean_told h hF, if_neg]
  rw [render_clean, clean_code a h]
  intro hh
  rcases hh with hh | hh
  · unfold isCode at h
    omega
  · exact hh rfl
/-- what is read is rendered as it was -/
theorem parse_ok {l : List UInt8} (h : (parse l).2 = 0) : render (parse l).1 = l := by
  unfold parse at h ⊢
  split at h
  · simp at h
  · rename_i hn
    rw [if_neg hn]
    by_cases he : render (clean (told (seen l) (body l))) = l
    · exact he
    · exact absurd (.inr he) hn
end Go.Proofs.Ytalehfdcebabnaa.back
