/- What is told of an answer, in plain Lean: a code's line, what is clean, the bytes. No program here. -/
import Derived.Test.YtcgcfgomakaacaaDigMore
namespace Go.Proofs.Ytcgcfgomakaacaa.head

/-- an answer, its numbers as integers -/
structure Ans where
  code : Int
  err : Int
  limit : Int
  left : Int
  reset : Int
  after : Int
  nanos : Int
  retry : Bool
  many : Int
  body : List UInt8

def st1 : List UInt8 := [50, 48, 48, 32, 79, 75]
def st2 : List UInt8 := [52, 50, 57, 32, 84, 111, 111, 32, 77, 97, 110, 121, 32, 82, 101, 113, 117, 101, 115, 116, 115]
def st3 : List UInt8 := [53, 48, 51, 32, 83, 101, 114, 118, 105, 99, 101, 32, 85, 110, 97, 118, 97, 105, 108, 97, 98, 108, 101]
def st4 : List UInt8 := [52, 48, 52, 32, 78, 111, 116, 32, 70, 111, 117, 110, 100]
def st5 : List UInt8 := [52, 48, 48, 32, 66, 97, 100, 32, 82, 101, 113, 117, 101, 115, 116]
def st6 : List UInt8 := [50, 48, 52, 32, 78, 111, 32, 67, 111, 110, 116, 101, 110, 116]
def st7 : List UInt8 := [52, 48, 57, 32, 67, 111, 110, 102, 108, 105, 99, 116]
def st8 : List UInt8 := [50, 48, 54, 32, 80, 97, 114, 116, 105, 97, 108, 32, 67, 111, 110, 116, 101, 110, 116]
/-- a code's line -/
def status (c : Int) : List UInt8 :=
  if c = 1 then st1 else
  if c = 2 then st2 else
  if c = 3 then st3 else
  if c = 4 then st4 else
  if c = 5 then st5 else
  if c = 6 then st6 else
  if c = 7 then st7 else
  if c = 8 then st8 else []

def crlf : List UInt8 := [13, 10]
def colon : List UInt8 := [58, 32]
def nLimit : List UInt8 := [82, 97, 116, 101, 76, 105, 109, 105, 116, 45, 76, 105, 109, 105, 116]
def nLeft : List UInt8 := [82, 97, 116, 101, 76, 105, 109, 105, 116, 45, 82, 101, 109, 97, 105, 110, 105, 110, 103]
def nReset : List UInt8 := [82, 97, 116, 101, 76, 105, 109, 105, 116, 45, 82, 101, 115, 101, 116]
def nAfter : List UInt8 := [82, 101, 116, 114, 121, 45, 65, 102, 116, 101, 114]
def nNanos : List UInt8 := [82, 101, 116, 114, 121, 45, 65, 102, 116, 101, 114, 45, 78, 97, 110, 111, 115]
def nError : List UInt8 := [88, 45, 69, 114, 114, 111, 114]
def nCount : List UInt8 := [88, 45, 67, 111, 117, 110, 116]
def nLength : List UInt8 := [67, 111, 110, 116, 101, 110, 116, 45, 76, 101, 110, 103, 116, 104]
def http : List UInt8 := [72, 84, 84, 80, 47, 49, 46, 49, 32]
/-- of a name and a number -/
def line (name : List UInt8) (n : Int) : List UInt8 := name ++ (colon ++ (dig.digs n.toNat ++ crlf))
def zero : Ans := ⟨0, 0, 0, 0, 0, 0, 0, false, 0, []⟩
/-- what is told -/
def clean (a : Ans) : Ans :=
  if a.code = 1 then { zero with code := 1, limit := a.limit, left := a.left, reset := a.reset } else
  if a.code = 2 then (if a.retry then { zero with code := 2, limit := a.limit, left := a.left, reset := a.reset, retry := true, after := a.after, nanos := a.nanos } else { zero with code := 2, limit := a.limit, left := a.left, reset := a.reset }) else
  if a.code = 3 then { zero with code := 3, limit := a.limit } else
  if a.code = 4 then { zero with code := 4 } else
  if a.code = 5 then { zero with code := 5, err := a.err } else
  if a.code = 6 then { zero with code := 6, many := max 0 a.many } else
  if a.code = 7 then { zero with code := 7, err := a.err } else
  if a.code = 8 then { zero with code := 8, body := a.body } else zero
/-- the lines behind the first -/
def fields (a : Ans) : List UInt8 :=
  if a.code = 1 then line nLimit a.limit ++ (line nLeft a.left ++ line nReset a.reset) else
  if a.code = 2 then line nLimit a.limit ++ (line nLeft a.left ++ (line nReset a.reset ++ (if a.retry then line nAfter a.after ++ line nNanos a.nanos else []))) else
  if a.code = 3 then line nLimit a.limit else
  if a.code = 5 then line nError a.err else
  if a.code = 6 then line nCount (max 0 a.many) else
  if a.code = 7 then line nError a.err else
  if a.code = 8 then line nLength a.body.length else []
def tail (a : Ans) : List UInt8 := if a.code = 8 then a.body else []
/-- the bytes -/
def render (a : Ans) : List UInt8 := if status a.code = [] then [] else http ++ (status a.code ++ (crlf ++ (fields a ++ (crlf ++ tail a))))
/-- the numbers are in their kinds' bounds -/
def Fine (a : Ans) : Prop := (0 ≤ a.code ∧ a.code ≤ 255) ∧ (0 ≤ a.err ∧ a.err ≤ 65535) ∧ (0 ≤ a.limit ∧ a.limit ≤ 18446744073709551615) ∧ (0 ≤ a.left ∧ a.left ≤ 18446744073709551615) ∧ (0 ≤ a.reset ∧ a.reset ≤ 18446744073709551615) ∧
  (0 ≤ a.after ∧ a.after ≤ 18446744073709551615) ∧ (0 ≤ a.nanos ∧ a.nanos ≤ 18446744073709551615) ∧ (-9223372036854775808 ≤ a.many ∧ a.many ≤ 9223372036854775807) ∧ a.body.length ≤ 140737488351232

def isCode (c : Int) : Prop := c = 1 ∨ c = 2 ∨ c = 3 ∨ c = 4 ∨ c = 5 ∨ c = 6 ∨ c = 7 ∨ c = 8
theorem code_cases (c : Int) : isCode c ∨ (c ≠ 1 ∧ c ≠ 2 ∧ c ≠ 3 ∧ c ≠ 4 ∧ c ≠ 5 ∧ c ≠ 6 ∧ c ≠ 7 ∧ c ≠ 8) := by
  unfold isCode
  omega
theorem status_none {c : Int} (h : c ≠ 1 ∧ c ≠ 2 ∧ c ≠ 3 ∧ c ≠ 4 ∧ c ≠ 5 ∧ c ≠ 6 ∧ c ≠ 7 ∧ c ≠ 8) : status c = [] := by
  obtain ⟨h1, h2, h3, h4, h5, h6, h7, h8⟩ := h
  simp [status, h1, h2, h3, h4, h5, h6, h7, h8]
theorem status_some {c : Int} (h : isCode c) : status c ≠ [] := by
  rcases h with rfl | rfl | rfl | rfl | rfl | rfl | rfl | rfl <;> simp [status, st1, st2, st3, st4, st5, st6, st7, st8]
theorem status_iff (c : Int) : status c = [] ↔ ¬ isCode c := by
  rcases code_cases c with h | h
  · exact ⟨fun e => absurd e (status_some h), fun e => absurd h e⟩
  · refine ⟨fun _ hc => ?_, fun _ => status_none h⟩
    unfold isCode at hc
    omega
theorem render_none {a : Ans} (h : ¬ isCode a.code) : render a = [] := by
  unfold render
  rw [if_pos ((status_iff _).2 h)]
theorem render_some {a : Ans} (h : isCode a.code) : render a = http ++ (status a.code ++ (crlf ++ (fields a ++ (crlf ++ tail a)))) := by
  unfold render
  rw [if_neg (status_some h)]
theorem render_ne {a : Ans} (h : isCode a.code) : render a ≠ [] := by
  rw [render_some h]
  simp [http]
theorem render_len_pos (a : Ans) : 0 < (render a).length ↔ isCode a.code := by
  by_cases h : isCode a.code
  · have := List.length_pos_iff.2 (render_ne h)
    exact ⟨fun _ => h, fun _ => this⟩
  · rw [render_none h]
    simp [h]
theorem clean_none {a : Ans} (h : ¬ isCode a.code) : clean a = zero := by
  have : a.code ≠ 1 ∧ a.code ≠ 2 ∧ a.code ≠ 3 ∧ a.code ≠ 4 ∧ a.code ≠ 5 ∧ a.code ≠ 6 ∧ a.code ≠ 7 ∧ a.code ≠ 8 := by
    unfold isCode at h
    omega
  obtain ⟨h1, h2, h3, h4, h5, h6, h7, h8⟩ := this
  simp [clean, h1, h2, h3, h4, h5, h6, h7, h8]
theorem clean_code (a : Ans) (h : isCode a.code) : (clean a).code = a.code := by
  unfold clean
  rcases h with h | h | h | h | h | h | h | h <;> rw [h] <;> simp
  split <;> rfl
theorem max_idem (x : Int) : max 0 (max 0 x) = max 0 x := by omega
theorem clean_clean (a : Ans) : clean (clean a) = clean a := by
  rcases code_cases a.code with h | h
  · unfold clean
    rcases h with h | h | h | h | h | h | h | h <;> rw [h] <;> simp [zero]
    cases a.retry <;> simp
  · have : ¬ isCode a.code := by unfold isCode; omega
    rw [clean_none this]
    simp [clean, zero]
theorem render_clean (a : Ans) : render (clean a) = render a := by
  by_cases h : isCode a.code
  · have hc : isCode (clean a).code := by rw [clean_code a h]; exact h
    rw [render_some hc, render_some h, clean_code a h]
    have h1 : fields (clean a) = fields a := by
      unfold fields
      rw [clean_code a h]
      unfold clean
      rcases h with h | h | h | h | h | h | h | h <;> rw [h] <;> simp [max_idem]
      cases a.retry <;> simp [zero]
    have h2 : tail (clean a) = tail a := by
      unfold tail
      rw [clean_code a h]
      unfold clean
      rcases h with h | h | h | h | h | h | h | h <;> rw [h] <;> simp
    rw [h1, h2]
  · rw [render_none h, clean_none h]
    rfl

theorem digs_no13 (n : Nat) (hn : n ≤ 18446744073709551615) : ∀ c ∈ dig.digs n, c ≠ 13 := by
  intro c hc e
  have := (dig.digs_all n hn).1
  rw [List.all_eq_true] at this
  have h := this c hc
  rw [e] at h
  simp [dig.isDig] at h
theorem split13 : ∀ (a b r s : List UInt8), (∀ c ∈ a, c ≠ 13) → (∀ c ∈ b, c ≠ 13) → a ++ 13 :: r = b ++ 13 :: s → a = b ∧ r = s
  | [], [], r, s, _, _, h => ⟨rfl, by simpa using h⟩
  | [], d :: b, r, s, _, hb, h => by
    simp at h
    exact absurd h.1.symm (hb d (by simp))
  | c :: a, [], r, s, ha, _, h => by
    simp at h
    exact absurd h.1 (ha c (by simp))
  | c :: a, d :: b, r, s, ha, hb, h => by
    simp at h
    obtain ⟨e1, e2⟩ := split13 a b r s (fun x hx => ha x (by simp [hx])) (fun x hx => hb x (by simp [hx])) h.2
    exact ⟨by rw [h.1, e1], e2⟩
theorem line_app {name : List UInt8} {m n : Int} {r s : List UInt8} (hm : 0 ≤ m ∧ m ≤ 18446744073709551615) (hn : 0 ≤ n ∧ n ≤ 18446744073709551615) (h : line name m ++ r = line name n ++ s) : m = n ∧ r = s := by
  unfold line at h
  simp only [List.append_assoc, List.append_cancel_left_eq] at h
  obtain ⟨e1, e2⟩ := split13 _ _ _ _ (digs_no13 m.toNat (by omega)) (digs_no13 n.toNat (by omega)) h
  have hd := dig.parse_digs m.toNat (by omega)
  rw [e1, dig.parse_digs n.toNat (by omega)] at hd
  injection hd with hd
  refine ⟨by omega, by simpa using e2⟩
theorem line_same {name : List UInt8} {m n : Int} (hm : 0 ≤ m ∧ m ≤ 18446744073709551615) (hn : 0 ≤ n ∧ n ≤ 18446744073709551615) {r s : List UInt8} : line name m ++ r = line name n ++ s ↔ m = n ∧ r = s := by
  constructor
  · exact line_app hm hn
  · rintro ⟨rfl, rfl⟩
    rfl
theorem line_len (name : List UInt8) (n : Int) : (line name n).length ≤ name.length + 24 := by
  have := dig.digs_len n.toNat
  simp [line, colon, crlf]
  omega

theorem take_code {a : Ans} (h : isCode a.code) : (render a).take 12 = http ++ (status a.code).take 3 := by
  rw [render_some h]
  rcases h with h | h | h | h | h | h | h | h <;> rw [h] <;> simp [http, status, st1, st2, st3, st4, st5, st6, st7, st8]
theorem same_code {a b : Ans} (ha : isCode a.code) (hb : isCode b.code) (h : render a = render b) : a.code = b.code := by
  have e := take_code ha
  rw [h, take_code hb] at e
  rcases ha with h | h | h | h | h | h | h | h <;> rcases hb with g | g | g | g | g | g | g | g <;> rw [h, g] <;> rw [h, g] at e <;> first | rfl | (simp [status, st1, st2, st3, st4, st5, st6, st7, st8] at e)
theorem line_one {name : List UInt8} {m n : Int} (hm : 0 ≤ m ∧ m ≤ 18446744073709551615) (hn : 0 ≤ n ∧ n ≤ 18446744073709551615) (h : line name m = line name n) : m = n :=
  (line_app (r := []) (s := []) hm hn (by simpa using h)).1
theorem app_cut {a b c : List UInt8} (h : a ++ b = a ++ c) : b = c := List.append_cancel_left h
theorem len_cut {a b c d : List UInt8} (h : a ++ b = c ++ d) (hl : b.length = d.length) : a = c := (List.append_inj' h hl).1
theorem render_same {a b : Ans} (fa : Fine a) (fb : Fine b) : render a = render b ↔ clean a = clean b := by
  refine ⟨fun h => ?_, fun h => by rw [← render_clean a, ← render_clean b, h]⟩
  by_cases ha : isCode a.code
  · by_cases hb : isCode b.code
    · have hc := same_code ha hb h
      rw [render_some ha, render_some hb, hc] at h
      have h := app_cut (app_cut (app_cut h))
      obtain ⟨-, fa1, fa2, fa3, fa4, fa5, fa6, fa7, fa8⟩ := fa
      obtain ⟨-, fb1, fb2, fb3, fb4, fb5, fb6, fb7, fb8⟩ := fb
      have za : (0 : Int) ≤ max 0 a.many ∧ max 0 a.many ≤ 18446744073709551615 := by omega
      have zb : (0 : Int) ≤ max 0 b.many ∧ max 0 b.many ≤ 18446744073709551615 := by omega
      have la : (0 : Int) ≤ (a.body.length : Int) ∧ (a.body.length : Int) ≤ 18446744073709551615 := by omega
      have lb : (0 : Int) ≤ (b.body.length : Int) ∧ (b.body.length : Int) ≤ 18446744073709551615 := by omega
      have ea : (0 : Int) ≤ a.err ∧ a.err ≤ 18446744073709551615 := by omega
      have eb : (0 : Int) ≤ b.err ∧ b.err ≤ 18446744073709551615 := by omega
      unfold fields tail at h
      unfold clean
      rcases hb with g | g | g | g | g | g | g | g <;> rw [hc] at h ⊢ <;> rw [g] at h ⊢
      · simp only [↓reduceIte, List.append_assoc] at h ⊢
        obtain ⟨h1, h⟩ := line_app fa2 fb2 h
        obtain ⟨h2, h⟩ := line_app fa3 fb3 h
        obtain ⟨h3, h⟩ := line_app fa4 fb4 h
        rw [h1, h2, h3]
      · simp only [Int.reduceEq, ↓reduceIte, List.append_assoc] at h ⊢
        obtain ⟨h1, h⟩ := line_app fa2 fb2 h
        obtain ⟨h2, h⟩ := line_app fa3 fb3 h
        obtain ⟨h3, h⟩ := line_app fa4 fb4 h
        rw [h1, h2, h3]
        cases ra : a.retry <;> cases rb : b.retry <;> rw [ra, rb] at h
        · rfl
        · simp [line, nAfter, crlf] at h
        · simp [line, nAfter, crlf] at h
        · simp only [↓reduceIte, List.append_assoc] at h ⊢
          obtain ⟨h4, h⟩ := line_app fa5 fb5 h
          obtain ⟨h5, h⟩ := line_app fa6 fb6 h
          rw [h4, h5]
      · have h1 := line_one (name := nLimit) fa2 fb2 (by simpa using h)
        rw [h1]
        rfl
      · rfl
      · have h1 := line_one (name := nError) ea eb (by simpa using h)
        rw [h1]
        rfl
      · have h1 := line_one (name := nCount) za zb (by simpa using h)
        rw [h1]
        rfl
      · have h1 := line_one (name := nError) ea eb (by simpa using h)
        rw [h1]
        rfl
      · simp only [Int.reduceEq, ↓reduceIte] at h ⊢
        obtain ⟨h1, h⟩ := line_app (name := nLength) la lb h
        rw [app_cut h]
    · exact absurd (h.trans (render_none hb)) (render_ne ha)
  · by_cases hb : isCode b.code
    · exact absurd (h.symm.trans (render_none ha)) (render_ne hb)
    · rw [clean_none ha, clean_none hb]
theorem clean_fine {a : Ans} (h : Fine a) : Fine (clean a) := by
  obtain ⟨h0, h1, h2, h3, h4, h5, h6, h7, h8⟩ := h
  rcases code_cases a.code with hc | hc
  · unfold clean
    rcases hc with hc | hc | hc | hc | hc | hc | hc | hc <;> rw [hc] <;> simp only [Fine, zero] <;> simp
    all_goals first | omega | (split <;> simp <;> omega)
  · rw [clean_none (by unfold isCode; omega)]
    simp [Fine, zero]
theorem status_len (c : Int) : (status c).length ≤ 23 := by
  rcases code_cases c with h | h
  · rcases h with rfl | rfl | rfl | rfl | rfl | rfl | rfl | rfl <;> simp [status, st1, st2, st3, st4, st5, st6, st7, st8]
  · rw [status_none h]; simp
theorem fields_len (a : Ans) : (fields a).length ≤ 220 := by
  have h1 : (line nLimit a.limit).length ≤ 39 := line_len nLimit _
  have h2 : (line nLeft a.left).length ≤ 43 := line_len nLeft _
  have h3 : (line nReset a.reset).length ≤ 39 := line_len nReset _
  have h4 : (line nAfter a.after).length ≤ 35 := line_len nAfter _
  have h5 : (line nNanos a.nanos).length ≤ 41 := line_len nNanos _
  have h6 : (line nError a.err).length ≤ 31 := line_len nError _
  have h7 : (line nCount (max 0 a.many)).length ≤ 31 := line_len nCount _
  have h8 : (line nLength a.body.length).length ≤ 38 := line_len nLength _
  unfold fields
  repeat' split
  all_goals (try simp only [List.length_append, List.length_nil])
  all_goals omega
theorem render_len (a : Ans) : (render a).length ≤ 300 + a.body.length := by
  have h1 := status_len a.code
  have h2 := fields_len a
  have h3 : (tail a).length ≤ a.body.length := by unfold tail; split <;> simp
  unfold render
  split
  · simp
  · simp [http, crlf]
    omega
end Go.Proofs.Ytcgcfgomakaacaa.head
