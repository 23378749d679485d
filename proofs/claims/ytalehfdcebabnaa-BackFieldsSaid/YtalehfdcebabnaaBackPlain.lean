/- What was told, in plain Lean: the lines of a head, a number by its name. No program here. -/
import Derived.Test.YtalehfdcebabnaaHeadPlain
import Derived.Lib.IndexMore
import Derived.Lib.Strings
namespace Go.Proofs.Ytalehfdcebabnaa.back
open Go.Proofs.Ytalehfdcebabnaa.head

theorem occ_no {a r : List UInt8} {x y : UInt8} (h : ∀ c ∈ a, c ≠ x) {j : Nat} (hj : j < a.length) : Lib.occAt (a ++ r) [x, y] j = false := by
  unfold Lib.occAt
  rw [List.drop_append_of_le_length (by omega)]
  obtain ⟨c, t, e, hc⟩ : ∃ c t, a.drop j = c :: t ∧ c ≠ x := ⟨a[j], _, List.drop_eq_getElem_cons hj, h a[j] (List.getElem_mem hj)⟩
  rw [e]
  simp [List.isPrefixOf, Ne.symm hc]
theorem cut_at {a : List UInt8} (r : List UInt8) {x y : UInt8} (h : ∀ c ∈ a, c ≠ x) : Lib.cut (a ++ x :: y :: r) [x, y] = (a, r, true) := by
  have hi : Lib.index (a ++ x :: y :: r) [x, y] = a.length := by
    refine Lib.index_first (i := a.length) (by simp) ?_ (fun j hj => occ_no h hj)
    simp [Lib.occAt]
  unfold Lib.cut
  rw [hi, if_pos (by omega)]
  simp
theorem cut_none {a : List UInt8} {x y : UInt8} (h : ∀ c ∈ a, c ≠ x) : Lib.cut a [x, y] = (a, [], false) := by
  have hi : Lib.index a [x, y] = -1 := by
    refine Lib.index_none fun j hj => ?_
    by_cases hlt : j < a.length
    · have := occ_no (r := []) (y := y) h hlt
      simpa using this
    · have : a.drop j = [] := List.drop_eq_nil_of_le (by omega)
      simp [Lib.occAt, this]
  unfold Lib.cut
  rw [hi, if_neg (by omega)]
theorem cut_short {l : List UInt8} {s : List UInt8} (hs : s ≠ []) (h : (Lib.cut l s).2.2 = true) : (Lib.cut l s).2.1.length < l.length ∧ (Lib.cut l s).1.length ≤ l.length := by
  unfold Lib.cut at h ⊢
  split at h
  · rename_i hi
    rw [if_pos hi]
    have hr := Lib.index_room l s hi
    have : 0 < s.length := List.length_pos_iff.2 hs
    simp
    omega
  · cases h
theorem cut_le (l s : List UInt8) : (Lib.cut l s).1.length ≤ l.length ∧ (Lib.cut l s).2.1.length ≤ l.length := by
  unfold Lib.cut
  split <;> simp <;> omega

/-- the lines of a head, and what is behind each; the empty one, too: f of them at the most -/
def linesF : Nat → List UInt8 → List (List UInt8 × List UInt8)
  | 0, _ => []
  | f + 1, l => if (Lib.cut l crlf).2.2 then ((Lib.cut l crlf).1, (Lib.cut l crlf).2.1) :: (if (Lib.cut l crlf).1 = [] then [] else linesF f (Lib.cut l crlf).2.1) else []
def lines (l : List UInt8) : List (List UInt8 × List UInt8) := linesF (l.length + 1) l
theorem lines_fuel : ∀ (f g : Nat) (l : List UInt8), l.length < f → l.length < g → linesF f l = linesF g l
  | 0, _, _, h, _ => by omega
  | f + 1, 0, _, _, h => by omega
  | f + 1, g + 1, l, hf, hg => by
    unfold linesF
    by_cases h : (Lib.cut l crlf).2.2 = true
    · have hs := (cut_short (by simp [crlf]) h).1
      rw [lines_fuel f g (Lib.cut l crlf).2.1 (by omega) (by omega)]
    · rw [if_neg h, if_neg h]
theorem lines_step (l : List UInt8) : lines l = if (Lib.cut l crlf).2.2 then ((Lib.cut l crlf).1, (Lib.cut l crlf).2.1) :: (if (Lib.cut l crlf).1 = [] then [] else lines (Lib.cut l crlf).2.1) else [] := by
  unfold lines
  rw [linesF]
  by_cases h : (Lib.cut l crlf).2.2 = true
  · have hs := (cut_short (by simp [crlf]) h).1
    rw [if_pos h, if_pos h, lines_fuel l.length ((Lib.cut l crlf).2.1.length + 1) _ (by omega) (by omega)]
  · rw [if_neg h, if_neg h]
theorem lines_at {a : List UInt8} (r : List UInt8) (h : ∀ c ∈ a, c ≠ 13) : lines (a ++ (crlf ++ r)) = (a, r) :: (if a = [] then [] else lines r) := by
  rw [lines_step]
  show (if (Lib.cut (a ++ 13 :: 10 :: r) [13, 10]).2.2 = true then _ else _) = _
  rw [show Lib.cut (a ++ (crlf ++ r)) crlf = (a, r, true) from cut_at r h, cut_at r h]
  simp
theorem lines_no {a : List UInt8} (h : ∀ c ∈ a, c ≠ 13) : lines a = [] := by
  rw [lines_step, show Lib.cut a crlf = (a, [], false) from cut_none h]
  simp

/-- a number of a line of a name -/
def hit (name line : List UInt8) : Option Nat := if Lib.hasPrefix line (name ++ colon) = true ∧ (dig.parse (Lib.trimPrefix line (name ++ colon))).2 = 0 then some (dig.parse (Lib.trimPrefix line (name ++ colon))).1 else none
def field (l name : List UInt8) : Option Nat := ((lines l).drop 1).findSome? fun x => hit name x.1
theorem hit_line (name : List UInt8) (n : Nat) (hn : n ≤ 18446744073709551615) : hit name (name ++ (colon ++ dig.digs n)) = some n := by
  have h1 : Lib.hasPrefix (name ++ (colon ++ dig.digs n)) (name ++ colon) = true := by
    unfold Lib.hasPrefix
    rw [List.isPrefixOf_iff_prefix, ← List.append_assoc]
    exact List.prefix_append _ _
  have h2 : Lib.trimPrefix (name ++ (colon ++ dig.digs n)) (name ++ colon) = dig.digs n := by
    unfold Lib.trimPrefix
    rw [if_pos h1, ← List.append_assoc, List.drop_left]
  unfold hit
  rw [h1, h2, dig.parse_digs n hn]
  simp
theorem hit_not {name line : List UInt8} (h : ¬ (name ++ colon) <+: line) : hit name line = none := by
  unfold hit
  rw [if_neg]
  rintro ⟨h1, -⟩
  exact h (by simpa [Lib.hasPrefix, List.isPrefixOf_iff_prefix] using h1)
theorem hit_bad {name r : List UInt8} (h : (dig.parse r).2 ≠ 0) : hit name (name ++ (colon ++ r)) = none := by
  have h1 : Lib.hasPrefix (name ++ (colon ++ r)) (name ++ colon) = true := by
    unfold Lib.hasPrefix
    rw [List.isPrefixOf_iff_prefix, ← List.append_assoc]
    exact List.prefix_append _ _
  have h2 : Lib.trimPrefix (name ++ (colon ++ r)) (name ++ colon) = r := by
    unfold Lib.trimPrefix
    rw [if_pos h1, ← List.append_assoc, List.drop_left]
  unfold hit
  rw [h2, if_neg]
  rintro ⟨-, h3⟩
  exact h h3
theorem hit_nil (name : List UInt8) : hit name [] = none := hit_not (by simp [colon])

/-- what is behind the head -/
def body (l : List UInt8) : List UInt8 := match (lines l).find? (fun x => x.1.isEmpty) with
  | some x => x.2
  | none => []

/-- the code of a status line -/
def codeOf (l : List UInt8) : Nat :=
  if l = http ++ st1 then 1 else if l = http ++ st2 then 2 else if l = http ++ st3 then 3 else if l = http ++ st4 then 4 else if l = http ++ st5 then 5 else if l = http ++ st6 then 6 else if l = http ++ st7 then 7 else if l = http ++ st8 then 8 else 0
/-- what has been read of a head -/
structure Seen where
  code : Nat
  limit : Nat
  left : Nat
  reset : Nat
  after : Nat
  nanos : Nat
  retry : Bool
  wrong : Nat
  many : Nat
def blank : Seen := ⟨0, 0, 0, 0, 0, 0, false, 0, 0⟩
def put (s : Seen) (name : List UInt8) (n : Nat) : Seen :=
  if name = nLimit then { s with limit := n } else if name = nLeft then { s with left := n } else if name = nReset then { s with reset := n } else if name = nAfter then { s with after := n } else
  if name = nNanos then { s with nanos := n, retry := true } else if name = nError then { s with wrong := n } else if name = nCount then { s with many := n } else s
def step (s : Seen) (l : List UInt8) : Seen :=
  if 0 < codeOf l ∧ s.code = 0 then { s with code := codeOf l } else
  if (Lib.cut l colon).2.2 = true ∧ (dig.parse (Lib.cut l colon).2.1).2 = 0 then put s (Lib.cut l colon).1 (dig.parse (Lib.cut l colon).2.1).1 else s
def seen (l : List UInt8) : Seen := (lines l).foldl (fun s x => step s x.1) blank
/-- an answer of what has been seen -/
def told (s : Seen) (b : List UInt8) : Ans := ⟨s.code, ((s.wrong % 65536 : Nat) : Int), s.limit, s.left, s.reset, s.after, s.nanos, s.retry, IntKind.i64.wrap s.many, b⟩
/-- the answer of some bytes; the error -/
def parse (l : List UInt8) : Ans × Nat :=
  if (clean (told (seen l) (body l))).code = 0 ∨ render (clean (told (seen l) (body l))) ≠ l then (zero, 60) else (clean (told (seen l) (body l)), 0)
end Go.Proofs.Ytalehfdcebabnaa.back
