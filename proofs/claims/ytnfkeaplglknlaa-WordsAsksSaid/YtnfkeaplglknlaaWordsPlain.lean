/- Words of a text, by lines, in plain Lean. No program here. -/
import Derived.Test.YtnfkeaplglknlaaAid
namespace Go.Proofs.Ytnfkeaplglknlaa.words

structure Wd where
  text : List UInt8
  line : Nat
  col : Nat
theorem Wd.ext_ {a b : Wd} (h1 : a.text = b.text) (h2 : a.line = b.line) (h3 : a.col = b.col) : a = b := by cases a; cases b; simp_all
structure Res where
  out : List (List Wd)
  err : Nat
  line : Nat
  col : Nat

/-- the word that is under way is laid to its row -/
def kp (cur : List UInt8) (row : List Wd) (n c : Nat) : List Wd := if cur = [] then row else row ++ [⟨cur, n, c - cur.length⟩]
/-- is a row one that is told? -/
def told (row : List Wd) : Bool :=
  match row with
  | [] => false
  | w :: _ => w.text.head? != some 35
def ly (row : List Wd) : List (List Wd) := if told row then [row] else []
def isEnd (b : UInt8) : Bool := b.toNat == 10
def isBlank (b : UInt8) : Bool := b.toNat == 32 || b.toNat == 9
def isVis (b : UInt8) : Bool := decide (33 ≤ b.toNat) && decide (b.toNat ≤ 126)
def good (b : UInt8) : Bool := isEnd b || isBlank b || isVis b

def scan : List UInt8 → Nat → Nat → List UInt8 → List Wd → List (List Wd) → Res
  | [], n, c, cur, row, out => ⟨out ++ ly (kp cur row n c), 0, 0, 0⟩
  | b :: r, n, c, cur, row, out =>
    if isEnd b then scan r (n + 1) 1 [] [] (out ++ ly (kp cur row n c))
    else if isBlank b then scan r n (c + 1) [] (kp cur row n c) out
    else if isVis b then scan r n (c + 1) (cur ++ [b]) row out
    else ⟨[], 20, n, c⟩
def split (l : List UInt8) : Res := if 1048576 < l.length then ⟨[], 21, 0, 0⟩ else scan l 1 1 [] [] []

theorem scan_err : ∀ (l : List UInt8) (n c : Nat) (cur : List UInt8) (row : List Wd) (out : List (List Wd)), (scan l n c cur row out).err = if l.all good then 0 else 20
  | [], _, _, _, _, _ => rfl
  | b :: r, n, c, cur, row, out => by
    unfold scan
    by_cases h1 : isEnd b = true
    · rw [if_pos h1, scan_err r]; simp [good, h1]
    · rw [if_neg h1]
      by_cases h2 : isBlank b = true
      · rw [if_pos h2, scan_err r]; simp [good, h2]
      · rw [if_neg h2]
        by_cases h3 : isVis b = true
        · rw [if_pos h3, scan_err r]; simp [good, h3]
        · rw [if_neg h3]; simp [good, h1, h2, h3]
/-- what is out already stays, ahead -/
theorem scan_out : ∀ (l : List UInt8) (n c : Nat) (cur : List UInt8) (row : List Wd) (out : List (List Wd)), l.all good = true → (scan l n c cur row out).out = out ++ (scan l n c cur row []).out
  | [], _, _, _, _, _, _ => by simp [scan]
  | b :: r, n, c, cur, row, out, h => by
    have h' : good b = true ∧ r.all good = true := by simpa using h
    unfold scan
    by_cases h1 : isEnd b = true
    · rw [if_pos h1, if_pos h1, scan_out r _ _ _ _ _ h'.2, scan_out r _ _ _ _ ([] ++ _) h'.2]; simp
    · rw [if_neg h1, if_neg h1]
      by_cases h2 : isBlank b = true
      · rw [if_pos h2, if_pos h2, scan_out r _ _ _ _ _ h'.2]
      · rw [if_neg h2, if_neg h2]
        by_cases h3 : isVis b = true
        · rw [if_pos h3, if_pos h3, scan_out r _ _ _ _ _ h'.2]
        · have := h'.1
          simp [good, h1, h2, h3] at this
theorem scan_bad : ∀ (l : List UInt8) (n c : Nat) (cur : List UInt8) (row : List Wd) (out : List (List Wd)), l.all good = false → (scan l n c cur row out).out = []
  | [], _, _, _, _, _, h => by simp at h
  | b :: r, n, c, cur, row, out, h => by
    unfold scan
    by_cases h1 : isEnd b = true
    · rw [if_pos h1]; exact scan_bad r _ _ _ _ _ (by simpa [good, h1] using h)
    · rw [if_neg h1]
      by_cases h2 : isBlank b = true
      · rw [if_pos h2]; exact scan_bad r _ _ _ _ _ (by simpa [good, h2] using h)
      · rw [if_neg h2]
        by_cases h3 : isVis b = true
        · rw [if_pos h3]; exact scan_bad r _ _ _ _ _ (by simpa [good, h3] using h)
        · rw [if_neg h3]
end Go.Proofs.Ytnfkeaplglknlaa.words
