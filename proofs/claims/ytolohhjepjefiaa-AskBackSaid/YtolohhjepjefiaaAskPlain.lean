/- What is asked, in plain Lean. -/
import Derived.Test.YtolohhjepjefiaaDigMore
import Derived.Test.YtolohhjepjefiaaKeyPlain
import Derived.Lib.Bytealg
namespace Go.Proofs.Ytolohhjepjefiaa.ask

/-- what stands before the first blank, and behind it -/
def before (l : List UInt8) : List UInt8 := l.takeWhile (· != 32)
def behind (l : List UInt8) : List UInt8 := l.drop ((before l).length + 1)
def blank (l : List UInt8) : Bool := l.contains 32

theorem before_app {a : List UInt8} (h : blank a = false) (b : List UInt8) : before (a ++ 32 :: b) = a := by
  induction a with
  | nil => simp [before]
  | cons x a ih =>
    have h1 : x ≠ 32 := fun e => by subst e; simp [blank] at h
    have h2 : blank a = false := by
      simp only [blank, List.contains_cons, Bool.or_eq_false_iff] at h
      exact h.2
    have h3 : (x != 32) = true := by simp [h1]
    have := ih h2
    simp only [before, List.cons_append, List.takeWhile_cons, h3, if_true] at this ⊢
    rw [this]
theorem behind_app {a : List UInt8} (h : blank a = false) (b : List UInt8) : behind (a ++ 32 :: b) = b := by
  unfold behind
  rw [before_app h]
  simp [List.drop_append]
theorem blank_app (a b : List UInt8) : blank (a ++ b) = (blank a || blank b) := by
  rw [Bool.eq_iff_iff]
  simp [blank]
theorem blank_cons (b : List UInt8) : blank (32 :: b) = true := by simp [blank]
theorem before_none {a : List UInt8} (h : blank a = false) : before a = a := by
  induction a with
  | nil => rfl
  | cons x a ih =>
    have h1 : x ≠ 32 := fun e => by subst e; simp [blank] at h
    have h2 : blank a = false := by
      simp only [blank, List.contains_cons, Bool.or_eq_false_iff] at h
      exact h.2
    have h3 : (x != 32) = true := by simp [h1]
    have := ih h2
    simp only [before, List.takeWhile_cons, h3, if_true] at this ⊢
    rw [this]
theorem behind_none {a : List UInt8} (h : blank a = false) : behind a = [] := by
  unfold behind
  rw [before_none h]
  exact List.drop_eq_nil_of_le (by omega)
/-- a text with a blank in it is split -/
theorem split : ∀ {l : List UInt8}, blank l = true → l = before l ++ 32 :: behind l ∧ blank (before l) = false
  | [], h => by simp [blank] at h
  | x :: l, h => by
    by_cases h1 : x = 32
    · subst h1
      simp [before, behind, blank]
    · have h3 : (x != 32) = true := by simp [h1]
      have h2 : blank l = true := by
        have h4 : ¬ (32 : UInt8) = x := fun e => h1 e.symm
        simpa [blank, h4] using h
      obtain ⟨e, hb⟩ := split h2
      have eb : before (x :: l) = x :: before l := by simp [before, h3]
      have eh : behind (x :: l) = behind l := by unfold behind; rw [eb]; simp
      refine ⟨by rw [eb, eh, List.cons_append, ← e], ?_⟩
      rw [eb]
      have h4 : ¬ (32 : UInt8) = x := fun e => h1 e.symm
      simpa [blank, h4] using hb

theorem take_before {l : List UInt8} (h : blank l = true) : l.take (before l).length = before l := by
  obtain ⟨e, -⟩ := split h
  have h2 := congrArg (List.take (before l).length) e
  rw [List.take_left] at h2
  exact h2

/-- where the first blank stands, as the library tells it -/
theorem index_yes {l : List UInt8} (h : blank l = true) : Lib.indexByte l 32 = (before l).length := by
  obtain ⟨e, hb⟩ := split h
  generalize before l = a at *
  generalize behind l = b at *
  subst e
  clear h
  induction a with
  | nil => rfl
  | cons x a ih =>
    have h1 : x ≠ 32 := fun e => by subst e; simp [blank] at hb
    have h2 : blank a = false := by
      simp only [blank, List.contains_cons, Bool.or_eq_false_iff] at hb
      exact hb.2
    have := ih h2
    have h3 : (x == 32) = false := by simp [h1]
    rw [List.cons_append, Lib.indexByte, this, h3]
    have h4 : (((a.length : Int) == -1) = true) = False := by simp
    simp only [h4, if_false, Bool.false_eq_true]
    simp
theorem index_no {l : List UInt8} (h : blank l = false) : Lib.indexByte l 32 = -1 := by
  induction l with
  | nil => rfl
  | cons x a ih =>
    have h1 : x ≠ 32 := fun e => by subst e; simp [blank] at h
    have h2 : blank a = false := by
      simp only [blank, List.contains_cons, Bool.or_eq_false_iff] at h
      exact h.2
    have h3 : (x == 32) = false := by simp [h1]
    rw [Lib.indexByte, ih h2, h3]
    simp

/-- "CHECK " -/
def verb : List UInt8 := [67, 72, 69, 67, 75, 32]
def fin (k d : List UInt8) : List UInt8 × Nat × Nat := if key.right k then (if (dig.parse d).2 = 0 then (k, (dig.parse d).1, 0) else ([], 0, (dig.parse d).2)) else ([], 0, 12)
def ask (l : List UInt8) : List UInt8 × Nat × Nat :=
  if key.has l verb && (blank (l.drop 6) && !blank (behind (l.drop 6))) then fin (before (l.drop 6)) (behind (l.drop 6)) else ([], 0, 13)

theorem has_verb (r : List UInt8) : key.has (verb ++ r) verb = true := by simp [key.has, List.isPrefixOf_iff_prefix]
theorem has_split {l : List UInt8} (h : key.has l verb = true) : l = verb ++ l.drop 6 := by
  unfold key.has at h
  rw [List.isPrefixOf_iff_prefix] at h
  obtain ⟨r, rfl⟩ := h
  simp [verb]
theorem ask_verb (r : List UInt8) : ask (verb ++ r) = if blank r && !blank (behind r) then fin (before r) (behind r) else ([], 0, 13) := by
  unfold ask
  rw [has_verb, show (verb ++ r).drop 6 = r from rfl, Bool.true_and]
theorem ask_of {k d : List UInt8} (hk : blank k = false) (hd : blank d = false) : ask (verb ++ (k ++ 32 :: d)) = fin k d := by
  rw [ask_verb, blank_app, blank_cons, behind_app hk, before_app hk, hd]
  simp
theorem ask_more {k d : List UInt8} (hk : blank k = false) (hd : blank d = true) : ask (verb ++ (k ++ 32 :: d)) = ([], 0, 13) := by
  rw [ask_verb, blank_app, blank_cons, behind_app hk, hd]
  simp
/-- either it is none, or it is made so -/
theorem ask_cases (l : List UInt8) : ask l = ([], 0, 13) ∨ ∃ k d, l = verb ++ (k ++ 32 :: d) ∧ blank k = false ∧ blank d = false ∧ ask l = fin k d := by
  by_cases h : (key.has l verb && (blank (l.drop 6) && !blank (behind (l.drop 6)))) = true
  · right
    simp only [Bool.and_eq_true, Bool.not_eq_true'] at h
    obtain ⟨h1, h2, h3⟩ := h
    obtain ⟨e, hb⟩ := split h2
    refine ⟨before (l.drop 6), behind (l.drop 6), ?_, hb, h3, ?_⟩
    · rw [← e]; exact has_split h1
    · unfold ask
      rw [h1, h2, h3]
      simp
  · left
    unfold ask
    rw [if_neg h]
theorem count_blank {l : List UInt8} (h : blank l = false) : l.count 32 = 0 := by
  rw [List.count_eq_zero]
  intro hm
  simp [blank] at h
  exact h hm
/-- of blanks there are two -/
theorem ask_count {l : List UInt8} (h : l.count 32 ≠ 2) : ask l = ([], 0, 13) := by
  rcases ask_cases l with h1 | ⟨k, d, rfl, hk, hd, -⟩
  · exact h1
  · exfalso
    apply h
    rw [List.count_append, List.count_append, List.count_cons, count_blank hk, count_blank hd]
    rfl
theorem fin_le (k d : List UInt8) : (fin k d).2.1 ≤ 18446744073709551615 := by
  have := dig.parse_le d
  unfold fin
  split
  · split <;> simp_all
  · simp
theorem ask_le (l : List UInt8) : (ask l).2.1 ≤ 18446744073709551615 := by
  rcases ask_cases l with h | ⟨k, d, -, -, -, h⟩
  · rw [h]; simp
  · rw [h]; exact fin_le k d
theorem fin_err (k d : List UInt8) : (fin k d).2.2 ≤ 12 := by
  have := dig.parse_err d
  unfold fin
  split
  · split
    · simp
    · simp only; omega
  · simp
theorem ask_err (l : List UInt8) : (ask l).2.2 ≤ 13 := by
  rcases ask_cases l with h | ⟨k, d, -, -, -, h⟩
  · rw [h]; simp
  · rw [h]; have := fin_err k d; omega

/-- parts at blanks -/
def pieces : List UInt8 → List (List UInt8)
  | [] => [[]]
  | c :: l => if c = 32 then [] :: pieces l else match pieces l with
    | [] => [[c]]
    | p :: r => (c :: p) :: r
theorem pieces_ne : ∀ l, pieces l ≠ []
  | [] => by simp [pieces]
  | c :: l => by
    unfold pieces
    split
    · simp
    · split <;> simp
theorem pieces_app {a : List UInt8} (h : blank a = false) (b : List UInt8) : pieces (a ++ 32 :: b) = a :: pieces b := by
  induction a with
  | nil => simp [pieces]
  | cons x a ih =>
    have h1 : x ≠ 32 := fun e => by subst e; simp [blank] at h
    have h2 : blank a = false := by
      simp only [blank, List.contains_cons, Bool.or_eq_false_iff] at h
      exact h.2
    rw [List.cons_append, pieces, if_neg h1, ih h2]
theorem pieces_one {a : List UInt8} (h : blank a = false) : pieces a = [a] := by
  induction a with
  | nil => rfl
  | cons x a ih =>
    have h1 : x ≠ 32 := fun e => by subst e; simp [blank] at h
    have h2 : blank a = false := by
      simp only [blank, List.contains_cons, Bool.or_eq_false_iff] at h
      exact h.2
    rw [pieces, if_neg h1, ih h2]
theorem pieces_len (l : List UInt8) : (pieces l).length ≤ l.length + 1 := by
  induction l with
  | nil => simp [pieces]
  | cons c l ih =>
    unfold pieces
    split
    · simp; omega
    · split
      · simp
      · rename_i h
        rw [h] at ih
        simp at ih ⊢
        omega

theorem pieces_le : ∀ (l : List UInt8), ∀ p ∈ pieces l, p.length ≤ l.length
  | [], p, hp => by simp [pieces] at hp; simp [hp]
  | c :: l, p, hp => by
    have ih := pieces_le l
    unfold pieces at hp
    split at hp
    · rcases List.mem_cons.1 hp with rfl | hp
      · simp
      · have := ih p hp
        simp; omega
    · split at hp
      · rename_i h
        exact absurd h (pieces_ne l)
      · rename_i q r h
        rcases List.mem_cons.1 hp with rfl | hp
        · have := ih q (by rw [h]; simp)
          simp; omega
        · have := ih p (by rw [h]; simp [hp])
          simp; omega

def said : List UInt8 := [67, 72, 69, 67, 75]
/-- the answer out of parts -/
def told : List (List UInt8) → List UInt8 × Nat × Nat
  | [a, k, d] => if a = said then fin k d else ([], 0, 13)
  | _ => ([], 0, 13)
theorem verb_eq (r : List UInt8) : verb ++ r = said ++ 32 :: r := rfl
theorem ask_pieces (l : List UInt8) : ask l = told (pieces l) := by
  by_cases hb : blank l = true
  · obtain ⟨e, hbb⟩ := split hb
    have hp := pieces_app hbb (behind l)
    rw [← e] at hp
    rw [hp]
    by_cases hc : before l = said
    · have e2 : l = verb ++ behind l := by rw [verb_eq, ← hc]; exact e
      generalize behind l = r at *
      subst e2
      rw [hc]
      clear e hp hb hbb hc
      by_cases hr : blank r = true
      · obtain ⟨e, hrb⟩ := split hr
        rw [e]
        generalize before r = k at *
        generalize behind r = d at *
        subst e
        clear hr
        rw [pieces_app hrb]
        by_cases hd : blank d = true
        · obtain ⟨e, hdb⟩ := split hd
          rw [ask_more hrb hd]
          rw [e, pieces_app hdb]
          have := pieces_ne (behind d)
          cases h : pieces (behind d) with
          | nil => exact absurd h this
          | cons p q => rfl
        · have hd' : blank d = false := by simpa using hd
          rw [ask_of hrb hd', pieces_one hd']
          simp [told]
      · have hr' : blank r = false := by simpa using hr
        rw [ask_verb, hr', pieces_one hr']
        rfl
    · have h1 : ask l = ([], 0, 13) := by
        rcases ask_cases l with h1 | ⟨k, d, e2, -, -, -⟩
        · exact h1
        · exfalso
          apply hc
          rw [e2, verb_eq]
          exact before_app rfl _
      rw [h1]
      generalize pieces (behind l) = ps
      match ps with
      | [] => rfl
      | [_] => rfl
      | [_, _] => simp [told, hc]
      | _ :: _ :: _ :: _ => rfl
  · have hb' : blank l = false := by simpa using hb
    rw [pieces_one hb']
    rcases ask_cases l with h1 | ⟨k, d, rfl, -, -, -⟩
    · rw [h1]; rfl
    · simp [blank, verb] at hb'
/-- the next part -/
theorem pieces_next (l : List UInt8) (f i : Nat) (hf : f ≤ i) (hi : i < l.length) (h : l[i] = 32) (hn : blank ((l.take i).drop f) = false) : pieces (l.drop f) = (l.take i).drop f :: pieces (l.drop (i + 1)) := by
  have e : l.drop f = (l.take i).drop f ++ 32 :: l.drop (i + 1) := by
    have h1 : l = l.take i ++ 32 :: l.drop (i + 1) := by
      rw [← h, ← List.drop_eq_getElem_cons hi, List.take_append_drop]
    conv => lhs; rw [h1]
    rw [List.drop_append_of_le_length (by simp; omega)]
  rw [e, pieces_app hn]

theorem right_blank {k : List UInt8} (h : key.right k = true) : blank k = false := by
  rw [Bool.eq_false_iff]
  intro hb
  simp only [key.right, Bool.and_eq_true, List.all_eq_true] at h
  have hm : (32 : UInt8) ∈ k := by simpa [blank] using hb
  have := h.2 32 hm
  simp [key.vis] at this
theorem digs_blank {n : Nat} (hn : n ≤ 18446744073709551615) : blank (dig.digs n) = false := by
  rw [Bool.eq_false_iff]
  intro hb
  have hm : (32 : UInt8) ∈ dig.digs n := by simpa [blank] using hb
  have := List.all_eq_true.1 (dig.digs_all n hn).1 32 hm
  simp [dig.isDig] at this
end Go.Proofs.Ytolohhjepjefiaa.ask
