/- Decimal digits, in plain Lean: order, widths, one byte that is another. -/
import Derived.Test.YteeckdfgpijapaaDigMore
namespace Go.Proofs.Yteeckdfgpijapaa.dig

/-- one, and so many noughts -/
def tens : Nat → List UInt8
  | 0 => [49]
  | k + 1 => tens k ++ [48]
theorem tens_len : ∀ k, (tens k).length = k + 1
  | 0 => rfl
  | k + 1 => by simp [tens, tens_len k]
theorem tens_all : ∀ k, (tens k).all isDig = true
  | 0 => by decide
  | k + 1 => by
    have := tens_all k
    simp only [tens, List.all_append, this, Bool.true_and]
    decide
theorem tens_val : ∀ k, val (tens k) = 10 ^ k
  | 0 => by decide
  | k + 1 => by
    simp only [tens]
    rw [val_snoc, tens_val k, show dv 48 = 0 from by decide, Nat.pow_succ]
    omega
theorem tens_head : ∀ k, ∃ r, tens k = 49 :: r
  | 0 => ⟨[], rfl⟩
  | k + 1 => by
    obtain ⟨r, h⟩ := tens_head k
    exact ⟨r ++ [48], by simp [tens, h]⟩
theorem parse_tens (k : Nat) (h : 20 ≤ k) : parse (tens k) = (0, 11) := by
  obtain ⟨r, hr⟩ := tens_head k
  refine parse_big (by rw [hr]; simp [lead]) (tens_all k) ?_
  rw [tens_val]
  have : 10 ^ 20 ≤ 10 ^ k := Nat.pow_le_pow_right (by omega) h
  exact Nat.le_trans (by decide) this
theorem parse_tens_x (k : Nat) : parse (tens k ++ [120]) = (0, 10) := parse_bad (c := 120) (by simp) (by decide)

theorem parse_two {m d : Nat} (hm : m ≤ 184467440737095516) (hd : d < 10) : parse (digs m ++ digs d) = if m = 0 then (0, 10) else (10 * m + d, 0) := by
  rw [digs_small hd]
  by_cases h : m = 0
  · subst h
    rw [if_pos rfl, digs_small (by omega)]
    exact parse_lead (by simp [lead, dg])
  · rw [if_neg h]
    have e : digs m ++ [dg d] = digs (10 * m + d) := by
      rw [digs_step (n := 10 * m + d) (by omega) (by omega), show (10 * m + d) / 10 = m from by omega]
      congr 2
      unfold dg
      congr 2
      omega
    rw [e, parse_digs _ (by omega)]

theorem digs_len_mono (a b : Nat) (hb : b ≤ 18446744073709551615) (h : a ≤ b) : (digs a).length ≤ (digs b).length := by
  induction b using Nat.strongRecOn generalizing a with
  | _ b ih =>
    by_cases h1 : a < 10
    · rw [digs_small h1]
      have := digs_ne_nil b
      cases hd : digs b with
      | nil => exact absurd hd this
      | cons => simp
    · rw [digs_step (n := a) (by omega) (by omega), digs_step (n := b) hb (by omega)]
      have := ih (b / 10) (by omega) (a / 10) (by omega) (by omega)
      simp
      omega
theorem less_app : ∀ (l r : List UInt8) (x y : List UInt8), l.length = r.length → Op.bytesLess l r = true → Op.bytesLess (l ++ x) (r ++ y) = true
  | [], [], _, _, _, h => by simp [Op.bytesLess] at h
  | [], _ :: _, _, _, h, _ => by simp at h
  | _ :: _, [], _, _, h, _ => by simp at h
  | a :: l, b :: r, x, y, hl, h => by
    simp only [List.cons_append, Op.bytesLess] at h ⊢
    by_cases h1 : a < b
    · simp [h1]
    · simp [h1] at h ⊢
      exact ⟨h.1, less_app l r x y (by simpa using hl) h.2⟩
theorem less_same : ∀ (l : List UInt8) (x y : UInt8), x < y → Op.bytesLess (l ++ [x]) (l ++ [y]) = true
  | [], x, y, h => by simp [Op.bytesLess, h]
  | a :: l, x, y, h => by
    simp only [List.cons_append, Op.bytesLess]
    simp [less_same l x y h]
theorem digs_less (a b : Nat) (hb : b ≤ 18446744073709551615) (h : a < b) (hl : (digs a).length = (digs b).length) : Op.bytesLess (digs a) (digs b) = true := by
  induction b using Nat.strongRecOn generalizing a with
  | _ b ih =>
    by_cases h1 : a < 10
    · have hb1 : b < 10 := by
        rcases Nat.lt_or_ge b 10 with hh | hh
        · exact hh
        · rw [digs_small h1, digs_step hb hh] at hl
          have := digs_ne_nil (b / 10)
          cases hd : digs (b / 10) with
          | nil => exact absurd hd this
          | cons c r => rw [hd] at hl; simp at hl
      rw [digs_small h1, digs_small hb1]
      refine less_same [] _ _ ?_
      rw [UInt8.lt_iff_toNat_lt, dg_toNat, dg_toNat]
      omega
    · rw [digs_step (n := a) (by omega) (by omega), digs_step (n := b) hb (by omega)] at hl ⊢
      by_cases h2 : a / 10 < b / 10
      · exact less_app _ _ _ _ (by simpa using hl) (ih (b / 10) (by omega) (a / 10) (by omega) h2 (by simpa using hl))
      · rw [show b / 10 = a / 10 from by omega]
        refine less_same _ _ _ ?_
        rw [UInt8.lt_iff_toNat_lt, dg_toNat, dg_toNat]
        omega

theorem parse_err10 (l : List UInt8) : (parse l).2 = 10 ↔ (lead l = true ∨ l.all isDig = false) := by
  unfold parse
  cases lead l <;> cases l.all isDig <;> simp
  split <;> simp
theorem isDig_false (b : UInt8) : isDig b = false ↔ (b.toNat < 48 ∨ 57 < b.toNat) := by
  unfold isDig
  simp
  omega
/-- one byte of digits that is another one -/
theorem parse_bent (n : Nat) (hn : n ≤ 18446744073709551615) (i : Nat) (hi : i < (digs n).length) (b : UInt8) :
    (parse ((digs n).take i ++ [b] ++ (digs n).drop (i + 1))).2 = 10 ↔ (isDig b = false ∨ (i = 0 ∧ b.toNat = 48 ∧ 1 < (digs n).length)) := by
  obtain ⟨h1, -, h3⟩ := digs_all n hn
  rw [parse_err10]
  have hall : ((digs n).take i ++ [b] ++ (digs n).drop (i + 1)).all isDig = isDig b := by
    have e1 : ((digs n).take i).all isDig = true := by
      rw [List.all_eq_true] at h1 ⊢
      exact fun x hx => h1 x (List.mem_of_mem_take hx)
    have e2 : ((digs n).drop (i + 1)).all isDig = true := by
      rw [List.all_eq_true] at h1 ⊢
      exact fun x hx => h1 x (List.mem_of_mem_drop hx)
    simp [List.all_append, e1, e2]
  rw [hall]
  have hlead : lead ((digs n).take i ++ [b] ++ (digs n).drop (i + 1)) = true ↔ (i = 0 ∧ b.toNat = 48 ∧ 1 < (digs n).length) := by
    rcases i with _ | i
    · have : (((digs n).drop 1).isEmpty = false) ↔ 1 < (digs n).length := by
        rw [List.isEmpty_eq_false_iff_exists_mem]
        constructor
        · rintro ⟨x, hx⟩
          have := List.length_pos_of_mem hx
          simp at this
          omega
        · intro h
          exact ⟨_, List.getElem_mem (l := (digs n).drop 1) (n := 0) (by simp; omega)⟩
      simp [lead]
      intro _
      rw [← this]
      simp
    · have hb1 : 1 < (digs n).length := by omega
      have h10 : 1 ≤ n := by
        rcases Nat.eq_zero_or_pos n with h | h
        · subst h; rw [digs_small (by omega)] at hb1; simp at hb1
        · exact h
      obtain ⟨c, r, e, hc⟩ := h3 h10
      rw [e]
      simp [lead, hc]
  rw [hlead]
  exact Or.comm
theorem widths : ∀ k, k < 20 → (digs (10 ^ k)).length = k + 1 ∧ (k = 0 ∨ (digs (10 ^ k - 1)).length = k) ∧ ∃ r, digs (10 ^ k) = 49 :: r := by
  intro k hk
  have h : ∀ k, k < 20 → (digs (10 ^ k)).length = k + 1 ∧ (k = 0 ∨ (digs (10 ^ k - 1)).length = k) ∧ (digs (10 ^ k)).head? = some 49 := by decide +kernel
  obtain ⟨h1, h2, h3⟩ := h k hk
  refine ⟨h1, h2, ?_⟩
  cases hd : digs (10 ^ k) with
  | nil => rw [hd] at h3; cases h3
  | cons c r =>
    rw [hd] at h3
    simp at h3
    exact ⟨r, by rw [h3]⟩
end Go.Proofs.Yteeckdfgpijapaa.dig
