/- Small whole numbers as floats of 64 bits are exact: sums, differences, there and back. No program here. -/
import Derived.Laws.ComplexArith
namespace Go.Proofs.Ytnfkeaplglknlaa.words
open Ieee

theorem log2_shift {m : Nat} (h : m ≠ 0) (c : Nat) : (m <<< c).log2 = m.log2 + c := by
  have hp : 0 < 2 ^ c := Nat.two_pow_pos _
  have hne : m <<< c ≠ 0 := by
    rw [Nat.shiftLeft_eq]
    have := Nat.mul_pos (Nat.pos_of_ne_zero h) hp
    omega
  rw [Nat.log2_eq_iff hne, Nat.shiftLeft_eq, Nat.pow_add, show m.log2 + c + 1 = m.log2 + 1 + c by omega, Nat.pow_add]
  exact ⟨Nat.mul_le_mul_right _ (Nat.log2_self_le h), Nat.mul_lt_mul_of_pos_right Nat.lt_log2_self hp⟩
theorem cut_shift (way : Toward) (m drop : Nat) : way.cut false (m <<< drop) drop = m := by
  unfold Toward.cut
  by_cases hm : m = 0
  · subst hm
    cases way <;> simp [Nat.shiftLeft_eq]
  · have hl : min drop ((m <<< drop).log2 + 2) = drop := by
      rw [log2_shift hm]
      omega
    dsimp only
    rw [hl]
    have hp : 0 < 2 ^ drop := Nat.two_pow_pos _
    have h1 : m <<< drop / 1 <<< drop = m := by
      rw [Nat.shiftLeft_eq, Nat.shiftLeft_eq, Nat.one_mul, Nat.mul_div_cancel _ hp]
    have h2 : m <<< drop % 1 <<< drop = 0 := by
      rw [Nat.shiftLeft_eq, Nat.shiftLeft_eq, Nat.one_mul, Nat.mul_mod_left]
    have h3 : ¬ 1 <<< drop = 0 := by rw [Nat.shiftLeft_eq]; omega
    rw [h1, h2]
    cases way <;> simp [h3]

def fl (n : Nat) : Nat := FloatKind.f64.nearest (n : Int)
def rung (n : Nat) : Nat := if n = 0 then 0 else (n.log2 + 1022) * 4503599627370496 + n * 2 ^ (52 - n.log2)

theorem log_bounds {n : Nat} (h : n ≠ 0) : 2 ^ n.log2 ≤ n ∧ n < 2 ^ (n.log2 + 1) := ⟨Nat.log2_self_le h, Nat.lt_log2_self⟩
theorem log_lt {n : Nat} (h0 : n ≠ 0) (h : n < 2 ^ 53) : n.log2 ≤ 52 := by
  have := (Nat.log2_lt h0).2 h
  omega
theorem rung_part {n : Nat} (h0 : n ≠ 0) (h : n < 2 ^ 53) : 4503599627370496 ≤ n * 2 ^ (52 - n.log2) ∧ n * 2 ^ (52 - n.log2) < 9007199254740992 := by
  have hl := log_lt h0 h
  obtain ⟨h1, h2⟩ := log_bounds h0
  have hp : 0 < 2 ^ (52 - n.log2) := Nat.two_pow_pos _
  have e1 : 2 ^ n.log2 * 2 ^ (52 - n.log2) = 4503599627370496 := by
    rw [← Nat.pow_add, show n.log2 + (52 - n.log2) = 52 by omega]
  have e2 : 2 ^ (n.log2 + 1) * 2 ^ (52 - n.log2) = 9007199254740992 := by
    rw [← Nat.pow_add, show n.log2 + 1 + (52 - n.log2) = 53 by omega]
  constructor
  · rw [← e1]; exact Nat.mul_le_mul_right _ h1
  · rw [← e2]; exact Nat.mul_lt_mul_of_pos_right h2 hp

theorem dbl_least : double.leastPlace = -1074 := by decide
theorem dbl_binade : double.binade = 4503599627370496 := by decide
theorem dbl_inf : double.infRung = 9218868437227405312 := by decide
theorem dbl_sign : double.signWeight = 9223372036854775808 := by decide

theorem write_rep {n : Nat} (h : n < 2 ^ 53) (c : Nat) : double.write (.number false (n <<< c) (-(c : Int))) = rung n := by
  show double.nearest false (n <<< c) (-(c : Int)) = rung n
  unfold Format.nearest rung
  by_cases h0 : n = 0
  · subst h0
    simp [Format.word]
  · have hne : ¬ n <<< c = 0 := by
      rw [Nat.shiftLeft_eq]
      have : 0 < n * 2 ^ c := Nat.mul_pos (by omega) (Nat.two_pow_pos _)
      omega
    have hl := log_lt h0 h
    obtain ⟨p1, p2⟩ := rung_part h0 h
    rw [if_neg hne, if_neg h0]
    have hlast : max (-(c : Int) + ((n <<< c).log2 : Nat) - (double.fractionBits : Nat)) double.leastPlace = (n.log2 : Int) - 52 := by
      rw [log2_shift h0, dbl_least]
      show max (-(c : Int) + ((n.log2 + c : Nat) : Int) - ((52 : Nat) : Int)) (-1074) = _
      omega
    simp only [hlast]
    have hk : Toward.even.cut false ((n <<< c) <<< (-(c : Int) - ((n.log2 : Int) - 52)).toNat) (((n.log2 : Int) - 52) - -(c : Int)).toNat = n * 2 ^ (52 - n.log2) := by
      by_cases hc : c ≤ 52 - n.log2
      · have e1 : (-(c : Int) - ((n.log2 : Int) - 52)).toNat = 52 - n.log2 - c := by omega
        have e2 : (((n.log2 : Int) - 52) - -(c : Int)).toNat = 0 := by omega
        rw [e1, e2]
        have := cut_shift .even ((n <<< c) <<< (52 - n.log2 - c)) 0
        rw [Nat.shiftLeft_zero] at this
        rw [this, ← Nat.shiftLeft_add, show c + (52 - n.log2 - c) = 52 - n.log2 by omega, Nat.shiftLeft_eq]
      · have e1 : (-(c : Int) - ((n.log2 : Int) - 52)).toNat = 0 := by omega
        have e2 : (((n.log2 : Int) - 52) - -(c : Int)).toNat = c - (52 - n.log2) := by omega
        rw [e1, e2, Nat.shiftLeft_zero]
        have e3 : n <<< c = (n <<< (52 - n.log2)) <<< (c - (52 - n.log2)) := by
          rw [← Nat.shiftLeft_add, show 52 - n.log2 + (c - (52 - n.log2)) = c by omega]
        rw [e3, cut_shift, Nat.shiftLeft_eq]
    rw [hk, dbl_least, dbl_binade, dbl_inf]
    have e4 : ((n.log2 : Int) - 52 - -1074).toNat = n.log2 + 1022 := by omega
    rw [e4]
    unfold Format.word
    simp only [Bool.false_eq_true, if_false]
    omega

theorem fl_rung {n : Nat} (h : n < 2 ^ 53) : fl n = rung n := by
  have h1 := write_rep h 0
  unfold fl FloatKind.nearest FloatKind.encode
  show double.write (.number (decide ((n : Int) < 0)) (n : Int).natAbs 0) = rung n
  rw [← h1]
  have e1 : decide ((n : Int) < 0) = false := by simp
  rw [e1]
  simp

theorem read_rep {n : Nat} (h : n < 2 ^ 53) : ∃ c : Nat, double.read (fl n) = .number false (n <<< c) (-(c : Int)) := by
  rw [fl_rung h]
  unfold rung
  by_cases h0 : n = 0
  · subst h0
    refine ⟨1074, ?_⟩
    rw [if_pos rfl]
    decide
  · rw [if_neg h0]
    have hl := log_lt h0 h
    obtain ⟨p1, p2⟩ := rung_part h0 h
    refine ⟨52 - n.log2, ?_⟩
    obtain ⟨q, hq⟩ : ∃ q, q = n * 2 ^ (52 - n.log2) := ⟨_, rfl⟩
    rw [Nat.shiftLeft_eq]
    rw [← hq] at p1 p2 ⊢
    unfold Format.read
    simp only [dbl_least, dbl_binade, dbl_inf, dbl_sign]
    have e1 : ((n.log2 + 1022) * 4503599627370496 + q) / 9223372036854775808 = 0 := by omega
    have e2 : ((n.log2 + 1022) * 4503599627370496 + q) % 9223372036854775808 = (n.log2 + 1022) * 4503599627370496 + q := by omega
    rw [e1, e2, if_neg (by omega), if_pos (by omega)]
    have e3 : 4503599627370496 + ((n.log2 + 1022) * 4503599627370496 + q) % 4503599627370496 = q := by omega
    have e4 : (-1074 : Int) + ((((n.log2 + 1022) * 4503599627370496 + q) / 4503599627370496 - 1 : Nat) : Int) = -((52 - n.log2 : Nat) : Int) := by omega
    rw [e3, e4]
    rfl

theorem signed_rep (s : Bool) (n c b : Nat) (base : Int) (hb : base = -(b : Int)) (h : c ≤ b) : signed s (n <<< c) (-(c : Int) - base).toNat = if s then -((n * 2 ^ b : Nat) : Int) else ((n * 2 ^ b : Nat) : Int) := by
  have e : (-(c : Int) - base).toNat = b - c := by omega
  have e2 : n <<< c <<< (b - c) = n * 2 ^ b := by
    rw [← Nat.shiftLeft_add, show c + (b - c) = b by omega, Nat.shiftLeft_eq]
  unfold signed
  rw [e, e2]

theorem add_fl {n m : Nat} (h : n + m < 2 ^ 53) : floatBits .add .f64 (fl n) (fl m) = some (fl (n + m)) := by
  obtain ⟨c, hc⟩ := read_rep (n := n) (by omega)
  obtain ⟨d, hd⟩ := read_rep (n := m) (by omega)
  show ((double.read (fl n)).sum (double.read (fl m))).map double.write = _
  rw [hc, hd]
  simp only [Datum.sum]
  have hb : min (-(c : Int)) (-(d : Int)) = -((max c d : Nat) : Int) := by omega
  rw [signed_rep false n c (max c d) _ hb (by omega), signed_rep false m d (max c d) _ hb (by omega)]
  simp only [Bool.false_eq_true, if_false]
  rw [hb]
  have e1 : ((n * 2 ^ max c d : Nat) : Int) + ((m * 2 ^ max c d : Nat) : Int) = (((n + m) <<< max c d : Nat) : Int) := by
    rw [Nat.shiftLeft_eq, Nat.add_mul, Int.natCast_add]
  rw [e1]
  have e2 : (if (((n + m) <<< max c d : Nat) : Int) = 0 then (false && false) else decide ((((n + m) <<< max c d : Nat) : Int) < 0)) = false := by
    split
    · rfl
    · exact decide_eq_false (Int.not_lt.2 (Int.natCast_nonneg _))
  rw [e2, Int.natAbs_natCast, Option.map_some, write_rep h, fl_rung h]

theorem sub_fl {n m : Nat} (hm : m ≤ n) (h : n < 2 ^ 53) : floatBits .sub .f64 (fl n) (fl m) = some (fl (n - m)) := by
  obtain ⟨c, hc⟩ := read_rep (n := n) (by omega)
  obtain ⟨d, hd⟩ := read_rep (n := m) (by omega)
  show ((double.read (fl n)).sum (double.read (fl m)).opposite).map double.write = _
  rw [hc, hd]
  simp only [Datum.opposite, Datum.sum, Bool.not_false]
  have hb : min (-(c : Int)) (-(d : Int)) = -((max c d : Nat) : Int) := by omega
  rw [signed_rep false n c (max c d) _ hb (by omega), signed_rep true m d (max c d) _ hb (by omega)]
  simp only [Bool.false_eq_true, if_false, if_true]
  rw [hb]
  have e1 : ((n * 2 ^ max c d : Nat) : Int) + -((m * 2 ^ max c d : Nat) : Int) = (((n - m) <<< max c d : Nat) : Int) := by
    have := Nat.mul_le_mul_right (2 ^ max c d) hm
    rw [Nat.shiftLeft_eq, Nat.sub_mul]
    omega
  rw [e1]
  have e2 : (if (((n - m) <<< max c d : Nat) : Int) = 0 then (false && true) else decide ((((n - m) <<< max c d : Nat) : Int) < 0)) = false := by
    split
    · rfl
    · exact decide_eq_false (Int.not_lt.2 (Int.natCast_nonneg _))
  rw [e2, Int.natAbs_natCast, Option.map_some, write_rep (by omega), fl_rung (by omega)]

theorem int_fl {n : Nat} (h : n < 2 ^ 53) : floatToIntVal .f64 (fl n) .i64 = some (n : Int) := by
  obtain ⟨c, hc⟩ := read_rep h
  unfold floatToIntVal
  have e : (FloatKind.f64.decode (fl n)).toInt .zero = some (n : Int) := by
    show (double.read (fl n)).toInt .zero = _
    rw [hc]
    unfold Datum.toInt Datum.integral
    have e1 : (-(c : Int)).toNat = 0 := by omega
    have e2 : (- -(c : Int)).toNat = c := by omega
    simp only [e1, e2, Nat.shiftLeft_zero, cut_shift]
    simp [signed]
  rw [e]
  simp only
  rw [if_pos]
  constructor
  · simp [IntKind.min, IntKind.signed, IntKind.bits] <;> omega
  · simp [IntKind.max, IntKind.signed, IntKind.bits] <;> omega

theorem float_of {n : Nat} : floatOfInt .f64 (n : Int) = fl n := rfl
theorem fl_one : fl 1 = 4607182418800017408 := by rw [fl_rung (by decide)]; decide
theorem fl_zero : fl 0 = 0 := by rw [fl_rung (by decide)]; decide
theorem fl_wf (n : Nat) : (Lit.float .f64 (fl n)).wf = true := floatOfInt_wf .f64 n
end Go.Proofs.Ytnfkeaplglknlaa.words
