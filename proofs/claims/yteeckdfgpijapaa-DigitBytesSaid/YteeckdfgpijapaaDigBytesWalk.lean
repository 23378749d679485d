/- DigitBytes, walked. -/
import Derived.Test.YteeckdfgpijapaaDigLawA
import Derived.Test.YteeckdfgpijapaaDigMoreB
namespace Go.Proofs.Yteeckdfgpijapaa.dig
open Go.RowKit
open Go.Proofs.Yteeckdfgpijapaa.aid

set_option maxHeartbeats 400000 in
set_option maxRecDepth 100000 in
theorem digitBytes_walk (a0 a1 a2 : Int) (w0 : 0 ≤ a0 ∧ a0 ≤ 18446744073709551615) (w1 : 0 ≤ a1 ∧ a1 ≤ 255) (w2 : 0 ≤ a2 ∧ a2 ≤ 255) (w : World) :
    Calls Try.prog 7 #[.int .u64 a0, .int .u8 a1, .int .u8 a2] w fun e w' => e = .returned (.bool true) ∧ Below w.heap.size w w' := by
  obtain ⟨w0, w0'⟩ := w0
  obtain ⟨w1, w1'⟩ := w1
  obtain ⟨w2, w2'⟩ := w2
  obtain ⟨n, rfl⟩ := Int.eq_ofNat_of_zero_le w0
  clear w0
  have hlo := digs_len n
  have hln : 0 < (digs n).length := List.length_pos_iff.2 (digs_ne_nil n)
  have hln' : (1 : Int) ≤ (digs n).length := by omega
  have hbent := fun i hi => parse_bent n (by omega) i hi (aid.byteOf a1)
  have hbn := byteOf_toNat w1 w1'
  go_enter Try.func7, Try.ntmps7
  go_wp2_with fail
  refine (refprint_any n w0' _).mono ?_
  rintro e w' ⟨rfl, rfl⟩
  generalize digs n = own at *
  have HB := Lib.hid hbent
  have HN := Lib.hid hbn
  clear hbent hbn
  go_wp2_with fail
  have hx0 : 0 ≤ a2 % (own.length : Int) := Int.emod_nonneg _ (by omega)
  have hx1 : a2 % (own.length : Int) < own.length := Int.emod_lt_of_pos a2 (by omega)
  generalize a2 % (own.length : Int) = x at *
  obtain ⟨i, rfl⟩ := Int.eq_ofNat_of_zero_le hx0
  clear hx0 hln
  have hcv := one_byte_drew w a1 w1 w1'
  go_region
  clear hcv
  go_wp2_with fail
  rw [bent_mk]
  refine (parse_list _ (by simp; omega) _).mono ?_
  rintro e w' ⟨rfl, rfl⟩
  have hb := HB.out i (by omega)
  have hn := HN.out
  have he := parse_bnd (own.take i ++ [aid.byteOf a1] ++ own.drop (i + 1))
  generalize parse (own.take i ++ [aid.byteOf a1] ++ own.drop (i + 1)) = pr at *
  obtain ⟨pv, pe⟩ := pr
  simp only at hb he
  obtain ⟨he0, he1⟩ := he
  rw [isDig_false] at hb
  have hyes : (a1 < 48 ∨ 57 < a1 ∨ (i = 0 ∧ a1 = 48 ∧ 1 < own.length)) → ((pe : Int) == 10) = true := by
    intro h
    refine beq_iff_eq.2 ?_
    have := hb.2 (by omega)
    omega
  have hno : 48 ≤ a1 → a1 ≤ 57 → ¬ (i = 0 ∧ a1 = 48 ∧ 1 < own.length) → ((pe : Int) == 10) = false := by
    intro h1 h2 h3
    refine beq_eq_false_iff_ne.2 ?_
    intro hc
    have := hb.1 (by omega)
    omega
  clear hb hn HB HN
  rcases (show (a1 < 48 ∨ 57 < a1) ∨ (48 ≤ a1 ∧ a1 ≤ 57) by omega) with h1 | ⟨h1, h2⟩
  · have hp := hyes (by omega)
    clear hyes hno
    by_cases hi : i = 0
    · have hi' : ((i : Int) == 0) = true := beq_iff_eq.2 (by omega)
      clear hi
      have h48 : (a1 == 48) = false := beq_eq_false_iff_ne.2 (by omega)
      rcases h1 with h1 | h1
      · have h1' : decide (48 ≤ a1) = false := by simp; omega
        go_wp2_with fail
        refine (known_any _).mono ?_
        rintro e wk ⟨rfl, hk⟩
        go_wp2_with fail
        go_ret
        have g1 := ((Below.refl w.heap.size w).alloc (Nat.le_refl _) (.cells #[.int .u8 a1] 5)).drew
        exact ⟨rfl, g1.trans (hk.mono g1.size)⟩
      · have h1' : decide (a1 ≤ 57) = false := by simp; omega
        have h1'' : decide (48 ≤ a1) = true := by simp; omega
        go_wp2_with fail
        refine (known_any _).mono ?_
        rintro e wk ⟨rfl, hk⟩
        go_wp2_with fail
        go_ret
        have g1 := ((Below.refl w.heap.size w).alloc (Nat.le_refl _) (.cells #[.int .u8 a1] 5)).drew
        exact ⟨rfl, g1.trans (hk.mono g1.size)⟩
    · have hi' : ((i : Int) == 0) = false := beq_eq_false_iff_ne.2 (by omega)
      clear hi
      rcases h1 with h1 | h1
      · have h1' : decide (48 ≤ a1) = false := by simp; omega
        go_wp2_with fail
        refine (known_any _).mono ?_
        rintro e wk ⟨rfl, hk⟩
        go_wp2_with fail
        go_ret
        have g1 := ((Below.refl w.heap.size w).alloc (Nat.le_refl _) (.cells #[.int .u8 a1] 5)).drew
        exact ⟨rfl, g1.trans (hk.mono g1.size)⟩
      · have h1' : decide (a1 ≤ 57) = false := by simp; omega
        have h1'' : decide (48 ≤ a1) = true := by simp; omega
        go_wp2_with fail
        refine (known_any _).mono ?_
        rintro e wk ⟨rfl, hk⟩
        go_wp2_with fail
        go_ret
        have g1 := ((Below.refl w.heap.size w).alloc (Nat.le_refl _) (.cells #[.int .u8 a1] 5)).drew
        exact ⟨rfl, g1.trans (hk.mono g1.size)⟩
  · have hd1 : decide (48 ≤ a1) = true := by simp; omega
    have hd2 : decide (a1 ≤ 57) = true := by simp; omega
    by_cases hi : i = 0
    · have hi' : ((i : Int) == 0) = true := beq_iff_eq.2 (by omega)
      by_cases h48 : a1 = 48
      · have h48' : (a1 == 48) = true := beq_iff_eq.2 h48
        by_cases hl : 1 < own.length
        · have hl' : decide ((1 : Int) < own.length) = true := by simp; omega
          have hp := hyes (by omega)
          clear hyes hno hi h48
          go_wp2_with fail
          refine (known_any _).mono ?_
          rintro e wk ⟨rfl, hk⟩
          go_wp2_with fail
          go_ret
          have g1 := ((Below.refl w.heap.size w).alloc (Nat.le_refl _) (.cells #[.int .u8 a1] 5)).drew
          exact ⟨rfl, g1.trans (hk.mono g1.size)⟩
        · have hl' : decide ((1 : Int) < own.length) = false := by simp; omega
          have hp := hno h1 h2 (by omega)
          clear hyes hno hi h48
          go_wp2_with fail
          refine (known_any _).mono ?_
          rintro e wk ⟨rfl, hk⟩
          go_wp2_with fail
          go_ret
          have g1 := ((Below.refl w.heap.size w).alloc (Nat.le_refl _) (.cells #[.int .u8 a1] 5)).drew
          exact ⟨rfl, g1.trans (hk.mono g1.size)⟩
      · have h48' : (a1 == 48) = false := beq_eq_false_iff_ne.2 h48
        have hp := hno h1 h2 (by omega)
        clear hyes hno hi h48
        go_wp2_with fail
        refine (known_any _).mono ?_
        rintro e wk ⟨rfl, hk⟩
        go_wp2_with fail
        go_ret
        have g1 := ((Below.refl w.heap.size w).alloc (Nat.le_refl _) (.cells #[.int .u8 a1] 5)).drew
        exact ⟨rfl, g1.trans (hk.mono g1.size)⟩
    · have hi' : ((i : Int) == 0) = false := beq_eq_false_iff_ne.2 (by omega)
      have hp := hno h1 h2 (by omega)
      clear hyes hno hi
      go_wp2_with fail
      refine (known_any _).mono ?_
      rintro e wk ⟨rfl, hk⟩
      go_wp2_with fail
      go_ret
      have g1 := ((Below.refl w.heap.size w).alloc (Nat.le_refl _) (.cells #[.int .u8 a1] 5)).drew
      exact ⟨rfl, g1.trans (hk.mono g1.size)⟩
end Go.Proofs.Yteeckdfgpijapaa.dig
