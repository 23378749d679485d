/- DigitWidths, walked. -/
import Derived.Test.YteeckdfgpijapaaDigLawA
import Derived.Test.YteeckdfgpijapaaDigMoreB
namespace Go.Proofs.Yteeckdfgpijapaa.dig
open Go.RowKit
open Go.Proofs.Yteeckdfgpijapaa.aid

theorem pow_le (j k : Nat) (hk : k < 20) (hj : j ≤ k) : 10 ^ j ≤ 10000000000000000000 := by
  have : 10 ^ j ≤ 10 ^ 19 := Nat.pow_le_pow_right (by omega) (by omega)
  exact Nat.le_trans this (by decide)
theorem first_byte (c : UInt8) (r : List UInt8) (h : 0 < (ByteArray.mk (c :: r).toArray).size) : (ByteArray.mk (c :: r).toArray)[0] = c := rfl
/-- ten to the k-th, kept closed -/
def Ten (k p : Nat) : Prop := p = 10 ^ k

set_option maxHeartbeats 400000 in
set_option maxRecDepth 100000 in
theorem digitWidths_walk (a0 : Int) (w0 : 0 ≤ a0 ∧ a0 ≤ 255) (w : World) :
    Calls Try.prog 8 #[.int .u8 a0] w fun e w' => e = .returned (.bool true) ∧ Below w.heap.size w w' := by
  obtain ⟨w0, w0'⟩ := w0
  go_enter Try.func8, Try.ntmps8
  go_wp2
  go_loop [3, 4] (fun p j => ∃ (k q : Nat), (k : Int) ≤ a0 % 20 ∧ j = .int .i64 k ∧ p = .int .u64 q ∧ Ten k q) (fun _ j => (a0 % 20 - intOf j).toNat)
  case atStart => exact ⟨0, 1, by omega, rfl, rfl, rfl⟩
  case round =>
    obtain ⟨k, q, hk, rfl, rfl, ht⟩ := hrel
    have hq : (q : Int) ≤ 10000000000000000000 := by
      have := pow_le k k (by omega) (Nat.le_refl _)
      rw [← show q = 10 ^ k from ht] at this
      omega
    by_cases hlt : (k : Int) < a0 % 20
    · have hq2 : (q : Int) ≤ 1000000000000000000 := by
        have : 10 ^ k ≤ 10 ^ 18 := Nat.pow_le_pow_right (by omega) (by omega)
        rw [← show q = 10 ^ k from ht] at this
        have h2 : (10 : Nat) ^ 18 = 1000000000000000000 := by decide
        omega
      have hnew : Ten (k + 1) (q * 10) := by
        unfold Ten at ht ⊢
        rw [Nat.pow_succ, ht]
      clear ht
      go_wp2
      go_round
      case rel => exact ⟨k + 1, q * 10, by omega, by go_num, by go_num, hnew⟩
      case measure => simp [intOf]; omega
    · obtain ⟨h1, h2, r, h3⟩ := widths k (by omega)
      rw [← show q = 10 ^ k from ht] at h1 h2 h3
      have hk2 : a0 % 20 = (k : Int) := by omega
      have hb : (((digs q).length : Int) == a0 % 20 + 1) = true := beq_iff_eq.2 (by omega)
      have hq1 : (1 : Int) ≤ q := by
        have : 0 < 10 ^ k := Nat.pow_pos (by omega)
        rw [← show q = 10 ^ k from ht] at this
        omega
      have hge : a0 % 20 ≤ (k : Int) := by omega
      have H3 := Lib.hid h3
      clear h3
      have hs0 : 0 < (ByteArray.mk (49 :: r).toArray).size := by simp [ByteArray.size]
      by_cases hk0 : k = 0
      · have hone : ((q : Int) == 1) = true := by
          rw [hk0] at ht
          rw [show q = 1 from ht]
          rfl
        clear h1 h2 hk2 hk0 ht hlt
        go_wp2_with fail
        refine (known_any _).mono ?_
        rintro e w1 ⟨rfl, hb1⟩
        go_wp2_with fail
        refine (width_any q (by omega) _).mono ?_
        rintro e w2 ⟨rfl, hb2⟩
        go_wp2_with fail
        refine (print_any q (by omega) _).mono ?_
        rintro e w4 ⟨rfl, hb4⟩
        rw [H3.out]
        go_wp2_with fail
        go_ret
        have g1 := hb1.trans (hb2.mono hb1.size)
        exact ⟨rfl, g1.trans (hb4.mono g1.size)⟩
      · have hone : ((q : Int) == 1) = false := by
          refine beq_eq_false_iff_ne.2 ?_
          intro hc
          have : 10 ^ 1 ≤ 10 ^ k := Nat.pow_le_pow_right (by omega) (by omega)
          rw [← show q = 10 ^ k from ht] at this
          omega
        have hl : (((digs (q - 1)).length : Int) == a0 % 20) = true := by
          refine beq_iff_eq.2 ?_
          rcases h2 with h2 | h2
          · omega
          · omega
        clear h1 h2 hk2 hk0 ht hlt
        go_wp2_with fail
        refine (known_any _).mono ?_
        rintro e w1 ⟨rfl, hb1⟩
        go_wp2_with fail
        refine (width_any q (by omega) _).mono ?_
        rintro e w2 ⟨rfl, hb2⟩
        go_wp2_with fail
        refine (width_int _ (by omega) (by omega) _).mono ?_
        rw [show ((q : Int) - 1).toNat = q - 1 from by omega]
        rintro e w3 ⟨rfl, hb3⟩
        go_wp2_with fail
        refine (print_any q (by omega) _).mono ?_
        rintro e w4 ⟨rfl, hb4⟩
        rw [H3.out]
        go_wp2_with fail
        go_ret
        have g1 := hb1.trans (hb2.mono hb1.size)
        have g2 := g1.trans (hb3.mono g1.size)
        exact ⟨rfl, g2.trans (hb4.mono g2.size)⟩
end Go.Proofs.Yteeckdfgpijapaa.dig
