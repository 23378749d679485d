/- DigitOrder, walked. -/
import Derived.Test.YteeckdfgpijapaaDigLawA
import Derived.Test.YteeckdfgpijapaaDigMoreB
namespace Go.Proofs.Yteeckdfgpijapaa.dig
open Go.RowKit
open Go.Proofs.Yteeckdfgpijapaa.aid

set_option maxHeartbeats 400000 in
set_option maxRecDepth 100000 in
theorem digitOrder_walk (a0 a1 : Int) (w0 : 0 ≤ a0 ∧ a0 ≤ 18446744073709551615) (w1 : 0 ≤ a1 ∧ a1 ≤ 18446744073709551615) (w : World) :
    Calls Try.prog 6 #[.int .u64 a0, .int .u64 a1] w fun e w' => e = .returned (.bool true) ∧ Below w.heap.size w w' := by
  obtain ⟨w0, w0'⟩ := w0
  obtain ⟨w1, w1'⟩ := w1
  obtain ⟨a, rfl⟩ := Int.eq_ofNat_of_zero_le w0
  obtain ⟨b, rfl⟩ := Int.eq_ofNat_of_zero_le w1
  clear w0 w1
  have hla := digs_len a
  have hlb := digs_len b
  by_cases hlt : a < b
  · have hlt' : (a : Int) < b := by omega
    have hm := digs_len_mono a b (by omega) (by omega)
    by_cases he : (digs a).length < (digs b).length
    · have he' : ((digs a).length : Int) < (digs b).length := by omega
      go_enter Try.func6, Try.ntmps6
      go_wp2_with fail
      refine (print_any _ w0' _).mono ?_
      rintro e wa ⟨rfl, ha⟩
      go_wp2_with fail
      refine (print_any _ w1' _).mono ?_
      rintro e wb ⟨rfl, hb⟩
      go_wp2_with fail
      refine (known_any _).mono ?_
      rintro e wk ⟨rfl, hk⟩
      go_wp2_with fail
      go_ret
      have g1 := ha.trans (hb.mono ha.size)
      exact ⟨rfl, g1.trans (hk.mono g1.size)⟩
    · have hl : (digs a).length = (digs b).length := by omega
      have hless := digs_less a b (by omega) hlt hl
      have h1 : decide ((digs a).length < (digs b).length) = false := by simpa using he
      have h2 : (((digs a).length : Int) == (digs b).length) = true := beq_iff_eq.2 (by omega)
      go_enter Try.func6, Try.ntmps6
      go_wp2_with fail
      refine (print_any _ w0' _).mono ?_
      rintro e wa ⟨rfl, ha⟩
      go_wp2_with fail
      refine (print_any _ w1' _).mono ?_
      rintro e wb ⟨rfl, hb⟩
      go_wp2_with fail
      refine (known_any _).mono ?_
      rintro e wk ⟨rfl, hk⟩
      go_wp2_with fail
      go_ret
      have g1 := ha.trans (hb.mono ha.size)
      exact ⟨rfl, g1.trans (hk.mono g1.size)⟩
  · have hle : (b : Int) ≤ a := by omega
    have h20 : decide (((digs a).length : Int) ≤ 20) = true := by simp; omega
    have hm := digs_len_mono b a (by omega) (by omega)
    by_cases he : b < a
    · have he' : (b : Int) < a := by omega
      go_enter Try.func6, Try.ntmps6
      go_wp2_with fail
      refine (print_any _ w0' _).mono ?_
      rintro e wa ⟨rfl, ha⟩
      go_wp2_with fail
      refine (print_any _ w1' _).mono ?_
      rintro e wb ⟨rfl, hb⟩
      go_wp2_with fail
      refine (known_any _).mono ?_
      rintro e wk ⟨rfl, hk⟩
      go_wp2_with fail
      go_ret
      have g1 := ha.trans (hb.mono ha.size)
      exact ⟨rfl, g1.trans (hk.mono g1.size)⟩
    · obtain rfl : a = b := by omega
      have hs : (digs a == digs a) = true := by simp
      go_enter Try.func6, Try.ntmps6
      go_wp2_with fail
      refine (print_any _ w0' _).mono ?_
      rintro e wa ⟨rfl, ha⟩
      go_wp2_with fail
      refine (print_any _ w1' _).mono ?_
      rintro e wb ⟨rfl, hb⟩
      go_wp2_with fail
      refine (known_any _).mono ?_
      rintro e wk ⟨rfl, hk⟩
      go_wp2_with fail
      go_ret
      have g1 := ha.trans (hb.mono ha.size)
      exact ⟨rfl, g1.trans (hk.mono g1.size)⟩
end Go.Proofs.Yteeckdfgpijapaa.dig
