/- DigitSteps, walked. -/
import Derived.Test.YteeckdfgpijapaaDigLawA
import Derived.Test.YteeckdfgpijapaaDigMoreB
namespace Go.Proofs.Yteeckdfgpijapaa.dig
open Go.RowKit
open Go.Proofs.Yteeckdfgpijapaa.aid

set_option maxHeartbeats 400000 in
set_option maxRecDepth 100000 in
theorem digitSteps_walk (a0 a1 a2 : Int) (w0 : 0 ≤ a0 ∧ a0 ≤ 18446744073709551615) (w1 : 0 ≤ a1 ∧ a1 ≤ 255) (w2 : 0 ≤ a2 ∧ a2 ≤ 255) (w : World) :
    Calls Try.prog 5 #[.int .u64 a0, .int .u8 a1, .int .u8 a2] w fun e w' => e = .returned (.bool true) ∧ Below w.heap.size w w' := by
  obtain ⟨w0, w0'⟩ := w0
  obtain ⟨w1, w1'⟩ := w1
  obtain ⟨w2, w2'⟩ := w2
  go_enter Try.func5, Try.ntmps5
  go_wp2_with fail
  obtain ⟨m, hm⟩ := Int.eq_ofNat_of_zero_le (show 0 ≤ a0 / 100 by omega)
  have hm2 : (m : Int) ≤ 184467440737095516 := by omega
  rw [hm]
  clear hm w0 w0'
  refine (print_any m (by omega) _).mono ?_
  rintro e wa ⟨rfl, ha⟩
  have hlm := digs_len m
  go_wp2_with fail
  obtain ⟨d, hd⟩ := Int.eq_ofNat_of_zero_le (show 0 ≤ a1 % 10 by omega)
  have hd2 : (d : Int) ≤ 9 := by omega
  rw [hd]
  refine (print_any d (by omega) _).mono ?_
  rintro e wb ⟨rfl, hb⟩
  have hld := digs_len d
  go_wp2_with fail
  rw [ByteArray.mk_append_mk]
  refine (parse_list _ (by simp; omega) _).mono ?_
  rintro e w' ⟨rfl, rfl⟩
  rw [parse_two (by omega) (by omega)]
  have hab := ha.trans (hb.mono ha.size)
  clear ha hb hlm hld
  by_cases hm0 : m = 0
  · subst hm0
    rw [if_pos rfl]
    go_wp2_with fail
    go_loop [10, 11] (fun s k => ∃ j : Nat, (j : Int) ≤ 20 + a2 % 40 ∧ k = .int .i64 j ∧ s = .string ⟨(tens j).toArray⟩) (fun _ k => (20 + a2 % 40 - intOf k).toNat)
    case atStart => exact ⟨0, by omega, rfl, rfl⟩
    case round =>
      obtain ⟨j, hj, rfl, rfl⟩ := hrel
      have hlj : (tens j).length ≤ 100 := by rw [tens_len]; omega
      by_cases hlt : (j : Int) < 20 + a2 % 40
      · go_wp2
        go_round
        case rel => exact ⟨j + 1, by omega, by go_num, congrArg Value.string (ByteArray.mk_append_mk (tens j) [48])⟩
        case measure => simp [intOf]; omega
      · go_wp2_with fail
        refine (parse_list _ (by omega) _).mono ?_
        rintro e w' ⟨rfl, rfl⟩
        rw [parse_tens j (by omega)]
        go_wp2_with fail
        rw [show (ByteArray.mk (tens j).toArray ++ ByteArray.mk #[120]) = ⟨(tens j ++ [120]).toArray⟩ from ByteArray.mk_append_mk (tens j) [120]]
        refine (parse_list _ (by simp; omega) _).mono ?_
        rintro e w' ⟨rfl, rfl⟩
        rw [parse_tens_x j]
        go_wp2_with fail
        refine (known_any _).mono ?_
        rintro e wk ⟨rfl, hk⟩
        go_wp2_with fail
        go_ret
        exact ⟨rfl, hab.trans (hk.mono hab.size)⟩
  · rw [if_neg hm0]
    obtain ⟨x, hx⟩ : ∃ x, x = 10 * m + d := ⟨_, rfl⟩
    rw [← hx]
    have hxe : ((x : Int) == 10 * (m : Int) + d) = true := beq_iff_eq.2 (by omega)
    have hmf : ((m : Int) == 0) = false := beq_eq_false_iff_ne.2 (by omega)
    have hmp : (0 : Int) < m := by omega
    clear hm0 hx
    go_wp2_with fail
    go_loop [10, 11] (fun s k => ∃ j : Nat, (j : Int) ≤ 20 + a2 % 40 ∧ k = .int .i64 j ∧ s = .string ⟨(tens j).toArray⟩) (fun _ k => (20 + a2 % 40 - intOf k).toNat)
    case atStart => exact ⟨0, by omega, rfl, rfl⟩
    case round =>
      obtain ⟨j, hj, rfl, rfl⟩ := hrel
      have hlj : (tens j).length ≤ 100 := by rw [tens_len]; omega
      by_cases hlt : (j : Int) < 20 + a2 % 40
      · go_wp2
        go_round
        case rel => exact ⟨j + 1, by omega, by go_num, congrArg Value.string (ByteArray.mk_append_mk (tens j) [48])⟩
        case measure => simp [intOf]; omega
      · go_wp2_with fail
        refine (parse_list _ (by omega) _).mono ?_
        rintro e w' ⟨rfl, rfl⟩
        rw [parse_tens j (by omega)]
        go_wp2_with fail
        rw [show (ByteArray.mk (tens j).toArray ++ ByteArray.mk #[120]) = ⟨(tens j ++ [120]).toArray⟩ from ByteArray.mk_append_mk (tens j) [120]]
        refine (parse_list _ (by simp; omega) _).mono ?_
        rintro e w' ⟨rfl, rfl⟩
        rw [parse_tens_x j]
        go_wp2_with fail
        refine (known_any _).mono ?_
        rintro e wk ⟨rfl, hk⟩
        go_wp2_with fail
        go_ret
        exact ⟨rfl, hab.trans (hk.mono hab.size)⟩
end Go.Proofs.Yteeckdfgpijapaa.dig
