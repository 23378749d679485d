/- DigitAsks, walked. -/
import Derived.Test.YteeckdfgpijapaaDigLawA
namespace Go.Proofs.Yteeckdfgpijapaa.dig
open Go.RowKit
open Go.Proofs.Yteeckdfgpijapaa.aid

set_option maxHeartbeats 400000 in
theorem digitAsks_big (a0 : ByteArray) (a1 a2 a3 a4 : Int) (a5 : ByteArray) (hb : (200 : Int) < (a0.size : Int) + a5.size) (h1 : (a0.size : Int) ≤ 140737488351232) (h2 : (a5.size : Int) ≤ 140737488351232) (w : World) :
    Calls Try.prog 3 #[.string a0, .int .u64 a1, .int .u8 a2, .int .u8 a3, .int .u8 a4, .string a5] w fun e w' => e = .returned (.bool true) ∧ Below w.heap.size w w' := by
  go_enter Try.func3, Try.ntmps3
  go_wp2_with fail
  refine (known_any _).mono ?_
  rintro e wk ⟨rfl, hbk⟩
  go_wp2_with fail
  go_ret
  exact ⟨rfl, hbk⟩

set_option maxHeartbeats 400000 in
set_option maxRecDepth 100000 in
theorem digitAsks_walk (a0 : ByteArray) (a1 a2 a3 a4 : Int) (a5 : ByteArray) (w1 : 0 ≤ a1 ∧ a1 ≤ 18446744073709551615) (w2 : 0 ≤ a2 ∧ a2 ≤ 255) (w3 : 0 ≤ a3 ∧ a3 ≤ 255) (w4 : 0 ≤ a4 ∧ a4 ≤ 255) (hbig : ¬ 200 < a0.size + a5.size) (w : World) :
    Calls Try.prog 3 #[.string a0, .int .u64 a1, .int .u8 a2, .int .u8 a3, .int .u8 a4, .string a5] w fun e w' => e = .returned (.bool true) ∧ Below w.heap.size w w' := by
  have hb : (a0.size : Int) + a5.size ≤ 200 := by omega
  have hl0 : (a0.size : Int) ≤ 200 := by omega
  have hl5 : (a5.size : Int) ≤ 200 := by omega
  clear hbig
  obtain ⟨w1, w1'⟩ := w1
  obtain ⟨w2, w2'⟩ := w2
  obtain ⟨w3, w3'⟩ := w3
  obtain ⟨w4, w4'⟩ := w4
  go_enter Try.func3, Try.ntmps3
  go_wp2_with fail
  refine (known_any _).mono ?_
  rintro e wk ⟨rfl, hbk⟩
  go_wp2_with fail
  have hsh := shr_in a1 (a2 % 64).toNat w1 w1'
  refine (refprint_int _ hsh.1 hsh.2 _).mono ?_
  rintro e w' ⟨rfl, rfl⟩
  have hlo := digs_len (a1 / 2 ^ (a2 % 64).toNat).toNat
  have hln := digs_ne_nil (a1 / 2 ^ (a2 % 64).toNat).toNat
  clear hsh
  generalize digs (a1 / 2 ^ (a2 % 64).toNat).toNat = own at *
  go_wp2_with fail
  have hx0 : 0 ≤ a3 % ((own.length : Int) + 1) := Int.emod_nonneg _ (by omega)
  have hx1 : a3 % ((own.length : Int) + 1) ≤ own.length := by have := Int.emod_lt_of_pos a3 (show 0 < (own.length : Int) + 1 by omega); omega
  generalize a3 % ((own.length : Int) + 1) = x at *
  obtain ⟨i, rfl⟩ := Int.eq_ofNat_of_zero_le hx0
  clear hx0 hln
  have hcv := one_byte_drew wk a4 w4 w4'
  go_region
  clear hcv
  go_wp2_with fail
  refine (asks_any a0 (by omega) _).mono ?_
  rintro e w' ⟨rfl, rfl⟩
  go_wp2_with fail
  refine (asks_any _ (by simp [ByteArray.size]; omega) _).mono ?_
  rintro e w' ⟨rfl, rfl⟩
  go_wp2_with fail
  refine (asks_any _ ?_ _).mono ?_
  · simp [ByteArray.size_append, size_mk]
    omega
  rintro e w' ⟨rfl, rfl⟩
  go_wp2_with fail
  refine (asks_any _ ?_ _).mono ?_
  · simp [ByteArray.size_append, size_mk]
    omega
  rintro e w' ⟨rfl, rfl⟩
  go_wp2_with fail
  refine (asks_any _ ?_ _).mono ?_
  · simp [ByteArray.size_append, size_mk]
    omega
  rintro e w' ⟨rfl, rfl⟩
  go_wp2_with fail
  refine (asks_any _ ?_ _).mono ?_
  · simp [ByteArray.size_append, size_mk]
    omega
  rintro e w' ⟨rfl, rfl⟩
  go_wp2_with fail
  refine (print_int a1 w1 w1' _).mono ?_
  rintro e w2 ⟨rfl, hb2⟩
  go_wp2_with fail
  refine (refprint_int a1 w1 w1' _).mono ?_
  rintro e w' ⟨rfl, rfl⟩
  go_wp2_with fail
  refine (width_int a1 w1 w1' _).mono ?_
  rintro e w3 ⟨rfl, hb3⟩
  go_wp2_with fail
  refine (refprint_int a1 w1 w1' _).mono ?_
  rintro e w' ⟨rfl, rfl⟩
  go_wp2_with fail
  go_ret
  have hbk2 := (hbk.alloc hbk.size (.cells #[.int .u8 a4] 5)).drew
  have hs1 := hbk2.size
  have hb4 := hbk2.trans (hb2.mono (by simpa using hs1))
  exact ⟨rfl, hb4.trans (hb3.mono hb4.size)⟩
end Go.Proofs.Yteeckdfgpijapaa.dig
