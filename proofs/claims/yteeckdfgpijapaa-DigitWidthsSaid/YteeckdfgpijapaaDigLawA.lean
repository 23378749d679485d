/- the laws' own helpers, walked: the chapter's examples, and two readers held against each other. -/
import Derived.Test.YteeckdfgpijapaaDigWalkB
import Derived.Test.YteeckdfgpijapaaDigWalkC
import Derived.Test.YteeckdfgpijapaaDigWalkD
import Derived.Test.YteeckdfgpijapaaDigWalkE
namespace Go.Proofs.Yteeckdfgpijapaa.dig
open Go.RowKit
open Go.Proofs.Yteeckdfgpijapaa.aid

set_option maxHeartbeats 400000 in
theorem known_any (w : World) :
    Calls Try.prog 9 #[] w fun e w' => e = .returned (.bool true) ∧ Below w.heap.size w w' := by
  go_enter Try.func9, Try.ntmps9
  go_wp2_with fail
  refine (parse_any _ (by decide) _).mono ?_
  rintro e w' ⟨rfl, rfl⟩
  rw [show parse _ = (18446744073709551615, 0) from by decide +kernel]
  go_wp2_with fail
  refine (parse_any _ (by decide) _).mono ?_
  rintro e w' ⟨rfl, rfl⟩
  rw [show parse _ = (0, 10) from by decide +kernel]
  go_wp2_with fail
  refine (parse_any _ (by decide) _).mono ?_
  rintro e w' ⟨rfl, rfl⟩
  rw [show parse _ = (0, 11) from by decide +kernel]
  go_wp2_with fail
  refine (print_any 0 (by decide) _).mono ?_
  rintro e w1 ⟨rfl, hb1⟩
  rw [show digs 0 = [48] from by decide +kernel]
  go_wp2_with fail
  refine (width_any 18446744073709551615 (by decide) _).mono ?_
  rintro e w2 ⟨rfl, hb2⟩
  rw [show (digs 18446744073709551615).length = 20 from by decide +kernel]
  go_wp2_with fail
  go_ret
  exact ⟨rfl, hb1.trans (hb2.mono hb1.size)⟩

theorem parse_bnd (l : List UInt8) : (0 : Int) ≤ ((parse l).2 : Int) ∧ ((parse l).2 : Int) ≤ 11 := by
  have := parse_err l
  omega

set_option maxHeartbeats 400000 in
theorem asks_any (s : ByteArray) (hs : s.size ≤ 9223372036854775807) (w : World) :
    Calls Try.prog 11 #[.string s] w fun e w' => e = .returned (.bool true) ∧ w = w' := by
  obtain ⟨hb1, hb2⟩ := parse_bnd s.data.toList
  go_enter Try.func11, Try.ntmps11
  go_wp2_with fail
  refine (parse_any s hs _).mono ?_
  rintro e w' ⟨rfl, rfl⟩
  go_wp2_with fail
  refine (refparse_any s hs _).mono ?_
  rintro e w' ⟨rfl, rfl⟩
  go_wp2_with fail
  go_ret
  exact ⟨rfl, rfl⟩
theorem print_int (x : Int) (h0 : 0 ≤ x) (h1 : x ≤ 18446744073709551615) (w : World) :
    Calls Try.prog 12 #[.int .u64 x] w fun e w' => e = .returned (.string ⟨(digs x.toNat).toArray⟩) ∧ Below w.heap.size w w' := by
  obtain ⟨n, rfl⟩ := Int.eq_ofNat_of_zero_le h0
  rw [Int.toNat_natCast]
  exact print_any n h1 w
theorem width_int (x : Int) (h0 : 0 ≤ x) (h1 : x ≤ 18446744073709551615) (w : World) :
    Calls Try.prog 13 #[.int .u64 x] w fun e w' => e = .returned (.int .i64 (digs x.toNat).length) ∧ Below w.heap.size w w' := by
  obtain ⟨n, rfl⟩ := Int.eq_ofNat_of_zero_le h0
  rw [Int.toNat_natCast]
  exact width_any n h1 w
theorem refprint_int (x : Int) (h0 : 0 ≤ x) (h1 : x ≤ 18446744073709551615) (w : World) :
    Calls Try.prog 10 #[.int .u64 x] w fun e w' => e = .returned (.string ⟨(digs x.toNat).toArray⟩) ∧ w = w' := by
  obtain ⟨n, rfl⟩ := Int.eq_ofNat_of_zero_le h0
  rw [Int.toNat_natCast]
  exact refprint_any n h1 w

theorem shr_in (x : Int) (k : Nat) (h0 : 0 ≤ x) (h1 : x ≤ 18446744073709551615) : 0 ≤ x / 2 ^ k ∧ x / 2 ^ k ≤ 18446744073709551615 :=
  ⟨Int.ediv_nonneg h0 (Int.pow_nonneg (by omega)), Int.le_trans (Int.ediv_le_self _ h0) h1⟩

theorem size_mk (l : List UInt8) : (ByteArray.mk l.toArray).size = l.length := by simp [ByteArray.size]

theorem parse_list (l : List UInt8) (hl : l.length ≤ 9223372036854775807) (w : World) :
    Calls Try.prog 14 #[.string ⟨l.toArray⟩] w fun e w' => e = .returned (.tuple #[.int .u64 (parse l).1, .int .u16 (parse l).2]) ∧ w = w' := by
  have h := parse_any ⟨l.toArray⟩ (by simpa [ByteArray.size] using hl) w
  simpa using h
end Go.Proofs.Yteeckdfgpijapaa.dig
