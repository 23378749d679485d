/- the contracts of the numbers' functions, at any number. -/
import Derived.Test.YtolohhjepjefiaaDigWalkB
import Derived.Test.YtolohhjepjefiaaDigWalkC
import Derived.Test.YtolohhjepjefiaaDigWalkD
import Derived.Test.YtolohhjepjefiaaDigWalkE
namespace Go.Proofs.Ytolohhjepjefiaa.dig
open Go.RowKit
open Go.Proofs.Ytolohhjepjefiaa.aid

theorem parse_bnd (l : List UInt8) : (0 : Int) ≤ ((parse l).2 : Int) ∧ ((parse l).2 : Int) ≤ 11 := by
  have := parse_err l
  omega

theorem print_int (x : Int) (h0 : 0 ≤ x) (h1 : x ≤ 18446744073709551615) (w : World) :
    Calls Try.prog 21 #[.int .u64 x] w fun e w' => e = .returned (.string ⟨(digs x.toNat).toArray⟩) ∧ Below w.heap.size w w' := by
  obtain ⟨n, rfl⟩ := Int.eq_ofNat_of_zero_le h0
  rw [Int.toNat_natCast]
  exact print_any n h1 w
theorem refprint_int (x : Int) (h0 : 0 ≤ x) (h1 : x ≤ 18446744073709551615) (w : World) :
    Calls Try.prog 9 #[.int .u64 x] w fun e w' => e = .returned (.string ⟨(digs x.toNat).toArray⟩) ∧ w = w' := by
  obtain ⟨n, rfl⟩ := Int.eq_ofNat_of_zero_le h0
  rw [Int.toNat_natCast]
  exact refprint_any n h1 w

theorem shr_in (x : Int) (k : Nat) (h0 : 0 ≤ x) (h1 : x ≤ 18446744073709551615) : 0 ≤ x / 2 ^ k ∧ x / 2 ^ k ≤ 18446744073709551615 :=
  ⟨Int.ediv_nonneg h0 (Int.pow_nonneg (by omega)), Int.le_trans (Int.ediv_le_self _ h0) h1⟩

theorem size_mk (l : List UInt8) : (ByteArray.mk l.toArray).size = l.length := by simp [ByteArray.size]

theorem parse_list (l : List UInt8) (hl : l.length ≤ 9223372036854775807) (w : World) :
    Calls Try.prog 20 #[.string ⟨l.toArray⟩] w fun e w' => e = .returned (.tuple #[.int .u64 (parse l).1, .int .u16 (parse l).2]) ∧ w = w' := by
  have h := parse_any ⟨l.toArray⟩ (by simpa [ByteArray.size] using hl) w
  simpa using h
end Go.Proofs.Ytolohhjepjefiaa.dig
