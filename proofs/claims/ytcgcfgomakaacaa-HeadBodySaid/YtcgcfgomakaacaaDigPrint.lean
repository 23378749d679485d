/- the contracts of what prints numbers, at any number. -/
import Derived.Test.YtcgcfgomakaacaaDigWalkB
import Derived.Test.YtcgcfgomakaacaaDigWalkC
namespace Go.Proofs.Ytcgcfgomakaacaa.dig
open Go.RowKit
open Go.Proofs.Ytcgcfgomakaacaa.aid

theorem print_int (x : Int) (h0 : 0 ≤ x) (h1 : x ≤ 18446744073709551615) (w : World) :
    Calls Try.prog 27 #[.int .u64 x] w fun e w' => e = .returned (.string ⟨(digs x.toNat).toArray⟩) ∧ Below w.heap.size w w' := by
  obtain ⟨n, rfl⟩ := Int.eq_ofNat_of_zero_le h0
  rw [Int.toNat_natCast]
  exact print_any n h1 w
theorem refprint_int (x : Int) (h0 : 0 ≤ x) (h1 : x ≤ 18446744073709551615) (w : World) :
    Calls Try.prog 28 #[.int .u64 x] w fun e w' => e = .returned (.string ⟨(digs x.toNat).toArray⟩) ∧ w = w' := by
  obtain ⟨n, rfl⟩ := Int.eq_ofNat_of_zero_le h0
  rw [Int.toNat_natCast]
  exact refprint_any n h1 w

theorem size_mk (l : List UInt8) : (ByteArray.mk l.toArray).size = l.length := by simp [ByteArray.size]
end Go.Proofs.Ytcgcfgomakaacaa.dig
