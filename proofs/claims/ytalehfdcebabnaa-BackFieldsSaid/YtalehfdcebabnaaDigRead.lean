/- the contract of what reads numbers. -/
import Derived.Test.YtalehfdcebabnaaDigWalkD
namespace Go.Proofs.Ytalehfdcebabnaa.dig
open Go.RowKit
open Go.Proofs.Ytalehfdcebabnaa.aid

theorem parse_bnd (l : List UInt8) : (0 : Int) ≤ ((parse l).2 : Int) ∧ ((parse l).2 : Int) ≤ 11 := by
  have := parse_err l
  omega
theorem parse_list (l : List UInt8) (hl : l.length ≤ 9223372036854775807) (w : World) :
    Calls Try.prog 16 #[.string ⟨l.toArray⟩] w fun e w' => e = .returned (.tuple #[.int .u64 (parse l).1, .int .u16 (parse l).2]) ∧ w = w' := by
  have h := parse_any ⟨l.toArray⟩ (by simpa [ByteArray.size] using hl) w
  simpa using h
end Go.Proofs.Ytalehfdcebabnaa.dig
