/- the laws' own helpers, walked: the chapter's examples, and two readers held against each other. -/
import Derived.Test.YteeckdfgpijapaaDigWalkB
import Derived.Test.YteeckdfgpijapaaDigWalkC
import Derived.Test.YteeckdfgpijapaaDigWalkD
import Derived.Test.YteeckdfgpijapaaDigWalkE
namespace Go.Proofs.Yteeckdfgpijapaa.dig
open Go.RowKit
open Go.Proofs.Yteeckdfgpijapaa.aid

set_option maxHeartbeats 400000 in
theorem known_any (w : World) :
    Calls Try.prog 9 #[] w fun e w' => e = .returned (.bool true) ∧ Below w.heap.size w w' := by
  go_enter Try.func9, Try.ntmps9
  go_wp2_with fail
  refine (parse_any _ (by decide) _).mono ?_
  rintro e w' ⟨rfl, rfl⟩
  rw [show parse _ = (18446744073709551615, 0) from by decide +kernel]
  go_wp2_with fail
  refine (parse_any _ (by decide) _).mono ?_
  rintro e w' ⟨rfl, rfl⟩
  rw [show parse _ = (0, 10) from by decide +kernel]
  go_wp2_with fail
  refine (parse_any _ (by decide) _).mono ?_
  rintro e w' ⟨rfl, rfl⟩
  rw [show parse _ = (0, 11) from by decide +kernel]
  go_wp2_with fail
  refine (print_any 0 (by decide) _).mono ?_
  rintro e w1 ⟨rfl, hb1⟩
  rw [show digs 0 = [48] from by decide +kernel]
  go_wp2_with fail
  refine (width_any 18446744073709551615 (by decide) _).mono ?_
  rintro e w2 ⟨rfl, hb2⟩
  rw [show (digs 18446744073709551615).length = 20 from by decide +kernel]
  go_wp2_with fail
  go_ret
  exact ⟨rfl, hb1.trans (hb2.mono hb1.size)⟩

theorem parse_bnd (l : List UInt8) : (0 : Int) ≤ ((parse l).2 : Int) ∧ ((parse l).2 : Int) ≤ 11 := by
  have := parse_err l
  omega

set_option maxHeartbeats 400000 in
theorem asks_any (s : ByteArray) (hs : s.size ≤ 9223372036854775807) (w : World) :
    Calls Try.prog 11 #[.string s] w fun e w' => e = .returned (.bool true) ∧ w = w' := by
  obtain ⟨hb1, hb2⟩ := parse_bnd s.data.toList
  go_enter Try.func11, Try.ntmps11
  go_wp2_with fail
  refine (parse_any s hs _).mono ?_
  rintro e w' ⟨rfl, rfl⟩
  go_wp2_with fail
  refine (refparse_any s hs _).mono ?_
  rintro e w' ⟨rfl, rfl⟩
  go_wp2_with fail
  go_ret
  exact ⟨rfl, rfl⟩
end Go.Proofs.Yteeckdfgpijapaa.dig
