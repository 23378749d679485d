/- back.number, back.code: a line's number, a status line's code. -/
import Derived.Test.YtalehfdcebabnaaBackLines
import Derived.Test.YtalehfdcebabnaaHeadStatus
import Derived.Test.YtalehfdcebabnaaDigRead
namespace Go.Proofs.Ytalehfdcebabnaa.back
open Go.RowKit Go.Shelf
open Go.Proofs.Ytalehfdcebabnaa.head
open Go.Proofs.Ytalehfdcebabnaa.aid

theorem number_any (s : List UInt8) (hs : s.length < 4294967281) (m : Int) (w : World) (hm : w.cell? ⟨0, 0, none⟩ = some (.int .i64 m)) :
    Calls Try.prog 18 #[.string ⟨s.toArray⟩] w fun e w' => e = .returned (.tuple #[.string ⟨(Lib.cut s colon).1.toArray⟩, .int .u64 (dig.parse (Lib.cut s colon).2.1).1, .bool ((Lib.cut s colon).2.2 && (dig.parse (Lib.cut s colon).2.1).2 == 0)]) ∧ Below w.heap.size w w' := by
  have hC := cut_calls s 58 32 hs m w hm
  change Calls _ _ _ _ (fun e w' => e = .returned (.tuple #[.string ⟨(Lib.cut s colon).1.toArray⟩, .string ⟨(Lib.cut s colon).2.1.toArray⟩, .bool (Lib.cut s colon).2.2]) ∧ ∃ n, w' = w.drewN n) at hC
  have HC := Lib.hid hC
  have hle := (cut_le s colon).2
  clear hC hm
  generalize Lib.cut s colon = cu at *
  obtain ⟨a, r, f⟩ := cu
  simp only at hle
  have hP := dig.parse_list r (by omega)
  have hb := dig.parse_bnd r
  generalize dig.parse r = pr at *
  obtain ⟨n, e⟩ := pr
  have HP := Lib.hid hP
  clear hP hle
  simp only at hb
  have hcase : f = false ∨ f = true ∧ (e = 0 ∨ ((e : Int) == 0) = false ∧ (e == 0) = false) := by
    cases f
    · exact .inl rfl
    · refine .inr ⟨rfl, ?_⟩
      by_cases h : e = 0
      · exact .inl h
      · refine .inr ⟨by simp; omega, by simp [h]⟩
  rcases hcase with rfl | ⟨rfl, rfl | ⟨h1, h2⟩⟩
  · go_enter Try.func18, Try.ntmps18
    go_wp2_with fail
    refine HC.out.mono ?_
    rintro e1 w1 ⟨rfl, k, rfl⟩
    go_wp2_with fail
    refine (HP.out _).mono ?_
    rintro e1 w1 ⟨rfl, rfl⟩
    go_wp2_with fail
    go_ret3
    exact ⟨rfl, below_drewN (Below.refl _ _) _⟩
  · go_enter Try.func18, Try.ntmps18
    go_wp2_with fail
    refine HC.out.mono ?_
    rintro e1 w1 ⟨rfl, k, rfl⟩
    go_wp2_with fail
    refine (HP.out _).mono ?_
    rintro e1 w1 ⟨rfl, rfl⟩
    go_wp2_with fail
    go_ret3
    exact ⟨rfl, below_drewN (Below.refl _ _) _⟩
  · go_enter Try.func18, Try.ntmps18
    go_wp2_with fail
    refine HC.out.mono ?_
    rintro e1 w1 ⟨rfl, k, rfl⟩
    go_wp2_with fail
    refine (HP.out _).mono ?_
    rintro e1 w1 ⟨rfl, rfl⟩
    go_wp2_with fail
    go_ret3
    rw [h2]
    exact ⟨rfl, below_drewN (Below.refl _ _) _⟩
end Go.Proofs.Ytalehfdcebabnaa.back
