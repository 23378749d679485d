/- head.Render, walked: all codes together. -/
import Derived.Test.YtcgcfgomakaacaaHeadRender
import Derived.Test.YtcgcfgomakaacaaHeadRenderB
namespace Go.Proofs.Ytcgcfgomakaacaa.head
open Go.RowKit
open Go.Proofs.Ytcgcfgomakaacaa.aid

set_option maxHeartbeats 400000 in
theorem render_0 (code err limit left reset after nanos many : Int) (retry : Bool) (n c : Nat) (A : Option Addr) (w : World) (hcode : code ≠ 1 ∧ code ≠ 2 ∧ code ≠ 3 ∧ code ≠ 4 ∧ code ≠ 5 ∧ code ≠ 6 ∧ code ≠ 7 ∧ code ≠ 8) :
    Calls Try.prog 15 #[.agg #[.int .u8 code, .int .u16 err, .int .u64 limit, .int .u64 left, .int .u64 reset, .int .u64 after, .int .u64 nanos, .bool retry, .int .i64 many, .slice A n c]] w
      (Bytes [] w) := by
  have HS := Lib.hid (fun W => status_any code W)
  rw [status_none hcode, show str [] = .string ⟨#[]⟩ from rfl] at HS
  clear hcode
  go_enter Try.func15, Try.ntmps15
  go_wp2_with fail
  refine (HS.out _).mono ?_
  rintro e w1 ⟨rfl, hb1⟩
  have G1 := Lib.hid (((Below.refl w.heap.size w).alloc (Nat.le_refl _) _).trans (hb1.mono (by simp)))
  clear hb1
  go_wp2_with fail
  go_ret
  exact ⟨none, 0, rfl, Nat.le_refl _, Row.nil_, G1.out⟩

theorem bytes_eq {l l' : List UInt8} {w : World} {e : Ending} {w' : World} (h : Bytes l w e w') (hl : l = l') : Bytes l' w e w' := by
  subst hl
  exact h
theorem render_any (a : Ans) (hF : Fine a) (A : Option Addr) (c : Nat) (w : World) (hr : Row w w.heap.size A (u8s a.body)) :
    Calls Try.prog 15 #[ansV a A c] w (Bytes (render a) w) := by
  obtain ⟨code, err, limit, left, reset, after, nanos, retry, many, body⟩ := a
  obtain ⟨h0, h1, h2, h3, h4, h5, h6, h7, h8⟩ := hF
  simp only at h0 h1 h2 h3 h4 h5 h6 h7 h8 hr
  rcases code_cases code with h | h
  · rcases h with rfl | rfl | rfl | rfl | rfl | rfl | rfl | rfl
    · exact (render_1 err limit left reset after nanos many retry body c A w hr h8 h2 h3 h4 h5 h6 h1).mono fun e w' h => bytes_eq h (by rw [render_some (.inl rfl)]; simp [status, fields, tail, linesOf])
    · cases retry
      · exact (render_2f err limit left reset after nanos many body c A w hr h8 h2 h3 h4 h5 h6 h1).mono fun e w' h => bytes_eq h (by rw [render_some (.inr (.inl rfl))]; simp [status, fields, tail, linesOf])
      · exact (render_2t err limit left reset after nanos many body c A w hr h8 h2 h3 h4 h5 h6 h1).mono fun e w' h => bytes_eq h (by rw [render_some (.inr (.inl rfl))]; simp [status, fields, tail, linesOf])
    · exact (render_3 err limit left reset after nanos many retry body c A w hr h8 h2 h3 h4 h5 h6 h1).mono fun e w' h => bytes_eq h (by rw [render_some (by simp [isCode])]; simp [status, fields, tail, linesOf])
    · exact (render_4 err limit left reset after nanos many retry body c A w hr h8 h2 h3 h4 h5 h6 h1).mono fun e w' h => bytes_eq h (by rw [render_some (by simp [isCode])]; simp [status, fields, tail, linesOf])
    · exact (render_5 err limit left reset after nanos many retry body c A w hr h8 h2 h3 h4 h5 h6 h1).mono fun e w' h => bytes_eq h (by rw [render_some (by simp [isCode])]; simp [status, fields, tail, linesOf])
    · by_cases hm : 0 ≤ many
      · exact (render_6p err limit left reset after nanos many retry body c A w hr h8 h2 h3 h4 h5 h6 h1 hm h7.2).mono fun e w' h => bytes_eq h (by rw [render_some (by simp [isCode])]; simp [status, fields, tail, linesOf, Int.max_eq_right hm])
      · have hz : max 0 many = 0 := by omega
        exact (render_6n err limit left reset after nanos many retry body c A w hr h8 h2 h3 h4 h5 h6 h1 (by omega)).mono fun e w' h => bytes_eq h (by rw [render_some (by simp [isCode])]; simp [status, fields, tail, linesOf, hz])
    · exact (render_7 err limit left reset after nanos many retry body c A w hr h8 h2 h3 h4 h5 h6 h1).mono fun e w' h => bytes_eq h (by rw [render_some (by simp [isCode])]; simp [status, fields, tail, linesOf])
    · exact (render_8 err limit left reset after nanos many retry body c A w hr h8 h2 h3 h4 h5 h6 h1).mono fun e w' h => bytes_eq h (by rw [render_some (by simp [isCode])]; simp [status, fields, tail, linesOf])
  · have hn : ¬ isCode code := by unfold isCode; omega
    exact (render_0 code err limit left reset after nanos many retry body.length c A w h).mono fun e w' h => bytes_eq h (render_none hn).symm
end Go.Proofs.Ytcgcfgomakaacaa.head
