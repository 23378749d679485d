/- the reference's Render, walked: all codes together. -/
import Derived.Test.YtcgcfgomakaacaaHeadRefRender
import Derived.Test.YtcgcfgomakaacaaHeadRefRenderB
import Derived.Test.YtcgcfgomakaacaaHeadRenderC
namespace Go.Proofs.Ytcgcfgomakaacaa.head
open Go.RowKit
open Go.Proofs.Ytcgcfgomakaacaa.aid

set_option maxHeartbeats 400000 in
theorem refrender_0 (code err limit left reset after nanos many : Int) (retry : Bool) (n c : Nat) (A : Option Addr) (w : World) (hcode : code ≠ 1 ∧ code ≠ 2 ∧ code ≠ 3 ∧ code ≠ 4 ∧ code ≠ 5 ∧ code ≠ 6 ∧ code ≠ 7 ∧ code ≠ 8) :
    Calls Try.prog 17 #[.agg #[.int .u8 code, .int .u16 err, .int .u64 limit, .int .u64 left, .int .u64 reset, .int .u64 after, .int .u64 nanos, .bool retry, .int .i64 many, .slice A n c]] w
      (Bytes [] w) := by
  have HS := Lib.hid (fun W => refstatus_any code W)
  rw [status_none hcode, show str [] = .string ⟨#[]⟩ from rfl] at HS
  clear hcode
  go_enter Try.func17, Try.ntmps17
  go_wp2_with fail
  refine (HS.out _).mono ?_
  rintro e w1 ⟨rfl, rfl⟩
  go_wp2_with fail
  go_ret
  exact ⟨none, 0, rfl, Nat.le_refl _, Row.nil_, (Below.refl _ _).alloc (Nat.le_refl _) _⟩

theorem refrender_any (a : Ans) (hF : Fine a) (A : Option Addr) (c : Nat) (hc : a.body.length ≤ c) (w : World) (hr : Row w w.heap.size A (u8s a.body)) :
    Calls Try.prog 17 #[ansV a A c] w (Bytes (render a) w) := by
  obtain ⟨code, err, limit, left, reset, after, nanos, retry, many, body⟩ := a
  obtain ⟨h0, h1, h2, h3, h4, h5, h6, h7, h8⟩ := hF
  simp only at h0 h1 h2 h3 h4 h5 h6 h7 h8 hr hc
  rcases code_cases code with h | h
  · rcases h with rfl | rfl | rfl | rfl | rfl | rfl | rfl | rfl
    · exact (refrender_1 err limit left reset after nanos many retry body c A w hr h8 hc h2 h3 h4 h5 h6 h1).mono fun e w' h => bytes_eq h (by rw [render_some (by simp [isCode])]; simp [status, fields, tail, linesOf])
    · cases retry
      · exact (refrender_2f err limit left reset after nanos many body c A w hr h8 hc h2 h3 h4 h5 h6 h1).mono fun e w' h => bytes_eq h (by rw [render_some (by simp [isCode])]; simp [status, fields, tail, linesOf])
      · exact (refrender_2t err limit left reset after nanos many body c A w hr h8 hc h2 h3 h4 h5 h6 h1).mono fun e w' h => bytes_eq h (by rw [render_some (by simp [isCode])]; simp [status, fields, tail, linesOf])
    · exact (refrender_3 err limit left reset after nanos many retry body c A w hr h8 hc h2 h3 h4 h5 h6 h1).mono fun e w' h => bytes_eq h (by rw [render_some (by simp [isCode])]; simp [status, fields, tail, linesOf])
    · exact (refrender_4 err limit left reset after nanos many retry body c A w hr h8 hc h2 h3 h4 h5 h6 h1).mono fun e w' h => bytes_eq h (by rw [render_some (by simp [isCode])]; simp [status, fields, tail, linesOf])
    · exact (refrender_5 err limit left reset after nanos many retry body c A w hr h8 hc h2 h3 h4 h5 h6 h1).mono fun e w' h => bytes_eq h (by rw [render_some (by simp [isCode])]; simp [status, fields, tail, linesOf])
    · by_cases hm : 0 < many
      · have hx : max 0 many = many := by omega
        exact (refrender_6p err limit left reset after nanos many retry body c A w hr h8 hc h2 h3 h4 h5 h6 h1 hm h7.2).mono fun e w' h => bytes_eq h (by rw [render_some (by simp [isCode])]; simp [status, fields, tail, linesOf, hx])
      · have hx : max 0 many = 0 := by omega
        exact (refrender_6n err limit left reset after nanos many retry body c A w hr h8 hc h2 h3 h4 h5 h6 h1 (by omega)).mono fun e w' h => bytes_eq h (by rw [render_some (by simp [isCode])]; simp [status, fields, tail, linesOf, hx])
    · exact (refrender_7 err limit left reset after nanos many retry body c A w hr h8 hc h2 h3 h4 h5 h6 h1).mono fun e w' h => bytes_eq h (by rw [render_some (by simp [isCode])]; simp [status, fields, tail, linesOf])
    · exact (refrender_8 err limit left reset after nanos many retry body c A w hr h8 hc h2 h3 h4 h5 h6 h1).mono fun e w' h => bytes_eq h (by rw [render_some (by simp [isCode])]; simp [status, fields, tail, linesOf])
  · have hn : ¬ isCode code := by unfold isCode; omega
    exact (refrender_0 code err limit left reset after nanos many retry body.length c A w h).mono fun e w' h => bytes_eq h (render_none hn).symm
end Go.Proofs.Ytcgcfgomakaacaa.head
