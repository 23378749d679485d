/- head.Clean, walked: data; all codes together. -/
import Derived.Test.YtcgcfgomakaacaaHeadClean
namespace Go.Proofs.Ytcgcfgomakaacaa.head
open Go.RowKit
open Go.Proofs.Ytcgcfgomakaacaa.aid

set_option maxHeartbeats 1000000 in
theorem clean_8 (err limit left reset after nanos many : Int) (retry : Bool) (body : List UInt8) (c : Nat) (A : Option Addr) (w : World) (hr : Row w w.heap.size A (u8s body)) (hl : body.length ≤ 140737488351232) :
    Calls Try.prog 14 #[.agg #[.int .u8 8, .int .u16 err, .int .u64 limit, .int .u64 left, .int .u64 reset, .int .u64 after, .int .u64 nanos, .bool retry, .int .i64 many, .slice A body.length c]] w fun e w' =>
      ∃ A' c', e = .returned (.agg #[.int .u8 8, .int .u16 0, .int .u64 0, .int .u64 0, .int .u64 0, .int .u64 0, .int .u64 0, .bool false, .int .i64 0, .slice A' body.length c']) ∧ Copy w' w.heap.size A' c' body ∧ Below w.heap.size w w' := by
  have HS := Lib.hid (fun W => status_any 8 W)
  rw [show str (status 8) = .string b8 from rfl] at HS
  have HR := Lib.hid hr
  clear hr
  go_enter Try.func14, Try.ntmps14
  go_wp2_with fail
  refine (HS.out _).mono ?_
  rintro e w1 ⟨rfl, hb1⟩
  obtain ⟨hc, hf⟩ := bcell hb1
  have hz : w.heap.size + 1 < w1.heap.size := by have := hb1.size; simp at this; omega
  have hz0 : w.heap.size < w1.heap.size := by omega
  have g1 := (((Below.refl w.heap.size w).alloc (Nat.le_refl _) (.cells #[.int .u8 8, .int .u16 err, .int .u64 limit, .int .u64 left, .int .u64 reset, .int .u64 after, .int .u64 nanos, .bool retry, .int .i64 many, .slice A body.length c] 27)).alloc (by simp) _).trans (hb1.mono (by simp; omega))
  have HR1 := Lib.hid ((HR.out.below g1).more g1.size)
  have G1 := Lib.hid g1
  clear hb1 g1
  go_wp2_with fail
  have hB1 : Below w1.heap.size w1 (w1.alloc (.cells #[.int .u8 8, .int .u16 0, .int .u64 0, .int .u64 0, .int .u64 0, .int .u64 0, .int .u64 0, .bool false, .int .i64 0, .slice none 0 0] 27)) := (Below.refl _ _).alloc (Nat.le_refl _) _
  have HB1 := Lib.hid hB1
  clear hB1
  refine (clone_any body A c _ ((HR1.out.below HB1.out).more HB1.out.size) hl).mono ?_
  rintro e w2 ⟨A2, c2, rfl, hcp, hb2⟩
  obtain ⟨hc2, hf2⟩ := bcell hb2
  have hy : w1.heap.size < w2.heap.size := by have := hb2.size; simp at this; omega
  have hy0 : w.heap.size < w2.heap.size := by omega
  have hy1 : w.heap.size + 1 < w2.heap.size := by omega
  have G2 := Lib.hid ((G1.out.trans (HB1.out.mono G1.out.size)).trans (hb2.mono (by simp; omega)))
  have HC := Lib.hid hcp
  rw [World.size_alloc] at HC
  clear hb2 hcp HR HR1 HS
  go_wp2_with fail
  refine bodyPost_ret (v := .agg #[.int .u8 8, .int .u16 0, .int .u64 0, .int .u64 0, .int .u64 0, .int .u64 0, .int .u64 0, .bool false, .int .i64 0, .slice A2 body.length c2]) (by simp [results, Try.results14, hc, hz, hz0, hc2, hy, hy0, hy1, go_sem]) rfl ⟨A2, c2, rfl, ?_, ?_⟩
  · refine Copy.base (B := w1.heap.size + 1) ?_ (by omega)
    repeat' (first | (with_reducible exact HC.out) | (with_reducible refine Copy.setCell ?_ _ ?_ _) | (with_reducible refine Copy.alloc ?_ _))
    all_goals (simp; try omega)
  · repeat' (first | (with_reducible exact G2.out) | (with_reducible refine Below.setCell ?_ ?_ _) | (with_reducible refine Below.alloc ?_ ?_ _) | (with_reducible refine Below.drew ?_))
    all_goals (simp; try omega)

theorem clean_any (a : Ans) (hf : a.body.length ≤ 140737488351232) (A : Option Addr) (c : Nat) (w : World) (hr : Row w w.heap.size A (u8s a.body)) :
    Calls Try.prog 14 #[ansV a A c] w fun e w' => ∃ A' c', e = .returned (ansV (clean a) A' c') ∧ Copy w' w.heap.size A' c' (clean a).body ∧ Below w.heap.size w w' := by
  obtain ⟨code, err, limit, left, reset, after, nanos, retry, many, body⟩ := a
  rcases code_cases code with h | h
  · rcases h with rfl | rfl | rfl | rfl | rfl | rfl | rfl | rfl
    · exact (clean_1 err limit left reset after nanos many retry body.length c A w).mono fun e w' h => ⟨none, 0, h.1, Copy.nil_ _ _, h.2⟩
    · cases retry
      · exact (clean_2f err limit left reset after nanos many body.length c A w).mono fun e w' h => ⟨none, 0, h.1, Copy.nil_ _ _, h.2⟩
      · exact (clean_2t err limit left reset after nanos many body.length c A w).mono fun e w' h => ⟨none, 0, h.1, Copy.nil_ _ _, h.2⟩
    · exact (clean_3 err limit left reset after nanos many retry body.length c A w).mono fun e w' h => ⟨none, 0, h.1, Copy.nil_ _ _, h.2⟩
    · exact (clean_4 err limit left reset after nanos many retry body.length c A w).mono fun e w' h => ⟨none, 0, h.1, Copy.nil_ _ _, h.2⟩
    · exact (clean_5 err limit left reset after nanos many retry body.length c A w).mono fun e w' h => ⟨none, 0, h.1, Copy.nil_ _ _, h.2⟩
    · by_cases hm : 0 ≤ many
      · refine (clean_6p err limit left reset after nanos many retry body.length c A w hm).mono fun e w' h => ⟨none, 0, ?_, Copy.nil_ _ _, h.2⟩
        rw [h.1]
        simp [clean, zero, Int.max_eq_right hm]
      · refine (clean_6n err limit left reset after nanos many retry body.length c A w (by omega)).mono fun e w' h => ⟨none, 0, ?_, Copy.nil_ _ _, h.2⟩
        rw [h.1]
        have : max 0 many = 0 := by omega
        simp [clean, zero, this]
    · exact (clean_7 err limit left reset after nanos many retry body.length c A w).mono fun e w' h => ⟨none, 0, h.1, Copy.nil_ _ _, h.2⟩
    · exact clean_8 err limit left reset after nanos many retry body c A w hr hf
  · have hn : ¬ isCode code := by unfold isCode; omega
    have hc : clean ⟨code, err, limit, left, reset, after, nanos, retry, many, body⟩ = zero := clean_none hn
    refine (clean_0 code err limit left reset after nanos many retry body.length c A w h).mono fun e w' h => ⟨none, 0, ?_, ?_, h.2⟩
    · rw [hc]
      exact h.1
    · rw [hc]
      exact Copy.nil_ _ _
end Go.Proofs.Ytcgcfgomakaacaa.head
