/- words.Split of what is too long; of anything. -/
import Derived.Test.YtnfkeaplglknlaaWordsSplit
namespace Go.Proofs.Ytnfkeaplglknlaa.words
open Go.RowKit
open Go.Proofs.Ytnfkeaplglknlaa.aid

set_option maxHeartbeats 1000000 in
theorem split_long (l : List UInt8) (A : Option Addr) (c : Nat) (hl : 1048576 < l.length) (w : World) :
    Calls Try.prog 12 #[.slice A l.length c] w (SplitPost l w) := by
  have hl' : (1048576 : Int) < l.length := by omega
  have hsp : split l = ⟨[], 21, 0, 0⟩ := by unfold split; rw [if_pos hl]
  go_enter Try.func12, Try.ntmps12
  go_wp2_with fail
  go_step3
  have hbx : Blk ((w.alloc (.cells #[.slice A l.length c] 22)).alloc (.cells #[.int .i64 0, .int .i64 0] 31)) (w.heap.size + 1) 31 #[.int .i64 0, .int .i64 0] := by
    have h := Blk.new (w.alloc (.cells #[.slice A l.length c] 22)) 31 #[.int .i64 0, .int .i64 0]
    simpa using h
  have c0 := hbx.cell 0
  have c1 := hbx.cell 1
  have p0 := hbx.frozen 0
  have p1 := hbx.frozen 1
  simp only [List.getElem?_toArray, List.getElem?_cons_zero, List.getElem?_cons_succ] at c0 c1
  go_wp2_with fail
  simp only [Exit.noGoto]
  refine bodyPost_ret (v := .tuple #[.slice none 0 0, .int .u16 21, .agg #[.int .i64 0, .int .i64 0]]) (by simp [results, Try.results12, go_sem, c0, c1]) rfl ?_
  refine ⟨.slice none 0 0, ?_, ?_, ?_⟩
  · rw [hsp]
    rfl
  · rw [hsp]
    exact Rws.nil_ _
  · exact ((Below.refl _ _).alloc (Nat.le_refl _) _).alloc (by simp) _
theorem split_any (l : List UInt8) (A : Option Addr) (c : Nat) (hc : l.length ≤ c) (w : World) (hr : Row w w.heap.size A (u8s l)) :
    Calls Try.prog 12 #[.slice A l.length c] w (SplitPost l w) := by
  rcases Nat.lt_or_ge 1048576 l.length with h | h
  · exact split_long l A c h w
  · exact split_short l A c hc h w hr
end Go.Proofs.Ytnfkeaplglknlaa.words
