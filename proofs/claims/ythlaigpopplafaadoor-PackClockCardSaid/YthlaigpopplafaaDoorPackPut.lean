/- pack.put, walked. -/
import Derived.Test.YthlaigpopplafaaDoorRow
import Derived.Test.YthlaigpopplafaaDoorPackPlain
import Derived.LoopTactic
namespace Go.Proofs.YthlaigpopplafaaDoor.pack
open Go.RowKit
open Go.Proofs.YthlaigpopplafaaDoor.aid

/-- the eight bytes, the last k of them laid -/
def cb (n k j : Nat) : Value := if j < k then .int .u8 ((n / 256 ^ j % 256 : Nat) : Int) else .int .u8 0
def cells8 (n k : Nat) : Array Value := #[cb n k 7, cb n k 6, cb n k 5, cb n k 4, cb n k 3, cb n k 2, cb n k 1, cb n k 0]
theorem cells8_new (n : Nat) : cells8 n 0 = #[.int .u8 0, .int .u8 0, .int .u8 0, .int .u8 0, .int .u8 0, .int .u8 0, .int .u8 0, .int .u8 0] := by simp [cells8, cb]

set_option maxHeartbeats 1000000 in
theorem put_blk (n : Nat) (hn : n < 18446744073709551616) (m : Nat) (hm : m = 4 ∨ m = 8) (w : World) :
    Calls Tryd.prog 31 #[.int .u64 n, .int .i64 m] w fun e w' => e = .returned (.slice (some ⟨w.heap.size, 8 - m, none⟩) m m) ∧ Blk w' w.heap.size 90 (cells8 n 8) ∧ Below w.heap.size w w' := by
  go_enter Tryd.func31, Tryd.ntmps31
  go_wp2
  go_loopw [7] (fun i wr => ∃ k : Nat, k ≤ 8 ∧ i = .int .i64 k ∧ Blk wr w.heap.size 90 (cells8 n k) ∧ Below w.heap.size w wr) (fun i _ => 8 - (intOf i).toNat)
  case atStart => exact ⟨0, by omega, rfl, by rw [cells8_new]; exact Blk.new w _ _, (Below.refl _ _).alloc (Nat.le_refl _) _⟩
  case round =>
    obtain ⟨k, hk, rfl, hb, hB⟩ := hrel
    have hcase : k = 0 ∨ k = 1 ∨ k = 2 ∨ k = 3 ∨ k = 4 ∨ k = 5 ∨ k = 6 ∨ k = 7 ∨ k = 8 := by omega
    rcases hcase with rfl | rfl | rfl | rfl | rfl | rfl | rfl | rfl | rfl
    · have c7 : wr.cell? ⟨w.heap.size, 7, none⟩ = some (.int .u8 0) := by simpa [cells8, cb] using hb.cell 7
      have f7 := hb.frozen 7
      have HB := Lib.hid hb
      clear hb
      go_wp2
      refine ⟨⟨1, by omega, rfl, ?_, hB.setCell (by simp) _⟩, by simp [intOf]⟩
      have h := HB.out.set_ 7 (.int .u8 ((n / 256 ^ 0 % 256 : Nat) : Int))
      rw [show (cells8 n 0).setIfInBounds 7 (.int .u8 ((n / 256 ^ 0 % 256 : Nat) : Int)) = cells8 n 1 from by simp [cells8, cb]] at h
      rw [show ((n / 256 ^ 0 % 256 : Nat) : Int) = (n : Int) % 256 from by simp only [Nat.reducePow]; omega] at h
      exact h
    · have c7 : wr.cell? ⟨w.heap.size, 6, none⟩ = some (.int .u8 0) := by simpa [cells8, cb] using hb.cell 6
      have f7 := hb.frozen 6
      have HB := Lib.hid hb
      clear hb
      go_wp2
      refine ⟨⟨2, by omega, rfl, ?_, hB.setCell (by simp) _⟩, by simp [intOf]⟩
      have h := HB.out.set_ 6 (.int .u8 ((n / 256 ^ 1 % 256 : Nat) : Int))
      rw [show (cells8 n 1).setIfInBounds 6 (.int .u8 ((n / 256 ^ 1 % 256 : Nat) : Int)) = cells8 n 2 from by simp [cells8, cb]] at h
      rw [show ((n / 256 ^ 1 % 256 : Nat) : Int) = (n : Int) / 256 % 256 from by simp only [Nat.reducePow]; omega] at h
      exact h
    · have c7 : wr.cell? ⟨w.heap.size, 5, none⟩ = some (.int .u8 0) := by simpa [cells8, cb] using hb.cell 5
      have f7 := hb.frozen 5
      have HB := Lib.hid hb
      clear hb
      go_wp2
      refine ⟨⟨3, by omega, rfl, ?_, hB.setCell (by simp) _⟩, by simp [intOf]⟩
      have h := HB.out.set_ 5 (.int .u8 ((n / 256 ^ 2 % 256 : Nat) : Int))
      rw [show (cells8 n 2).setIfInBounds 5 (.int .u8 ((n / 256 ^ 2 % 256 : Nat) : Int)) = cells8 n 3 from by simp [cells8, cb]] at h
      rw [show ((n / 256 ^ 2 % 256 : Nat) : Int) = (n : Int) / 65536 % 256 from by simp only [Nat.reducePow]; omega] at h
      exact h
    · have c7 : wr.cell? ⟨w.heap.size, 4, none⟩ = some (.int .u8 0) := by simpa [cells8, cb] using hb.cell 4
      have f7 := hb.frozen 4
      have HB := Lib.hid hb
      clear hb
      go_wp2
      refine ⟨⟨4, by omega, rfl, ?_, hB.setCell (by simp) _⟩, by simp [intOf]⟩
      have h := HB.out.set_ 4 (.int .u8 ((n / 256 ^ 3 % 256 : Nat) : Int))
      rw [show (cells8 n 3).setIfInBounds 4 (.int .u8 ((n / 256 ^ 3 % 256 : Nat) : Int)) = cells8 n 4 from by simp [cells8, cb]] at h
      rw [show ((n / 256 ^ 3 % 256 : Nat) : Int) = (n : Int) / 16777216 % 256 from by simp only [Nat.reducePow]; omega] at h
      exact h
    · have c7 : wr.cell? ⟨w.heap.size, 3, none⟩ = some (.int .u8 0) := by simpa [cells8, cb] using hb.cell 3
      have f7 := hb.frozen 3
      have HB := Lib.hid hb
      clear hb
      go_wp2
      refine ⟨⟨5, by omega, rfl, ?_, hB.setCell (by simp) _⟩, by simp [intOf]⟩
      have h := HB.out.set_ 3 (.int .u8 ((n / 256 ^ 4 % 256 : Nat) : Int))
      rw [show (cells8 n 4).setIfInBounds 3 (.int .u8 ((n / 256 ^ 4 % 256 : Nat) : Int)) = cells8 n 5 from by simp [cells8, cb]] at h
      rw [show ((n / 256 ^ 4 % 256 : Nat) : Int) = (n : Int) / 4294967296 % 256 from by simp only [Nat.reducePow]; omega] at h
      exact h
    · have c7 : wr.cell? ⟨w.heap.size, 2, none⟩ = some (.int .u8 0) := by simpa [cells8, cb] using hb.cell 2
      have f7 := hb.frozen 2
      have HB := Lib.hid hb
      clear hb
      go_wp2
      refine ⟨⟨6, by omega, rfl, ?_, hB.setCell (by simp) _⟩, by simp [intOf]⟩
      have h := HB.out.set_ 2 (.int .u8 ((n / 256 ^ 5 % 256 : Nat) : Int))
      rw [show (cells8 n 5).setIfInBounds 2 (.int .u8 ((n / 256 ^ 5 % 256 : Nat) : Int)) = cells8 n 6 from by simp [cells8, cb]] at h
      rw [show ((n / 256 ^ 5 % 256 : Nat) : Int) = (n : Int) / 1099511627776 % 256 from by simp only [Nat.reducePow]; omega] at h
      exact h
    · have c7 : wr.cell? ⟨w.heap.size, 1, none⟩ = some (.int .u8 0) := by simpa [cells8, cb] using hb.cell 1
      have f7 := hb.frozen 1
      have HB := Lib.hid hb
      clear hb
      go_wp2
      refine ⟨⟨7, by omega, rfl, ?_, hB.setCell (by simp) _⟩, by simp [intOf]⟩
      have h := HB.out.set_ 1 (.int .u8 ((n / 256 ^ 6 % 256 : Nat) : Int))
      rw [show (cells8 n 6).setIfInBounds 1 (.int .u8 ((n / 256 ^ 6 % 256 : Nat) : Int)) = cells8 n 7 from by simp [cells8, cb]] at h
      rw [show ((n / 256 ^ 6 % 256 : Nat) : Int) = (n : Int) / 281474976710656 % 256 from by simp only [Nat.reducePow]; omega] at h
      exact h
    · have c7 : wr.cell? ⟨w.heap.size, 0, none⟩ = some (.int .u8 0) := by simpa [cells8, cb] using hb.cell 0
      have f7 := hb.frozen 0
      have HB := Lib.hid hb
      clear hb
      go_wp2
      refine ⟨⟨8, by omega, rfl, ?_, hB.setCell (by simp) _⟩, by simp [intOf]⟩
      have h := HB.out.set_ 0 (.int .u8 ((n / 256 ^ 7 % 256 : Nat) : Int))
      rw [show (cells8 n 7).setIfInBounds 0 (.int .u8 ((n / 256 ^ 7 % 256 : Nat) : Int)) = cells8 n 8 from by simp [cells8, cb]] at h
      rw [show ((n / 256 ^ 7 % 256 : Nat) : Int) = (n : Int) / 72057594037927936 from by simp only [Nat.reducePow]; omega] at h
      exact h
    · rcases hm with rfl | rfl
      all_goals
        have HB := Lib.hid hb
        clear hb
        go_wp2
        go_ret
        exact ⟨rfl, HB.out, hB⟩
theorem cells8_row (n m : Nat) (hm : m ≤ 8) : ((cells8 n 8).toList.drop (8 - m)) = u8s (be n m) := by
  have e : ∀ j, j < 8 → cb n 8 j = .int .u8 (((UInt8.ofNat (n / 256 ^ j)).toNat : Nat) : Int) := fun j hj => by
    unfold cb
    rw [if_pos hj]
    simp
  have hcase : m = 0 ∨ m = 1 ∨ m = 2 ∨ m = 3 ∨ m = 4 ∨ m = 5 ∨ m = 6 ∨ m = 7 ∨ m = 8 := by omega
  simp only [cells8, e 0 (by omega), e 1 (by omega), e 2 (by omega), e 3 (by omega), e 4 (by omega), e 5 (by omega), e 6 (by omega), e 7 (by omega)]
  rcases hcase with rfl | rfl | rfl | rfl | rfl | rfl | rfl | rfl | rfl <;> rfl
theorem put_any (n : Nat) (hn : n < 18446744073709551616) (m : Nat) (hm : m = 4 ∨ m = 8) (w : World) :
    Calls Tryd.prog 31 #[.int .u64 n, .int .i64 m] w fun e w' => e = .returned (.slice (some ⟨w.heap.size, 8 - m, none⟩) m m) ∧ Row w' w'.heap.size (some ⟨w.heap.size, 8 - m, none⟩) (u8s (be n m)) ∧ Below w.heap.size w w' :=
  (put_blk n hn m hm w).mono fun e w' ⟨h1, h2, h3⟩ => ⟨h1, fun _ => ⟨_, _, rfl, h2.lt, fun j v hv => by
    rw [h2.cell, ← hv, ← cells8_row n m (by omega), List.getElem?_drop]
    simp⟩, h3⟩
end Go.Proofs.YthlaigpopplafaaDoor.pack
