/- tollerlaw20's known, walked. -/
import Derived.Test.YtalehfdcebabnaaBackParseW
import Derived.Test.YtalehfdcebabnaaBackFieldW
import Derived.Lib.SlBytesConst
namespace Go.Proofs.Ytalehfdcebabnaa.back
open Go.RowKit Go.Shelf
open Go.Proofs.Ytalehfdcebabnaa.head
open Go.Proofs.Ytalehfdcebabnaa.aid

theorem parse_any (s : List UInt8) (hs : s.length < 4294967281) (A : Option Addr) (c : Nat) (m : Int) (w : World) (hm : w.cell? ⟨0, 0, none⟩ = some (.int .i64 m)) (hr : Row w w.heap.size A (u8s s)) :
    Calls Try.prog 9 #[.slice A s.length c] w fun e W' => ∃ A' c', e = .returned (.tuple #[ansV (parse s).1 A' c', .int .u16 ((parse s).2 : Nat)]) ∧ (parse s).1.body.length ≤ c' ∧ Row W' W'.heap.size A' (u8s (parse s).1.body) ∧ Below w.heap.size w W' :=
  callsIn_wide.1 (parse_in 4 (Nat.le_refl _) s hs A c m w hm hr)
theorem max_below {w w' : World} {m : Int} (h : w.cell? ⟨0, 0, none⟩ = some (.int .i64 m)) (hb : Below w.heap.size w w') : w'.cell? ⟨0, 0, none⟩ = some (.int .i64 m) :=
  (hb.cell (p := ⟨0, 0, none⟩) (block_lt_of_cell h)).trans h
/-- a literal of bytes, turned into a slice -/
theorem const_row (w : World) (l : List UInt8) (C : Array Value) (m : Nat × Nat) (hC : C.toList = u8s l) : Row (w.alloc (.cells C 5 m)) (w.alloc (.cells C 5 m)).heap.size (some ⟨w.heap.size, 0, none⟩) (u8s l) := fun _ =>
  ⟨w.heap.size, 0, rfl, by simp, fun j v hv => by
    rw [Nat.zero_add]
    refine (World.cell?_alloc_mark w C 5 m j).trans ?_
    rw [← hv, ← hC]
    simp⟩
theorem bytes_const (w : World) (l : List UInt8) (C : Array Value) (hC : C.toList = u8s l) (n : Nat) (hn : n = l.length) : ∃ w', (convert 25 25 (.slice (some ⟨w.heap.size, 0, none⟩) n n)).run Try.prog (w.alloc (.cells C 5)) = .ok (.slice (some ⟨w.heap.size, 0, none⟩) n n) w' ∧
    Below w.heap.size w w' ∧ Row w' w'.heap.size (some ⟨w.heap.size, 0, none⟩) (u8s l) := by
  subst hn
  exact ⟨_, Lib.run_convert_bytes_const w 25 5 C _ _ rfl rfl, (Below.refl _ w).alloc (Nat.le_refl _) _, const_row w l C _ hC⟩
def kT1 : List UInt8 := [72, 84, 84, 80, 47, 49, 46, 49, 32, 50, 48, 52, 32, 78, 111, 32, 67, 111, 110, 116, 101, 110, 116, 13, 10, 88, 45, 67, 111, 117, 110, 116, 58, 32, 51, 13, 10, 13, 10]
def kT2 : List UInt8 := [72, 84, 84, 80, 47, 49, 46, 49, 32, 50, 48, 52, 32, 78, 111, 32, 67, 111, 110, 116, 101, 110, 116, 13, 10, 88, 45, 67, 111, 117, 110, 116, 58, 32, 48, 51, 13, 10, 13, 10]
def kT3 : List UInt8 := [120, 13, 10, 97, 58, 32, 49, 13, 10, 98, 58, 32, 50, 13, 10, 13, 10]
theorem kp1 : parse kT1 = (⟨6, 0, 0, 0, 0, 0, 0, false, 3, []⟩, 0) := by kernel_rfl
theorem kp2 : parse kT2 = (zero, 60) := by kernel_rfl
theorem kp3 : field kT3 [98] = some 2 := by kernel_rfl
set_option maxHeartbeats 8000000 in
set_option maxRecDepth 100000 in
theorem known_any (m : Int) (w : World) (hm : w.cell? ⟨0, 0, none⟩ = some (.int .i64 m)) : Calls Try.prog 6 #[] w fun e w' => e = .returned (.bool true) ∧ Below w.heap.size w w' := by
  have HM := Lib.hid hm
  obtain ⟨w1, hr1, hb1, hrow1⟩ := bytes_const w kT1 #[.int .u8 72, .int .u8 84, .int .u8 84, .int .u8 80, .int .u8 47, .int .u8 49, .int .u8 46, .int .u8 49, .int .u8 32, .int .u8 50, .int .u8 48, .int .u8 52, .int .u8 32, .int .u8 78, .int .u8 111, .int .u8 32, .int .u8 67, .int .u8 111, .int .u8 110, .int .u8 116, .int .u8 101, .int .u8 110, .int .u8 116, .int .u8 13, .int .u8 10, .int .u8 88, .int .u8 45, .int .u8 67, .int .u8 111, .int .u8 117, .int .u8 110, .int .u8 116, .int .u8 58, .int .u8 32, .int .u8 51, .int .u8 13, .int .u8 10, .int .u8 13, .int .u8 10] rfl 39 rfl
  have HR1 := Lib.hid hrow1
  have HB1 := Lib.hid hb1
  clear hm hb1 hrow1
  go_enter Try.func6, Try.ntmps6
  go_wp2_with fail
  refine (parse_any kT1 (by decide) _ 39 m w1 (max_below HM.out HB1.out) HR1.out).mono ?_
  rintro e w2 ⟨A2, c2, rfl, hc2, -, hb2⟩
  rw [kp1]
  have HB2 := Lib.hid (HB1.out.trans (hb2.mono HB1.out.size))
  clear hr1 HR1 HB1 hb2
  obtain ⟨W2, hW2⟩ : ∃ W2, W2 = w2.alloc (.cells #[.int .u8 6, .int .u16 0, .int .u64 0, .int .u64 0, .int .u64 0, .int .u64 0, .int .u64 0, .bool false, .int .i64 3, .slice A2 0 c2] 27) := ⟨_, rfl⟩
  have HX2 := Lib.hid (show Blk W2 w2.heap.size 27 #[.int .u8 6, .int .u16 0, .int .u64 0, .int .u64 0, .int .u64 0, .int .u64 0, .int .u64 0, .bool false, .int .i64 3, .slice A2 0 c2] from by rw [hW2]; exact Blk.new w2 _ _)
  have HB3 := Lib.hid (show Below w.heap.size w W2 from by rw [hW2]; exact HB2.out.alloc HB2.out.size _)
  have hs2 : W2.heap.size = w2.heap.size + 1 := by rw [hW2]; simp
  obtain ⟨w3, hr3, hb3, hrow3⟩ := bytes_const W2 kT2 #[.int .u8 72, .int .u8 84, .int .u8 84, .int .u8 80, .int .u8 47, .int .u8 49, .int .u8 46, .int .u8 49, .int .u8 32, .int .u8 50, .int .u8 48, .int .u8 52, .int .u8 32, .int .u8 78, .int .u8 111, .int .u8 32, .int .u8 67, .int .u8 111, .int .u8 110, .int .u8 116, .int .u8 101, .int .u8 110, .int .u8 116, .int .u8 13, .int .u8 10, .int .u8 88, .int .u8 45, .int .u8 67, .int .u8 111, .int .u8 117, .int .u8 110, .int .u8 116, .int .u8 58, .int .u8 32, .int .u8 48, .int .u8 51, .int .u8 13, .int .u8 10, .int .u8 13, .int .u8 10] rfl 40 rfl
  rw [hs2] at hr3 hrow3
  rw [hW2] at hr3
  have HR3 := Lib.hid hrow3
  have HB4 := Lib.hid (HB3.out.trans (hb3.mono HB3.out.size))
  have HX3 := Lib.hid (HX2.out.below hb3 HX2.out.lt)
  clear hb3 hrow3 hs2 hW2 HX2 HB3 HB2
  go_wp2_with fail
  refine (parse_any kT2 (by decide) _ 40 m w3 (max_below HM.out HB4.out) HR3.out).mono ?_
  rintro e w4 ⟨A4, c4, rfl, hc4, -, hb4⟩
  rw [kp2, show zero = (⟨0, 0, 0, 0, 0, 0, 0, false, 0, []⟩ : Ans) from rfl]
  have HB5 := Lib.hid (HB4.out.trans (hb4.mono HB4.out.size))
  have HX4 := Lib.hid (HX3.out.below hb4 HX3.out.lt)
  clear hr3 HR3 HB4 hb4 HX3
  obtain ⟨W4, hW4⟩ : ∃ W4, W4 = w4.alloc (.cells #[.int .u8 0, .int .u16 0, .int .u64 0, .int .u64 0, .int .u64 0, .int .u64 0, .int .u64 0, .bool false, .int .i64 0, .slice A4 0 c4] 27) := ⟨_, rfl⟩
  have HX5 := Lib.hid (show Blk W4 w2.heap.size 27 _ from by rw [hW4]; exact HX4.out.alloc _)
  have HB6 := Lib.hid (show Below w.heap.size w W4 from by rw [hW4]; exact HB5.out.alloc HB5.out.size _)
  have hs4 : W4.heap.size = w4.heap.size + 1 := by rw [hW4]; simp
  obtain ⟨w5, hr5, hb5, hrow5⟩ := bytes_const W4 kT3 #[.int .u8 120, .int .u8 13, .int .u8 10, .int .u8 97, .int .u8 58, .int .u8 32, .int .u8 49, .int .u8 13, .int .u8 10, .int .u8 98, .int .u8 58, .int .u8 32, .int .u8 50, .int .u8 13, .int .u8 10, .int .u8 13, .int .u8 10] rfl 17 rfl
  rw [hs4] at hr5 hrow5
  rw [hW4] at hr5
  have HR5 := Lib.hid hrow5
  have HB7 := Lib.hid (HB6.out.trans (hb5.mono HB6.out.size))
  have HX6 := Lib.hid (HX5.out.below hb5 HX5.out.lt)
  clear hb5 hrow5 hs4 hW4 HX5 HB6 HB5 HX4
  go_wp2_with fail
  refine (field_any kT3 (by decide) ⟨#[98]⟩ (by decide) _ 17 m w5 (max_below HM.out HB7.out) HR5.out).mono ?_
  rintro e w6 ⟨rfl, hb6⟩
  rw [show (ByteArray.mk #[98]).data.toList = [98] from rfl, kp3]
  have hx := HX6.out.below hb6 HX6.out.lt
  have c0 : w6.cell? ⟨w2.heap.size, 0, none⟩ = some (.int .u8 6) := hx.cell 0
  have c8 : w6.cell? ⟨w2.heap.size, 8, none⟩ = some (.int .i64 3) := hx.cell 8
  have HB8 := Lib.hid (HB7.out.trans (hb6.mono HB7.out.size))
  clear hx hb6 HB7 HX6 HR5 hr5
  simp only [Option.getD_some, Option.isSome_some]
  go_wp2_with fail
  go_ret
  exact ⟨rfl, HB8.out⟩
end Go.Proofs.Ytalehfdcebabnaa.back
