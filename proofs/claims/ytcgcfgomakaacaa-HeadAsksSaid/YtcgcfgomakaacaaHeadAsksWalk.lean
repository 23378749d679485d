/- HeadAsks, walked. -/
import Derived.Test.YtcgcfgomakaacaaHeadLaw
namespace Go.Proofs.Ytcgcfgomakaacaa.head
open Go.RowKit
open Go.Proofs.Ytcgcfgomakaacaa.aid

abbrev boxC (a : Ans) (A : Option Addr) (c : Nat) : Array Value := #[.int .u8 a.code, .int .u16 a.err, .int .u64 a.limit, .int .u64 a.left, .int .u64 a.reset, .int .u64 a.after, .int .u64 a.nanos, .bool a.retry, .int .i64 a.many, .slice A a.body.length c]

set_option maxHeartbeats 1000000 in
theorem headAsks_big (w : World) (a : Ans) (A : Option Addr) (c : Nat) (x : Int) (hbig : (300 : Int) < a.body.length) :
    Calls Try.prog 3 #[ansV a A c, .int .u8 x] w fun e w' => e = .returned (.bool true) ∧ Below w.heap.size w w' := by
  obtain ⟨a0, a1, a2, a3, a4, a5, a6, a7, a8, la⟩ := a
  simp only at hbig
  go_enter Try.func3, Try.ntmps3
  go_wp2_with fail
  refine (known_any _).mono ?_
  rintro e wk ⟨rfl, hbk⟩
  go_wp2_with fail
  go_ret
  exact ⟨rfl, ((Below.refl _ _).alloc (Nat.le_refl _) _).trans (hbk.mono (by simp))⟩

set_option maxHeartbeats 2000000 in
theorem headAsks_walk (w : World) (a : Ans) (A : Option Addr) (c : Nat) (x : Int) (hF : Fine a) (hc : a.body.length ≤ c) (hr : Row w w.heap.size A (u8s a.body)) (hx : 0 ≤ x ∧ x ≤ 255) :
    Calls Try.prog 3 #[ansV a A c, .int .u8 x] w fun e w' => e = .returned (.bool true) ∧ Below w.heap.size w w' := by
  by_cases hbig : 300 < a.body.length
  · exact headAsks_big w a A c x (by omega)
  have hs : (a.body.length : Int) ≤ 300 := by omega
  clear hbig
  obtain ⟨hx0, hx1⟩ := hx
  have HA := Lib.hid (fun W (h : Below w.heap.size w W) => asks_any a hF A c hc W ((hr.below h).more h.size))
  have HN := Lib.hid (fun W => answer_any a A c x hx0 W)
  have HA2 := Lib.hid (fun W (h : Below w.heap.size w W) => asks_any (coded a (x % 10)) (coded_fine hF (by omega) (by omega)) A c hc W ((hr.below h).more h.size))
  have HX := Lib.hid (Blk.new w 27 (boxC a A c))
  have HB := Lib.hid ((Below.refl w.heap.size w).alloc (Nat.le_refl _) (.cells (boxC a A c) 27))
  have S1 := Lib.hid (fun W => status_any x W)
  have S2 := Lib.hid (fun W => refstatus_any x W)
  have S3 := Lib.hid (fun W => status_any (x % 10) W)
  have S4 := Lib.hid (fun W => refstatus_any (x % 10) W)
  obtain ⟨s1, hs1⟩ : ∃ s, s = str (status x) := ⟨_, rfl⟩
  rw [← hs1] at S1 S2
  obtain ⟨s2, hs2⟩ : ∃ s, s = str (status (x % 10)) := ⟨_, rfl⟩
  rw [← hs2] at S3 S4
  obtain ⟨t1, rfl⟩ : ∃ t : ByteArray, s1 = .string t := ⟨_, hs1⟩
  obtain ⟨t2, rfl⟩ : ∃ t : ByteArray, s2 = .string t := ⟨_, hs2⟩
  clear hs1 hs2 hr hc hF
  obtain ⟨a0, a1, a2, a3, a4, a5, a6, a7, a8, la⟩ := a
  simp only at hs
  go_enter Try.func3, Try.ntmps3
  go_wp2_with fail
  refine (known_any _).mono ?_
  rintro e w1 ⟨rfl, hb1⟩
  have X1 := Lib.hid (Blk.below HX.out hb1 HX.out.lt)
  have G1 := Lib.hid (HB.out.trans (hb1.mono HB.out.size))
  obtain ⟨e0, e1, e2, e3, e4, e5, e6, e7, e8, e9⟩ := Blk.ten X1.out
  clear hb1
  go_wp2_with fail
  refine (HA.out _ G1.out).mono ?_
  rintro e w2 ⟨rfl, hb2⟩
  clear e0 e1 e2 e3 e4 e5 e6 e7 e8 e9
  have X2 := Lib.hid (Blk.below X1.out hb2 X1.out.lt)
  have G2 := Lib.hid (G1.out.trans (hb2.mono G1.out.size))
  obtain ⟨e0, e1, e2, e3, e4, e5, e6, e7, e8, e9⟩ := Blk.ten X2.out
  clear hb2 X1 G1
  go_wp2_with fail
  refine (HN.out _).mono ?_
  rintro e w3 ⟨rfl, hb3⟩
  clear e0 e1 e2 e3 e4 e5 e6 e7 e8 e9
  have G3 := Lib.hid (G2.out.trans (hb3.mono G2.out.size))
  clear hb3 X2 G2
  go_wp2_with fail
  refine (HA2.out _ G3.out).mono ?_
  rintro e w4 ⟨rfl, hb4⟩
  have G4 := Lib.hid (G3.out.trans (hb4.mono G3.out.size))
  clear hb4 G3
  go_wp2_with fail
  refine (S1.out _).mono ?_
  rintro e w5 ⟨rfl, hb5⟩
  have G5 := Lib.hid (G4.out.trans (hb5.mono G4.out.size))
  clear hb5 G4
  go_wp2_with fail
  refine (S2.out _).mono ?_
  rintro e w6 ⟨rfl, rfl⟩
  go_wp2_with fail
  refine (S3.out _).mono ?_
  rintro e w6 ⟨rfl, hb6⟩
  have G6 := Lib.hid (G5.out.trans (hb6.mono G5.out.size))
  clear hb6 G5
  go_wp2_with fail
  refine (S4.out _).mono ?_
  rintro e w7 ⟨rfl, rfl⟩
  go_wp2_with fail
  go_ret
  exact ⟨rfl, G6.out⟩
end Go.Proofs.Ytcgcfgomakaacaa.head
