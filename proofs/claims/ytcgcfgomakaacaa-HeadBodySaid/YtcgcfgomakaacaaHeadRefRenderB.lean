/- the reference's Render, walked: the other codes. -/
import Derived.Test.YtcgcfgomakaacaaHeadRefA
import Derived.Deep.QuietTactic
import Derived.BigQuiet
import Derived.Deep.RegionHeld
namespace Go.Proofs.Ytcgcfgomakaacaa.head
open Go.RowKit
open Go.Proofs.Ytcgcfgomakaacaa.aid

set_option maxHeartbeats 4000000 in
theorem refrender_3 (err limit left reset after nanos many : Int) (retry : Bool) (body : List UInt8) (c : Nat) (A : Option Addr) (w : World) (hr : Row w w.heap.size A (u8s body)) (hl : body.length ≤ 140737488351232) (hcap : body.length ≤ c) (hlim : 0 ≤ limit ∧ limit ≤ 18446744073709551615) (hlef : 0 ≤ left ∧ left ≤ 18446744073709551615) (hres : 0 ≤ reset ∧ reset ≤ 18446744073709551615) (haft : 0 ≤ after ∧ after ≤ 18446744073709551615) (hnan : 0 ≤ nanos ∧ nanos ≤ 18446744073709551615) (herr : 0 ≤ err ∧ err ≤ 65535) :
    Calls Try.prog 17 #[.agg #[.int .u8 3, .int .u16 err, .int .u64 limit, .int .u64 left, .int .u64 reset, .int .u64 after, .int .u64 nanos, .bool retry, .int .i64 many, .slice A body.length c]] w
      (Bytes (http ++ (st3 ++ (crlf ++ ((linesOf [(nLimit, limit)]) ++ (crlf ++ []))))) w) := by
  have HS := Lib.hid (fun W => refstatus_any 3 W)
  rw [show str (status 3) = .string b3 from rfl] at HS
  obtain ⟨v1, hv1⟩ : ∃ v : ByteArray, v = ⟨(line nLimit limit).toArray⟩ := ⟨_, rfl⟩
  have H1 := Lib.hid (fun W => refline_any nLimit limit (by simp [nLimit]) (by omega) ⟨#[82, 97, 116, 101, 76, 105, 109, 105, 116, 45, 76, 105, 109, 105, 116]⟩ rfl W)
  rw [← hv1] at H1
  have hz1 : v1.size ≤ 100 := by rw [hv1]; have := line_len nLimit limit; simp [ByteArray.size, nLimit] at this ⊢; omega
  have V1 := Lib.hid hv1
  obtain ⟨W, hW⟩ : ∃ W : World, W = w.alloc (.cells #[.int .u8 3, .int .u16 err, .int .u64 limit, .int .u64 left, .int .u64 reset, .int .u64 after, .int .u64 nanos, .bool retry, .int .i64 many, .slice A body.length c] 27) := ⟨_, rfl⟩
  have hx : Blk W w.heap.size 27 #[.int .u8 3, .int .u16 err, .int .u64 limit, .int .u64 left, .int .u64 reset, .int .u64 after, .int .u64 nanos, .bool retry, .int .i64 many, .slice A body.length c] := by rw [hW]; exact Blk.new w _ _
  have HX := Lib.hid hx
  have HB : Hid (Below w.heap.size w W) := Lib.hid (by rw [hW]; exact (Below.refl _ _).alloc (Nat.le_refl _) _)
  have HR := Lib.hid hr
  obtain ⟨herr0, herr1⟩ := herr
  have HW := Lib.hid hW
  clear hr hv1 hx hlim hlef hres haft hnan hW
  go_enter Try.func17, Try.ntmps17
  go_wp2_with fail
  rw [← HW.out]
  obtain ⟨e0, e1, e2, e3, e4, e5, e6, e7, e8, e9⟩ := Blk.ten HX.out
  refine (HS.out _).mono ?_
  rintro e w1 ⟨rfl, rfl⟩
  go_wp2_with fail
  refine (HS.out _).mono ?_
  rintro e w1 ⟨rfl, rfl⟩
  obtain ⟨s0, hs0⟩ : ∃ s, s = ByteArray.mk #[72, 84, 84, 80, 47, 49, 46, 49, 32] ++ b3 ++ ByteArray.mk #[13, 10] := ⟨_, rfl⟩
  have hz0 : s0.size ≤ 50 := by rw [hs0]; decide
  go_wp2_with fail
  rw [← hs0]
  have S0 := Lib.hid hs0
  clear hs0
  refine (H1.out _).mono ?_
  rintro e w1 ⟨rfl, rfl⟩
  go_wp2_with fail
  obtain ⟨sx, hsx⟩ : ∃ s, s = s0 ++ v1 := ⟨_, rfl⟩
  have hzx : sx.size ≤ 1000 := by rw [hsx]; (try simp only [ByteArray.size_append]); omega
  have SX : Hid (sx ++ ByteArray.mk #[13, 10] ++ ByteArray.mk #[] = ⟨(http ++ (st3 ++ (crlf ++ ((linesOf [(nLimit, limit)]) ++ (crlf ++ []))))).toArray⟩) := Lib.hid (by
    rw [hsx, V1.out, S0.out, show ByteArray.mk #[72, 84, 84, 80, 47, 49, 46, 49, 32] ++ b3 ++ ByteArray.mk #[13, 10] = ⟨(http ++ (st3 ++ crlf)).toArray⟩ from by decide +kernel, show ByteArray.mk #[13, 10] = ⟨crlf.toArray⟩ from rfl, show ByteArray.mk #[] = ⟨([] : List UInt8).toArray⟩ from rfl]
    simp only [ByteArray.mk_append_mk]
    simp [linesOf])
  rw [← hsx]
  clear hsx HS H1
  have hq1 : ¬ 9223372036854775807 < sx.size + 2 := by omega
  have hcc : 0 ≤ c := Nat.zero_le c
  have hnn := nil_row
  go_region_held (fun w' => w'.cell? ⟨w.heap.size, 0, none⟩ = some (.int .u8 3) ∧ w'.cell? ⟨w.heap.size, 1, none⟩ = some (.int .u16 err) ∧ w'.cell? ⟨w.heap.size, 2, none⟩ = some (.int .u64 limit) ∧ w'.cell? ⟨w.heap.size, 3, none⟩ = some (.int .u64 left) ∧ w'.cell? ⟨w.heap.size, 4, none⟩ = some (.int .u64 reset) ∧ w'.cell? ⟨w.heap.size, 5, none⟩ = some (.int .u64 after) ∧ w'.cell? ⟨w.heap.size, 6, none⟩ = some (.int .u64 nanos) ∧ w'.cell? ⟨w.heap.size, 7, none⟩ = some (.bool retry) ∧ w'.cell? ⟨w.heap.size, 8, none⟩ = some (.int .i64 many) ∧ w'.cell? ⟨w.heap.size, 9, none⟩ = some (.slice A body.length c)) (go_keep)
    (((with_reducible refine (bodied_not 3 err limit left reset after nanos many retry body.length c A _ rfl).mono ?_); rintro e x1 ⟨rfl, hb1⟩; have hx1 := Blk.below (Blk.drew HX.out) hb1 HX.out.lt; obtain ⟨q0, q1, q2, q3, q4, q5, q6, q7, q8, q9⟩ := Blk.ten hx1; have GX := Lib.hid (HB.out.drew.trans (hb1.mono HB.out.size)); obtain ⟨m, c7, w7, hrun, hb7, h7⟩ := bytes_str _ SX.out GX.out; obtain ⟨p0, p1, p2, p3, p4, p5, p6, p7, p8, p9⟩ := Blk.ten (Blk.below hx1 hb7 hx1.lt); clear hb7 hx1))
  go_wp2
  go_ret
  exact bytes_end h7

set_option maxHeartbeats 4000000 in
theorem refrender_4 (err limit left reset after nanos many : Int) (retry : Bool) (body : List UInt8) (c : Nat) (A : Option Addr) (w : World) (hr : Row w w.heap.size A (u8s body)) (hl : body.length ≤ 140737488351232) (hcap : body.length ≤ c) (hlim : 0 ≤ limit ∧ limit ≤ 18446744073709551615) (hlef : 0 ≤ left ∧ left ≤ 18446744073709551615) (hres : 0 ≤ reset ∧ reset ≤ 18446744073709551615) (haft : 0 ≤ after ∧ after ≤ 18446744073709551615) (hnan : 0 ≤ nanos ∧ nanos ≤ 18446744073709551615) (herr : 0 ≤ err ∧ err ≤ 65535) :
    Calls Try.prog 17 #[.agg #[.int .u8 4, .int .u16 err, .int .u64 limit, .int .u64 left, .int .u64 reset, .int .u64 after, .int .u64 nanos, .bool retry, .int .i64 many, .slice A body.length c]] w
      (Bytes (http ++ (st4 ++ (crlf ++ ((crlf ++ []))))) w) := by
  have HS := Lib.hid (fun W => refstatus_any 4 W)
  rw [show str (status 4) = .string b4 from rfl] at HS
  obtain ⟨W, hW⟩ : ∃ W : World, W = w.alloc (.cells #[.int .u8 4, .int .u16 err, .int .u64 limit, .int .u64 left, .int .u64 reset, .int .u64 after, .int .u64 nanos, .bool retry, .int .i64 many, .slice A body.length c] 27) := ⟨_, rfl⟩
  have hx : Blk W w.heap.size 27 #[.int .u8 4, .int .u16 err, .int .u64 limit, .int .u64 left, .int .u64 reset, .int .u64 after, .int .u64 nanos, .bool retry, .int .i64 many, .slice A body.length c] := by rw [hW]; exact Blk.new w _ _
  have HX := Lib.hid hx
  have HB : Hid (Below w.heap.size w W) := Lib.hid (by rw [hW]; exact (Below.refl _ _).alloc (Nat.le_refl _) _)
  have HR := Lib.hid hr
  obtain ⟨herr0, herr1⟩ := herr
  have HW := Lib.hid hW
  clear hr  hx hlim hlef hres haft hnan hW
  go_enter Try.func17, Try.ntmps17
  go_wp2_with fail
  rw [← HW.out]
  obtain ⟨e0, e1, e2, e3, e4, e5, e6, e7, e8, e9⟩ := Blk.ten HX.out
  refine (HS.out _).mono ?_
  rintro e w1 ⟨rfl, rfl⟩
  go_wp2_with fail
  refine (HS.out _).mono ?_
  rintro e w1 ⟨rfl, rfl⟩
  obtain ⟨s0, hs0⟩ : ∃ s, s = ByteArray.mk #[72, 84, 84, 80, 47, 49, 46, 49, 32] ++ b4 ++ ByteArray.mk #[13, 10] := ⟨_, rfl⟩
  have hz0 : s0.size ≤ 50 := by rw [hs0]; decide
  go_wp2_with fail
  rw [← hs0]
  have S0 := Lib.hid hs0
  clear hs0
  obtain ⟨sx, hsx⟩ : ∃ s, s = s0 := ⟨_, rfl⟩
  have hzx : sx.size ≤ 1000 := by rw [hsx]; (try simp only [ByteArray.size_append]); omega
  have SX : Hid (sx ++ ByteArray.mk #[13, 10] ++ ByteArray.mk #[] = ⟨(http ++ (st4 ++ (crlf ++ ((crlf ++ []))))).toArray⟩) := Lib.hid (by
    rw [hsx, S0.out, show ByteArray.mk #[72, 84, 84, 80, 47, 49, 46, 49, 32] ++ b4 ++ ByteArray.mk #[13, 10] = ⟨(http ++ (st4 ++ crlf)).toArray⟩ from by decide +kernel, show ByteArray.mk #[13, 10] = ⟨crlf.toArray⟩ from rfl, show ByteArray.mk #[] = ⟨([] : List UInt8).toArray⟩ from rfl]
    simp only [ByteArray.mk_append_mk]
    simp [linesOf])
  rw [← hsx]
  clear hsx HS
  have hq1 : ¬ 9223372036854775807 < sx.size + 2 := by omega
  have hcc : 0 ≤ c := Nat.zero_le c
  have hnn := nil_row
  go_region_held (fun w' => w'.cell? ⟨w.heap.size, 0, none⟩ = some (.int .u8 4) ∧ w'.cell? ⟨w.heap.size, 1, none⟩ = some (.int .u16 err) ∧ w'.cell? ⟨w.heap.size, 2, none⟩ = some (.int .u64 limit) ∧ w'.cell? ⟨w.heap.size, 3, none⟩ = some (.int .u64 left) ∧ w'.cell? ⟨w.heap.size, 4, none⟩ = some (.int .u64 reset) ∧ w'.cell? ⟨w.heap.size, 5, none⟩ = some (.int .u64 after) ∧ w'.cell? ⟨w.heap.size, 6, none⟩ = some (.int .u64 nanos) ∧ w'.cell? ⟨w.heap.size, 7, none⟩ = some (.bool retry) ∧ w'.cell? ⟨w.heap.size, 8, none⟩ = some (.int .i64 many) ∧ w'.cell? ⟨w.heap.size, 9, none⟩ = some (.slice A body.length c)) (go_keep)
    (((with_reducible refine (bodied_not 4 err limit left reset after nanos many retry body.length c A _ rfl).mono ?_); rintro e x1 ⟨rfl, hb1⟩; have hx1 := Blk.below (Blk.drew HX.out) hb1 HX.out.lt; obtain ⟨q0, q1, q2, q3, q4, q5, q6, q7, q8, q9⟩ := Blk.ten hx1; have GX := Lib.hid (HB.out.drew.trans (hb1.mono HB.out.size)); obtain ⟨m, c7, w7, hrun, hb7, h7⟩ := bytes_str _ SX.out GX.out; obtain ⟨p0, p1, p2, p3, p4, p5, p6, p7, p8, p9⟩ := Blk.ten (Blk.below hx1 hb7 hx1.lt); clear hb7 hx1))
  go_wp2
  go_ret
  exact bytes_end h7

set_option maxHeartbeats 4000000 in
theorem refrender_5 (err limit left reset after nanos many : Int) (retry : Bool) (body : List UInt8) (c : Nat) (A : Option Addr) (w : World) (hr : Row w w.heap.size A (u8s body)) (hl : body.length ≤ 140737488351232) (hcap : body.length ≤ c) (hlim : 0 ≤ limit ∧ limit ≤ 18446744073709551615) (hlef : 0 ≤ left ∧ left ≤ 18446744073709551615) (hres : 0 ≤ reset ∧ reset ≤ 18446744073709551615) (haft : 0 ≤ after ∧ after ≤ 18446744073709551615) (hnan : 0 ≤ nanos ∧ nanos ≤ 18446744073709551615) (herr : 0 ≤ err ∧ err ≤ 65535) :
    Calls Try.prog 17 #[.agg #[.int .u8 5, .int .u16 err, .int .u64 limit, .int .u64 left, .int .u64 reset, .int .u64 after, .int .u64 nanos, .bool retry, .int .i64 many, .slice A body.length c]] w
      (Bytes (http ++ (st5 ++ (crlf ++ ((linesOf [(nError, err)]) ++ (crlf ++ []))))) w) := by
  have HS := Lib.hid (fun W => refstatus_any 5 W)
  rw [show str (status 5) = .string b5 from rfl] at HS
  obtain ⟨v1, hv1⟩ : ∃ v : ByteArray, v = ⟨(line nError err).toArray⟩ := ⟨_, rfl⟩
  have H1 := Lib.hid (fun W => refline_any nError err (by simp [nError]) (by omega) ⟨#[88, 45, 69, 114, 114, 111, 114]⟩ rfl W)
  rw [← hv1] at H1
  have hz1 : v1.size ≤ 100 := by rw [hv1]; have := line_len nError err; simp [ByteArray.size, nError] at this ⊢; omega
  have V1 := Lib.hid hv1
  obtain ⟨W, hW⟩ : ∃ W : World, W = w.alloc (.cells #[.int .u8 5, .int .u16 err, .int .u64 limit, .int .u64 left, .int .u64 reset, .int .u64 after, .int .u64 nanos, .bool retry, .int .i64 many, .slice A body.length c] 27) := ⟨_, rfl⟩
  have hx : Blk W w.heap.size 27 #[.int .u8 5, .int .u16 err, .int .u64 limit, .int .u64 left, .int .u64 reset, .int .u64 after, .int .u64 nanos, .bool retry, .int .i64 many, .slice A body.length c] := by rw [hW]; exact Blk.new w _ _
  have HX := Lib.hid hx
  have HB : Hid (Below w.heap.size w W) := Lib.hid (by rw [hW]; exact (Below.refl _ _).alloc (Nat.le_refl _) _)
  have HR := Lib.hid hr
  obtain ⟨herr0, herr1⟩ := herr
  have HW := Lib.hid hW
  clear hr hv1 hx hlim hlef hres haft hnan hW
  go_enter Try.func17, Try.ntmps17
  go_wp2_with fail
  rw [← HW.out]
  obtain ⟨e0, e1, e2, e3, e4, e5, e6, e7, e8, e9⟩ := Blk.ten HX.out
  refine (HS.out _).mono ?_
  rintro e w1 ⟨rfl, rfl⟩
  go_wp2_with fail
  refine (HS.out _).mono ?_
  rintro e w1 ⟨rfl, rfl⟩
  obtain ⟨s0, hs0⟩ : ∃ s, s = ByteArray.mk #[72, 84, 84, 80, 47, 49, 46, 49, 32] ++ b5 ++ ByteArray.mk #[13, 10] := ⟨_, rfl⟩
  have hz0 : s0.size ≤ 50 := by rw [hs0]; decide
  go_wp2_with fail
  rw [← hs0]
  have S0 := Lib.hid hs0
  clear hs0
  refine (H1.out _).mono ?_
  rintro e w1 ⟨rfl, rfl⟩
  go_wp2_with fail
  obtain ⟨sx, hsx⟩ : ∃ s, s = s0 ++ v1 := ⟨_, rfl⟩
  have hzx : sx.size ≤ 1000 := by rw [hsx]; (try simp only [ByteArray.size_append]); omega
  have SX : Hid (sx ++ ByteArray.mk #[13, 10] ++ ByteArray.mk #[] = ⟨(http ++ (st5 ++ (crlf ++ ((linesOf [(nError, err)]) ++ (crlf ++ []))))).toArray⟩) := Lib.hid (by
    rw [hsx, V1.out, S0.out, show ByteArray.mk #[72, 84, 84, 80, 47, 49, 46, 49, 32] ++ b5 ++ ByteArray.mk #[13, 10] = ⟨(http ++ (st5 ++ crlf)).toArray⟩ from by decide +kernel, show ByteArray.mk #[13, 10] = ⟨crlf.toArray⟩ from rfl, show ByteArray.mk #[] = ⟨([] : List UInt8).toArray⟩ from rfl]
    simp only [ByteArray.mk_append_mk]
    simp [linesOf])
  rw [← hsx]
  clear hsx HS H1
  have hq1 : ¬ 9223372036854775807 < sx.size + 2 := by omega
  have hcc : 0 ≤ c := Nat.zero_le c
  have hnn := nil_row
  go_region_held (fun w' => w'.cell? ⟨w.heap.size, 0, none⟩ = some (.int .u8 5) ∧ w'.cell? ⟨w.heap.size, 1, none⟩ = some (.int .u16 err) ∧ w'.cell? ⟨w.heap.size, 2, none⟩ = some (.int .u64 limit) ∧ w'.cell? ⟨w.heap.size, 3, none⟩ = some (.int .u64 left) ∧ w'.cell? ⟨w.heap.size, 4, none⟩ = some (.int .u64 reset) ∧ w'.cell? ⟨w.heap.size, 5, none⟩ = some (.int .u64 after) ∧ w'.cell? ⟨w.heap.size, 6, none⟩ = some (.int .u64 nanos) ∧ w'.cell? ⟨w.heap.size, 7, none⟩ = some (.bool retry) ∧ w'.cell? ⟨w.heap.size, 8, none⟩ = some (.int .i64 many) ∧ w'.cell? ⟨w.heap.size, 9, none⟩ = some (.slice A body.length c)) (go_keep)
    (((with_reducible refine (bodied_not 5 err limit left reset after nanos many retry body.length c A _ rfl).mono ?_); rintro e x1 ⟨rfl, hb1⟩; have hx1 := Blk.below (Blk.drew HX.out) hb1 HX.out.lt; obtain ⟨q0, q1, q2, q3, q4, q5, q6, q7, q8, q9⟩ := Blk.ten hx1; have GX := Lib.hid (HB.out.drew.trans (hb1.mono HB.out.size)); obtain ⟨m, c7, w7, hrun, hb7, h7⟩ := bytes_str _ SX.out GX.out; obtain ⟨p0, p1, p2, p3, p4, p5, p6, p7, p8, p9⟩ := Blk.ten (Blk.below hx1 hb7 hx1.lt); clear hb7 hx1))
  go_wp2
  go_ret
  exact bytes_end h7

set_option maxHeartbeats 4000000 in
theorem refrender_6p (err limit left reset after nanos many : Int) (retry : Bool) (body : List UInt8) (c : Nat) (A : Option Addr) (w : World) (hr : Row w w.heap.size A (u8s body)) (hl : body.length ≤ 140737488351232) (hcap : body.length ≤ c) (hlim : 0 ≤ limit ∧ limit ≤ 18446744073709551615) (hlef : 0 ≤ left ∧ left ≤ 18446744073709551615) (hres : 0 ≤ reset ∧ reset ≤ 18446744073709551615) (haft : 0 ≤ after ∧ after ≤ 18446744073709551615) (hnan : 0 ≤ nanos ∧ nanos ≤ 18446744073709551615) (herr : 0 ≤ err ∧ err ≤ 65535) (hm : 0 < many) (hm1 : many ≤ 9223372036854775807) :
    Calls Try.prog 17 #[.agg #[.int .u8 6, .int .u16 err, .int .u64 limit, .int .u64 left, .int .u64 reset, .int .u64 after, .int .u64 nanos, .bool retry, .int .i64 many, .slice A body.length c]] w
      (Bytes (http ++ (st6 ++ (crlf ++ ((linesOf [(nCount, many)]) ++ (crlf ++ []))))) w) := by
  have HS := Lib.hid (fun W => refstatus_any 6 W)
  rw [show str (status 6) = .string b6 from rfl] at HS
  obtain ⟨v1, hv1⟩ : ∃ v : ByteArray, v = ⟨(line nCount many).toArray⟩ := ⟨_, rfl⟩
  have H1 := Lib.hid (fun W => refline_any nCount many (by simp [nCount]) (by omega) ⟨#[88, 45, 67, 111, 117, 110, 116]⟩ rfl W)
  rw [← hv1] at H1
  have hz1 : v1.size ≤ 100 := by rw [hv1]; have := line_len nCount many; simp [ByteArray.size, nCount] at this ⊢; omega
  have V1 := Lib.hid hv1
  obtain ⟨W, hW⟩ : ∃ W : World, W = w.alloc (.cells #[.int .u8 6, .int .u16 err, .int .u64 limit, .int .u64 left, .int .u64 reset, .int .u64 after, .int .u64 nanos, .bool retry, .int .i64 many, .slice A body.length c] 27) := ⟨_, rfl⟩
  have hx : Blk W w.heap.size 27 #[.int .u8 6, .int .u16 err, .int .u64 limit, .int .u64 left, .int .u64 reset, .int .u64 after, .int .u64 nanos, .bool retry, .int .i64 many, .slice A body.length c] := by rw [hW]; exact Blk.new w _ _
  have HX := Lib.hid hx
  have HB : Hid (Below w.heap.size w W) := Lib.hid (by rw [hW]; exact (Below.refl _ _).alloc (Nat.le_refl _) _)
  have HR := Lib.hid hr
  obtain ⟨herr0, herr1⟩ := herr
  have HW := Lib.hid hW
  clear hr hv1 hx hlim hlef hres haft hnan hW
  go_enter Try.func17, Try.ntmps17
  go_wp2_with fail
  rw [← HW.out]
  obtain ⟨e0, e1, e2, e3, e4, e5, e6, e7, e8, e9⟩ := Blk.ten HX.out
  refine (HS.out _).mono ?_
  rintro e w1 ⟨rfl, rfl⟩
  go_wp2_with fail
  refine (HS.out _).mono ?_
  rintro e w1 ⟨rfl, rfl⟩
  obtain ⟨s0, hs0⟩ : ∃ s, s = ByteArray.mk #[72, 84, 84, 80, 47, 49, 46, 49, 32] ++ b6 ++ ByteArray.mk #[13, 10] := ⟨_, rfl⟩
  have hz0 : s0.size ≤ 50 := by rw [hs0]; decide
  go_wp2_with fail
  rw [← hs0]
  have S0 := Lib.hid hs0
  clear hs0
  refine (H1.out _).mono ?_
  rintro e w1 ⟨rfl, rfl⟩
  go_wp2_with fail
  obtain ⟨sx, hsx⟩ : ∃ s, s = s0 ++ v1 := ⟨_, rfl⟩
  have hzx : sx.size ≤ 1000 := by rw [hsx]; (try simp only [ByteArray.size_append]); omega
  have SX : Hid (sx ++ ByteArray.mk #[13, 10] ++ ByteArray.mk #[] = ⟨(http ++ (st6 ++ (crlf ++ ((linesOf [(nCount, many)]) ++ (crlf ++ []))))).toArray⟩) := Lib.hid (by
    rw [hsx, V1.out, S0.out, show ByteArray.mk #[72, 84, 84, 80, 47, 49, 46, 49, 32] ++ b6 ++ ByteArray.mk #[13, 10] = ⟨(http ++ (st6 ++ crlf)).toArray⟩ from by decide +kernel, show ByteArray.mk #[13, 10] = ⟨crlf.toArray⟩ from rfl, show ByteArray.mk #[] = ⟨([] : List UInt8).toArray⟩ from rfl]
    simp only [ByteArray.mk_append_mk]
    simp [linesOf])
  rw [← hsx]
  clear hsx HS H1
  have hq1 : ¬ 9223372036854775807 < sx.size + 2 := by omega
  have hcc : 0 ≤ c := Nat.zero_le c
  have hnn := nil_row
  go_region_held (fun w' => w'.cell? ⟨w.heap.size, 0, none⟩ = some (.int .u8 6) ∧ w'.cell? ⟨w.heap.size, 1, none⟩ = some (.int .u16 err) ∧ w'.cell? ⟨w.heap.size, 2, none⟩ = some (.int .u64 limit) ∧ w'.cell? ⟨w.heap.size, 3, none⟩ = some (.int .u64 left) ∧ w'.cell? ⟨w.heap.size, 4, none⟩ = some (.int .u64 reset) ∧ w'.cell? ⟨w.heap.size, 5, none⟩ = some (.int .u64 after) ∧ w'.cell? ⟨w.heap.size, 6, none⟩ = some (.int .u64 nanos) ∧ w'.cell? ⟨w.heap.size, 7, none⟩ = some (.bool retry) ∧ w'.cell? ⟨w.heap.size, 8, none⟩ = some (.int .i64 many) ∧ w'.cell? ⟨w.heap.size, 9, none⟩ = some (.slice A body.length c)) (go_keep)
    (((with_reducible refine (bodied_not 6 err limit left reset after nanos many retry body.length c A _ rfl).mono ?_); rintro e x1 ⟨rfl, hb1⟩; have hx1 := Blk.below (Blk.drew HX.out) hb1 HX.out.lt; obtain ⟨q0, q1, q2, q3, q4, q5, q6, q7, q8, q9⟩ := Blk.ten hx1; have GX := Lib.hid (HB.out.drew.trans (hb1.mono HB.out.size)); obtain ⟨m, c7, w7, hrun, hb7, h7⟩ := bytes_str _ SX.out GX.out; obtain ⟨p0, p1, p2, p3, p4, p5, p6, p7, p8, p9⟩ := Blk.ten (Blk.below hx1 hb7 hx1.lt); clear hb7 hx1))
  go_wp2
  go_ret
  exact bytes_end h7

set_option maxHeartbeats 4000000 in
theorem refrender_6n (err limit left reset after nanos many : Int) (retry : Bool) (body : List UInt8) (c : Nat) (A : Option Addr) (w : World) (hr : Row w w.heap.size A (u8s body)) (hl : body.length ≤ 140737488351232) (hcap : body.length ≤ c) (hlim : 0 ≤ limit ∧ limit ≤ 18446744073709551615) (hlef : 0 ≤ left ∧ left ≤ 18446744073709551615) (hres : 0 ≤ reset ∧ reset ≤ 18446744073709551615) (haft : 0 ≤ after ∧ after ≤ 18446744073709551615) (hnan : 0 ≤ nanos ∧ nanos ≤ 18446744073709551615) (herr : 0 ≤ err ∧ err ≤ 65535) (hm : many ≤ 0) :
    Calls Try.prog 17 #[.agg #[.int .u8 6, .int .u16 err, .int .u64 limit, .int .u64 left, .int .u64 reset, .int .u64 after, .int .u64 nanos, .bool retry, .int .i64 many, .slice A body.length c]] w
      (Bytes (http ++ (st6 ++ (crlf ++ ((linesOf [(nCount, 0)]) ++ (crlf ++ []))))) w) := by
  have HS := Lib.hid (fun W => refstatus_any 6 W)
  rw [show str (status 6) = .string b6 from rfl] at HS
  obtain ⟨v1, hv1⟩ : ∃ v : ByteArray, v = ⟨(line nCount 0).toArray⟩ := ⟨_, rfl⟩
  have H1 := Lib.hid (fun W => refline_any nCount 0 (by simp [nCount]) (by omega) ⟨#[88, 45, 67, 111, 117, 110, 116]⟩ rfl W)
  rw [← hv1] at H1
  have hz1 : v1.size ≤ 100 := by rw [hv1]; have := line_len nCount 0; simp [ByteArray.size, nCount] at this ⊢; omega
  have V1 := Lib.hid hv1
  obtain ⟨W, hW⟩ : ∃ W : World, W = w.alloc (.cells #[.int .u8 6, .int .u16 err, .int .u64 limit, .int .u64 left, .int .u64 reset, .int .u64 after, .int .u64 nanos, .bool retry, .int .i64 many, .slice A body.length c] 27) := ⟨_, rfl⟩
  have hx : Blk W w.heap.size 27 #[.int .u8 6, .int .u16 err, .int .u64 limit, .int .u64 left, .int .u64 reset, .int .u64 after, .int .u64 nanos, .bool retry, .int .i64 many, .slice A body.length c] := by rw [hW]; exact Blk.new w _ _
  have HX := Lib.hid hx
  have HB : Hid (Below w.heap.size w W) := Lib.hid (by rw [hW]; exact (Below.refl _ _).alloc (Nat.le_refl _) _)
  have HR := Lib.hid hr
  obtain ⟨herr0, herr1⟩ := herr
  have HW := Lib.hid hW
  clear hr hv1 hx hlim hlef hres haft hnan hW
  go_enter Try.func17, Try.ntmps17
  go_wp2_with fail
  rw [← HW.out]
  obtain ⟨e0, e1, e2, e3, e4, e5, e6, e7, e8, e9⟩ := Blk.ten HX.out
  refine (HS.out _).mono ?_
  rintro e w1 ⟨rfl, rfl⟩
  go_wp2_with fail
  refine (HS.out _).mono ?_
  rintro e w1 ⟨rfl, rfl⟩
  obtain ⟨s0, hs0⟩ : ∃ s, s = ByteArray.mk #[72, 84, 84, 80, 47, 49, 46, 49, 32] ++ b6 ++ ByteArray.mk #[13, 10] := ⟨_, rfl⟩
  have hz0 : s0.size ≤ 50 := by rw [hs0]; decide
  go_wp2_with fail
  rw [← hs0]
  have S0 := Lib.hid hs0
  clear hs0
  refine (H1.out _).mono ?_
  rintro e w1 ⟨rfl, rfl⟩
  go_wp2_with fail
  obtain ⟨sx, hsx⟩ : ∃ s, s = s0 ++ v1 := ⟨_, rfl⟩
  have hzx : sx.size ≤ 1000 := by rw [hsx]; (try simp only [ByteArray.size_append]); omega
  have SX : Hid (sx ++ ByteArray.mk #[13, 10] ++ ByteArray.mk #[] = ⟨(http ++ (st6 ++ (crlf ++ ((linesOf [(nCount, 0)]) ++ (crlf ++ []))))).toArray⟩) := Lib.hid (by
    rw [hsx, V1.out, S0.out, show ByteArray.mk #[72, 84, 84, 80, 47, 49, 46, 49, 32] ++ b6 ++ ByteArray.mk #[13, 10] = ⟨(http ++ (st6 ++ crlf)).toArray⟩ from by decide +kernel, show ByteArray.mk #[13, 10] = ⟨crlf.toArray⟩ from rfl, show ByteArray.mk #[] = ⟨([] : List UInt8).toArray⟩ from rfl]
    simp only [ByteArray.mk_append_mk]
    simp [linesOf])
  rw [← hsx]
  clear hsx HS H1
  have hq1 : ¬ 9223372036854775807 < sx.size + 2 := by omega
  have hcc : 0 ≤ c := Nat.zero_le c
  have hnn := nil_row
  go_region_held (fun w' => w'.cell? ⟨w.heap.size, 0, none⟩ = some (.int .u8 6) ∧ w'.cell? ⟨w.heap.size, 1, none⟩ = some (.int .u16 err) ∧ w'.cell? ⟨w.heap.size, 2, none⟩ = some (.int .u64 limit) ∧ w'.cell? ⟨w.heap.size, 3, none⟩ = some (.int .u64 left) ∧ w'.cell? ⟨w.heap.size, 4, none⟩ = some (.int .u64 reset) ∧ w'.cell? ⟨w.heap.size, 5, none⟩ = some (.int .u64 after) ∧ w'.cell? ⟨w.heap.size, 6, none⟩ = some (.int .u64 nanos) ∧ w'.cell? ⟨w.heap.size, 7, none⟩ = some (.bool retry) ∧ w'.cell? ⟨w.heap.size, 8, none⟩ = some (.int .i64 many) ∧ w'.cell? ⟨w.heap.size, 9, none⟩ = some (.slice A body.length c)) (go_keep)
    (((with_reducible refine (bodied_not 6 err limit left reset after nanos many retry body.length c A _ rfl).mono ?_); rintro e x1 ⟨rfl, hb1⟩; have hx1 := Blk.below (Blk.drew HX.out) hb1 HX.out.lt; obtain ⟨q0, q1, q2, q3, q4, q5, q6, q7, q8, q9⟩ := Blk.ten hx1; have GX := Lib.hid (HB.out.drew.trans (hb1.mono HB.out.size)); obtain ⟨m, c7, w7, hrun, hb7, h7⟩ := bytes_str _ SX.out GX.out; obtain ⟨p0, p1, p2, p3, p4, p5, p6, p7, p8, p9⟩ := Blk.ten (Blk.below hx1 hb7 hx1.lt); clear hb7 hx1))
  go_wp2
  go_ret
  exact bytes_end h7

set_option maxHeartbeats 4000000 in
theorem refrender_7 (err limit left reset after nanos many : Int) (retry : Bool) (body : List UInt8) (c : Nat) (A : Option Addr) (w : World) (hr : Row w w.heap.size A (u8s body)) (hl : body.length ≤ 140737488351232) (hcap : body.length ≤ c) (hlim : 0 ≤ limit ∧ limit ≤ 18446744073709551615) (hlef : 0 ≤ left ∧ left ≤ 18446744073709551615) (hres : 0 ≤ reset ∧ reset ≤ 18446744073709551615) (haft : 0 ≤ after ∧ after ≤ 18446744073709551615) (hnan : 0 ≤ nanos ∧ nanos ≤ 18446744073709551615) (herr : 0 ≤ err ∧ err ≤ 65535) :
    Calls Try.prog 17 #[.agg #[.int .u8 7, .int .u16 err, .int .u64 limit, .int .u64 left, .int .u64 reset, .int .u64 after, .int .u64 nanos, .bool retry, .int .i64 many, .slice A body.length c]] w
      (Bytes (http ++ (st7 ++ (crlf ++ ((linesOf [(nError, err)]) ++ (crlf ++ []))))) w) := by
  have HS := Lib.hid (fun W => refstatus_any 7 W)
  rw [show str (status 7) = .string b7 from rfl] at HS
  obtain ⟨v1, hv1⟩ : ∃ v : ByteArray, v = ⟨(line nError err).toArray⟩ := ⟨_, rfl⟩
  have H1 := Lib.hid (fun W => refline_any nError err (by simp [nError]) (by omega) ⟨#[88, 45, 69, 114, 114, 111, 114]⟩ rfl W)
  rw [← hv1] at H1
  have hz1 : v1.size ≤ 100 := by rw [hv1]; have := line_len nError err; simp [ByteArray.size, nError] at this ⊢; omega
  have V1 := Lib.hid hv1
  obtain ⟨W, hW⟩ : ∃ W : World, W = w.alloc (.cells #[.int .u8 7, .int .u16 err, .int .u64 limit, .int .u64 left, .int .u64 reset, .int .u64 after, .int .u64 nanos, .bool retry, .int .i64 many, .slice A body.length c] 27) := ⟨_, rfl⟩
  have hx : Blk W w.heap.size 27 #[.int .u8 7, .int .u16 err, .int .u64 limit, .int .u64 left, .int .u64 reset, .int .u64 after, .int .u64 nanos, .bool retry, .int .i64 many, .slice A body.length c] := by rw [hW]; exact Blk.new w _ _
  have HX := Lib.hid hx
  have HB : Hid (Below w.heap.size w W) := Lib.hid (by rw [hW]; exact (Below.refl _ _).alloc (Nat.le_refl _) _)
  have HR := Lib.hid hr
  obtain ⟨herr0, herr1⟩ := herr
  have HW := Lib.hid hW
  clear hr hv1 hx hlim hlef hres haft hnan hW
  go_enter Try.func17, Try.ntmps17
  go_wp2_with fail
  rw [← HW.out]
  obtain ⟨e0, e1, e2, e3, e4, e5, e6, e7, e8, e9⟩ := Blk.ten HX.out
  refine (HS.out _).mono ?_
  rintro e w1 ⟨rfl, rfl⟩
  go_wp2_with fail
  refine (HS.out _).mono ?_
  rintro e w1 ⟨rfl, rfl⟩
  obtain ⟨s0, hs0⟩ : ∃ s, s = ByteArray.mk #[72, 84, 84, 80, 47, 49, 46, 49, 32] ++ b7 ++ ByteArray.mk #[13, 10] := ⟨_, rfl⟩
  have hz0 : s0.size ≤ 50 := by rw [hs0]; decide
  go_wp2_with fail
  rw [← hs0]
  have S0 := Lib.hid hs0
  clear hs0
  refine (H1.out _).mono ?_
  rintro e w1 ⟨rfl, rfl⟩
  go_wp2_with fail
  obtain ⟨sx, hsx⟩ : ∃ s, s = s0 ++ v1 := ⟨_, rfl⟩
  have hzx : sx.size ≤ 1000 := by rw [hsx]; (try simp only [ByteArray.size_append]); omega
  have SX : Hid (sx ++ ByteArray.mk #[13, 10] ++ ByteArray.mk #[] = ⟨(http ++ (st7 ++ (crlf ++ ((linesOf [(nError, err)]) ++ (crlf ++ []))))).toArray⟩) := Lib.hid (by
    rw [hsx, V1.out, S0.out, show ByteArray.mk #[72, 84, 84, 80, 47, 49, 46, 49, 32] ++ b7 ++ ByteArray.mk #[13, 10] = ⟨(http ++ (st7 ++ crlf)).toArray⟩ from by decide +kernel, show ByteArray.mk #[13, 10] = ⟨crlf.toArray⟩ from rfl, show ByteArray.mk #[] = ⟨([] : List UInt8).toArray⟩ from rfl]
    simp only [ByteArray.mk_append_mk]
    simp [linesOf])
  rw [← hsx]
  clear hsx HS H1
  have hq1 : ¬ 9223372036854775807 < sx.size + 2 := by omega
  have hcc : 0 ≤ c := Nat.zero_le c
  have hnn := nil_row
  go_region_held (fun w' => w'.cell? ⟨w.heap.size, 0, none⟩ = some (.int .u8 7) ∧ w'.cell? ⟨w.heap.size, 1, none⟩ = some (.int .u16 err) ∧ w'.cell? ⟨w.heap.size, 2, none⟩ = some (.int .u64 limit) ∧ w'.cell? ⟨w.heap.size, 3, none⟩ = some (.int .u64 left) ∧ w'.cell? ⟨w.heap.size, 4, none⟩ = some (.int .u64 reset) ∧ w'.cell? ⟨w.heap.size, 5, none⟩ = some (.int .u64 after) ∧ w'.cell? ⟨w.heap.size, 6, none⟩ = some (.int .u64 nanos) ∧ w'.cell? ⟨w.heap.size, 7, none⟩ = some (.bool retry) ∧ w'.cell? ⟨w.heap.size, 8, none⟩ = some (.int .i64 many) ∧ w'.cell? ⟨w.heap.size, 9, none⟩ = some (.slice A body.length c)) (go_keep)
    (((with_reducible refine (bodied_not 7 err limit left reset after nanos many retry body.length c A _ rfl).mono ?_); rintro e x1 ⟨rfl, hb1⟩; have hx1 := Blk.below (Blk.drew HX.out) hb1 HX.out.lt; obtain ⟨q0, q1, q2, q3, q4, q5, q6, q7, q8, q9⟩ := Blk.ten hx1; have GX := Lib.hid (HB.out.drew.trans (hb1.mono HB.out.size)); obtain ⟨m, c7, w7, hrun, hb7, h7⟩ := bytes_str _ SX.out GX.out; obtain ⟨p0, p1, p2, p3, p4, p5, p6, p7, p8, p9⟩ := Blk.ten (Blk.below hx1 hb7 hx1.lt); clear hb7 hx1))
  go_wp2
  go_ret
  exact bytes_end h7

set_option maxHeartbeats 4000000 in
theorem refrender_8 (err limit left reset after nanos many : Int) (retry : Bool) (body : List UInt8) (c : Nat) (A : Option Addr) (w : World) (hr : Row w w.heap.size A (u8s body)) (hl : body.length ≤ 140737488351232) (hcap : body.length ≤ c) (hlim : 0 ≤ limit ∧ limit ≤ 18446744073709551615) (hlef : 0 ≤ left ∧ left ≤ 18446744073709551615) (hres : 0 ≤ reset ∧ reset ≤ 18446744073709551615) (haft : 0 ≤ after ∧ after ≤ 18446744073709551615) (hnan : 0 ≤ nanos ∧ nanos ≤ 18446744073709551615) (herr : 0 ≤ err ∧ err ≤ 65535) :
    Calls Try.prog 17 #[.agg #[.int .u8 8, .int .u16 err, .int .u64 limit, .int .u64 left, .int .u64 reset, .int .u64 after, .int .u64 nanos, .bool retry, .int .i64 many, .slice A body.length c]] w
      (Bytes (http ++ (st8 ++ (crlf ++ ((linesOf [(nLength, body.length)]) ++ (crlf ++ body))))) w) := by
  have HS := Lib.hid (fun W => refstatus_any 8 W)
  rw [show str (status 8) = .string b8 from rfl] at HS
  obtain ⟨v1, hv1⟩ : ∃ v : ByteArray, v = ⟨(line nLength body.length).toArray⟩ := ⟨_, rfl⟩
  have H1 := Lib.hid (fun W => refline_any nLength body.length (by simp [nLength]) (by omega) ⟨#[67, 111, 110, 116, 101, 110, 116, 45, 76, 101, 110, 103, 116, 104]⟩ rfl W)
  rw [← hv1] at H1
  have hz1 : v1.size ≤ 100 := by rw [hv1]; have := line_len nLength body.length; simp [ByteArray.size, nLength] at this ⊢; omega
  have V1 := Lib.hid hv1
  obtain ⟨W, hW⟩ : ∃ W : World, W = w.alloc (.cells #[.int .u8 8, .int .u16 err, .int .u64 limit, .int .u64 left, .int .u64 reset, .int .u64 after, .int .u64 nanos, .bool retry, .int .i64 many, .slice A body.length c] 27) := ⟨_, rfl⟩
  have hx : Blk W w.heap.size 27 #[.int .u8 8, .int .u16 err, .int .u64 limit, .int .u64 left, .int .u64 reset, .int .u64 after, .int .u64 nanos, .bool retry, .int .i64 many, .slice A body.length c] := by rw [hW]; exact Blk.new w _ _
  have HX := Lib.hid hx
  have HB : Hid (Below w.heap.size w W) := Lib.hid (by rw [hW]; exact (Below.refl _ _).alloc (Nat.le_refl _) _)
  have HR := Lib.hid hr
  obtain ⟨herr0, herr1⟩ := herr
  have HW := Lib.hid hW
  clear hr hv1 hx hlim hlef hres haft hnan hW
  go_enter Try.func17, Try.ntmps17
  go_wp2_with fail
  rw [← HW.out]
  obtain ⟨e0, e1, e2, e3, e4, e5, e6, e7, e8, e9⟩ := Blk.ten HX.out
  refine (HS.out _).mono ?_
  rintro e w1 ⟨rfl, rfl⟩
  go_wp2_with fail
  refine (HS.out _).mono ?_
  rintro e w1 ⟨rfl, rfl⟩
  obtain ⟨s0, hs0⟩ : ∃ s, s = ByteArray.mk #[72, 84, 84, 80, 47, 49, 46, 49, 32] ++ b8 ++ ByteArray.mk #[13, 10] := ⟨_, rfl⟩
  have hz0 : s0.size ≤ 50 := by rw [hs0]; decide
  go_wp2_with fail
  rw [← hs0]
  have S0 := Lib.hid hs0
  clear hs0
  refine (H1.out _).mono ?_
  rintro e w1 ⟨rfl, rfl⟩
  go_wp2_with fail
  obtain ⟨sx, hsx⟩ : ∃ s, s = s0 ++ v1 := ⟨_, rfl⟩
  have hzx : sx.size ≤ 1000 := by rw [hsx]; (try simp only [ByteArray.size_append]); omega
  have SX : Hid (sx ++ ByteArray.mk #[13, 10] ++ ByteArray.mk body.toArray = ⟨(http ++ (st8 ++ (crlf ++ ((linesOf [(nLength, body.length)]) ++ (crlf ++ body))))).toArray⟩) := Lib.hid (by
    rw [hsx, V1.out, S0.out, show ByteArray.mk #[72, 84, 84, 80, 47, 49, 46, 49, 32] ++ b8 ++ ByteArray.mk #[13, 10] = ⟨(http ++ (st8 ++ crlf)).toArray⟩ from by decide +kernel, show ByteArray.mk #[13, 10] = ⟨crlf.toArray⟩ from rfl]
    simp only [ByteArray.mk_append_mk]
    simp [linesOf])
  rw [← hsx]
  clear hsx HS H1
  have hq1 : ¬ 9223372036854775807 < sx.size + 2 := by omega
  have hcc : 0 ≤ c := Nat.zero_le c
  have hq2 : ¬ 9223372036854775807 < sx.size + 2 + body.length := by omega
  go_region_held (fun w' => w'.cell? ⟨w.heap.size, 0, none⟩ = some (.int .u8 8) ∧ w'.cell? ⟨w.heap.size, 1, none⟩ = some (.int .u16 err) ∧ w'.cell? ⟨w.heap.size, 2, none⟩ = some (.int .u64 limit) ∧ w'.cell? ⟨w.heap.size, 3, none⟩ = some (.int .u64 left) ∧ w'.cell? ⟨w.heap.size, 4, none⟩ = some (.int .u64 reset) ∧ w'.cell? ⟨w.heap.size, 5, none⟩ = some (.int .u64 after) ∧ w'.cell? ⟨w.heap.size, 6, none⟩ = some (.int .u64 nanos) ∧ w'.cell? ⟨w.heap.size, 7, none⟩ = some (.bool retry) ∧ w'.cell? ⟨w.heap.size, 8, none⟩ = some (.int .i64 many) ∧ w'.cell? ⟨w.heap.size, 9, none⟩ = some (.slice A body.length c)) (go_keep)
    (((with_reducible refine (bodied_8 err limit left reset after nanos many retry body.length c A _).mono ?_); rintro e x1 ⟨rfl, hb1⟩; have hx1 := Blk.below (Blk.drew HX.out) hb1 HX.out.lt; obtain ⟨q0, q1, q2, q3, q4, q5, q6, q7, q8, q9⟩ := Blk.ten hx1; have GX := Lib.hid (HB.out.drew.trans (hb1.mono HB.out.size)); have hns := row_string (c := c) ((HR.out.below GX.out).more GX.out.size); obtain ⟨m, c7, w7, hrun, hb7, h7⟩ := bytes_str _ SX.out GX.out; obtain ⟨p0, p1, p2, p3, p4, p5, p6, p7, p8, p9⟩ := Blk.ten (Blk.below hx1 hb7 hx1.lt); clear hb7 hx1))
  go_wp2
  go_ret
  exact bytes_end h7

end Go.Proofs.Ytcgcfgomakaacaa.head
