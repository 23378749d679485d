/- the reference's Render, walked: codes 1 and 2. -/
import Derived.Test.YtcgcfgomakaacaaHeadRefA
import Derived.Deep.QuietTactic
import Derived.BigQuiet
import Derived.Deep.RegionHeld
namespace Go.Proofs.Ytcgcfgomakaacaa.head
open Go.RowKit
open Go.Proofs.Ytcgcfgomakaacaa.aid

set_option maxHeartbeats 4000000 in
theorem refrender_1 (err limit left reset after nanos many : Int) (retry : Bool) (body : List UInt8) (c : Nat) (A : Option Addr) (w : World) (hr : Row w w.heap.size A (u8s body)) (hl : body.length ≤ 140737488351232) (hcap : body.length ≤ c) (hlim : 0 ≤ limit ∧ limit ≤ 18446744073709551615) (hlef : 0 ≤ left ∧ left ≤ 18446744073709551615) (hres : 0 ≤ reset ∧ reset ≤ 18446744073709551615) (haft : 0 ≤ after ∧ after ≤ 18446744073709551615) (hnan : 0 ≤ nanos ∧ nanos ≤ 18446744073709551615) (herr : 0 ≤ err ∧ err ≤ 65535) :
    Calls Try.prog 17 #[.agg #[.int .u8 1, .int .u16 err, .int .u64 limit, .int .u64 left, .int .u64 reset, .int .u64 after, .int .u64 nanos, .bool retry, .int .i64 many, .slice A body.length c]] w
      (Bytes (http ++ (st1 ++ (crlf ++ ((linesOf [(nLimit, limit), (nLeft, left), (nReset, reset)]) ++ (crlf ++ []))))) w) := by
  have HS := Lib.hid (fun W => refstatus_any 1 W)
  rw [show str (status 1) = .string b1 from rfl] at HS
  obtain ⟨v1, hv1⟩ : ∃ v : ByteArray, v = ⟨(line nLimit limit).toArray⟩ := ⟨_, rfl⟩
  have H1 := Lib.hid (fun W => refline_any nLimit limit (by simp [nLimit]) (by omega) ⟨#[82, 97, 116, 101, 76, 105, 109, 105, 116, 45, 76, 105, 109, 105, 116]⟩ rfl W)
  rw [← hv1] at H1
  have hz1 : v1.size ≤ 100 := by rw [hv1]; have := line_len nLimit limit; simp [ByteArray.size, nLimit] at this ⊢; omega
  have V1 := Lib.hid hv1
  obtain ⟨v2, hv2⟩ : ∃ v : ByteArray, v = ⟨(line nLeft left).toArray⟩ := ⟨_, rfl⟩
  have H2 := Lib.hid (fun W => refline_any nLeft left (by simp [nLeft]) (by omega) ⟨#[82, 97, 116, 101, 76, 105, 109, 105, 116, 45, 82, 101, 109, 97, 105, 110, 105, 110, 103]⟩ rfl W)
  rw [← hv2] at H2
  have hz2 : v2.size ≤ 100 := by rw [hv2]; have := line_len nLeft left; simp [ByteArray.size, nLeft] at this ⊢; omega
  have V2 := Lib.hid hv2
  obtain ⟨v3, hv3⟩ : ∃ v : ByteArray, v = ⟨(line nReset reset).toArray⟩ := ⟨_, rfl⟩
  have H3 := Lib.hid (fun W => refline_any nReset reset (by simp [nReset]) (by omega) ⟨#[82, 97, 116, 101, 76, 105, 109, 105, 116, 45, 82, 101, 115, 101, 116]⟩ rfl W)
  rw [← hv3] at H3
  have hz3 : v3.size ≤ 100 := by rw [hv3]; have := line_len nReset reset; simp [ByteArray.size, nReset] at this ⊢; omega
  have V3 := Lib.hid hv3
  obtain ⟨W, hW⟩ : ∃ W : World, W = w.alloc (.cells #[.int .u8 1, .int .u16 err, .int .u64 limit, .int .u64 left, .int .u64 reset, .int .u64 after, .int .u64 nanos, .bool retry, .int .i64 many, .slice A body.length c] 27) := ⟨_, rfl⟩
  have hx : Blk W w.heap.size 27 #[.int .u8 1, .int .u16 err, .int .u64 limit, .int .u64 left, .int .u64 reset, .int .u64 after, .int .u64 nanos, .bool retry, .int .i64 many, .slice A body.length c] := by rw [hW]; exact Blk.new w _ _
  have HX := Lib.hid hx
  have HB : Hid (Below w.heap.size w W) := Lib.hid (by rw [hW]; exact (Below.refl _ _).alloc (Nat.le_refl _) _)
  have HR := Lib.hid hr
  obtain ⟨herr0, herr1⟩ := herr
  have HW := Lib.hid hW
  clear hr hv1 hv2 hv3 hx hlim hlef hres haft hnan hW
  go_enter Try.func17, Try.ntmps17
  go_wp2_with fail
  rw [← HW.out]
  obtain ⟨e0, e1, e2, e3, e4, e5, e6, e7, e8, e9⟩ := Blk.ten HX.out
  refine (HS.out _).mono ?_
  rintro e w1 ⟨rfl, rfl⟩
  go_wp2_with fail
  refine (HS.out _).mono ?_
  rintro e w1 ⟨rfl, rfl⟩
  obtain ⟨s0, hs0⟩ : ∃ s, s = ByteArray.mk #[72, 84, 84, 80, 47, 49, 46, 49, 32] ++ b1 ++ ByteArray.mk #[13, 10] := ⟨_, rfl⟩
  have hz0 : s0.size ≤ 50 := by rw [hs0]; decide
  go_wp2_with fail
  rw [← hs0]
  have S0 := Lib.hid hs0
  clear hs0
  have hn1 : ¬ 9223372036854775807 < s0.size + v1.size := by omega
  have hn2 : ¬ 9223372036854775807 < s0.size + v1.size + v2.size := by omega
  have hn3 : ¬ 9223372036854775807 < s0.size + v1.size + v2.size + v3.size := by omega
  refine wp_region_quiet_lit (by kernel_rfl) (by kernel_rfl) ?_
  repeat (first | go_big_quiet_step ((first | (with_reducible exact Calls.quiet_of_same (H1.out _)) | (with_reducible exact Calls.quiet_of_same (H2.out _)) | (with_reducible exact Calls.quiet_of_same (H3.out _)))) | quiet_step ((first | (with_reducible exact Calls.quiet_of_same (H1.out _)) | (with_reducible exact Calls.quiet_of_same (H2.out _)) | (with_reducible exact Calls.quiet_of_same (H3.out _)))))
  refine wpQuiet_nil ?_
  intro W3 hw'
  obtain ⟨nq, hw''⟩ := hw'
  have hx2 : Blk W3 w.heap.size 27 #[.int .u8 1, .int .u16 err, .int .u64 limit, .int .u64 left, .int .u64 reset, .int .u64 after, .int .u64 nanos, .bool retry, .int .i64 many, .slice A body.length c] := by rw [hw'']; exact HX.out.drewN nq
  have hB2 : Below w.heap.size w W3 := by rw [hw'']; exact below_drewN HB.out nq
  clear hw'' e0 e1 e2 e3 e4 e5 e6 e7 e8 e9 HX HB
  have HX := Lib.hid hx2
  have HB := Lib.hid hB2
  obtain ⟨e0, e1, e2, e3, e4, e5, e6, e7, e8, e9⟩ := Blk.ten hx2
  clear hx2 hB2
  obtain ⟨sa3, hsa⟩ : ∃ s, s = s0 ++ v1 ++ v2 ++ v3 := ⟨_, rfl⟩
  have hza3 : sa3.size ≤ 350 := by rw [hsa]; simp only [ByteArray.size_append]; omega
  go_wp2_with fail
  rw [← hsa]
  have SA3 := Lib.hid hsa
  clear hsa hn1 hn2 hn3
  obtain ⟨sx, hsx⟩ : ∃ s, s = sa3 := ⟨_, rfl⟩
  have hzx : sx.size ≤ 1000 := by rw [hsx]; (try simp only [ByteArray.size_append]); omega
  have SX : Hid (sx ++ ByteArray.mk #[13, 10] ++ ByteArray.mk #[] = ⟨(http ++ (st1 ++ (crlf ++ ((linesOf [(nLimit, limit), (nLeft, left), (nReset, reset)]) ++ (crlf ++ []))))).toArray⟩) := Lib.hid (by
    rw [hsx, SA3.out, V1.out, V2.out, V3.out, S0.out, show ByteArray.mk #[72, 84, 84, 80, 47, 49, 46, 49, 32] ++ b1 ++ ByteArray.mk #[13, 10] = ⟨(http ++ (st1 ++ crlf)).toArray⟩ from by decide +kernel, show ByteArray.mk #[13, 10] = ⟨crlf.toArray⟩ from rfl, show ByteArray.mk #[] = ⟨([] : List UInt8).toArray⟩ from rfl]
    simp only [ByteArray.mk_append_mk]
    simp [linesOf])
  rw [← hsx]
  clear hsx HS H1 H2 H3
  have hq1 : ¬ 9223372036854775807 < sx.size + 2 := by omega
  have hcc : 0 ≤ c := Nat.zero_le c
  have hnn := nil_row
  go_region_held (fun w' => w'.cell? ⟨w.heap.size, 0, none⟩ = some (.int .u8 1) ∧ w'.cell? ⟨w.heap.size, 1, none⟩ = some (.int .u16 err) ∧ w'.cell? ⟨w.heap.size, 2, none⟩ = some (.int .u64 limit) ∧ w'.cell? ⟨w.heap.size, 3, none⟩ = some (.int .u64 left) ∧ w'.cell? ⟨w.heap.size, 4, none⟩ = some (.int .u64 reset) ∧ w'.cell? ⟨w.heap.size, 5, none⟩ = some (.int .u64 after) ∧ w'.cell? ⟨w.heap.size, 6, none⟩ = some (.int .u64 nanos) ∧ w'.cell? ⟨w.heap.size, 7, none⟩ = some (.bool retry) ∧ w'.cell? ⟨w.heap.size, 8, none⟩ = some (.int .i64 many) ∧ w'.cell? ⟨w.heap.size, 9, none⟩ = some (.slice A body.length c)) (go_keep)
    (((with_reducible refine (bodied_not 1 err limit left reset after nanos many retry body.length c A _ rfl).mono ?_); rintro e x1 ⟨rfl, hb1⟩; have hx1 := Blk.below (Blk.drew HX.out) hb1 HX.out.lt; obtain ⟨q0, q1, q2, q3, q4, q5, q6, q7, q8, q9⟩ := Blk.ten hx1; have GX := Lib.hid (HB.out.drew.trans (hb1.mono HB.out.size)); obtain ⟨m, c7, w7, hrun, hb7, h7⟩ := bytes_str _ SX.out GX.out; obtain ⟨p0, p1, p2, p3, p4, p5, p6, p7, p8, p9⟩ := Blk.ten (Blk.below hx1 hb7 hx1.lt); clear hb7 hx1))
  go_wp2
  go_ret
  exact bytes_end h7

set_option maxHeartbeats 4000000 in
theorem refrender_2f (err limit left reset after nanos many : Int) (body : List UInt8) (c : Nat) (A : Option Addr) (w : World) (hr : Row w w.heap.size A (u8s body)) (hl : body.length ≤ 140737488351232) (hcap : body.length ≤ c) (hlim : 0 ≤ limit ∧ limit ≤ 18446744073709551615) (hlef : 0 ≤ left ∧ left ≤ 18446744073709551615) (hres : 0 ≤ reset ∧ reset ≤ 18446744073709551615) (haft : 0 ≤ after ∧ after ≤ 18446744073709551615) (hnan : 0 ≤ nanos ∧ nanos ≤ 18446744073709551615) (herr : 0 ≤ err ∧ err ≤ 65535) :
    Calls Try.prog 17 #[.agg #[.int .u8 2, .int .u16 err, .int .u64 limit, .int .u64 left, .int .u64 reset, .int .u64 after, .int .u64 nanos, .bool false, .int .i64 many, .slice A body.length c]] w
      (Bytes (http ++ (st2 ++ (crlf ++ ((linesOf [(nLimit, limit), (nLeft, left), (nReset, reset)]) ++ (crlf ++ []))))) w) := by
  have HS := Lib.hid (fun W => refstatus_any 2 W)
  rw [show str (status 2) = .string b2 from rfl] at HS
  obtain ⟨v1, hv1⟩ : ∃ v : ByteArray, v = ⟨(line nLimit limit).toArray⟩ := ⟨_, rfl⟩
  have H1 := Lib.hid (fun W => refline_any nLimit limit (by simp [nLimit]) (by omega) ⟨#[82, 97, 116, 101, 76, 105, 109, 105, 116, 45, 76, 105, 109, 105, 116]⟩ rfl W)
  rw [← hv1] at H1
  have hz1 : v1.size ≤ 100 := by rw [hv1]; have := line_len nLimit limit; simp [ByteArray.size, nLimit] at this ⊢; omega
  have V1 := Lib.hid hv1
  obtain ⟨v2, hv2⟩ : ∃ v : ByteArray, v = ⟨(line nLeft left).toArray⟩ := ⟨_, rfl⟩
  have H2 := Lib.hid (fun W => refline_any nLeft left (by simp [nLeft]) (by omega) ⟨#[82, 97, 116, 101, 76, 105, 109, 105, 116, 45, 82, 101, 109, 97, 105, 110, 105, 110, 103]⟩ rfl W)
  rw [← hv2] at H2
  have hz2 : v2.size ≤ 100 := by rw [hv2]; have := line_len nLeft left; simp [ByteArray.size, nLeft] at this ⊢; omega
  have V2 := Lib.hid hv2
  obtain ⟨v3, hv3⟩ : ∃ v : ByteArray, v = ⟨(line nReset reset).toArray⟩ := ⟨_, rfl⟩
  have H3 := Lib.hid (fun W => refline_any nReset reset (by simp [nReset]) (by omega) ⟨#[82, 97, 116, 101, 76, 105, 109, 105, 116, 45, 82, 101, 115, 101, 116]⟩ rfl W)
  rw [← hv3] at H3
  have hz3 : v3.size ≤ 100 := by rw [hv3]; have := line_len nReset reset; simp [ByteArray.size, nReset] at this ⊢; omega
  have V3 := Lib.hid hv3
  obtain ⟨W, hW⟩ : ∃ W : World, W = w.alloc (.cells #[.int .u8 2, .int .u16 err, .int .u64 limit, .int .u64 left, .int .u64 reset, .int .u64 after, .int .u64 nanos, .bool false, .int .i64 many, .slice A body.length c] 27) := ⟨_, rfl⟩
  have hx : Blk W w.heap.size 27 #[.int .u8 2, .int .u16 err, .int .u64 limit, .int .u64 left, .int .u64 reset, .int .u64 after, .int .u64 nanos, .bool false, .int .i64 many, .slice A body.length c] := by rw [hW]; exact Blk.new w _ _
  have HX := Lib.hid hx
  have HB : Hid (Below w.heap.size w W) := Lib.hid (by rw [hW]; exact (Below.refl _ _).alloc (Nat.le_refl _) _)
  have HR := Lib.hid hr
  obtain ⟨herr0, herr1⟩ := herr
  have HW := Lib.hid hW
  clear hr hv1 hv2 hv3 hx hlim hlef hres haft hnan hW
  go_enter Try.func17, Try.ntmps17
  go_wp2_with fail
  rw [← HW.out]
  obtain ⟨e0, e1, e2, e3, e4, e5, e6, e7, e8, e9⟩ := Blk.ten HX.out
  refine (HS.out _).mono ?_
  rintro e w1 ⟨rfl, rfl⟩
  go_wp2_with fail
  refine (HS.out _).mono ?_
  rintro e w1 ⟨rfl, rfl⟩
  obtain ⟨s0, hs0⟩ : ∃ s, s = ByteArray.mk #[72, 84, 84, 80, 47, 49, 46, 49, 32] ++ b2 ++ ByteArray.mk #[13, 10] := ⟨_, rfl⟩
  have hz0 : s0.size ≤ 50 := by rw [hs0]; decide
  go_wp2_with fail
  rw [← hs0]
  have S0 := Lib.hid hs0
  clear hs0
  have hn1 : ¬ 9223372036854775807 < s0.size + v1.size := by omega
  have hn2 : ¬ 9223372036854775807 < s0.size + v1.size + v2.size := by omega
  have hn3 : ¬ 9223372036854775807 < s0.size + v1.size + v2.size + v3.size := by omega
  refine wp_region_quiet_lit (by kernel_rfl) (by kernel_rfl) ?_
  repeat (first | go_big_quiet_step ((first | (with_reducible exact Calls.quiet_of_same (H1.out _)) | (with_reducible exact Calls.quiet_of_same (H2.out _)) | (with_reducible exact Calls.quiet_of_same (H3.out _)))) | quiet_step ((first | (with_reducible exact Calls.quiet_of_same (H1.out _)) | (with_reducible exact Calls.quiet_of_same (H2.out _)) | (with_reducible exact Calls.quiet_of_same (H3.out _)))))
  refine wpQuiet_nil ?_
  intro W3 hw'
  obtain ⟨nq, hw''⟩ := hw'
  have hx2 : Blk W3 w.heap.size 27 #[.int .u8 2, .int .u16 err, .int .u64 limit, .int .u64 left, .int .u64 reset, .int .u64 after, .int .u64 nanos, .bool false, .int .i64 many, .slice A body.length c] := by rw [hw'']; exact HX.out.drewN nq
  have hB2 : Below w.heap.size w W3 := by rw [hw'']; exact below_drewN HB.out nq
  clear hw'' e0 e1 e2 e3 e4 e5 e6 e7 e8 e9 HX HB
  have HX := Lib.hid hx2
  have HB := Lib.hid hB2
  obtain ⟨e0, e1, e2, e3, e4, e5, e6, e7, e8, e9⟩ := Blk.ten hx2
  clear hx2 hB2
  obtain ⟨sa3, hsa⟩ : ∃ s, s = s0 ++ v1 ++ v2 ++ v3 := ⟨_, rfl⟩
  have hza3 : sa3.size ≤ 350 := by rw [hsa]; simp only [ByteArray.size_append]; omega
  go_wp2_with fail
  rw [← hsa]
  have SA3 := Lib.hid hsa
  clear hsa hn1 hn2 hn3
  obtain ⟨sx, hsx⟩ : ∃ s, s = sa3 := ⟨_, rfl⟩
  have hzx : sx.size ≤ 1000 := by rw [hsx]; (try simp only [ByteArray.size_append]); omega
  have SX : Hid (sx ++ ByteArray.mk #[13, 10] ++ ByteArray.mk #[] = ⟨(http ++ (st2 ++ (crlf ++ ((linesOf [(nLimit, limit), (nLeft, left), (nReset, reset)]) ++ (crlf ++ []))))).toArray⟩) := Lib.hid (by
    rw [hsx, SA3.out, V1.out, V2.out, V3.out, S0.out, show ByteArray.mk #[72, 84, 84, 80, 47, 49, 46, 49, 32] ++ b2 ++ ByteArray.mk #[13, 10] = ⟨(http ++ (st2 ++ crlf)).toArray⟩ from by decide +kernel, show ByteArray.mk #[13, 10] = ⟨crlf.toArray⟩ from rfl, show ByteArray.mk #[] = ⟨([] : List UInt8).toArray⟩ from rfl]
    simp only [ByteArray.mk_append_mk]
    simp [linesOf])
  rw [← hsx]
  clear hsx HS H1 H2 H3
  have hq1 : ¬ 9223372036854775807 < sx.size + 2 := by omega
  have hcc : 0 ≤ c := Nat.zero_le c
  have hnn := nil_row
  go_region_held (fun w' => w'.cell? ⟨w.heap.size, 0, none⟩ = some (.int .u8 2) ∧ w'.cell? ⟨w.heap.size, 1, none⟩ = some (.int .u16 err) ∧ w'.cell? ⟨w.heap.size, 2, none⟩ = some (.int .u64 limit) ∧ w'.cell? ⟨w.heap.size, 3, none⟩ = some (.int .u64 left) ∧ w'.cell? ⟨w.heap.size, 4, none⟩ = some (.int .u64 reset) ∧ w'.cell? ⟨w.heap.size, 5, none⟩ = some (.int .u64 after) ∧ w'.cell? ⟨w.heap.size, 6, none⟩ = some (.int .u64 nanos) ∧ w'.cell? ⟨w.heap.size, 7, none⟩ = some (.bool false) ∧ w'.cell? ⟨w.heap.size, 8, none⟩ = some (.int .i64 many) ∧ w'.cell? ⟨w.heap.size, 9, none⟩ = some (.slice A body.length c)) (go_keep)
    (((with_reducible refine (bodied_not 2 err limit left reset after nanos many false body.length c A _ rfl).mono ?_); rintro e x1 ⟨rfl, hb1⟩; have hx1 := Blk.below (Blk.drew HX.out) hb1 HX.out.lt; obtain ⟨q0, q1, q2, q3, q4, q5, q6, q7, q8, q9⟩ := Blk.ten hx1; have GX := Lib.hid (HB.out.drew.trans (hb1.mono HB.out.size)); obtain ⟨m, c7, w7, hrun, hb7, h7⟩ := bytes_str _ SX.out GX.out; obtain ⟨p0, p1, p2, p3, p4, p5, p6, p7, p8, p9⟩ := Blk.ten (Blk.below hx1 hb7 hx1.lt); clear hb7 hx1))
  go_wp2
  go_ret
  exact bytes_end h7

set_option maxHeartbeats 4000000 in
theorem refrender_2t (err limit left reset after nanos many : Int) (body : List UInt8) (c : Nat) (A : Option Addr) (w : World) (hr : Row w w.heap.size A (u8s body)) (hl : body.length ≤ 140737488351232) (hcap : body.length ≤ c) (hlim : 0 ≤ limit ∧ limit ≤ 18446744073709551615) (hlef : 0 ≤ left ∧ left ≤ 18446744073709551615) (hres : 0 ≤ reset ∧ reset ≤ 18446744073709551615) (haft : 0 ≤ after ∧ after ≤ 18446744073709551615) (hnan : 0 ≤ nanos ∧ nanos ≤ 18446744073709551615) (herr : 0 ≤ err ∧ err ≤ 65535) :
    Calls Try.prog 17 #[.agg #[.int .u8 2, .int .u16 err, .int .u64 limit, .int .u64 left, .int .u64 reset, .int .u64 after, .int .u64 nanos, .bool true, .int .i64 many, .slice A body.length c]] w
      (Bytes (http ++ (st2 ++ (crlf ++ ((linesOf [(nLimit, limit), (nLeft, left), (nReset, reset)] ++ linesOf [(nAfter, after), (nNanos, nanos)]) ++ (crlf ++ []))))) w) := by
  have HS := Lib.hid (fun W => refstatus_any 2 W)
  rw [show str (status 2) = .string b2 from rfl] at HS
  obtain ⟨v1, hv1⟩ : ∃ v : ByteArray, v = ⟨(line nLimit limit).toArray⟩ := ⟨_, rfl⟩
  have H1 := Lib.hid (fun W => refline_any nLimit limit (by simp [nLimit]) (by omega) ⟨#[82, 97, 116, 101, 76, 105, 109, 105, 116, 45, 76, 105, 109, 105, 116]⟩ rfl W)
  rw [← hv1] at H1
  have hz1 : v1.size ≤ 100 := by rw [hv1]; have := line_len nLimit limit; simp [ByteArray.size, nLimit] at this ⊢; omega
  have V1 := Lib.hid hv1
  obtain ⟨v2, hv2⟩ : ∃ v : ByteArray, v = ⟨(line nLeft left).toArray⟩ := ⟨_, rfl⟩
  have H2 := Lib.hid (fun W => refline_any nLeft left (by simp [nLeft]) (by omega) ⟨#[82, 97, 116, 101, 76, 105, 109, 105, 116, 45, 82, 101, 109, 97, 105, 110, 105, 110, 103]⟩ rfl W)
  rw [← hv2] at H2
  have hz2 : v2.size ≤ 100 := by rw [hv2]; have := line_len nLeft left; simp [ByteArray.size, nLeft] at this ⊢; omega
  have V2 := Lib.hid hv2
  obtain ⟨v3, hv3⟩ : ∃ v : ByteArray, v = ⟨(line nReset reset).toArray⟩ := ⟨_, rfl⟩
  have H3 := Lib.hid (fun W => refline_any nReset reset (by simp [nReset]) (by omega) ⟨#[82, 97, 116, 101, 76, 105, 109, 105, 116, 45, 82, 101, 115, 101, 116]⟩ rfl W)
  rw [← hv3] at H3
  have hz3 : v3.size ≤ 100 := by rw [hv3]; have := line_len nReset reset; simp [ByteArray.size, nReset] at this ⊢; omega
  have V3 := Lib.hid hv3
  obtain ⟨v4, hv4⟩ : ∃ v : ByteArray, v = ⟨(line nAfter after).toArray⟩ := ⟨_, rfl⟩
  have H4 := Lib.hid (fun W => refline_any nAfter after (by simp [nAfter]) (by omega) ⟨#[82, 101, 116, 114, 121, 45, 65, 102, 116, 101, 114]⟩ rfl W)
  rw [← hv4] at H4
  have hz4 : v4.size ≤ 100 := by rw [hv4]; have := line_len nAfter after; simp [ByteArray.size, nAfter] at this ⊢; omega
  have V4 := Lib.hid hv4
  obtain ⟨v5, hv5⟩ : ∃ v : ByteArray, v = ⟨(line nNanos nanos).toArray⟩ := ⟨_, rfl⟩
  have H5 := Lib.hid (fun W => refline_any nNanos nanos (by simp [nNanos]) (by omega) ⟨#[82, 101, 116, 114, 121, 45, 65, 102, 116, 101, 114, 45, 78, 97, 110, 111, 115]⟩ rfl W)
  rw [← hv5] at H5
  have hz5 : v5.size ≤ 100 := by rw [hv5]; have := line_len nNanos nanos; simp [ByteArray.size, nNanos] at this ⊢; omega
  have V5 := Lib.hid hv5
  obtain ⟨W, hW⟩ : ∃ W : World, W = w.alloc (.cells #[.int .u8 2, .int .u16 err, .int .u64 limit, .int .u64 left, .int .u64 reset, .int .u64 after, .int .u64 nanos, .bool true, .int .i64 many, .slice A body.length c] 27) := ⟨_, rfl⟩
  have hx : Blk W w.heap.size 27 #[.int .u8 2, .int .u16 err, .int .u64 limit, .int .u64 left, .int .u64 reset, .int .u64 after, .int .u64 nanos, .bool true, .int .i64 many, .slice A body.length c] := by rw [hW]; exact Blk.new w _ _
  have HX := Lib.hid hx
  have HB : Hid (Below w.heap.size w W) := Lib.hid (by rw [hW]; exact (Below.refl _ _).alloc (Nat.le_refl _) _)
  have HR := Lib.hid hr
  obtain ⟨herr0, herr1⟩ := herr
  have HW := Lib.hid hW
  clear hr hv1 hv2 hv3 hv4 hv5 hx hlim hlef hres haft hnan hW
  go_enter Try.func17, Try.ntmps17
  go_wp2_with fail
  rw [← HW.out]
  obtain ⟨e0, e1, e2, e3, e4, e5, e6, e7, e8, e9⟩ := Blk.ten HX.out
  refine (HS.out _).mono ?_
  rintro e w1 ⟨rfl, rfl⟩
  go_wp2_with fail
  refine (HS.out _).mono ?_
  rintro e w1 ⟨rfl, rfl⟩
  obtain ⟨s0, hs0⟩ : ∃ s, s = ByteArray.mk #[72, 84, 84, 80, 47, 49, 46, 49, 32] ++ b2 ++ ByteArray.mk #[13, 10] := ⟨_, rfl⟩
  have hz0 : s0.size ≤ 50 := by rw [hs0]; decide
  go_wp2_with fail
  rw [← hs0]
  have S0 := Lib.hid hs0
  clear hs0
  have hn1 : ¬ 9223372036854775807 < s0.size + v1.size := by omega
  have hn2 : ¬ 9223372036854775807 < s0.size + v1.size + v2.size := by omega
  have hn3 : ¬ 9223372036854775807 < s0.size + v1.size + v2.size + v3.size := by omega
  refine wp_region_quiet_lit (by kernel_rfl) (by kernel_rfl) ?_
  repeat (first | go_big_quiet_step ((first | (with_reducible exact Calls.quiet_of_same (H1.out _)) | (with_reducible exact Calls.quiet_of_same (H2.out _)) | (with_reducible exact Calls.quiet_of_same (H3.out _)))) | quiet_step ((first | (with_reducible exact Calls.quiet_of_same (H1.out _)) | (with_reducible exact Calls.quiet_of_same (H2.out _)) | (with_reducible exact Calls.quiet_of_same (H3.out _)))))
  refine wpQuiet_nil ?_
  intro W3 hw'
  obtain ⟨nq, hw''⟩ := hw'
  have hx2 : Blk W3 w.heap.size 27 #[.int .u8 2, .int .u16 err, .int .u64 limit, .int .u64 left, .int .u64 reset, .int .u64 after, .int .u64 nanos, .bool true, .int .i64 many, .slice A body.length c] := by rw [hw'']; exact HX.out.drewN nq
  have hB2 : Below w.heap.size w W3 := by rw [hw'']; exact below_drewN HB.out nq
  clear hw'' e0 e1 e2 e3 e4 e5 e6 e7 e8 e9 HX HB
  have HX := Lib.hid hx2
  have HB := Lib.hid hB2
  obtain ⟨e0, e1, e2, e3, e4, e5, e6, e7, e8, e9⟩ := Blk.ten hx2
  clear hx2 hB2
  obtain ⟨sa3, hsa⟩ : ∃ s, s = s0 ++ v1 ++ v2 ++ v3 := ⟨_, rfl⟩
  have hza3 : sa3.size ≤ 350 := by rw [hsa]; simp only [ByteArray.size_append]; omega
  go_wp2_with fail
  rw [← hsa]
  have SA3 := Lib.hid hsa
  clear hsa hn1 hn2 hn3
  have hn4 : ¬ 9223372036854775807 < sa3.size + v4.size := by omega
  have hn5 : ¬ 9223372036854775807 < sa3.size + v4.size + v5.size := by omega
  refine wp_region_quiet_lit (by kernel_rfl) (by kernel_rfl) ?_
  repeat (first | go_big_quiet_step ((first | (with_reducible exact Calls.quiet_of_same (H4.out _)) | (with_reducible exact Calls.quiet_of_same (H5.out _)))) | quiet_step ((first | (with_reducible exact Calls.quiet_of_same (H4.out _)) | (with_reducible exact Calls.quiet_of_same (H5.out _)))))
  refine wpQuiet_nil ?_
  intro W5 hw'
  obtain ⟨nq, hw''⟩ := hw'
  have hx2 : Blk W5 w.heap.size 27 #[.int .u8 2, .int .u16 err, .int .u64 limit, .int .u64 left, .int .u64 reset, .int .u64 after, .int .u64 nanos, .bool true, .int .i64 many, .slice A body.length c] := by rw [hw'']; exact HX.out.drewN nq
  have hB2 : Below w.heap.size w W5 := by rw [hw'']; exact below_drewN HB.out nq
  clear hw'' e0 e1 e2 e3 e4 e5 e6 e7 e8 e9 HX HB
  have HX := Lib.hid hx2
  have HB := Lib.hid hB2
  obtain ⟨e0, e1, e2, e3, e4, e5, e6, e7, e8, e9⟩ := Blk.ten hx2
  clear hx2 hB2
  obtain ⟨sa5, hsa⟩ : ∃ s, s = sa3 ++ v4 ++ v5 := ⟨_, rfl⟩
  have hza5 : sa5.size ≤ 550 := by rw [hsa]; simp only [ByteArray.size_append]; omega
  go_wp2_with fail
  rw [← hsa]
  have SA5 := Lib.hid hsa
  clear hsa hn4 hn5
  obtain ⟨sx, hsx⟩ : ∃ s, s = sa5 := ⟨_, rfl⟩
  have hzx : sx.size ≤ 1000 := by rw [hsx]; (try simp only [ByteArray.size_append]); omega
  have SX : Hid (sx ++ ByteArray.mk #[13, 10] ++ ByteArray.mk #[] = ⟨(http ++ (st2 ++ (crlf ++ ((linesOf [(nLimit, limit), (nLeft, left), (nReset, reset)] ++ linesOf [(nAfter, after), (nNanos, nanos)]) ++ (crlf ++ []))))).toArray⟩) := Lib.hid (by
    rw [hsx, SA5.out, SA3.out, V1.out, V2.out, V3.out, V4.out, V5.out, S0.out, show ByteArray.mk #[72, 84, 84, 80, 47, 49, 46, 49, 32] ++ b2 ++ ByteArray.mk #[13, 10] = ⟨(http ++ (st2 ++ crlf)).toArray⟩ from by decide +kernel, show ByteArray.mk #[13, 10] = ⟨crlf.toArray⟩ from rfl, show ByteArray.mk #[] = ⟨([] : List UInt8).toArray⟩ from rfl]
    simp only [ByteArray.mk_append_mk]
    simp [linesOf])
  rw [← hsx]
  clear hsx HS H1 H2 H3 H4 H5
  have hq1 : ¬ 9223372036854775807 < sx.size + 2 := by omega
  have hcc : 0 ≤ c := Nat.zero_le c
  have hnn := nil_row
  go_region_held (fun w' => w'.cell? ⟨w.heap.size, 0, none⟩ = some (.int .u8 2) ∧ w'.cell? ⟨w.heap.size, 1, none⟩ = some (.int .u16 err) ∧ w'.cell? ⟨w.heap.size, 2, none⟩ = some (.int .u64 limit) ∧ w'.cell? ⟨w.heap.size, 3, none⟩ = some (.int .u64 left) ∧ w'.cell? ⟨w.heap.size, 4, none⟩ = some (.int .u64 reset) ∧ w'.cell? ⟨w.heap.size, 5, none⟩ = some (.int .u64 after) ∧ w'.cell? ⟨w.heap.size, 6, none⟩ = some (.int .u64 nanos) ∧ w'.cell? ⟨w.heap.size, 7, none⟩ = some (.bool true) ∧ w'.cell? ⟨w.heap.size, 8, none⟩ = some (.int .i64 many) ∧ w'.cell? ⟨w.heap.size, 9, none⟩ = some (.slice A body.length c)) (go_keep)
    (((with_reducible refine (bodied_not 2 err limit left reset after nanos many true body.length c A _ rfl).mono ?_); rintro e x1 ⟨rfl, hb1⟩; have hx1 := Blk.below (Blk.drew HX.out) hb1 HX.out.lt; obtain ⟨q0, q1, q2, q3, q4, q5, q6, q7, q8, q9⟩ := Blk.ten hx1; have GX := Lib.hid (HB.out.drew.trans (hb1.mono HB.out.size)); obtain ⟨m, c7, w7, hrun, hb7, h7⟩ := bytes_str _ SX.out GX.out; obtain ⟨p0, p1, p2, p3, p4, p5, p6, p7, p8, p9⟩ := Blk.ten (Blk.below hx1 hb7 hx1.lt); clear hb7 hx1))
  go_wp2
  go_ret
  exact bytes_end h7

end Go.Proofs.Ytcgcfgomakaacaa.head
