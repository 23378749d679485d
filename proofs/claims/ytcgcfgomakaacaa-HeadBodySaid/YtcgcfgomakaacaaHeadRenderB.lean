/- head.Render, walked: the other codes. -/
import Derived.Test.YtcgcfgomakaacaaHeadRenderA
namespace Go.Proofs.Ytcgcfgomakaacaa.head
open Go.RowKit
open Go.Proofs.Ytcgcfgomakaacaa.aid

set_option maxHeartbeats 4000000 in
theorem render_3 (err limit left reset after nanos many : Int) (retry : Bool) (body : List UInt8) (c : Nat) (A : Option Addr) (w : World) (hr : Row w w.heap.size A (u8s body)) (hl : body.length ≤ 140737488351232) (hlim : 0 ≤ limit ∧ limit ≤ 18446744073709551615) (hlef : 0 ≤ left ∧ left ≤ 18446744073709551615) (hres : 0 ≤ reset ∧ reset ≤ 18446744073709551615) (haft : 0 ≤ after ∧ after ≤ 18446744073709551615) (hnan : 0 ≤ nanos ∧ nanos ≤ 18446744073709551615) (herr : 0 ≤ err ∧ err ≤ 65535) :
    Calls Try.prog 15 #[.agg #[.int .u8 3, .int .u16 err, .int .u64 limit, .int .u64 left, .int .u64 reset, .int .u64 after, .int .u64 nanos, .bool retry, .int .i64 many, .slice A body.length c]] w
      (Bytes (http ++ (st3 ++ (crlf ++ ((linesOf [(nLimit, limit)]) ++ (crlf ++ []))))) w) := by
  have HS := Lib.hid (fun W => status_any 3 W)
  rw [show str (status 3) = .string b3 from rfl] at HS
  have HC := Lib.hid (fun W (h : Row W W.heap.size A (u8s body)) => clean_any ⟨3, err, limit, left, reset, after, nanos, retry, many, body⟩ hl A c W h)
  have HR := Lib.hid hr
  have HF : Hid ((0 ≤ limit ∧ limit ≤ 18446744073709551615) ∧ (0 ≤ left ∧ left ≤ 18446744073709551615) ∧ (0 ≤ reset ∧ reset ≤ 18446744073709551615) ∧ (0 ≤ after ∧ after ≤ 18446744073709551615) ∧ (0 ≤ nanos ∧ nanos ≤ 18446744073709551615)) := Lib.hid ⟨hlim, hlef, hres, haft, hnan⟩
  obtain ⟨herr0, herr1⟩ := herr
  clear hr hlim hlef hres haft hnan
  go_enter Try.func15, Try.ntmps15
  go_wp2_with fail
  refine (HS.out _).mono ?_
  rintro e w1 ⟨rfl, hb1⟩
  obtain ⟨hc, hf⟩ := bcell hb1
  have hz0 : w.heap.size < w1.heap.size := by have := hb1.size; simp at this; omega
  have B1 := Lib.hid hb1
  have G1 := Lib.hid (((Below.refl w.heap.size w).alloc (Nat.le_refl _) _).trans (hb1.mono (by simp)))
  clear hb1
  go_wp2_with fail
  refine (write_str (.inl rfl) (http ++ (st3 ++ crlf)) (Page.new w1) (by simp [http, st3, crlf]) _ (by decide +kernel)).mono ?_
  rintro e w2 ⟨n2, rfl, hp2, hb2, hk2⟩
  rw [List.nil_append] at hp2
  obtain ⟨acc0, ha0⟩ : ∃ l, l = http ++ (st3 ++ crlf) := ⟨_, rfl⟩
  have hal0 : acc0.length ≤ 50 := by rw [ha0]; decide
  rw [← ha0] at hp2
  have A0 := Lib.hid ha0
  clear ha0
  have hx1 : Blk w1 w.heap.size 27 _ := (Blk.new w 27 _).below B1.out (by simp)
  have hx2 := (hx1.alloc (.cells #[.pointer none, .slice none 0 0] 46)).below hb2 hz0
  have G2 := Lib.hid (G1.out.trans (((Below.refl w1.heap.size w1).alloc (Nat.le_refl _) _ |>.trans hb2).mono G1.out.size))
  have hz2 : w1.heap.size < w2.heap.size := hp2.lt
  obtain ⟨e0, e1, e2, e3, e4, e5, e6, e7, e8, e9⟩ := Blk.ten hx2
  have P2 := Lib.hid hp2
  have X2 := Lib.hid hx2
  have B2 := Lib.hid hb2
  clear hp2 hx2 hb2 hk2 hc hf hx1
  go_wp2_with fail
  refine (HC.out w2 ((HR.out.below G2.out).more G2.out.size)).mono ?_
  rintro e w3 ⟨A3, c3, rfl, hcp, hb3⟩
  rw [show clean _ = ⟨3, 0, limit, 0, 0, 0, 0, false, 0, []⟩ from rfl] at hcp ⊢
  have hns : ∀ W, (convert 25 9 (.slice A3 0 c3)).run Try.prog W = .ok (.string ⟨#[]⟩) W := fun W => row_string (l := []) (B := 0) Row.nil_
  clear e0 e1 e2 e3 e4 e5 e6 e7 e8 e9
  have hx3 := X2.out.below hb3 (by omega)
  obtain ⟨e0, e1, e2, e3, e4, e5, e6, e7, e8, e9⟩ := Blk.ten hx3
  obtain ⟨f0, f1, f2, f3, f4, f5, f6, f7, f8, f9⟩ := Blk.froz hx3
  have hz3 : w1.heap.size < w3.heap.size := by have := hb3.size; omega
  have hz30 : w.heap.size < w3.heap.size := by omega
  have P3 := Lib.hid (page_below P2.out hb3)
  have G3 := Lib.hid (G2.out.trans (hb3.mono G2.out.size))
  have X3 := Lib.hid hx3
  clear hb3 hx3 hcp P2 X2 B2 B1 G1 G2 HR
  go_wp2_with fail
  refine (put_at [(nLimit, limit)] (B := w1.heap.size) (l := acc0) ?c1 ?c4 (by simp) ?c2 _ _ ?c3 ?c5 _ ?c6).mono ?_
  case c1 =>
    repeat' (first | (with_reducible exact P3.out) | (with_reducible refine Page.setCell ?_ _ ?_ _) | (with_reducible refine Page.alloc ?_ _))
    all_goals exact hz0
  case c2 =>
    have := lines_small [(nLimit, limit)] (by simp [nLimit])
    simp only [List.length_cons, List.length_nil] at this
    omega
  case c3 => simp
  case c5 => rfl
  case c6 => simp [lineCells, nLimit]
  case c4 =>
    have hF := HF.out
    simp <;> omega
  rintro e w4 ⟨rfl, hp4, hb4, hk4⟩
  have hx4 := Blk.below (Blk.alloc (Blk.store X3.out) _) hb4 hz0
  have X4 := Lib.hid hx4
  clear f0 f1 f2 f3 f4 f5 f6 f7 f8 f9 X3 e0 e1 e2 e3 e4 e5 e6 e7 e8 e9
  obtain ⟨e0, e1, e2, e3, e4, e5, e6, e7, e8, e9⟩ := Blk.ten hx4
  have hg4 := fun h => Below.trans (B := w.heap.size) (a := w) h (hb4.mono (Nat.le_of_lt hz0))
  have G4 := Lib.hid (hg4 (by
    repeat' (first | (with_reducible exact G3.out) | (with_reducible refine Below.setCell ?_ ?_ _) | (with_reducible refine Below.alloc ?_ ?_ _))
    all_goals (simp; try omega)))
  obtain ⟨acc1, ha0⟩ : ∃ l, l = acc0 ++ linesOf [(nLimit, limit)] := ⟨_, rfl⟩
  have hal1 : acc1.length ≤ 114 := by
    have := lines_small [(nLimit, limit)] (by simp [nLimit])
    simp only [List.length_cons, List.length_nil] at this
    rw [ha0, List.length_append]
    omega
  rw [← ha0] at hp4
  have A1 := Lib.hid ha0
  have P4 := Lib.hid hp4
  clear ha0 hp4 hb4 hk4 hg4 hx4 P3 G3
  go_wp2_with fail
  refine (write_str (.inr rfl) crlf P4.out (by simp [crlf]; omega) _ (by decide +kernel)).mono ?_
  rintro e w8 ⟨n5, rfl, hp5, hb5, hk5⟩
  have G8 := Lib.hid (G4.out.trans (hb5.mono (Nat.le_of_lt hz0)))
  obtain ⟨l5, hl5⟩ : ∃ l5, l5 = acc1 ++ crlf := ⟨_, rfl⟩
  have L5 : Hid (l5 = http ++ (st3 ++ (crlf ++ ((linesOf [(nLimit, limit)]) ++ (crlf ++ []))))) := Lib.hid (by rw [hl5, A1.out, A0.out]; simp)
  have hn5 : Hid (l5 ≠ []) := Lib.hid (by rw [L5.out]; simp [http])
  rw [← hl5] at hp5
  have P8 := Lib.hid hp5
  clear hl5 hp5 hb5 hk5 P4 G4 
  go_wp2_with fail
  refine (string_any _ _ _ _ _ P8.out hn5.out).mono ?_
  rintro e w9 ⟨rfl, hb6⟩
  obtain ⟨c7, w7, hrun, hc7, hrow7, g7⟩ := bytes_of (w := w) hn5.out (G8.out.trans (hb6.mono (Nat.le_of_lt hz0)))
  have C7 := Lib.hid hc7
  have R7 := Lib.hid hrow7
  clear hc7 hrow7 hb6 P8 G8
  go_wp2_with fail
  go_ret
  rw [← L5.out]
  exact ⟨_, c7, rfl, C7.out, R7.out, g7⟩

set_option maxHeartbeats 4000000 in
theorem render_4 (err limit left reset after nanos many : Int) (retry : Bool) (body : List UInt8) (c : Nat) (A : Option Addr) (w : World) (hr : Row w w.heap.size A (u8s body)) (hl : body.length ≤ 140737488351232) (hlim : 0 ≤ limit ∧ limit ≤ 18446744073709551615) (hlef : 0 ≤ left ∧ left ≤ 18446744073709551615) (hres : 0 ≤ reset ∧ reset ≤ 18446744073709551615) (haft : 0 ≤ after ∧ after ≤ 18446744073709551615) (hnan : 0 ≤ nanos ∧ nanos ≤ 18446744073709551615) (herr : 0 ≤ err ∧ err ≤ 65535) :
    Calls Try.prog 15 #[.agg #[.int .u8 4, .int .u16 err, .int .u64 limit, .int .u64 left, .int .u64 reset, .int .u64 after, .int .u64 nanos, .bool retry, .int .i64 many, .slice A body.length c]] w
      (Bytes (http ++ (st4 ++ (crlf ++ ((crlf ++ []))))) w) := by
  have HS := Lib.hid (fun W => status_any 4 W)
  rw [show str (status 4) = .string b4 from rfl] at HS
  have HC := Lib.hid (fun W (h : Row W W.heap.size A (u8s body)) => clean_any ⟨4, err, limit, left, reset, after, nanos, retry, many, body⟩ hl A c W h)
  have HR := Lib.hid hr
  have HF : Hid ((0 ≤ limit ∧ limit ≤ 18446744073709551615) ∧ (0 ≤ left ∧ left ≤ 18446744073709551615) ∧ (0 ≤ reset ∧ reset ≤ 18446744073709551615) ∧ (0 ≤ after ∧ after ≤ 18446744073709551615) ∧ (0 ≤ nanos ∧ nanos ≤ 18446744073709551615)) := Lib.hid ⟨hlim, hlef, hres, haft, hnan⟩
  obtain ⟨herr0, herr1⟩ := herr
  clear hr hlim hlef hres haft hnan
  go_enter Try.func15, Try.ntmps15
  go_wp2_with fail
  refine (HS.out _).mono ?_
  rintro e w1 ⟨rfl, hb1⟩
  obtain ⟨hc, hf⟩ := bcell hb1
  have hz0 : w.heap.size < w1.heap.size := by have := hb1.size; simp at this; omega
  have B1 := Lib.hid hb1
  have G1 := Lib.hid (((Below.refl w.heap.size w).alloc (Nat.le_refl _) _).trans (hb1.mono (by simp)))
  clear hb1
  go_wp2_with fail
  refine (write_str (.inl rfl) (http ++ (st4 ++ crlf)) (Page.new w1) (by simp [http, st4, crlf]) _ (by decide +kernel)).mono ?_
  rintro e w2 ⟨n2, rfl, hp2, hb2, hk2⟩
  rw [List.nil_append] at hp2
  obtain ⟨acc0, ha0⟩ : ∃ l, l = http ++ (st4 ++ crlf) := ⟨_, rfl⟩
  have hal0 : acc0.length ≤ 50 := by rw [ha0]; decide
  rw [← ha0] at hp2
  have A0 := Lib.hid ha0
  clear ha0
  have hx1 : Blk w1 w.heap.size 27 _ := (Blk.new w 27 _).below B1.out (by simp)
  have hx2 := (hx1.alloc (.cells #[.pointer none, .slice none 0 0] 46)).below hb2 hz0
  have G2 := Lib.hid (G1.out.trans (((Below.refl w1.heap.size w1).alloc (Nat.le_refl _) _ |>.trans hb2).mono G1.out.size))
  have hz2 : w1.heap.size < w2.heap.size := hp2.lt
  obtain ⟨e0, e1, e2, e3, e4, e5, e6, e7, e8, e9⟩ := Blk.ten hx2
  have P2 := Lib.hid hp2
  have X2 := Lib.hid hx2
  have B2 := Lib.hid hb2
  clear hp2 hx2 hb2 hk2 hc hf hx1
  go_wp2_with fail
  refine (HC.out w2 ((HR.out.below G2.out).more G2.out.size)).mono ?_
  rintro e w3 ⟨A3, c3, rfl, hcp, hb3⟩
  rw [show clean _ = ⟨4, 0, 0, 0, 0, 0, 0, false, 0, []⟩ from rfl] at hcp ⊢
  have hns : ∀ W, (convert 25 9 (.slice A3 0 c3)).run Try.prog W = .ok (.string ⟨#[]⟩) W := fun W => row_string (l := []) (B := 0) Row.nil_
  clear e0 e1 e2 e3 e4 e5 e6 e7 e8 e9
  have hx3 := X2.out.below hb3 (by omega)
  obtain ⟨e0, e1, e2, e3, e4, e5, e6, e7, e8, e9⟩ := Blk.ten hx3
  obtain ⟨f0, f1, f2, f3, f4, f5, f6, f7, f8, f9⟩ := Blk.froz hx3
  have hz3 : w1.heap.size < w3.heap.size := by have := hb3.size; omega
  have hz30 : w.heap.size < w3.heap.size := by omega
  have P3 := Lib.hid (page_below P2.out hb3)
  have G3 := Lib.hid (G2.out.trans (hb3.mono G2.out.size))
  have X3 := Lib.hid hx3
  clear hb3 hx3 hcp P2 X2 B2 B1 G1 G2 HR
  go_wp2_with fail
  refine (write_str (B := w1.heap.size) (.inr rfl) crlf (acc := acc0) ?c1 (by simp [crlf]; omega) _ (by decide +kernel)).mono ?_
  case c1 =>
    repeat' (first | (with_reducible exact P3.out) | (with_reducible refine Page.setCell ?_ _ ?_ _) | (with_reducible refine Page.alloc ?_ _))
    all_goals exact hz0
  rintro e w8 ⟨n5, rfl, hp5, hb5, hk5⟩
  have hg4 := fun h => Below.trans (B := w.heap.size) (a := w) h (hb5.mono (Nat.le_of_lt hz0))
  have G8 := Lib.hid (hg4 (by
    repeat' (first | (with_reducible exact G3.out) | (with_reducible refine Below.setCell ?_ ?_ _) | (with_reducible refine Below.alloc ?_ ?_ _))
    all_goals (simp; try omega)))
  clear hg4
  obtain ⟨l5, hl5⟩ : ∃ l5, l5 = acc0 ++ crlf := ⟨_, rfl⟩
  have L5 : Hid (l5 = http ++ (st4 ++ (crlf ++ ((crlf ++ []))))) := Lib.hid (by rw [hl5, A0.out]; simp)
  have hn5 : Hid (l5 ≠ []) := Lib.hid (by rw [L5.out]; simp [http])
  rw [← hl5] at hp5
  have P8 := Lib.hid hp5
  clear hl5 hp5 hb5 hk5 P3 G3 
  go_wp2_with fail
  refine (string_any _ _ _ _ _ P8.out hn5.out).mono ?_
  rintro e w9 ⟨rfl, hb6⟩
  obtain ⟨c7, w7, hrun, hc7, hrow7, g7⟩ := bytes_of (w := w) hn5.out (G8.out.trans (hb6.mono (Nat.le_of_lt hz0)))
  have C7 := Lib.hid hc7
  have R7 := Lib.hid hrow7
  clear hc7 hrow7 hb6 P8 G8
  go_wp2_with fail
  go_ret
  rw [← L5.out]
  exact ⟨_, c7, rfl, C7.out, R7.out, g7⟩

set_option maxHeartbeats 4000000 in
theorem render_5 (err limit left reset after nanos many : Int) (retry : Bool) (body : List UInt8) (c : Nat) (A : Option Addr) (w : World) (hr : Row w w.heap.size A (u8s body)) (hl : body.length ≤ 140737488351232) (hlim : 0 ≤ limit ∧ limit ≤ 18446744073709551615) (hlef : 0 ≤ left ∧ left ≤ 18446744073709551615) (hres : 0 ≤ reset ∧ reset ≤ 18446744073709551615) (haft : 0 ≤ after ∧ after ≤ 18446744073709551615) (hnan : 0 ≤ nanos ∧ nanos ≤ 18446744073709551615) (herr : 0 ≤ err ∧ err ≤ 65535) :
    Calls Try.prog 15 #[.agg #[.int .u8 5, .int .u16 err, .int .u64 limit, .int .u64 left, .int .u64 reset, .int .u64 after, .int .u64 nanos, .bool retry, .int .i64 many, .slice A body.length c]] w
      (Bytes (http ++ (st5 ++ (crlf ++ ((linesOf [(nError, err)]) ++ (crlf ++ []))))) w) := by
  have HS := Lib.hid (fun W => status_any 5 W)
  rw [show str (status 5) = .string b5 from rfl] at HS
  have HC := Lib.hid (fun W (h : Row W W.heap.size A (u8s body)) => clean_any ⟨5, err, limit, left, reset, after, nanos, retry, many, body⟩ hl A c W h)
  have HR := Lib.hid hr
  have HF : Hid ((0 ≤ limit ∧ limit ≤ 18446744073709551615) ∧ (0 ≤ left ∧ left ≤ 18446744073709551615) ∧ (0 ≤ reset ∧ reset ≤ 18446744073709551615) ∧ (0 ≤ after ∧ after ≤ 18446744073709551615) ∧ (0 ≤ nanos ∧ nanos ≤ 18446744073709551615)) := Lib.hid ⟨hlim, hlef, hres, haft, hnan⟩
  obtain ⟨herr0, herr1⟩ := herr
  clear hr hlim hlef hres haft hnan
  go_enter Try.func15, Try.ntmps15
  go_wp2_with fail
  refine (HS.out _).mono ?_
  rintro e w1 ⟨rfl, hb1⟩
  obtain ⟨hc, hf⟩ := bcell hb1
  have hz0 : w.heap.size < w1.heap.size := by have := hb1.size; simp at this; omega
  have B1 := Lib.hid hb1
  have G1 := Lib.hid (((Below.refl w.heap.size w).alloc (Nat.le_refl _) _).trans (hb1.mono (by simp)))
  clear hb1
  go_wp2_with fail
  refine (write_str (.inl rfl) (http ++ (st5 ++ crlf)) (Page.new w1) (by simp [http, st5, crlf]) _ (by decide +kernel)).mono ?_
  rintro e w2 ⟨n2, rfl, hp2, hb2, hk2⟩
  rw [List.nil_append] at hp2
  obtain ⟨acc0, ha0⟩ : ∃ l, l = http ++ (st5 ++ crlf) := ⟨_, rfl⟩
  have hal0 : acc0.length ≤ 50 := by rw [ha0]; decide
  rw [← ha0] at hp2
  have A0 := Lib.hid ha0
  clear ha0
  have hx1 : Blk w1 w.heap.size 27 _ := (Blk.new w 27 _).below B1.out (by simp)
  have hx2 := (hx1.alloc (.cells #[.pointer none, .slice none 0 0] 46)).below hb2 hz0
  have G2 := Lib.hid (G1.out.trans (((Below.refl w1.heap.size w1).alloc (Nat.le_refl _) _ |>.trans hb2).mono G1.out.size))
  have hz2 : w1.heap.size < w2.heap.size := hp2.lt
  obtain ⟨e0, e1, e2, e3, e4, e5, e6, e7, e8, e9⟩ := Blk.ten hx2
  have P2 := Lib.hid hp2
  have X2 := Lib.hid hx2
  have B2 := Lib.hid hb2
  clear hp2 hx2 hb2 hk2 hc hf hx1
  go_wp2_with fail
  refine (HC.out w2 ((HR.out.below G2.out).more G2.out.size)).mono ?_
  rintro e w3 ⟨A3, c3, rfl, hcp, hb3⟩
  rw [show clean _ = ⟨5, err, 0, 0, 0, 0, 0, false, 0, []⟩ from rfl] at hcp ⊢
  have hns : ∀ W, (convert 25 9 (.slice A3 0 c3)).run Try.prog W = .ok (.string ⟨#[]⟩) W := fun W => row_string (l := []) (B := 0) Row.nil_
  clear e0 e1 e2 e3 e4 e5 e6 e7 e8 e9
  have hx3 := X2.out.below hb3 (by omega)
  obtain ⟨e0, e1, e2, e3, e4, e5, e6, e7, e8, e9⟩ := Blk.ten hx3
  obtain ⟨f0, f1, f2, f3, f4, f5, f6, f7, f8, f9⟩ := Blk.froz hx3
  have hz3 : w1.heap.size < w3.heap.size := by have := hb3.size; omega
  have hz30 : w.heap.size < w3.heap.size := by omega
  have P3 := Lib.hid (page_below P2.out hb3)
  have G3 := Lib.hid (G2.out.trans (hb3.mono G2.out.size))
  have X3 := Lib.hid hx3
  clear hb3 hx3 hcp P2 X2 B2 B1 G1 G2 HR
  go_wp2_with fail
  refine (put_at [(nError, err)] (B := w1.heap.size) (l := acc0) ?c1 ?c4 (by simp) ?c2 _ _ ?c3 ?c5 _ ?c6).mono ?_
  case c1 =>
    repeat' (first | (with_reducible exact P3.out) | (with_reducible refine Page.setCell ?_ _ ?_ _) | (with_reducible refine Page.alloc ?_ _))
    all_goals exact hz0
  case c2 =>
    have := lines_small [(nError, err)] (by simp [nError])
    simp only [List.length_cons, List.length_nil] at this
    omega
  case c3 => simp
  case c5 => rfl
  case c6 => simp [lineCells, nError]
  case c4 =>
    have hF := HF.out
    simp <;> omega
  rintro e w4 ⟨rfl, hp4, hb4, hk4⟩
  have hx4 := Blk.below (Blk.alloc (Blk.store X3.out) _) hb4 hz0
  have X4 := Lib.hid hx4
  clear f0 f1 f2 f3 f4 f5 f6 f7 f8 f9 X3 e0 e1 e2 e3 e4 e5 e6 e7 e8 e9
  obtain ⟨e0, e1, e2, e3, e4, e5, e6, e7, e8, e9⟩ := Blk.ten hx4
  have hg4 := fun h => Below.trans (B := w.heap.size) (a := w) h (hb4.mono (Nat.le_of_lt hz0))
  have G4 := Lib.hid (hg4 (by
    repeat' (first | (with_reducible exact G3.out) | (with_reducible refine Below.setCell ?_ ?_ _) | (with_reducible refine Below.alloc ?_ ?_ _))
    all_goals (simp; try omega)))
  obtain ⟨acc1, ha0⟩ : ∃ l, l = acc0 ++ linesOf [(nError, err)] := ⟨_, rfl⟩
  have hal1 : acc1.length ≤ 114 := by
    have := lines_small [(nError, err)] (by simp [nError])
    simp only [List.length_cons, List.length_nil] at this
    rw [ha0, List.length_append]
    omega
  rw [← ha0] at hp4
  have A1 := Lib.hid ha0
  have P4 := Lib.hid hp4
  clear ha0 hp4 hb4 hk4 hg4 hx4 P3 G3
  go_wp2_with fail
  refine (write_str (.inr rfl) crlf P4.out (by simp [crlf]; omega) _ (by decide +kernel)).mono ?_
  rintro e w8 ⟨n5, rfl, hp5, hb5, hk5⟩
  have G8 := Lib.hid (G4.out.trans (hb5.mono (Nat.le_of_lt hz0)))
  obtain ⟨l5, hl5⟩ : ∃ l5, l5 = acc1 ++ crlf := ⟨_, rfl⟩
  have L5 : Hid (l5 = http ++ (st5 ++ (crlf ++ ((linesOf [(nError, err)]) ++ (crlf ++ []))))) := Lib.hid (by rw [hl5, A1.out, A0.out]; simp)
  have hn5 : Hid (l5 ≠ []) := Lib.hid (by rw [L5.out]; simp [http])
  rw [← hl5] at hp5
  have P8 := Lib.hid hp5
  clear hl5 hp5 hb5 hk5 P4 G4 
  go_wp2_with fail
  refine (string_any _ _ _ _ _ P8.out hn5.out).mono ?_
  rintro e w9 ⟨rfl, hb6⟩
  obtain ⟨c7, w7, hrun, hc7, hrow7, g7⟩ := bytes_of (w := w) hn5.out (G8.out.trans (hb6.mono (Nat.le_of_lt hz0)))
  have C7 := Lib.hid hc7
  have R7 := Lib.hid hrow7
  clear hc7 hrow7 hb6 P8 G8
  go_wp2_with fail
  go_ret
  rw [← L5.out]
  exact ⟨_, c7, rfl, C7.out, R7.out, g7⟩

set_option maxHeartbeats 4000000 in
theorem render_6p (err limit left reset after nanos many : Int) (retry : Bool) (body : List UInt8) (c : Nat) (A : Option Addr) (w : World) (hr : Row w w.heap.size A (u8s body)) (hl : body.length ≤ 140737488351232) (hlim : 0 ≤ limit ∧ limit ≤ 18446744073709551615) (hlef : 0 ≤ left ∧ left ≤ 18446744073709551615) (hres : 0 ≤ reset ∧ reset ≤ 18446744073709551615) (haft : 0 ≤ after ∧ after ≤ 18446744073709551615) (hnan : 0 ≤ nanos ∧ nanos ≤ 18446744073709551615) (herr : 0 ≤ err ∧ err ≤ 65535) (hm : 0 ≤ many) (hm1 : many ≤ 9223372036854775807) :
    Calls Try.prog 15 #[.agg #[.int .u8 6, .int .u16 err, .int .u64 limit, .int .u64 left, .int .u64 reset, .int .u64 after, .int .u64 nanos, .bool retry, .int .i64 many, .slice A body.length c]] w
      (Bytes (http ++ (st6 ++ (crlf ++ ((linesOf [(nCount, many)]) ++ (crlf ++ []))))) w) := by
  have HS := Lib.hid (fun W => status_any 6 W)
  rw [show str (status 6) = .string b6 from rfl] at HS
  have HC := Lib.hid (fun W (h : Row W W.heap.size A (u8s body)) => clean_any ⟨6, err, limit, left, reset, after, nanos, retry, many, body⟩ hl A c W h)
  have HR := Lib.hid hr
  have HF : Hid ((0 ≤ limit ∧ limit ≤ 18446744073709551615) ∧ (0 ≤ left ∧ left ≤ 18446744073709551615) ∧ (0 ≤ reset ∧ reset ≤ 18446744073709551615) ∧ (0 ≤ after ∧ after ≤ 18446744073709551615) ∧ (0 ≤ nanos ∧ nanos ≤ 18446744073709551615)) := Lib.hid ⟨hlim, hlef, hres, haft, hnan⟩
  obtain ⟨herr0, herr1⟩ := herr
  clear hr hlim hlef hres haft hnan
  go_enter Try.func15, Try.ntmps15
  go_wp2_with fail
  refine (HS.out _).mono ?_
  rintro e w1 ⟨rfl, hb1⟩
  obtain ⟨hc, hf⟩ := bcell hb1
  have hz0 : w.heap.size < w1.heap.size := by have := hb1.size; simp at this; omega
  have B1 := Lib.hid hb1
  have G1 := Lib.hid (((Below.refl w.heap.size w).alloc (Nat.le_refl _) _).trans (hb1.mono (by simp)))
  clear hb1
  go_wp2_with fail
  refine (write_str (.inl rfl) (http ++ (st6 ++ crlf)) (Page.new w1) (by simp [http, st6, crlf]) _ (by decide +kernel)).mono ?_
  rintro e w2 ⟨n2, rfl, hp2, hb2, hk2⟩
  rw [List.nil_append] at hp2
  obtain ⟨acc0, ha0⟩ : ∃ l, l = http ++ (st6 ++ crlf) := ⟨_, rfl⟩
  have hal0 : acc0.length ≤ 50 := by rw [ha0]; decide
  rw [← ha0] at hp2
  have A0 := Lib.hid ha0
  clear ha0
  have hx1 : Blk w1 w.heap.size 27 _ := (Blk.new w 27 _).below B1.out (by simp)
  have hx2 := (hx1.alloc (.cells #[.pointer none, .slice none 0 0] 46)).below hb2 hz0
  have G2 := Lib.hid (G1.out.trans (((Below.refl w1.heap.size w1).alloc (Nat.le_refl _) _ |>.trans hb2).mono G1.out.size))
  have hz2 : w1.heap.size < w2.heap.size := hp2.lt
  obtain ⟨e0, e1, e2, e3, e4, e5, e6, e7, e8, e9⟩ := Blk.ten hx2
  have P2 := Lib.hid hp2
  have X2 := Lib.hid hx2
  have B2 := Lib.hid hb2
  clear hp2 hx2 hb2 hk2 hc hf hx1
  go_wp2_with fail
  refine (HC.out w2 ((HR.out.below G2.out).more G2.out.size)).mono ?_
  rintro e w3 ⟨A3, c3, rfl, hcp, hb3⟩
  rw [show clean _ = ⟨6, 0, 0, 0, 0, 0, 0, false, many, []⟩ from clean_pos err limit left reset after nanos many retry body hm] at hcp ⊢
  have hns : ∀ W, (convert 25 9 (.slice A3 0 c3)).run Try.prog W = .ok (.string ⟨#[]⟩) W := fun W => row_string (l := []) (B := 0) Row.nil_
  clear e0 e1 e2 e3 e4 e5 e6 e7 e8 e9
  have hx3 := X2.out.below hb3 (by omega)
  obtain ⟨e0, e1, e2, e3, e4, e5, e6, e7, e8, e9⟩ := Blk.ten hx3
  obtain ⟨f0, f1, f2, f3, f4, f5, f6, f7, f8, f9⟩ := Blk.froz hx3
  have hz3 : w1.heap.size < w3.heap.size := by have := hb3.size; omega
  have hz30 : w.heap.size < w3.heap.size := by omega
  have P3 := Lib.hid (page_below P2.out hb3)
  have G3 := Lib.hid (G2.out.trans (hb3.mono G2.out.size))
  have X3 := Lib.hid hx3
  clear hb3 hx3 hcp P2 X2 B2 B1 G1 G2 HR
  go_wp2_with fail
  refine (put_at [(nCount, many)] (B := w1.heap.size) (l := acc0) ?c1 ?c4 (by simp) ?c2 _ _ ?c3 ?c5 _ ?c6).mono ?_
  case c1 =>
    repeat' (first | (with_reducible exact P3.out) | (with_reducible refine Page.setCell ?_ _ ?_ _) | (with_reducible refine Page.alloc ?_ _))
    all_goals exact hz0
  case c2 =>
    have := lines_small [(nCount, many)] (by simp [nCount])
    simp only [List.length_cons, List.length_nil] at this
    omega
  case c3 => simp
  case c5 => rfl
  case c6 => simp [lineCells, nCount]
  case c4 =>
    have hF := HF.out
    simp <;> omega
  rintro e w4 ⟨rfl, hp4, hb4, hk4⟩
  have hx4 := Blk.below (Blk.alloc (Blk.store X3.out) _) hb4 hz0
  have X4 := Lib.hid hx4
  clear f0 f1 f2 f3 f4 f5 f6 f7 f8 f9 X3 e0 e1 e2 e3 e4 e5 e6 e7 e8 e9
  obtain ⟨e0, e1, e2, e3, e4, e5, e6, e7, e8, e9⟩ := Blk.ten hx4
  have hg4 := fun h => Below.trans (B := w.heap.size) (a := w) h (hb4.mono (Nat.le_of_lt hz0))
  have G4 := Lib.hid (hg4 (by
    repeat' (first | (with_reducible exact G3.out) | (with_reducible refine Below.setCell ?_ ?_ _) | (with_reducible refine Below.alloc ?_ ?_ _))
    all_goals (simp; try omega)))
  obtain ⟨acc1, ha0⟩ : ∃ l, l = acc0 ++ linesOf [(nCount, many)] := ⟨_, rfl⟩
  have hal1 : acc1.length ≤ 114 := by
    have := lines_small [(nCount, many)] (by simp [nCount])
    simp only [List.length_cons, List.length_nil] at this
    rw [ha0, List.length_append]
    omega
  rw [← ha0] at hp4
  have A1 := Lib.hid ha0
  have P4 := Lib.hid hp4
  clear ha0 hp4 hb4 hk4 hg4 hx4 P3 G3
  go_wp2_with fail
  refine (write_str (.inr rfl) crlf P4.out (by simp [crlf]; omega) _ (by decide +kernel)).mono ?_
  rintro e w8 ⟨n5, rfl, hp5, hb5, hk5⟩
  have G8 := Lib.hid (G4.out.trans (hb5.mono (Nat.le_of_lt hz0)))
  obtain ⟨l5, hl5⟩ : ∃ l5, l5 = acc1 ++ crlf := ⟨_, rfl⟩
  have L5 : Hid (l5 = http ++ (st6 ++ (crlf ++ ((linesOf [(nCount, many)]) ++ (crlf ++ []))))) := Lib.hid (by rw [hl5, A1.out, A0.out]; simp)
  have hn5 : Hid (l5 ≠ []) := Lib.hid (by rw [L5.out]; simp [http])
  rw [← hl5] at hp5
  have P8 := Lib.hid hp5
  clear hl5 hp5 hb5 hk5 P4 G4 
  go_wp2_with fail
  refine (string_any _ _ _ _ _ P8.out hn5.out).mono ?_
  rintro e w9 ⟨rfl, hb6⟩
  obtain ⟨c7, w7, hrun, hc7, hrow7, g7⟩ := bytes_of (w := w) hn5.out (G8.out.trans (hb6.mono (Nat.le_of_lt hz0)))
  have C7 := Lib.hid hc7
  have R7 := Lib.hid hrow7
  clear hc7 hrow7 hb6 P8 G8
  go_wp2_with fail
  go_ret
  rw [← L5.out]
  exact ⟨_, c7, rfl, C7.out, R7.out, g7⟩

set_option maxHeartbeats 4000000 in
theorem render_6n (err limit left reset after nanos many : Int) (retry : Bool) (body : List UInt8) (c : Nat) (A : Option Addr) (w : World) (hr : Row w w.heap.size A (u8s body)) (hl : body.length ≤ 140737488351232) (hlim : 0 ≤ limit ∧ limit ≤ 18446744073709551615) (hlef : 0 ≤ left ∧ left ≤ 18446744073709551615) (hres : 0 ≤ reset ∧ reset ≤ 18446744073709551615) (haft : 0 ≤ after ∧ after ≤ 18446744073709551615) (hnan : 0 ≤ nanos ∧ nanos ≤ 18446744073709551615) (herr : 0 ≤ err ∧ err ≤ 65535) (hm : many < 0) :
    Calls Try.prog 15 #[.agg #[.int .u8 6, .int .u16 err, .int .u64 limit, .int .u64 left, .int .u64 reset, .int .u64 after, .int .u64 nanos, .bool retry, .int .i64 many, .slice A body.length c]] w
      (Bytes (http ++ (st6 ++ (crlf ++ ((linesOf [(nCount, 0)]) ++ (crlf ++ []))))) w) := by
  have HS := Lib.hid (fun W => status_any 6 W)
  rw [show str (status 6) = .string b6 from rfl] at HS
  have HC := Lib.hid (fun W (h : Row W W.heap.size A (u8s body)) => clean_any ⟨6, err, limit, left, reset, after, nanos, retry, many, body⟩ hl A c W h)
  have HR := Lib.hid hr
  have HF : Hid ((0 ≤ limit ∧ limit ≤ 18446744073709551615) ∧ (0 ≤ left ∧ left ≤ 18446744073709551615) ∧ (0 ≤ reset ∧ reset ≤ 18446744073709551615) ∧ (0 ≤ after ∧ after ≤ 18446744073709551615) ∧ (0 ≤ nanos ∧ nanos ≤ 18446744073709551615)) := Lib.hid ⟨hlim, hlef, hres, haft, hnan⟩
  obtain ⟨herr0, herr1⟩ := herr
  clear hr hlim hlef hres haft hnan
  go_enter Try.func15, Try.ntmps15
  go_wp2_with fail
  refine (HS.out _).mono ?_
  rintro e w1 ⟨rfl, hb1⟩
  obtain ⟨hc, hf⟩ := bcell hb1
  have hz0 : w.heap.size < w1.heap.size := by have := hb1.size; simp at this; omega
  have B1 := Lib.hid hb1
  have G1 := Lib.hid (((Below.refl w.heap.size w).alloc (Nat.le_refl _) _).trans (hb1.mono (by simp)))
  clear hb1
  go_wp2_with fail
  refine (write_str (.inl rfl) (http ++ (st6 ++ crlf)) (Page.new w1) (by simp [http, st6, crlf]) _ (by decide +kernel)).mono ?_
  rintro e w2 ⟨n2, rfl, hp2, hb2, hk2⟩
  rw [List.nil_append] at hp2
  obtain ⟨acc0, ha0⟩ : ∃ l, l = http ++ (st6 ++ crlf) := ⟨_, rfl⟩
  have hal0 : acc0.length ≤ 50 := by rw [ha0]; decide
  rw [← ha0] at hp2
  have A0 := Lib.hid ha0
  clear ha0
  have hx1 : Blk w1 w.heap.size 27 _ := (Blk.new w 27 _).below B1.out (by simp)
  have hx2 := (hx1.alloc (.cells #[.pointer none, .slice none 0 0] 46)).below hb2 hz0
  have G2 := Lib.hid (G1.out.trans (((Below.refl w1.heap.size w1).alloc (Nat.le_refl _) _ |>.trans hb2).mono G1.out.size))
  have hz2 : w1.heap.size < w2.heap.size := hp2.lt
  obtain ⟨e0, e1, e2, e3, e4, e5, e6, e7, e8, e9⟩ := Blk.ten hx2
  have P2 := Lib.hid hp2
  have X2 := Lib.hid hx2
  have B2 := Lib.hid hb2
  clear hp2 hx2 hb2 hk2 hc hf hx1
  go_wp2_with fail
  refine (HC.out w2 ((HR.out.below G2.out).more G2.out.size)).mono ?_
  rintro e w3 ⟨A3, c3, rfl, hcp, hb3⟩
  rw [show clean _ = ⟨6, 0, 0, 0, 0, 0, 0, false, 0, []⟩ from clean_neg err limit left reset after nanos many retry body hm] at hcp ⊢
  have hns : ∀ W, (convert 25 9 (.slice A3 0 c3)).run Try.prog W = .ok (.string ⟨#[]⟩) W := fun W => row_string (l := []) (B := 0) Row.nil_
  clear e0 e1 e2 e3 e4 e5 e6 e7 e8 e9
  have hx3 := X2.out.below hb3 (by omega)
  obtain ⟨e0, e1, e2, e3, e4, e5, e6, e7, e8, e9⟩ := Blk.ten hx3
  obtain ⟨f0, f1, f2, f3, f4, f5, f6, f7, f8, f9⟩ := Blk.froz hx3
  have hz3 : w1.heap.size < w3.heap.size := by have := hb3.size; omega
  have hz30 : w.heap.size < w3.heap.size := by omega
  have P3 := Lib.hid (page_below P2.out hb3)
  have G3 := Lib.hid (G2.out.trans (hb3.mono G2.out.size))
  have X3 := Lib.hid hx3
  clear hb3 hx3 hcp P2 X2 B2 B1 G1 G2 HR
  go_wp2_with fail
  refine (put_at [(nCount, 0)] (B := w1.heap.size) (l := acc0) ?c1 ?c4 (by simp) ?c2 _ _ ?c3 ?c5 _ ?c6).mono ?_
  case c1 =>
    repeat' (first | (with_reducible exact P3.out) | (with_reducible refine Page.setCell ?_ _ ?_ _) | (with_reducible refine Page.alloc ?_ _))
    all_goals exact hz0
  case c2 =>
    have := lines_small [(nCount, 0)] (by simp [nCount])
    simp only [List.length_cons, List.length_nil] at this
    omega
  case c3 => simp
  case c5 => rfl
  case c6 => simp [lineCells, nCount]
  case c4 =>
    have hF := HF.out
    simp <;> omega
  rintro e w4 ⟨rfl, hp4, hb4, hk4⟩
  have hx4 := Blk.below (Blk.alloc (Blk.store X3.out) _) hb4 hz0
  have X4 := Lib.hid hx4
  clear f0 f1 f2 f3 f4 f5 f6 f7 f8 f9 X3 e0 e1 e2 e3 e4 e5 e6 e7 e8 e9
  obtain ⟨e0, e1, e2, e3, e4, e5, e6, e7, e8, e9⟩ := Blk.ten hx4
  have hg4 := fun h => Below.trans (B := w.heap.size) (a := w) h (hb4.mono (Nat.le_of_lt hz0))
  have G4 := Lib.hid (hg4 (by
    repeat' (first | (with_reducible exact G3.out) | (with_reducible refine Below.setCell ?_ ?_ _) | (with_reducible refine Below.alloc ?_ ?_ _))
    all_goals (simp; try omega)))
  obtain ⟨acc1, ha0⟩ : ∃ l, l = acc0 ++ linesOf [(nCount, 0)] := ⟨_, rfl⟩
  have hal1 : acc1.length ≤ 114 := by
    have := lines_small [(nCount, 0)] (by simp [nCount])
    simp only [List.length_cons, List.length_nil] at this
    rw [ha0, List.length_append]
    omega
  rw [← ha0] at hp4
  have A1 := Lib.hid ha0
  have P4 := Lib.hid hp4
  clear ha0 hp4 hb4 hk4 hg4 hx4 P3 G3
  go_wp2_with fail
  refine (write_str (.inr rfl) crlf P4.out (by simp [crlf]; omega) _ (by decide +kernel)).mono ?_
  rintro e w8 ⟨n5, rfl, hp5, hb5, hk5⟩
  have G8 := Lib.hid (G4.out.trans (hb5.mono (Nat.le_of_lt hz0)))
  obtain ⟨l5, hl5⟩ : ∃ l5, l5 = acc1 ++ crlf := ⟨_, rfl⟩
  have L5 : Hid (l5 = http ++ (st6 ++ (crlf ++ ((linesOf [(nCount, 0)]) ++ (crlf ++ []))))) := Lib.hid (by rw [hl5, A1.out, A0.out]; simp)
  have hn5 : Hid (l5 ≠ []) := Lib.hid (by rw [L5.out]; simp [http])
  rw [← hl5] at hp5
  have P8 := Lib.hid hp5
  clear hl5 hp5 hb5 hk5 P4 G4 
  go_wp2_with fail
  refine (string_any _ _ _ _ _ P8.out hn5.out).mono ?_
  rintro e w9 ⟨rfl, hb6⟩
  obtain ⟨c7, w7, hrun, hc7, hrow7, g7⟩ := bytes_of (w := w) hn5.out (G8.out.trans (hb6.mono (Nat.le_of_lt hz0)))
  have C7 := Lib.hid hc7
  have R7 := Lib.hid hrow7
  clear hc7 hrow7 hb6 P8 G8
  go_wp2_with fail
  go_ret
  rw [← L5.out]
  exact ⟨_, c7, rfl, C7.out, R7.out, g7⟩

set_option maxHeartbeats 4000000 in
theorem render_7 (err limit left reset after nanos many : Int) (retry : Bool) (body : List UInt8) (c : Nat) (A : Option Addr) (w : World) (hr : Row w w.heap.size A (u8s body)) (hl : body.length ≤ 140737488351232) (hlim : 0 ≤ limit ∧ limit ≤ 18446744073709551615) (hlef : 0 ≤ left ∧ left ≤ 18446744073709551615) (hres : 0 ≤ reset ∧ reset ≤ 18446744073709551615) (haft : 0 ≤ after ∧ after ≤ 18446744073709551615) (hnan : 0 ≤ nanos ∧ nanos ≤ 18446744073709551615) (herr : 0 ≤ err ∧ err ≤ 65535) :
    Calls Try.prog 15 #[.agg #[.int .u8 7, .int .u16 err, .int .u64 limit, .int .u64 left, .int .u64 reset, .int .u64 after, .int .u64 nanos, .bool retry, .int .i64 many, .slice A body.length c]] w
      (Bytes (http ++ (st7 ++ (crlf ++ ((linesOf [(nError, err)]) ++ (crlf ++ []))))) w) := by
  have HS := Lib.hid (fun W => status_any 7 W)
  rw [show str (status 7) = .string b7 from rfl] at HS
  have HC := Lib.hid (fun W (h : Row W W.heap.size A (u8s body)) => clean_any ⟨7, err, limit, left, reset, after, nanos, retry, many, body⟩ hl A c W h)
  have HR := Lib.hid hr
  have HF : Hid ((0 ≤ limit ∧ limit ≤ 18446744073709551615) ∧ (0 ≤ left ∧ left ≤ 18446744073709551615) ∧ (0 ≤ reset ∧ reset ≤ 18446744073709551615) ∧ (0 ≤ after ∧ after ≤ 18446744073709551615) ∧ (0 ≤ nanos ∧ nanos ≤ 18446744073709551615)) := Lib.hid ⟨hlim, hlef, hres, haft, hnan⟩
  obtain ⟨herr0, herr1⟩ := herr
  clear hr hlim hlef hres haft hnan
  go_enter Try.func15, Try.ntmps15
  go_wp2_with fail
  refine (HS.out _).mono ?_
  rintro e w1 ⟨rfl, hb1⟩
  obtain ⟨hc, hf⟩ := bcell hb1
  have hz0 : w.heap.size < w1.heap.size := by have := hb1.size; simp at this; omega
  have B1 := Lib.hid hb1
  have G1 := Lib.hid (((Below.refl w.heap.size w).alloc (Nat.le_refl _) _).trans (hb1.mono (by simp)))
  clear hb1
  go_wp2_with fail
  refine (write_str (.inl rfl) (http ++ (st7 ++ crlf)) (Page.new w1) (by simp [http, st7, crlf]) _ (by decide +kernel)).mono ?_
  rintro e w2 ⟨n2, rfl, hp2, hb2, hk2⟩
  rw [List.nil_append] at hp2
  obtain ⟨acc0, ha0⟩ : ∃ l, l = http ++ (st7 ++ crlf) := ⟨_, rfl⟩
  have hal0 : acc0.length ≤ 50 := by rw [ha0]; decide
  rw [← ha0] at hp2
  have A0 := Lib.hid ha0
  clear ha0
  have hx1 : Blk w1 w.heap.size 27 _ := (Blk.new w 27 _).below B1.out (by simp)
  have hx2 := (hx1.alloc (.cells #[.pointer none, .slice none 0 0] 46)).below hb2 hz0
  have G2 := Lib.hid (G1.out.trans (((Below.refl w1.heap.size w1).alloc (Nat.le_refl _) _ |>.trans hb2).mono G1.out.size))
  have hz2 : w1.heap.size < w2.heap.size := hp2.lt
  obtain ⟨e0, e1, e2, e3, e4, e5, e6, e7, e8, e9⟩ := Blk.ten hx2
  have P2 := Lib.hid hp2
  have X2 := Lib.hid hx2
  have B2 := Lib.hid hb2
  clear hp2 hx2 hb2 hk2 hc hf hx1
  go_wp2_with fail
  refine (HC.out w2 ((HR.out.below G2.out).more G2.out.size)).mono ?_
  rintro e w3 ⟨A3, c3, rfl, hcp, hb3⟩
  rw [show clean _ = ⟨7, err, 0, 0, 0, 0, 0, false, 0, []⟩ from rfl] at hcp ⊢
  have hns : ∀ W, (convert 25 9 (.slice A3 0 c3)).run Try.prog W = .ok (.string ⟨#[]⟩) W := fun W => row_string (l := []) (B := 0) Row.nil_
  clear e0 e1 e2 e3 e4 e5 e6 e7 e8 e9
  have hx3 := X2.out.below hb3 (by omega)
  obtain ⟨e0, e1, e2, e3, e4, e5, e6, e7, e8, e9⟩ := Blk.ten hx3
  obtain ⟨f0, f1, f2, f3, f4, f5, f6, f7, f8, f9⟩ := Blk.froz hx3
  have hz3 : w1.heap.size < w3.heap.size := by have := hb3.size; omega
  have hz30 : w.heap.size < w3.heap.size := by omega
  have P3 := Lib.hid (page_below P2.out hb3)
  have G3 := Lib.hid (G2.out.trans (hb3.mono G2.out.size))
  have X3 := Lib.hid hx3
  clear hb3 hx3 hcp P2 X2 B2 B1 G1 G2 HR
  go_wp2_with fail
  refine (put_at [(nError, err)] (B := w1.heap.size) (l := acc0) ?c1 ?c4 (by simp) ?c2 _ _ ?c3 ?c5 _ ?c6).mono ?_
  case c1 =>
    repeat' (first | (with_reducible exact P3.out) | (with_reducible refine Page.setCell ?_ _ ?_ _) | (with_reducible refine Page.alloc ?_ _))
    all_goals exact hz0
  case c2 =>
    have := lines_small [(nError, err)] (by simp [nError])
    simp only [List.length_cons, List.length_nil] at this
    omega
  case c3 => simp
  case c5 => rfl
  case c6 => simp [lineCells, nError]
  case c4 =>
    have hF := HF.out
    simp <;> omega
  rintro e w4 ⟨rfl, hp4, hb4, hk4⟩
  have hx4 := Blk.below (Blk.alloc (Blk.store X3.out) _) hb4 hz0
  have X4 := Lib.hid hx4
  clear f0 f1 f2 f3 f4 f5 f6 f7 f8 f9 X3 e0 e1 e2 e3 e4 e5 e6 e7 e8 e9
  obtain ⟨e0, e1, e2, e3, e4, e5, e6, e7, e8, e9⟩ := Blk.ten hx4
  have hg4 := fun h => Below.trans (B := w.heap.size) (a := w) h (hb4.mono (Nat.le_of_lt hz0))
  have G4 := Lib.hid (hg4 (by
    repeat' (first | (with_reducible exact G3.out) | (with_reducible refine Below.setCell ?_ ?_ _) | (with_reducible refine Below.alloc ?_ ?_ _))
    all_goals (simp; try omega)))
  obtain ⟨acc1, ha0⟩ : ∃ l, l = acc0 ++ linesOf [(nError, err)] := ⟨_, rfl⟩
  have hal1 : acc1.length ≤ 114 := by
    have := lines_small [(nError, err)] (by simp [nError])
    simp only [List.length_cons, List.length_nil] at this
    rw [ha0, List.length_append]
    omega
  rw [← ha0] at hp4
  have A1 := Lib.hid ha0
  have P4 := Lib.hid hp4
  clear ha0 hp4 hb4 hk4 hg4 hx4 P3 G3
  go_wp2_with fail
  refine (write_str (.inr rfl) crlf P4.out (by simp [crlf]; omega) _ (by decide +kernel)).mono ?_
  rintro e w8 ⟨n5, rfl, hp5, hb5, hk5⟩
  have G8 := Lib.hid (G4.out.trans (hb5.mono (Nat.le_of_lt hz0)))
  obtain ⟨l5, hl5⟩ : ∃ l5, l5 = acc1 ++ crlf := ⟨_, rfl⟩
  have L5 : Hid (l5 = http ++ (st7 ++ (crlf ++ ((linesOf [(nError, err)]) ++ (crlf ++ []))))) := Lib.hid (by rw [hl5, A1.out, A0.out]; simp)
  have hn5 : Hid (l5 ≠ []) := Lib.hid (by rw [L5.out]; simp [http])
  rw [← hl5] at hp5
  have P8 := Lib.hid hp5
  clear hl5 hp5 hb5 hk5 P4 G4 
  go_wp2_with fail
  refine (string_any _ _ _ _ _ P8.out hn5.out).mono ?_
  rintro e w9 ⟨rfl, hb6⟩
  obtain ⟨c7, w7, hrun, hc7, hrow7, g7⟩ := bytes_of (w := w) hn5.out (G8.out.trans (hb6.mono (Nat.le_of_lt hz0)))
  have C7 := Lib.hid hc7
  have R7 := Lib.hid hrow7
  clear hc7 hrow7 hb6 P8 G8
  go_wp2_with fail
  go_ret
  rw [← L5.out]
  exact ⟨_, c7, rfl, C7.out, R7.out, g7⟩

set_option maxHeartbeats 4000000 in
theorem render_8 (err limit left reset after nanos many : Int) (retry : Bool) (body : List UInt8) (c : Nat) (A : Option Addr) (w : World) (hr : Row w w.heap.size A (u8s body)) (hl : body.length ≤ 140737488351232) (hlim : 0 ≤ limit ∧ limit ≤ 18446744073709551615) (hlef : 0 ≤ left ∧ left ≤ 18446744073709551615) (hres : 0 ≤ reset ∧ reset ≤ 18446744073709551615) (haft : 0 ≤ after ∧ after ≤ 18446744073709551615) (hnan : 0 ≤ nanos ∧ nanos ≤ 18446744073709551615) (herr : 0 ≤ err ∧ err ≤ 65535) :
    Calls Try.prog 15 #[.agg #[.int .u8 8, .int .u16 err, .int .u64 limit, .int .u64 left, .int .u64 reset, .int .u64 after, .int .u64 nanos, .bool retry, .int .i64 many, .slice A body.length c]] w
      (Bytes (http ++ (st8 ++ (crlf ++ ((linesOf [(nLength, body.length)]) ++ (crlf ++ body))))) w) := by
  have HS := Lib.hid (fun W => status_any 8 W)
  rw [show str (status 8) = .string b8 from rfl] at HS
  have HC := Lib.hid (fun W (h : Row W W.heap.size A (u8s body)) => clean_any ⟨8, err, limit, left, reset, after, nanos, retry, many, body⟩ hl A c W h)
  have HR := Lib.hid hr
  have HF : Hid ((0 ≤ limit ∧ limit ≤ 18446744073709551615) ∧ (0 ≤ left ∧ left ≤ 18446744073709551615) ∧ (0 ≤ reset ∧ reset ≤ 18446744073709551615) ∧ (0 ≤ after ∧ after ≤ 18446744073709551615) ∧ (0 ≤ nanos ∧ nanos ≤ 18446744073709551615)) := Lib.hid ⟨hlim, hlef, hres, haft, hnan⟩
  obtain ⟨herr0, herr1⟩ := herr
  clear hr hlim hlef hres haft hnan
  go_enter Try.func15, Try.ntmps15
  go_wp2_with fail
  refine (HS.out _).mono ?_
  rintro e w1 ⟨rfl, hb1⟩
  obtain ⟨hc, hf⟩ := bcell hb1
  have hz0 : w.heap.size < w1.heap.size := by have := hb1.size; simp at this; omega
  have B1 := Lib.hid hb1
  have G1 := Lib.hid (((Below.refl w.heap.size w).alloc (Nat.le_refl _) _).trans (hb1.mono (by simp)))
  clear hb1
  go_wp2_with fail
  refine (write_str (.inl rfl) (http ++ (st8 ++ crlf)) (Page.new w1) (by simp [http, st8, crlf]) _ (by decide +kernel)).mono ?_
  rintro e w2 ⟨n2, rfl, hp2, hb2, hk2⟩
  rw [List.nil_append] at hp2
  obtain ⟨acc0, ha0⟩ : ∃ l, l = http ++ (st8 ++ crlf) := ⟨_, rfl⟩
  have hal0 : acc0.length ≤ 50 := by rw [ha0]; decide
  rw [← ha0] at hp2
  have A0 := Lib.hid ha0
  clear ha0
  have hx1 : Blk w1 w.heap.size 27 _ := (Blk.new w 27 _).below B1.out (by simp)
  have hx2 := (hx1.alloc (.cells #[.pointer none, .slice none 0 0] 46)).below hb2 hz0
  have G2 := Lib.hid (G1.out.trans (((Below.refl w1.heap.size w1).alloc (Nat.le_refl _) _ |>.trans hb2).mono G1.out.size))
  have hz2 : w1.heap.size < w2.heap.size := hp2.lt
  obtain ⟨e0, e1, e2, e3, e4, e5, e6, e7, e8, e9⟩ := Blk.ten hx2
  have P2 := Lib.hid hp2
  have X2 := Lib.hid hx2
  have B2 := Lib.hid hb2
  clear hp2 hx2 hb2 hk2 hc hf hx1
  go_wp2_with fail
  refine (HC.out w2 ((HR.out.below G2.out).more G2.out.size)).mono ?_
  rintro e w3 ⟨A3, c3, rfl, hcp, hb3⟩
  rw [show clean _ = ⟨8, 0, 0, 0, 0, 0, 0, false, 0, body⟩ from rfl] at hcp ⊢
  have hcp : Copy w3 w2.heap.size A3 c3 body := hcp
  have HCP := Lib.hid (CopyA.of P2.out hb3 hcp)
  clear e0 e1 e2 e3 e4 e5 e6 e7 e8 e9
  have hx3 := X2.out.below hb3 (by omega)
  obtain ⟨e0, e1, e2, e3, e4, e5, e6, e7, e8, e9⟩ := Blk.ten hx3
  obtain ⟨f0, f1, f2, f3, f4, f5, f6, f7, f8, f9⟩ := Blk.froz hx3
  have hz3 : w1.heap.size < w3.heap.size := by have := hb3.size; omega
  have hz30 : w.heap.size < w3.heap.size := by omega
  have P3 := Lib.hid (page_below P2.out hb3)
  have G3 := Lib.hid (G2.out.trans (hb3.mono G2.out.size))
  have X3 := Lib.hid hx3
  clear hb3 hx3 hcp P2 X2 B2 B1 G1 G2 HR
  go_wp2_with fail
  refine (put_at [(nLength, body.length)] (B := w1.heap.size) (l := acc0) ?c1 ?c4 (by simp) ?c2 _ _ ?c3 ?c5 _ ?c6).mono ?_
  case c1 =>
    repeat' (first | (with_reducible exact P3.out) | (with_reducible refine Page.setCell ?_ _ ?_ _) | (with_reducible refine Page.alloc ?_ _))
    all_goals exact hz0
  case c2 =>
    have := lines_small [(nLength, body.length)] (by simp [nLength])
    simp only [List.length_cons, List.length_nil] at this
    omega
  case c3 => simp
  case c5 => rfl
  case c6 => simp [lineCells, nLength]
  case c4 =>
    have hF := HF.out
    simp <;> omega
  rintro e w4 ⟨rfl, hp4, hb4, hk4⟩
  have hrow4 : Row w4 w4.heap.size A3 (u8s body) := CopyA.pk (B := w2.heap.size) (c := c3) (by
    repeat' (first | (with_reducible exact HCP.out) | (with_reducible refine CopyA.setCell ?_ _ ?_ _) | (with_reducible refine CopyA.alloc ?_ _))
    all_goals exact hz0) hk4
  have hns := row_string (c := c3) hrow4
  have hx4 := Blk.below (Blk.alloc (Blk.store X3.out) _) hb4 hz0
  have X4 := Lib.hid hx4
  clear f0 f1 f2 f3 f4 f5 f6 f7 f8 f9 X3 e0 e1 e2 e3 e4 e5 e6 e7 e8 e9
  obtain ⟨e0, e1, e2, e3, e4, e5, e6, e7, e8, e9⟩ := Blk.ten hx4
  have hg4 := fun h => Below.trans (B := w.heap.size) (a := w) h (hb4.mono (Nat.le_of_lt hz0))
  have G4 := Lib.hid (hg4 (by
    repeat' (first | (with_reducible exact G3.out) | (with_reducible refine Below.setCell ?_ ?_ _) | (with_reducible refine Below.alloc ?_ ?_ _))
    all_goals (simp; try omega)))
  obtain ⟨acc1, ha0⟩ : ∃ l, l = acc0 ++ linesOf [(nLength, body.length)] := ⟨_, rfl⟩
  have hal1 : acc1.length ≤ 114 := by
    have := lines_small [(nLength, body.length)] (by simp [nLength])
    simp only [List.length_cons, List.length_nil] at this
    rw [ha0, List.length_append]
    omega
  rw [← ha0] at hp4
  have A1 := Lib.hid ha0
  have P4 := Lib.hid hp4
  clear ha0 hp4 hb4 hk4 hg4 hx4 P3 G3 HCP hrow4
  go_wp2_with fail
  refine (write_str (.inr rfl) (crlf ++ body) P4.out (by simp [crlf]; omega) _ (by rw [show ByteArray.mk #[13, 10] = ⟨crlf.toArray⟩ from rfl, ByteArray.mk_append_mk])).mono ?_
  rintro e w8 ⟨n5, rfl, hp5, hb5, hk5⟩
  have G8 := Lib.hid (G4.out.trans (hb5.mono (Nat.le_of_lt hz0)))
  obtain ⟨l5, hl5⟩ : ∃ l5, l5 = acc1 ++ (crlf ++ body) := ⟨_, rfl⟩
  have L5 : Hid (l5 = http ++ (st8 ++ (crlf ++ ((linesOf [(nLength, body.length)]) ++ (crlf ++ body))))) := Lib.hid (by rw [hl5, A1.out, A0.out]; simp)
  have hn5 : Hid (l5 ≠ []) := Lib.hid (by rw [L5.out]; simp [http])
  rw [← hl5] at hp5
  have P8 := Lib.hid hp5
  clear hl5 hp5 hb5 hk5 P4 G4 
  go_wp2_with fail
  refine (string_any _ _ _ _ _ P8.out hn5.out).mono ?_
  rintro e w9 ⟨rfl, hb6⟩
  obtain ⟨c7, w7, hrun, hc7, hrow7, g7⟩ := bytes_of (w := w) hn5.out (G8.out.trans (hb6.mono (Nat.le_of_lt hz0)))
  have C7 := Lib.hid hc7
  have R7 := Lib.hid hrow7
  clear hc7 hrow7 hb6 P8 G8
  go_wp2_with fail
  go_ret
  rw [← L5.out]
  exact ⟨_, c7, rfl, C7.out, R7.out, g7⟩

end Go.Proofs.Ytcgcfgomakaacaa.head
