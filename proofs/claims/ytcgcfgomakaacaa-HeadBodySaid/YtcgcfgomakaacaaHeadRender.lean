/- head.Render, walked: codes 1 and 2. -/
import Derived.Test.YtcgcfgomakaacaaHeadRenderA
namespace Go.Proofs.Ytcgcfgomakaacaa.head
open Go.RowKit
open Go.Proofs.Ytcgcfgomakaacaa.aid

set_option maxHeartbeats 4000000 in
theorem render_1 (err limit left reset after nanos many : Int) (retry : Bool) (body : List UInt8) (c : Nat) (A : Option Addr) (w : World) (hr : Row w w.heap.size A (u8s body)) (hl : body.length ≤ 140737488351232) (hlim : 0 ≤ limit ∧ limit ≤ 18446744073709551615) (hlef : 0 ≤ left ∧ left ≤ 18446744073709551615) (hres : 0 ≤ reset ∧ reset ≤ 18446744073709551615) (haft : 0 ≤ after ∧ after ≤ 18446744073709551615) (hnan : 0 ≤ nanos ∧ nanos ≤ 18446744073709551615) (herr : 0 ≤ err ∧ err ≤ 65535) :
    Calls Try.prog 15 #[.agg #[.int .u8 1, .int .u16 err, .int .u64 limit, .int .u64 left, .int .u64 reset, .int .u64 after, .int .u64 nanos, .bool retry, .int .i64 many, .slice A body.length c]] w
      (Bytes (http ++ (st1 ++ (crlf ++ ((linesOf [(nLimit, limit), (nLeft, left), (nReset, reset)]) ++ (crlf ++ []))))) w) := by
  have HS := Lib.hid (fun W => status_any 1 W)
  rw [show str (status 1) = .string b1 from rfl] at HS
  have HC := Lib.hid (fun W (h : Row W W.heap.size A (u8s body)) => clean_any ⟨1, err, limit, left, reset, after, nanos, retry, many, body⟩ hl A c W h)
  have HR := Lib.hid hr
  have HF : Hid ((0 ≤ limit ∧ limit ≤ 18446744073709551615) ∧ (0 ≤ left ∧ left ≤ 18446744073709551615) ∧ (0 ≤ reset ∧ reset ≤ 18446744073709551615) ∧ (0 ≤ after ∧ after ≤ 18446744073709551615) ∧ (0 ≤ nanos ∧ nanos ≤ 18446744073709551615)) := Lib.hid ⟨hlim, hlef, hres, haft, hnan⟩
  obtain ⟨herr0, herr1⟩ := herr
  clear hr hlim hlef hres haft hnan
  go_enter Try.func15, Try.ntmps15
  go_wp2_with fail
  refine (HS.out _).mono ?_
  rintro e w1 ⟨rfl, hb1⟩
  obtain ⟨hc, hf⟩ := bcell hb1
  have hz0 : w.heap.size < w1.heap.size := by have := hb1.size; simp at this; omega
  have B1 := Lib.hid hb1
  have G1 := Lib.hid (((Below.refl w.heap.size w).alloc (Nat.le_refl _) _).trans (hb1.mono (by simp)))
  clear hb1
  go_wp2_with fail
  refine (write_str (.inl rfl) (http ++ (st1 ++ crlf)) (Page.new w1) (by simp [http, st1, crlf]) _ (by decide +kernel)).mono ?_
  rintro e w2 ⟨n2, rfl, hp2, hb2, hk2⟩
  rw [List.nil_append] at hp2
  obtain ⟨acc0, ha0⟩ : ∃ l, l = http ++ (st1 ++ crlf) := ⟨_, rfl⟩
  have hal0 : acc0.length ≤ 50 := by rw [ha0]; decide
  rw [← ha0] at hp2
  have A0 := Lib.hid ha0
  clear ha0
  have hx1 : Blk w1 w.heap.size 27 _ := (Blk.new w 27 _).below B1.out (by simp)
  have hx2 := (hx1.alloc (.cells #[.pointer none, .slice none 0 0] 46)).below hb2 hz0
  have G2 := Lib.hid (G1.out.trans (((Below.refl w1.heap.size w1).alloc (Nat.le_refl _) _ |>.trans hb2).mono G1.out.size))
  have hz2 : w1.heap.size < w2.heap.size := hp2.lt
  obtain ⟨e0, e1, e2, e3, e4, e5, e6, e7, e8, e9⟩ := Blk.ten hx2
  have P2 := Lib.hid hp2
  have X2 := Lib.hid hx2
  have B2 := Lib.hid hb2
  clear hp2 hx2 hb2 hk2 hc hf hx1
  go_wp2_with fail
  refine (HC.out w2 ((HR.out.below G2.out).more G2.out.size)).mono ?_
  rintro e w3 ⟨A3, c3, rfl, hcp, hb3⟩
  rw [show clean _ = ⟨1, 0, limit, left, reset, 0, 0, false, 0, []⟩ from rfl] at hcp ⊢
  have hns : ∀ W, (convert 25 9 (.slice A3 0 c3)).run Try.prog W = .ok (.string ⟨#[]⟩) W := fun W => row_string (l := []) (B := 0) Row.nil_
  clear e0 e1 e2 e3 e4 e5 e6 e7 e8 e9
  have hx3 := X2.out.below hb3 (by omega)
  obtain ⟨e0, e1, e2, e3, e4, e5, e6, e7, e8, e9⟩ := Blk.ten hx3
  obtain ⟨f0, f1, f2, f3, f4, f5, f6, f7, f8, f9⟩ := Blk.froz hx3
  have hz3 : w1.heap.size < w3.heap.size := by have := hb3.size; omega
  have hz30 : w.heap.size < w3.heap.size := by omega
  have P3 := Lib.hid (page_below P2.out hb3)
  have G3 := Lib.hid (G2.out.trans (hb3.mono G2.out.size))
  have X3 := Lib.hid hx3
  clear hb3 hx3 hcp P2 X2 B2 B1 G1 G2 HR
  go_wp2_with fail
  refine (put_at [(nLimit, limit), (nLeft, left), (nReset, reset)] (B := w1.heap.size) (l := acc0) ?c1 ?c4 (by simp) ?c2 _ _ ?c3 ?c5 _ ?c6).mono ?_
  case c1 =>
    repeat' (first | (with_reducible exact P3.out) | (with_reducible refine Page.setCell ?_ _ ?_ _) | (with_reducible refine Page.alloc ?_ _))
    all_goals exact hz0
  case c2 =>
    have := lines_small [(nLimit, limit), (nLeft, left), (nReset, reset)] (by simp [nLeft, nLimit, nReset])
    simp only [List.length_cons, List.length_nil] at this
    omega
  case c3 => simp
  case c5 => rfl
  case c6 => simp [lineCells, nLeft, nLimit, nReset]
  case c4 =>
    have hF := HF.out
    simp <;> omega
  rintro e w4 ⟨rfl, hp4, hb4, hk4⟩
  have hx4 := Blk.below (Blk.alloc (Blk.store X3.out) _) hb4 hz0
  have X4 := Lib.hid hx4
  clear f0 f1 f2 f3 f4 f5 f6 f7 f8 f9 X3 e0 e1 e2 e3 e4 e5 e6 e7 e8 e9
  obtain ⟨e0, e1, e2, e3, e4, e5, e6, e7, e8, e9⟩ := Blk.ten hx4
  have hg4 := fun h => Below.trans (B := w.heap.size) (a := w) h (hb4.mono (Nat.le_of_lt hz0))
  have G4 := Lib.hid (hg4 (by
    repeat' (first | (with_reducible exact G3.out) | (with_reducible refine Below.setCell ?_ ?_ _) | (with_reducible refine Below.alloc ?_ ?_ _))
    all_goals (simp; try omega)))
  obtain ⟨acc1, ha0⟩ : ∃ l, l = acc0 ++ linesOf [(nLimit, limit), (nLeft, left), (nReset, reset)] := ⟨_, rfl⟩
  have hal1 : acc1.length ≤ 242 := by
    have := lines_small [(nLimit, limit), (nLeft, left), (nReset, reset)] (by simp [nLeft, nLimit, nReset])
    simp only [List.length_cons, List.length_nil] at this
    rw [ha0, List.length_append]
    omega
  rw [← ha0] at hp4
  have A1 := Lib.hid ha0
  have P4 := Lib.hid hp4
  clear ha0 hp4 hb4 hk4 hg4 hx4 P3 G3
  go_wp2_with fail
  refine (write_str (.inr rfl) crlf P4.out (by simp [crlf]; omega) _ (by decide +kernel)).mono ?_
  rintro e w8 ⟨n5, rfl, hp5, hb5, hk5⟩
  have G8 := Lib.hid (G4.out.trans (hb5.mono (Nat.le_of_lt hz0)))
  obtain ⟨l5, hl5⟩ : ∃ l5, l5 = acc1 ++ crlf := ⟨_, rfl⟩
  have L5 : Hid (l5 = http ++ (st1 ++ (crlf ++ ((linesOf [(nLimit, limit), (nLeft, left), (nReset, reset)]) ++ (crlf ++ []))))) := Lib.hid (by rw [hl5, A1.out, A0.out]; simp)
  have hn5 : Hid (l5 ≠ []) := Lib.hid (by rw [L5.out]; simp [http])
  rw [← hl5] at hp5
  have P8 := Lib.hid hp5
  clear hl5 hp5 hb5 hk5 P4 G4 
  go_wp2_with fail
  refine (string_any _ _ _ _ _ P8.out hn5.out).mono ?_
  rintro e w9 ⟨rfl, hb6⟩
  obtain ⟨c7, w7, hrun, hc7, hrow7, g7⟩ := bytes_of (w := w) hn5.out (G8.out.trans (hb6.mono (Nat.le_of_lt hz0)))
  have C7 := Lib.hid hc7
  have R7 := Lib.hid hrow7
  clear hc7 hrow7 hb6 P8 G8
  go_wp2_with fail
  go_ret
  rw [← L5.out]
  exact ⟨_, c7, rfl, C7.out, R7.out, g7⟩

set_option maxHeartbeats 4000000 in
theorem render_2f (err limit left reset after nanos many : Int) (body : List UInt8) (c : Nat) (A : Option Addr) (w : World) (hr : Row w w.heap.size A (u8s body)) (hl : body.length ≤ 140737488351232) (hlim : 0 ≤ limit ∧ limit ≤ 18446744073709551615) (hlef : 0 ≤ left ∧ left ≤ 18446744073709551615) (hres : 0 ≤ reset ∧ reset ≤ 18446744073709551615) (haft : 0 ≤ after ∧ after ≤ 18446744073709551615) (hnan : 0 ≤ nanos ∧ nanos ≤ 18446744073709551615) (herr : 0 ≤ err ∧ err ≤ 65535) :
    Calls Try.prog 15 #[.agg #[.int .u8 2, .int .u16 err, .int .u64 limit, .int .u64 left, .int .u64 reset, .int .u64 after, .int .u64 nanos, .bool false, .int .i64 many, .slice A body.length c]] w
      (Bytes (http ++ (st2 ++ (crlf ++ ((linesOf [(nLimit, limit), (nLeft, left), (nReset, reset)]) ++ (crlf ++ []))))) w) := by
  have HS := Lib.hid (fun W => status_any 2 W)
  rw [show str (status 2) = .string b2 from rfl] at HS
  have HC := Lib.hid (fun W (h : Row W W.heap.size A (u8s body)) => clean_any ⟨2, err, limit, left, reset, after, nanos, false, many, body⟩ hl A c W h)
  have HR := Lib.hid hr
  have HF : Hid ((0 ≤ limit ∧ limit ≤ 18446744073709551615) ∧ (0 ≤ left ∧ left ≤ 18446744073709551615) ∧ (0 ≤ reset ∧ reset ≤ 18446744073709551615) ∧ (0 ≤ after ∧ after ≤ 18446744073709551615) ∧ (0 ≤ nanos ∧ nanos ≤ 18446744073709551615)) := Lib.hid ⟨hlim, hlef, hres, haft, hnan⟩
  obtain ⟨herr0, herr1⟩ := herr
  clear hr hlim hlef hres haft hnan
  go_enter Try.func15, Try.ntmps15
  go_wp2_with fail
  refine (HS.out _).mono ?_
  rintro e w1 ⟨rfl, hb1⟩
  obtain ⟨hc, hf⟩ := bcell hb1
  have hz0 : w.heap.size < w1.heap.size := by have := hb1.size; simp at this; omega
  have B1 := Lib.hid hb1
  have G1 := Lib.hid (((Below.refl w.heap.size w).alloc (Nat.le_refl _) _).trans (hb1.mono (by simp)))
  clear hb1
  go_wp2_with fail
  refine (write_str (.inl rfl) (http ++ (st2 ++ crlf)) (Page.new w1) (by simp [http, st2, crlf]) _ (by decide +kernel)).mono ?_
  rintro e w2 ⟨n2, rfl, hp2, hb2, hk2⟩
  rw [List.nil_append] at hp2
  obtain ⟨acc0, ha0⟩ : ∃ l, l = http ++ (st2 ++ crlf) := ⟨_, rfl⟩
  have hal0 : acc0.length ≤ 50 := by rw [ha0]; decide
  rw [← ha0] at hp2
  have A0 := Lib.hid ha0
  clear ha0
  have hx1 : Blk w1 w.heap.size 27 _ := (Blk.new w 27 _).below B1.out (by simp)
  have hx2 := (hx1.alloc (.cells #[.pointer none, .slice none 0 0] 46)).below hb2 hz0
  have G2 := Lib.hid (G1.out.trans (((Below.refl w1.heap.size w1).alloc (Nat.le_refl _) _ |>.trans hb2).mono G1.out.size))
  have hz2 : w1.heap.size < w2.heap.size := hp2.lt
  obtain ⟨e0, e1, e2, e3, e4, e5, e6, e7, e8, e9⟩ := Blk.ten hx2
  have P2 := Lib.hid hp2
  have X2 := Lib.hid hx2
  have B2 := Lib.hid hb2
  clear hp2 hx2 hb2 hk2 hc hf hx1
  go_wp2_with fail
  refine (HC.out w2 ((HR.out.below G2.out).more G2.out.size)).mono ?_
  rintro e w3 ⟨A3, c3, rfl, hcp, hb3⟩
  rw [show clean _ = ⟨2, 0, limit, left, reset, 0, 0, false, 0, []⟩ from rfl] at hcp ⊢
  have hns : ∀ W, (convert 25 9 (.slice A3 0 c3)).run Try.prog W = .ok (.string ⟨#[]⟩) W := fun W => row_string (l := []) (B := 0) Row.nil_
  clear e0 e1 e2 e3 e4 e5 e6 e7 e8 e9
  have hx3 := X2.out.below hb3 (by omega)
  obtain ⟨e0, e1, e2, e3, e4, e5, e6, e7, e8, e9⟩ := Blk.ten hx3
  obtain ⟨f0, f1, f2, f3, f4, f5, f6, f7, f8, f9⟩ := Blk.froz hx3
  have hz3 : w1.heap.size < w3.heap.size := by have := hb3.size; omega
  have hz30 : w.heap.size < w3.heap.size := by omega
  have P3 := Lib.hid (page_below P2.out hb3)
  have G3 := Lib.hid (G2.out.trans (hb3.mono G2.out.size))
  have X3 := Lib.hid hx3
  clear hb3 hx3 hcp P2 X2 B2 B1 G1 G2 HR
  go_wp2_with fail
  refine (put_at [(nLimit, limit), (nLeft, left), (nReset, reset)] (B := w1.heap.size) (l := acc0) ?c1 ?c4 (by simp) ?c2 _ _ ?c3 ?c5 _ ?c6).mono ?_
  case c1 =>
    repeat' (first | (with_reducible exact P3.out) | (with_reducible refine Page.setCell ?_ _ ?_ _) | (with_reducible refine Page.alloc ?_ _))
    all_goals exact hz0
  case c2 =>
    have := lines_small [(nLimit, limit), (nLeft, left), (nReset, reset)] (by simp [nLeft, nLimit, nReset])
    simp only [List.length_cons, List.length_nil] at this
    omega
  case c3 => simp
  case c5 => rfl
  case c6 => simp [lineCells, nLeft, nLimit, nReset]
  case c4 =>
    have hF := HF.out
    simp <;> omega
  rintro e w4 ⟨rfl, hp4, hb4, hk4⟩
  have hx4 := Blk.below (Blk.alloc (Blk.store X3.out) _) hb4 hz0
  have X4 := Lib.hid hx4
  clear f0 f1 f2 f3 f4 f5 f6 f7 f8 f9 X3 e0 e1 e2 e3 e4 e5 e6 e7 e8 e9
  obtain ⟨e0, e1, e2, e3, e4, e5, e6, e7, e8, e9⟩ := Blk.ten hx4
  have hg4 := fun h => Below.trans (B := w.heap.size) (a := w) h (hb4.mono (Nat.le_of_lt hz0))
  have G4 := Lib.hid (hg4 (by
    repeat' (first | (with_reducible exact G3.out) | (with_reducible refine Below.setCell ?_ ?_ _) | (with_reducible refine Below.alloc ?_ ?_ _))
    all_goals (simp; try omega)))
  obtain ⟨acc1, ha0⟩ : ∃ l, l = acc0 ++ linesOf [(nLimit, limit), (nLeft, left), (nReset, reset)] := ⟨_, rfl⟩
  have hal1 : acc1.length ≤ 242 := by
    have := lines_small [(nLimit, limit), (nLeft, left), (nReset, reset)] (by simp [nLeft, nLimit, nReset])
    simp only [List.length_cons, List.length_nil] at this
    rw [ha0, List.length_append]
    omega
  rw [← ha0] at hp4
  have A1 := Lib.hid ha0
  have P4 := Lib.hid hp4
  clear ha0 hp4 hb4 hk4 hg4 hx4 P3 G3
  go_wp2_with fail
  refine (write_str (.inr rfl) crlf P4.out (by simp [crlf]; omega) _ (by decide +kernel)).mono ?_
  rintro e w8 ⟨n5, rfl, hp5, hb5, hk5⟩
  have G8 := Lib.hid (G4.out.trans (hb5.mono (Nat.le_of_lt hz0)))
  obtain ⟨l5, hl5⟩ : ∃ l5, l5 = acc1 ++ crlf := ⟨_, rfl⟩
  have L5 : Hid (l5 = http ++ (st2 ++ (crlf ++ ((linesOf [(nLimit, limit), (nLeft, left), (nReset, reset)]) ++ (crlf ++ []))))) := Lib.hid (by rw [hl5, A1.out, A0.out]; simp)
  have hn5 : Hid (l5 ≠ []) := Lib.hid (by rw [L5.out]; simp [http])
  rw [← hl5] at hp5
  have P8 := Lib.hid hp5
  clear hl5 hp5 hb5 hk5 P4 G4 
  go_wp2_with fail
  refine (string_any _ _ _ _ _ P8.out hn5.out).mono ?_
  rintro e w9 ⟨rfl, hb6⟩
  obtain ⟨c7, w7, hrun, hc7, hrow7, g7⟩ := bytes_of (w := w) hn5.out (G8.out.trans (hb6.mono (Nat.le_of_lt hz0)))
  have C7 := Lib.hid hc7
  have R7 := Lib.hid hrow7
  clear hc7 hrow7 hb6 P8 G8
  go_wp2_with fail
  go_ret
  rw [← L5.out]
  exact ⟨_, c7, rfl, C7.out, R7.out, g7⟩

set_option maxHeartbeats 4000000 in
theorem render_2t (err limit left reset after nanos many : Int) (body : List UInt8) (c : Nat) (A : Option Addr) (w : World) (hr : Row w w.heap.size A (u8s body)) (hl : body.length ≤ 140737488351232) (hlim : 0 ≤ limit ∧ limit ≤ 18446744073709551615) (hlef : 0 ≤ left ∧ left ≤ 18446744073709551615) (hres : 0 ≤ reset ∧ reset ≤ 18446744073709551615) (haft : 0 ≤ after ∧ after ≤ 18446744073709551615) (hnan : 0 ≤ nanos ∧ nanos ≤ 18446744073709551615) (herr : 0 ≤ err ∧ err ≤ 65535) :
    Calls Try.prog 15 #[.agg #[.int .u8 2, .int .u16 err, .int .u64 limit, .int .u64 left, .int .u64 reset, .int .u64 after, .int .u64 nanos, .bool true, .int .i64 many, .slice A body.length c]] w
      (Bytes (http ++ (st2 ++ (crlf ++ ((linesOf [(nLimit, limit), (nLeft, left), (nReset, reset)] ++ linesOf [(nAfter, after), (nNanos, nanos)]) ++ (crlf ++ []))))) w) := by
  have HS := Lib.hid (fun W => status_any 2 W)
  rw [show str (status 2) = .string b2 from rfl] at HS
  have HC := Lib.hid (fun W (h : Row W W.heap.size A (u8s body)) => clean_any ⟨2, err, limit, left, reset, after, nanos, true, many, body⟩ hl A c W h)
  have HR := Lib.hid hr
  have HF : Hid ((0 ≤ limit ∧ limit ≤ 18446744073709551615) ∧ (0 ≤ left ∧ left ≤ 18446744073709551615) ∧ (0 ≤ reset ∧ reset ≤ 18446744073709551615) ∧ (0 ≤ after ∧ after ≤ 18446744073709551615) ∧ (0 ≤ nanos ∧ nanos ≤ 18446744073709551615)) := Lib.hid ⟨hlim, hlef, hres, haft, hnan⟩
  obtain ⟨herr0, herr1⟩ := herr
  clear hr hlim hlef hres haft hnan
  go_enter Try.func15, Try.ntmps15
  go_wp2_with fail
  refine (HS.out _).mono ?_
  rintro e w1 ⟨rfl, hb1⟩
  obtain ⟨hc, hf⟩ := bcell hb1
  have hz0 : w.heap.size < w1.heap.size := by have := hb1.size; simp at this; omega
  have B1 := Lib.hid hb1
  have G1 := Lib.hid (((Below.refl w.heap.size w).alloc (Nat.le_refl _) _).trans (hb1.mono (by simp)))
  clear hb1
  go_wp2_with fail
  refine (write_str (.inl rfl) (http ++ (st2 ++ crlf)) (Page.new w1) (by simp [http, st2, crlf]) _ (by decide +kernel)).mono ?_
  rintro e w2 ⟨n2, rfl, hp2, hb2, hk2⟩
  rw [List.nil_append] at hp2
  obtain ⟨acc0, ha0⟩ : ∃ l, l = http ++ (st2 ++ crlf) := ⟨_, rfl⟩
  have hal0 : acc0.length ≤ 50 := by rw [ha0]; decide
  rw [← ha0] at hp2
  have A0 := Lib.hid ha0
  clear ha0
  have hx1 : Blk w1 w.heap.size 27 _ := (Blk.new w 27 _).below B1.out (by simp)
  have hx2 := (hx1.alloc (.cells #[.pointer none, .slice none 0 0] 46)).below hb2 hz0
  have G2 := Lib.hid (G1.out.trans (((Below.refl w1.heap.size w1).alloc (Nat.le_refl _) _ |>.trans hb2).mono G1.out.size))
  have hz2 : w1.heap.size < w2.heap.size := hp2.lt
  obtain ⟨e0, e1, e2, e3, e4, e5, e6, e7, e8, e9⟩ := Blk.ten hx2
  have P2 := Lib.hid hp2
  have X2 := Lib.hid hx2
  have B2 := Lib.hid hb2
  clear hp2 hx2 hb2 hk2 hc hf hx1
  go_wp2_with fail
  refine (HC.out w2 ((HR.out.below G2.out).more G2.out.size)).mono ?_
  rintro e w3 ⟨A3, c3, rfl, hcp, hb3⟩
  rw [show clean _ = ⟨2, 0, limit, left, reset, after, nanos, true, 0, []⟩ from rfl] at hcp ⊢
  have hns : ∀ W, (convert 25 9 (.slice A3 0 c3)).run Try.prog W = .ok (.string ⟨#[]⟩) W := fun W => row_string (l := []) (B := 0) Row.nil_
  clear e0 e1 e2 e3 e4 e5 e6 e7 e8 e9
  have hx3 := X2.out.below hb3 (by omega)
  obtain ⟨e0, e1, e2, e3, e4, e5, e6, e7, e8, e9⟩ := Blk.ten hx3
  obtain ⟨f0, f1, f2, f3, f4, f5, f6, f7, f8, f9⟩ := Blk.froz hx3
  have hz3 : w1.heap.size < w3.heap.size := by have := hb3.size; omega
  have hz30 : w.heap.size < w3.heap.size := by omega
  have P3 := Lib.hid (page_below P2.out hb3)
  have G3 := Lib.hid (G2.out.trans (hb3.mono G2.out.size))
  have X3 := Lib.hid hx3
  clear hb3 hx3 hcp P2 X2 B2 B1 G1 G2 HR
  go_wp2_with fail
  refine (put_at [(nLimit, limit), (nLeft, left), (nReset, reset)] (B := w1.heap.size) (l := acc0) ?c1 ?c4 (by simp) ?c2 _ _ ?c3 ?c5 _ ?c6).mono ?_
  case c1 =>
    repeat' (first | (with_reducible exact P3.out) | (with_reducible refine Page.setCell ?_ _ ?_ _) | (with_reducible refine Page.alloc ?_ _))
    all_goals exact hz0
  case c2 =>
    have := lines_small [(nLimit, limit), (nLeft, left), (nReset, reset)] (by simp [nLeft, nLimit, nReset])
    simp only [List.length_cons, List.length_nil] at this
    omega
  case c3 => simp
  case c5 => rfl
  case c6 => simp [lineCells, nLeft, nLimit, nReset]
  case c4 =>
    have hF := HF.out
    simp <;> omega
  rintro e w4 ⟨rfl, hp4, hb4, hk4⟩
  have hx4 := Blk.below (Blk.alloc (Blk.store X3.out) _) hb4 hz0
  have X4 := Lib.hid hx4
  clear f0 f1 f2 f3 f4 f5 f6 f7 f8 f9 X3 e0 e1 e2 e3 e4 e5 e6 e7 e8 e9
  obtain ⟨e0, e1, e2, e3, e4, e5, e6, e7, e8, e9⟩ := Blk.ten hx4
  have hg4 := fun h => Below.trans (B := w.heap.size) (a := w) h (hb4.mono (Nat.le_of_lt hz0))
  have G4 := Lib.hid (hg4 (by
    repeat' (first | (with_reducible exact G3.out) | (with_reducible refine Below.setCell ?_ ?_ _) | (with_reducible refine Below.alloc ?_ ?_ _))
    all_goals (simp; try omega)))
  obtain ⟨acc1, ha0⟩ : ∃ l, l = acc0 ++ linesOf [(nLimit, limit), (nLeft, left), (nReset, reset)] := ⟨_, rfl⟩
  have hal1 : acc1.length ≤ 242 := by
    have := lines_small [(nLimit, limit), (nLeft, left), (nReset, reset)] (by simp [nLeft, nLimit, nReset])
    simp only [List.length_cons, List.length_nil] at this
    rw [ha0, List.length_append]
    omega
  rw [← ha0] at hp4
  have A1 := Lib.hid ha0
  have P4 := Lib.hid hp4
  clear ha0 hp4 hb4 hk4 hg4 hx4 P3 G3
  go_wp2_with fail
  refine (put_at [(nAfter, after), (nNanos, nanos)] (B := w1.heap.size) (l := acc1) ?c1 ?c4 (by simp) ?c2 _ _ ?c3 ?c5 _ ?c6).mono ?_
  case c1 =>
    repeat' (first | (with_reducible exact P4.out) | (with_reducible refine Page.setCell ?_ _ ?_ _) | (with_reducible refine Page.alloc ?_ _))
    all_goals exact hz0
  case c2 =>
    have := lines_small [(nAfter, after), (nNanos, nanos)] (by simp [nAfter, nNanos])
    simp only [List.length_cons, List.length_nil] at this
    omega
  case c3 => simp
  case c5 => rfl
  case c6 => simp [lineCells, nAfter, nNanos]
  case c4 =>
    have hF := HF.out
    simp <;> omega
  rintro e w5 ⟨rfl, hp4, hb4, hk4⟩
  have hx4 := Blk.below X4.out hb4 hz0
  have X5 := Lib.hid hx4
  clear X4 e0 e1 e2 e3 e4 e5 e6 e7 e8 e9
  obtain ⟨e0, e1, e2, e3, e4, e5, e6, e7, e8, e9⟩ := Blk.ten hx4
  have hg4 := fun h => Below.trans (B := w.heap.size) (a := w) h (hb4.mono (Nat.le_of_lt hz0))
  have G5 := Lib.hid (hg4 (by
    repeat' (first | (with_reducible exact G4.out) | (with_reducible refine Below.setCell ?_ ?_ _) | (with_reducible refine Below.alloc ?_ ?_ _))
    all_goals (simp; try omega)))
  obtain ⟨acc2, ha0⟩ : ∃ l, l = acc1 ++ linesOf [(nAfter, after), (nNanos, nanos)] := ⟨_, rfl⟩
  have hal2 : acc2.length ≤ 370 := by
    have := lines_small [(nAfter, after), (nNanos, nanos)] (by simp [nAfter, nNanos])
    simp only [List.length_cons, List.length_nil] at this
    rw [ha0, List.length_append]
    omega
  rw [← ha0] at hp4
  have A2 := Lib.hid ha0
  have P5 := Lib.hid hp4
  clear ha0 hp4 hb4 hk4 hg4 hx4 P4 G4
  go_wp2_with fail
  refine (write_str (.inr rfl) crlf P5.out (by simp [crlf]; omega) _ (by decide +kernel)).mono ?_
  rintro e w8 ⟨n5, rfl, hp5, hb5, hk5⟩
  have G8 := Lib.hid (G5.out.trans (hb5.mono (Nat.le_of_lt hz0)))
  obtain ⟨l5, hl5⟩ : ∃ l5, l5 = acc2 ++ crlf := ⟨_, rfl⟩
  have L5 : Hid (l5 = http ++ (st2 ++ (crlf ++ ((linesOf [(nLimit, limit), (nLeft, left), (nReset, reset)] ++ linesOf [(nAfter, after), (nNanos, nanos)]) ++ (crlf ++ []))))) := Lib.hid (by rw [hl5, A2.out, A1.out, A0.out]; simp)
  have hn5 : Hid (l5 ≠ []) := Lib.hid (by rw [L5.out]; simp [http])
  rw [← hl5] at hp5
  have P8 := Lib.hid hp5
  clear hl5 hp5 hb5 hk5 P5 G5 
  go_wp2_with fail
  refine (string_any _ _ _ _ _ P8.out hn5.out).mono ?_
  rintro e w9 ⟨rfl, hb6⟩
  obtain ⟨c7, w7, hrun, hc7, hrow7, g7⟩ := bytes_of (w := w) hn5.out (G8.out.trans (hb6.mono (Nat.le_of_lt hz0)))
  have C7 := Lib.hid hc7
  have R7 := Lib.hid hrow7
  clear hc7 hrow7 hb6 P8 G8
  go_wp2_with fail
  go_ret
  rw [← L5.out]
  exact ⟨_, c7, rfl, C7.out, R7.out, g7⟩

end Go.Proofs.Ytcgcfgomakaacaa.head
