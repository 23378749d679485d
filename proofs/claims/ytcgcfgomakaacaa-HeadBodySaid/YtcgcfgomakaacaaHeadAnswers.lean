/- the laws' helpers, walked: Answers, Answer, known. -/
import Derived.Test.YtcgcfgomakaacaaHeadRenderC
import Derived.Test.YtcgcfgomakaacaaHeadRefClean
namespace Go.Proofs.Ytcgcfgomakaacaa.head
open Go.RowKit
open Go.Proofs.Ytcgcfgomakaacaa.aid

theorem str_ne {l m : List UInt8} (h : l ≠ m) : ((ByteArray.mk l.toArray).toList == (ByteArray.mk m.toArray).toList) = false ∧ (l == m) = false := by
  rw [ByteArray.toList_eq, ByteArray.toList_eq]
  have h2 : (l == m) = false := beq_eq_false_iff_ne.2 h
  exact ⟨by simpa using h2, h2⟩

set_option maxHeartbeats 1000000 in
theorem answers_no0 (a0 a1 a2 a3 a4 a5 a6 a8 b0 b1 b2 b3 b4 b5 b6 b8 : Int) (a7 b7 : Bool) (la : List UInt8) (A B : Option Addr) (c d : Nat) (w : World) (ha : Row w w.heap.size A (u8s la)) (hb : Row w w.heap.size B (u8s la)) (h : a0 ≠ b0) :
    Calls Try.prog 16 #[.agg #[.int .u8 a0, .int .u16 a1, .int .u64 a2, .int .u64 a3, .int .u64 a4, .int .u64 a5, .int .u64 a6, .bool a7, .int .i64 a8, .slice A la.length c], .agg #[.int .u8 b0, .int .u16 b1, .int .u64 b2, .int .u64 b3, .int .u64 b4, .int .u64 b5, .int .u64 b6, .bool b7, .int .i64 b8, .slice B la.length d]] w fun e w' => e = .returned (.bool false) ∧ Below w.heap.size w w' := by
  obtain ⟨W, hW⟩ : ∃ W : World, W = (w.alloc (.cells #[.int .u8 a0, .int .u16 a1, .int .u64 a2, .int .u64 a3, .int .u64 a4, .int .u64 a5, .int .u64 a6, .bool a7, .int .i64 a8, .slice A la.length c] 27)).alloc (.cells #[.int .u8 b0, .int .u16 b1, .int .u64 b2, .int .u64 b3, .int .u64 b4, .int .u64 b5, .int .u64 b6, .bool b7, .int .i64 b8, .slice B la.length d] 27) := ⟨_, rfl⟩
  have hB : Below w.heap.size w W := by rw [hW]; exact ((Below.refl _ _).alloc (Nat.le_refl _) _).alloc (by simp) _
  have hra := row_string (c := c) ((ha.below hB).more hB.size)
  have hrb := row_string (c := d) ((hb.below hB).more hB.size)
  rw [hW] at hra hrb
  rw [hW] at hB
  have HB := Lib.hid hB
  clear hW hB ha hb
  have hh := beq_eq_false_iff_ne.2 h
  clear h
  go_enter Try.func16, Try.ntmps16
  go_wp2
  go_ret
  exact ⟨rfl, HB.out⟩

set_option maxHeartbeats 1000000 in
theorem answers_no1 (a0 a1 a2 a3 a4 a5 a6 a8 b1 b2 b3 b4 b5 b6 b8 : Int) (a7 b7 : Bool) (la : List UInt8) (A B : Option Addr) (c d : Nat) (w : World) (ha : Row w w.heap.size A (u8s la)) (hb : Row w w.heap.size B (u8s la)) (h : a1 ≠ b1) :
    Calls Try.prog 16 #[.agg #[.int .u8 a0, .int .u16 a1, .int .u64 a2, .int .u64 a3, .int .u64 a4, .int .u64 a5, .int .u64 a6, .bool a7, .int .i64 a8, .slice A la.length c], .agg #[.int .u8 a0, .int .u16 b1, .int .u64 b2, .int .u64 b3, .int .u64 b4, .int .u64 b5, .int .u64 b6, .bool b7, .int .i64 b8, .slice B la.length d]] w fun e w' => e = .returned (.bool false) ∧ Below w.heap.size w w' := by
  obtain ⟨W, hW⟩ : ∃ W : World, W = (w.alloc (.cells #[.int .u8 a0, .int .u16 a1, .int .u64 a2, .int .u64 a3, .int .u64 a4, .int .u64 a5, .int .u64 a6, .bool a7, .int .i64 a8, .slice A la.length c] 27)).alloc (.cells #[.int .u8 a0, .int .u16 b1, .int .u64 b2, .int .u64 b3, .int .u64 b4, .int .u64 b5, .int .u64 b6, .bool b7, .int .i64 b8, .slice B la.length d] 27) := ⟨_, rfl⟩
  have hB : Below w.heap.size w W := by rw [hW]; exact ((Below.refl _ _).alloc (Nat.le_refl _) _).alloc (by simp) _
  have hra := row_string (c := c) ((ha.below hB).more hB.size)
  have hrb := row_string (c := d) ((hb.below hB).more hB.size)
  rw [hW] at hra hrb
  rw [hW] at hB
  have HB := Lib.hid hB
  clear hW hB ha hb
  have hh := beq_eq_false_iff_ne.2 h
  clear h
  go_enter Try.func16, Try.ntmps16
  go_wp2
  go_ret
  exact ⟨rfl, HB.out⟩

set_option maxHeartbeats 1000000 in
theorem answers_no2 (a0 a1 a2 a3 a4 a5 a6 a8 b2 b3 b4 b5 b6 b8 : Int) (a7 b7 : Bool) (la : List UInt8) (A B : Option Addr) (c d : Nat) (w : World) (ha : Row w w.heap.size A (u8s la)) (hb : Row w w.heap.size B (u8s la)) (h : a2 ≠ b2) :
    Calls Try.prog 16 #[.agg #[.int .u8 a0, .int .u16 a1, .int .u64 a2, .int .u64 a3, .int .u64 a4, .int .u64 a5, .int .u64 a6, .bool a7, .int .i64 a8, .slice A la.length c], .agg #[.int .u8 a0, .int .u16 a1, .int .u64 b2, .int .u64 b3, .int .u64 b4, .int .u64 b5, .int .u64 b6, .bool b7, .int .i64 b8, .slice B la.length d]] w fun e w' => e = .returned (.bool false) ∧ Below w.heap.size w w' := by
  obtain ⟨W, hW⟩ : ∃ W : World, W = (w.alloc (.cells #[.int .u8 a0, .int .u16 a1, .int .u64 a2, .int .u64 a3, .int .u64 a4, .int .u64 a5, .int .u64 a6, .bool a7, .int .i64 a8, .slice A la.length c] 27)).alloc (.cells #[.int .u8 a0, .int .u16 a1, .int .u64 b2, .int .u64 b3, .int .u64 b4, .int .u64 b5, .int .u64 b6, .bool b7, .int .i64 b8, .slice B la.length d] 27) := ⟨_, rfl⟩
  have hB : Below w.heap.size w W := by rw [hW]; exact ((Below.refl _ _).alloc (Nat.le_refl _) _).alloc (by simp) _
  have hra := row_string (c := c) ((ha.below hB).more hB.size)
  have hrb := row_string (c := d) ((hb.below hB).more hB.size)
  rw [hW] at hra hrb
  rw [hW] at hB
  have HB := Lib.hid hB
  clear hW hB ha hb
  have hh := beq_eq_false_iff_ne.2 h
  clear h
  go_enter Try.func16, Try.ntmps16
  go_wp2
  go_ret
  exact ⟨rfl, HB.out⟩

set_option maxHeartbeats 1000000 in
theorem answers_no3 (a0 a1 a2 a3 a4 a5 a6 a8 b3 b4 b5 b6 b8 : Int) (a7 b7 : Bool) (la : List UInt8) (A B : Option Addr) (c d : Nat) (w : World) (ha : Row w w.heap.size A (u8s la)) (hb : Row w w.heap.size B (u8s la)) (h : a3 ≠ b3) :
    Calls Try.prog 16 #[.agg #[.int .u8 a0, .int .u16 a1, .int .u64 a2, .int .u64 a3, .int .u64 a4, .int .u64 a5, .int .u64 a6, .bool a7, .int .i64 a8, .slice A la.length c], .agg #[.int .u8 a0, .int .u16 a1, .int .u64 a2, .int .u64 b3, .int .u64 b4, .int .u64 b5, .int .u64 b6, .bool b7, .int .i64 b8, .slice B la.length d]] w fun e w' => e = .returned (.bool false) ∧ Below w.heap.size w w' := by
  obtain ⟨W, hW⟩ : ∃ W : World, W = (w.alloc (.cells #[.int .u8 a0, .int .u16 a1, .int .u64 a2, .int .u64 a3, .int .u64 a4, .int .u64 a5, .int .u64 a6, .bool a7, .int .i64 a8, .slice A la.length c] 27)).alloc (.cells #[.int .u8 a0, .int .u16 a1, .int .u64 a2, .int .u64 b3, .int .u64 b4, .int .u64 b5, .int .u64 b6, .bool b7, .int .i64 b8, .slice B la.length d] 27) := ⟨_, rfl⟩
  have hB : Below w.heap.size w W := by rw [hW]; exact ((Below.refl _ _).alloc (Nat.le_refl _) _).alloc (by simp) _
  have hra := row_string (c := c) ((ha.below hB).more hB.size)
  have hrb := row_string (c := d) ((hb.below hB).more hB.size)
  rw [hW] at hra hrb
  rw [hW] at hB
  have HB := Lib.hid hB
  clear hW hB ha hb
  have hh := beq_eq_false_iff_ne.2 h
  clear h
  go_enter Try.func16, Try.ntmps16
  go_wp2
  go_ret
  exact ⟨rfl, HB.out⟩

set_option maxHeartbeats 1000000 in
theorem answers_no4 (a0 a1 a2 a3 a4 a5 a6 a8 b4 b5 b6 b8 : Int) (a7 b7 : Bool) (la : List UInt8) (A B : Option Addr) (c d : Nat) (w : World) (ha : Row w w.heap.size A (u8s la)) (hb : Row w w.heap.size B (u8s la)) (h : a4 ≠ b4) :
    Calls Try.prog 16 #[.agg #[.int .u8 a0, .int .u16 a1, .int .u64 a2, .int .u64 a3, .int .u64 a4, .int .u64 a5, .int .u64 a6, .bool a7, .int .i64 a8, .slice A la.length c], .agg #[.int .u8 a0, .int .u16 a1, .int .u64 a2, .int .u64 a3, .int .u64 b4, .int .u64 b5, .int .u64 b6, .bool b7, .int .i64 b8, .slice B la.length d]] w fun e w' => e = .returned (.bool false) ∧ Below w.heap.size w w' := by
  obtain ⟨W, hW⟩ : ∃ W : World, W = (w.alloc (.cells #[.int .u8 a0, .int .u16 a1, .int .u64 a2, .int .u64 a3, .int .u64 a4, .int .u64 a5, .int .u64 a6, .bool a7, .int .i64 a8, .slice A la.length c] 27)).alloc (.cells #[.int .u8 a0, .int .u16 a1, .int .u64 a2, .int .u64 a3, .int .u64 b4, .int .u64 b5, .int .u64 b6, .bool b7, .int .i64 b8, .slice B la.length d] 27) := ⟨_, rfl⟩
  have hB : Below w.heap.size w W := by rw [hW]; exact ((Below.refl _ _).alloc (Nat.le_refl _) _).alloc (by simp) _
  have hra := row_string (c := c) ((ha.below hB).more hB.size)
  have hrb := row_string (c := d) ((hb.below hB).more hB.size)
  rw [hW] at hra hrb
  rw [hW] at hB
  have HB := Lib.hid hB
  clear hW hB ha hb
  have hh := beq_eq_false_iff_ne.2 h
  clear h
  go_enter Try.func16, Try.ntmps16
  go_wp2
  go_ret
  exact ⟨rfl, HB.out⟩

set_option maxHeartbeats 1000000 in
theorem answers_no5 (a0 a1 a2 a3 a4 a5 a6 a8 b5 b6 b8 : Int) (a7 b7 : Bool) (la : List UInt8) (A B : Option Addr) (c d : Nat) (w : World) (ha : Row w w.heap.size A (u8s la)) (hb : Row w w.heap.size B (u8s la)) (h : a5 ≠ b5) :
    Calls Try.prog 16 #[.agg #[.int .u8 a0, .int .u16 a1, .int .u64 a2, .int .u64 a3, .int .u64 a4, .int .u64 a5, .int .u64 a6, .bool a7, .int .i64 a8, .slice A la.length c], .agg #[.int .u8 a0, .int .u16 a1, .int .u64 a2, .int .u64 a3, .int .u64 a4, .int .u64 b5, .int .u64 b6, .bool b7, .int .i64 b8, .slice B la.length d]] w fun e w' => e = .returned (.bool false) ∧ Below w.heap.size w w' := by
  obtain ⟨W, hW⟩ : ∃ W : World, W = (w.alloc (.cells #[.int .u8 a0, .int .u16 a1, .int .u64 a2, .int .u64 a3, .int .u64 a4, .int .u64 a5, .int .u64 a6, .bool a7, .int .i64 a8, .slice A la.length c] 27)).alloc (.cells #[.int .u8 a0, .int .u16 a1, .int .u64 a2, .int .u64 a3, .int .u64 a4, .int .u64 b5, .int .u64 b6, .bool b7, .int .i64 b8, .slice B la.length d] 27) := ⟨_, rfl⟩
  have hB : Below w.heap.size w W := by rw [hW]; exact ((Below.refl _ _).alloc (Nat.le_refl _) _).alloc (by simp) _
  have hra := row_string (c := c) ((ha.below hB).more hB.size)
  have hrb := row_string (c := d) ((hb.below hB).more hB.size)
  rw [hW] at hra hrb
  rw [hW] at hB
  have HB := Lib.hid hB
  clear hW hB ha hb
  have hh := beq_eq_false_iff_ne.2 h
  clear h
  go_enter Try.func16, Try.ntmps16
  go_wp2
  go_ret
  exact ⟨rfl, HB.out⟩

set_option maxHeartbeats 1000000 in
theorem answers_no6 (a0 a1 a2 a3 a4 a5 a6 a8 b6 b8 : Int) (a7 b7 : Bool) (la : List UInt8) (A B : Option Addr) (c d : Nat) (w : World) (ha : Row w w.heap.size A (u8s la)) (hb : Row w w.heap.size B (u8s la)) (h : a6 ≠ b6) :
    Calls Try.prog 16 #[.agg #[.int .u8 a0, .int .u16 a1, .int .u64 a2, .int .u64 a3, .int .u64 a4, .int .u64 a5, .int .u64 a6, .bool a7, .int .i64 a8, .slice A la.length c], .agg #[.int .u8 a0, .int .u16 a1, .int .u64 a2, .int .u64 a3, .int .u64 a4, .int .u64 a5, .int .u64 b6, .bool b7, .int .i64 b8, .slice B la.length d]] w fun e w' => e = .returned (.bool false) ∧ Below w.heap.size w w' := by
  obtain ⟨W, hW⟩ : ∃ W : World, W = (w.alloc (.cells #[.int .u8 a0, .int .u16 a1, .int .u64 a2, .int .u64 a3, .int .u64 a4, .int .u64 a5, .int .u64 a6, .bool a7, .int .i64 a8, .slice A la.length c] 27)).alloc (.cells #[.int .u8 a0, .int .u16 a1, .int .u64 a2, .int .u64 a3, .int .u64 a4, .int .u64 a5, .int .u64 b6, .bool b7, .int .i64 b8, .slice B la.length d] 27) := ⟨_, rfl⟩
  have hB : Below w.heap.size w W := by rw [hW]; exact ((Below.refl _ _).alloc (Nat.le_refl _) _).alloc (by simp) _
  have hra := row_string (c := c) ((ha.below hB).more hB.size)
  have hrb := row_string (c := d) ((hb.below hB).more hB.size)
  rw [hW] at hra hrb
  rw [hW] at hB
  have HB := Lib.hid hB
  clear hW hB ha hb
  have hh := beq_eq_false_iff_ne.2 h
  clear h
  go_enter Try.func16, Try.ntmps16
  go_wp2
  go_ret
  exact ⟨rfl, HB.out⟩

set_option maxHeartbeats 1000000 in
theorem answers_no7 (a0 a1 a2 a3 a4 a5 a6 a8 b8 : Int) (a7 b7 : Bool) (la : List UInt8) (A B : Option Addr) (c d : Nat) (w : World) (ha : Row w w.heap.size A (u8s la)) (hb : Row w w.heap.size B (u8s la)) (h : a7 ≠ b7) :
    Calls Try.prog 16 #[.agg #[.int .u8 a0, .int .u16 a1, .int .u64 a2, .int .u64 a3, .int .u64 a4, .int .u64 a5, .int .u64 a6, .bool a7, .int .i64 a8, .slice A la.length c], .agg #[.int .u8 a0, .int .u16 a1, .int .u64 a2, .int .u64 a3, .int .u64 a4, .int .u64 a5, .int .u64 a6, .bool b7, .int .i64 b8, .slice B la.length d]] w fun e w' => e = .returned (.bool false) ∧ Below w.heap.size w w' := by
  obtain ⟨W, hW⟩ : ∃ W : World, W = (w.alloc (.cells #[.int .u8 a0, .int .u16 a1, .int .u64 a2, .int .u64 a3, .int .u64 a4, .int .u64 a5, .int .u64 a6, .bool a7, .int .i64 a8, .slice A la.length c] 27)).alloc (.cells #[.int .u8 a0, .int .u16 a1, .int .u64 a2, .int .u64 a3, .int .u64 a4, .int .u64 a5, .int .u64 a6, .bool b7, .int .i64 b8, .slice B la.length d] 27) := ⟨_, rfl⟩
  have hB : Below w.heap.size w W := by rw [hW]; exact ((Below.refl _ _).alloc (Nat.le_refl _) _).alloc (by simp) _
  have hra := row_string (c := c) ((ha.below hB).more hB.size)
  have hrb := row_string (c := d) ((hb.below hB).more hB.size)
  rw [hW] at hra hrb
  rw [hW] at hB
  have HB := Lib.hid hB
  clear hW hB ha hb
  have hh := beq_eq_false_iff_ne.2 h
  clear h
  go_enter Try.func16, Try.ntmps16
  go_wp2
  go_ret
  exact ⟨rfl, HB.out⟩

set_option maxHeartbeats 1000000 in
theorem answers_no8 (a0 a1 a2 a3 a4 a5 a6 a8 b8 : Int) (a7 : Bool) (la : List UInt8) (A B : Option Addr) (c d : Nat) (w : World) (ha : Row w w.heap.size A (u8s la)) (hb : Row w w.heap.size B (u8s la)) (h : a8 ≠ b8) :
    Calls Try.prog 16 #[.agg #[.int .u8 a0, .int .u16 a1, .int .u64 a2, .int .u64 a3, .int .u64 a4, .int .u64 a5, .int .u64 a6, .bool a7, .int .i64 a8, .slice A la.length c], .agg #[.int .u8 a0, .int .u16 a1, .int .u64 a2, .int .u64 a3, .int .u64 a4, .int .u64 a5, .int .u64 a6, .bool a7, .int .i64 b8, .slice B la.length d]] w fun e w' => e = .returned (.bool false) ∧ Below w.heap.size w w' := by
  obtain ⟨W, hW⟩ : ∃ W : World, W = (w.alloc (.cells #[.int .u8 a0, .int .u16 a1, .int .u64 a2, .int .u64 a3, .int .u64 a4, .int .u64 a5, .int .u64 a6, .bool a7, .int .i64 a8, .slice A la.length c] 27)).alloc (.cells #[.int .u8 a0, .int .u16 a1, .int .u64 a2, .int .u64 a3, .int .u64 a4, .int .u64 a5, .int .u64 a6, .bool a7, .int .i64 b8, .slice B la.length d] 27) := ⟨_, rfl⟩
  have hB : Below w.heap.size w W := by rw [hW]; exact ((Below.refl _ _).alloc (Nat.le_refl _) _).alloc (by simp) _
  have hra := row_string (c := c) ((ha.below hB).more hB.size)
  have hrb := row_string (c := d) ((hb.below hB).more hB.size)
  rw [hW] at hra hrb
  rw [hW] at hB
  have HB := Lib.hid hB
  clear hW hB ha hb
  have hh := beq_eq_false_iff_ne.2 h
  clear h
  go_enter Try.func16, Try.ntmps16
  go_wp2
  go_ret
  exact ⟨rfl, HB.out⟩

set_option maxHeartbeats 1000000 in
theorem answers_no9 (a0 a1 a2 a3 a4 a5 a6 a8 b0 b1 b2 b3 b4 b5 b6 b8 : Int) (a7 b7 : Bool) (la lb : List UInt8) (A B : Option Addr) (c d : Nat) (w : World) (ha : Row w w.heap.size A (u8s la)) (hb : Row w w.heap.size B (u8s lb)) (h : la ≠ lb) :
    Calls Try.prog 16 #[.agg #[.int .u8 a0, .int .u16 a1, .int .u64 a2, .int .u64 a3, .int .u64 a4, .int .u64 a5, .int .u64 a6, .bool a7, .int .i64 a8, .slice A la.length c], .agg #[.int .u8 b0, .int .u16 b1, .int .u64 b2, .int .u64 b3, .int .u64 b4, .int .u64 b5, .int .u64 b6, .bool b7, .int .i64 b8, .slice B lb.length d]] w fun e w' => e = .returned (.bool false) ∧ Below w.heap.size w w' := by
  obtain ⟨W, hW⟩ : ∃ W : World, W = (w.alloc (.cells #[.int .u8 a0, .int .u16 a1, .int .u64 a2, .int .u64 a3, .int .u64 a4, .int .u64 a5, .int .u64 a6, .bool a7, .int .i64 a8, .slice A la.length c] 27)).alloc (.cells #[.int .u8 b0, .int .u16 b1, .int .u64 b2, .int .u64 b3, .int .u64 b4, .int .u64 b5, .int .u64 b6, .bool b7, .int .i64 b8, .slice B lb.length d] 27) := ⟨_, rfl⟩
  have hB : Below w.heap.size w W := by rw [hW]; exact ((Below.refl _ _).alloc (Nat.le_refl _) _).alloc (by simp) _
  have hra := row_string (c := c) ((ha.below hB).more hB.size)
  have hrb := row_string (c := d) ((hb.below hB).more hB.size)
  rw [hW] at hra hrb
  rw [hW] at hB
  have HB := Lib.hid hB
  clear hW hB ha hb
  obtain ⟨hh1, hh2⟩ := str_ne h
  go_enter Try.func16, Try.ntmps16
  go_wp2
  go_ret
  exact ⟨rfl, HB.out⟩

set_option maxHeartbeats 1000000 in
theorem answers_yes (a0 a1 a2 a3 a4 a5 a6 a8 : Int) (a7 : Bool) (la : List UInt8) (A B : Option Addr) (c d : Nat) (w : World) (ha : Row w w.heap.size A (u8s la)) (hb : Row w w.heap.size B (u8s la)) :
    Calls Try.prog 16 #[.agg #[.int .u8 a0, .int .u16 a1, .int .u64 a2, .int .u64 a3, .int .u64 a4, .int .u64 a5, .int .u64 a6, .bool a7, .int .i64 a8, .slice A la.length c], .agg #[.int .u8 a0, .int .u16 a1, .int .u64 a2, .int .u64 a3, .int .u64 a4, .int .u64 a5, .int .u64 a6, .bool a7, .int .i64 a8, .slice B la.length d]] w fun e w' => e = .returned (.bool true) ∧ Below w.heap.size w w' := by
  obtain ⟨W, hW⟩ : ∃ W : World, W = (w.alloc (.cells #[.int .u8 a0, .int .u16 a1, .int .u64 a2, .int .u64 a3, .int .u64 a4, .int .u64 a5, .int .u64 a6, .bool a7, .int .i64 a8, .slice A la.length c] 27)).alloc (.cells #[.int .u8 a0, .int .u16 a1, .int .u64 a2, .int .u64 a3, .int .u64 a4, .int .u64 a5, .int .u64 a6, .bool a7, .int .i64 a8, .slice B la.length d] 27) := ⟨_, rfl⟩
  have hB : Below w.heap.size w W := by rw [hW]; exact ((Below.refl _ _).alloc (Nat.le_refl _) _).alloc (by simp) _
  have hra := row_string (c := c) ((ha.below hB).more hB.size)
  have hrb := row_string (c := d) ((hb.below hB).more hB.size)
  rw [hW] at hra hrb
  rw [hW] at hB
  have HB := Lib.hid hB
  clear hW hB ha hb
  go_enter Try.func16, Try.ntmps16
  go_wp2
  go_ret
  exact ⟨rfl, HB.out⟩

end Go.Proofs.Ytcgcfgomakaacaa.head
