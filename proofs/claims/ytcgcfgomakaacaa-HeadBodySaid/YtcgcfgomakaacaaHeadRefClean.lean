/- the reference's Clean, walked. -/
import Derived.Test.YtcgcfgomakaacaaHeadClean
namespace Go.Proofs.Ytcgcfgomakaacaa.head
open Go.RowKit
open Go.Proofs.Ytcgcfgomakaacaa.aid

theorem Blk.ten' {w : World} {g : Nat} {t : TypeId} {v0 v1 v2 v3 v4 v5 v6 v7 v8 v9 : Value} (h : Blk w g t #[v0, v1, v2, v3, v4, v5, v6, v7, v8, v9]) : w.cell? ⟨g, 0, none⟩ = some v0 ∧ w.cell? ⟨g, 1, none⟩ = some v1 ∧ w.cell? ⟨g, 2, none⟩ = some v2 ∧ w.cell? ⟨g, 3, none⟩ = some v3 ∧ w.cell? ⟨g, 4, none⟩ = some v4 ∧ w.cell? ⟨g, 5, none⟩ = some v5 ∧ w.cell? ⟨g, 6, none⟩ = some v6 ∧ w.cell? ⟨g, 7, none⟩ = some v7 ∧ w.cell? ⟨g, 8, none⟩ = some v8 ∧ w.cell? ⟨g, 9, none⟩ = some v9 :=
  ⟨h.cell 0, h.cell 1, h.cell 2, h.cell 3, h.cell 4, h.cell 5, h.cell 6, h.cell 7, h.cell 8, h.cell 9⟩
theorem Blk.froz' {w : World} {g : Nat} {t : TypeId} {cs : Array Value} (h : Blk w g t cs) : w.frozen? ⟨g, 0, none⟩ = false ∧ w.frozen? ⟨g, 1, none⟩ = false ∧ w.frozen? ⟨g, 2, none⟩ = false ∧ w.frozen? ⟨g, 3, none⟩ = false ∧ w.frozen? ⟨g, 4, none⟩ = false ∧ w.frozen? ⟨g, 5, none⟩ = false ∧ w.frozen? ⟨g, 6, none⟩ = false ∧ w.frozen? ⟨g, 7, none⟩ = false ∧ w.frozen? ⟨g, 8, none⟩ = false ∧ w.frozen? ⟨g, 9, none⟩ = false :=
  ⟨h.frozen 0, h.frozen 1, h.frozen 2, h.frozen 3, h.frozen 4, h.frozen 5, h.frozen 6, h.frozen 7, h.frozen 8, h.frozen 9⟩

set_option maxHeartbeats 1000000 in
theorem refclean_1 (err limit left reset after nanos many : Int) (retry : Bool) (n c : Nat) (A : Option Addr) (w : World) :
    Calls Try.prog 18 #[.agg #[.int .u8 1, .int .u16 err, .int .u64 limit, .int .u64 left, .int .u64 reset, .int .u64 after, .int .u64 nanos, .bool retry, .int .i64 many, .slice A n c]] w fun e w' =>
      e = .returned (.agg #[.int .u8 1, .int .u16 0, .int .u64 limit, .int .u64 left, .int .u64 reset, .int .u64 0, .int .u64 0, .bool false, .int .i64 0, .slice none 0 0]) ∧ Below w.heap.size w w' := by
  go_enter Try.func18, Try.ntmps18
  go_wp2
  refine bodyPost_ret (v := .agg #[.int .u8 1, .int .u16 0, .int .u64 limit, .int .u64 left, .int .u64 reset, .int .u64 0, .int .u64 0, .bool false, .int .i64 0, .slice none 0 0]) (by simp [results, Try.results18, go_sem]) rfl ⟨rfl, ?_⟩
  repeat' (first | (with_reducible exact Below.refl _ _) | (with_reducible refine Below.setCell ?_ ?_ _) | (with_reducible refine Below.alloc ?_ ?_ _) | (with_reducible refine Below.drew ?_))
  all_goals first | omega | (simp; done) | (simp; omega)

set_option maxHeartbeats 1000000 in
theorem refclean_2t (err limit left reset after nanos many : Int) (n c : Nat) (A : Option Addr) (w : World) :
    Calls Try.prog 18 #[.agg #[.int .u8 2, .int .u16 err, .int .u64 limit, .int .u64 left, .int .u64 reset, .int .u64 after, .int .u64 nanos, .bool true, .int .i64 many, .slice A n c]] w fun e w' =>
      e = .returned (.agg #[.int .u8 2, .int .u16 0, .int .u64 limit, .int .u64 left, .int .u64 reset, .int .u64 after, .int .u64 nanos, .bool true, .int .i64 0, .slice none 0 0]) ∧ Below w.heap.size w w' := by
  go_enter Try.func18, Try.ntmps18
  go_wp2
  refine bodyPost_ret (v := .agg #[.int .u8 2, .int .u16 0, .int .u64 limit, .int .u64 left, .int .u64 reset, .int .u64 after, .int .u64 nanos, .bool true, .int .i64 0, .slice none 0 0]) (by simp [results, Try.results18, go_sem]) rfl ⟨rfl, ?_⟩
  repeat' (first | (with_reducible exact Below.refl _ _) | (with_reducible refine Below.setCell ?_ ?_ _) | (with_reducible refine Below.alloc ?_ ?_ _) | (with_reducible refine Below.drew ?_))
  all_goals first | omega | (simp; done) | (simp; omega)

set_option maxHeartbeats 1000000 in
theorem refclean_2f (err limit left reset after nanos many : Int) (n c : Nat) (A : Option Addr) (w : World) :
    Calls Try.prog 18 #[.agg #[.int .u8 2, .int .u16 err, .int .u64 limit, .int .u64 left, .int .u64 reset, .int .u64 after, .int .u64 nanos, .bool false, .int .i64 many, .slice A n c]] w fun e w' =>
      e = .returned (.agg #[.int .u8 2, .int .u16 0, .int .u64 limit, .int .u64 left, .int .u64 reset, .int .u64 0, .int .u64 0, .bool false, .int .i64 0, .slice none 0 0]) ∧ Below w.heap.size w w' := by
  go_enter Try.func18, Try.ntmps18
  go_wp2
  refine bodyPost_ret (v := .agg #[.int .u8 2, .int .u16 0, .int .u64 limit, .int .u64 left, .int .u64 reset, .int .u64 0, .int .u64 0, .bool false, .int .i64 0, .slice none 0 0]) (by simp [results, Try.results18, go_sem]) rfl ⟨rfl, ?_⟩
  repeat' (first | (with_reducible exact Below.refl _ _) | (with_reducible refine Below.setCell ?_ ?_ _) | (with_reducible refine Below.alloc ?_ ?_ _) | (with_reducible refine Below.drew ?_))
  all_goals first | omega | (simp; done) | (simp; omega)

set_option maxHeartbeats 1000000 in
theorem refclean_3 (err limit left reset after nanos many : Int) (retry : Bool) (n c : Nat) (A : Option Addr) (w : World) :
    Calls Try.prog 18 #[.agg #[.int .u8 3, .int .u16 err, .int .u64 limit, .int .u64 left, .int .u64 reset, .int .u64 after, .int .u64 nanos, .bool retry, .int .i64 many, .slice A n c]] w fun e w' =>
      e = .returned (.agg #[.int .u8 3, .int .u16 0, .int .u64 limit, .int .u64 0, .int .u64 0, .int .u64 0, .int .u64 0, .bool false, .int .i64 0, .slice none 0 0]) ∧ Below w.heap.size w w' := by
  go_enter Try.func18, Try.ntmps18
  go_wp2
  refine bodyPost_ret (v := .agg #[.int .u8 3, .int .u16 0, .int .u64 limit, .int .u64 0, .int .u64 0, .int .u64 0, .int .u64 0, .bool false, .int .i64 0, .slice none 0 0]) (by simp [results, Try.results18, go_sem]) rfl ⟨rfl, ?_⟩
  repeat' (first | (with_reducible exact Below.refl _ _) | (with_reducible refine Below.setCell ?_ ?_ _) | (with_reducible refine Below.alloc ?_ ?_ _) | (with_reducible refine Below.drew ?_))
  all_goals first | omega | (simp; done) | (simp; omega)

set_option maxHeartbeats 1000000 in
theorem refclean_4 (err limit left reset after nanos many : Int) (retry : Bool) (n c : Nat) (A : Option Addr) (w : World) :
    Calls Try.prog 18 #[.agg #[.int .u8 4, .int .u16 err, .int .u64 limit, .int .u64 left, .int .u64 reset, .int .u64 after, .int .u64 nanos, .bool retry, .int .i64 many, .slice A n c]] w fun e w' =>
      e = .returned (.agg #[.int .u8 4, .int .u16 0, .int .u64 0, .int .u64 0, .int .u64 0, .int .u64 0, .int .u64 0, .bool false, .int .i64 0, .slice none 0 0]) ∧ Below w.heap.size w w' := by
  go_enter Try.func18, Try.ntmps18
  go_wp2
  refine bodyPost_ret (v := .agg #[.int .u8 4, .int .u16 0, .int .u64 0, .int .u64 0, .int .u64 0, .int .u64 0, .int .u64 0, .bool false, .int .i64 0, .slice none 0 0]) (by simp [results, Try.results18, go_sem]) rfl ⟨rfl, ?_⟩
  repeat' (first | (with_reducible exact Below.refl _ _) | (with_reducible refine Below.setCell ?_ ?_ _) | (with_reducible refine Below.alloc ?_ ?_ _) | (with_reducible refine Below.drew ?_))
  all_goals first | omega | (simp; done) | (simp; omega)

set_option maxHeartbeats 1000000 in
theorem refclean_5 (err limit left reset after nanos many : Int) (retry : Bool) (n c : Nat) (A : Option Addr) (w : World) :
    Calls Try.prog 18 #[.agg #[.int .u8 5, .int .u16 err, .int .u64 limit, .int .u64 left, .int .u64 reset, .int .u64 after, .int .u64 nanos, .bool retry, .int .i64 many, .slice A n c]] w fun e w' =>
      e = .returned (.agg #[.int .u8 5, .int .u16 err, .int .u64 0, .int .u64 0, .int .u64 0, .int .u64 0, .int .u64 0, .bool false, .int .i64 0, .slice none 0 0]) ∧ Below w.heap.size w w' := by
  go_enter Try.func18, Try.ntmps18
  go_wp2
  refine bodyPost_ret (v := .agg #[.int .u8 5, .int .u16 err, .int .u64 0, .int .u64 0, .int .u64 0, .int .u64 0, .int .u64 0, .bool false, .int .i64 0, .slice none 0 0]) (by simp [results, Try.results18, go_sem]) rfl ⟨rfl, ?_⟩
  repeat' (first | (with_reducible exact Below.refl _ _) | (with_reducible refine Below.setCell ?_ ?_ _) | (with_reducible refine Below.alloc ?_ ?_ _) | (with_reducible refine Below.drew ?_))
  all_goals first | omega | (simp; done) | (simp; omega)

set_option maxHeartbeats 1000000 in
theorem refclean_6p (err limit left reset after nanos many : Int) (retry : Bool) (n c : Nat) (A : Option Addr) (w : World) (hm : 0 < many) :
    Calls Try.prog 18 #[.agg #[.int .u8 6, .int .u16 err, .int .u64 limit, .int .u64 left, .int .u64 reset, .int .u64 after, .int .u64 nanos, .bool retry, .int .i64 many, .slice A n c]] w fun e w' =>
      e = .returned (.agg #[.int .u8 6, .int .u16 0, .int .u64 0, .int .u64 0, .int .u64 0, .int .u64 0, .int .u64 0, .bool false, .int .i64 many, .slice none 0 0]) ∧ Below w.heap.size w w' := by
  go_enter Try.func18, Try.ntmps18
  go_wp2
  refine bodyPost_ret (v := .agg #[.int .u8 6, .int .u16 0, .int .u64 0, .int .u64 0, .int .u64 0, .int .u64 0, .int .u64 0, .bool false, .int .i64 many, .slice none 0 0]) (by simp [results, Try.results18, go_sem]) rfl ⟨rfl, ?_⟩
  repeat' (first | (with_reducible exact Below.refl _ _) | (with_reducible refine Below.setCell ?_ ?_ _) | (with_reducible refine Below.alloc ?_ ?_ _) | (with_reducible refine Below.drew ?_))
  all_goals first | omega | (simp; done) | (simp; omega)

set_option maxHeartbeats 1000000 in
theorem refclean_6z (err limit left reset after nanos many : Int) (retry : Bool) (n c : Nat) (A : Option Addr) (w : World) (hm : many = 0) :
    Calls Try.prog 18 #[.agg #[.int .u8 6, .int .u16 err, .int .u64 limit, .int .u64 left, .int .u64 reset, .int .u64 after, .int .u64 nanos, .bool retry, .int .i64 many, .slice A n c]] w fun e w' =>
      e = .returned (.agg #[.int .u8 6, .int .u16 0, .int .u64 0, .int .u64 0, .int .u64 0, .int .u64 0, .int .u64 0, .bool false, .int .i64 0, .slice none 0 0]) ∧ Below w.heap.size w w' := by
  subst hm
  go_enter Try.func18, Try.ntmps18
  go_wp2
  refine bodyPost_ret (v := .agg #[.int .u8 6, .int .u16 0, .int .u64 0, .int .u64 0, .int .u64 0, .int .u64 0, .int .u64 0, .bool false, .int .i64 0, .slice none 0 0]) (by simp [results, Try.results18, go_sem]) rfl ⟨rfl, ?_⟩
  repeat' (first | (with_reducible exact Below.refl _ _) | (with_reducible refine Below.setCell ?_ ?_ _) | (with_reducible refine Below.alloc ?_ ?_ _) | (with_reducible refine Below.drew ?_))
  all_goals first | omega | (simp; done) | (simp; omega)

set_option maxHeartbeats 1000000 in
theorem refclean_6n (err limit left reset after nanos many : Int) (retry : Bool) (n c : Nat) (A : Option Addr) (w : World) (hm : many < 0) :
    Calls Try.prog 18 #[.agg #[.int .u8 6, .int .u16 err, .int .u64 limit, .int .u64 left, .int .u64 reset, .int .u64 after, .int .u64 nanos, .bool retry, .int .i64 many, .slice A n c]] w fun e w' =>
      e = .returned (.agg #[.int .u8 6, .int .u16 0, .int .u64 0, .int .u64 0, .int .u64 0, .int .u64 0, .int .u64 0, .bool false, .int .i64 0, .slice none 0 0]) ∧ Below w.heap.size w w' := by
  go_enter Try.func18, Try.ntmps18
  go_wp2
  refine bodyPost_ret (v := .agg #[.int .u8 6, .int .u16 0, .int .u64 0, .int .u64 0, .int .u64 0, .int .u64 0, .int .u64 0, .bool false, .int .i64 0, .slice none 0 0]) (by simp [results, Try.results18, go_sem]) rfl ⟨rfl, ?_⟩
  repeat' (first | (with_reducible exact Below.refl _ _) | (with_reducible refine Below.setCell ?_ ?_ _) | (with_reducible refine Below.alloc ?_ ?_ _) | (with_reducible refine Below.drew ?_))
  all_goals first | omega | (simp; done) | (simp; omega)

set_option maxHeartbeats 1000000 in
theorem refclean_7 (err limit left reset after nanos many : Int) (retry : Bool) (n c : Nat) (A : Option Addr) (w : World) :
    Calls Try.prog 18 #[.agg #[.int .u8 7, .int .u16 err, .int .u64 limit, .int .u64 left, .int .u64 reset, .int .u64 after, .int .u64 nanos, .bool retry, .int .i64 many, .slice A n c]] w fun e w' =>
      e = .returned (.agg #[.int .u8 7, .int .u16 err, .int .u64 0, .int .u64 0, .int .u64 0, .int .u64 0, .int .u64 0, .bool false, .int .i64 0, .slice none 0 0]) ∧ Below w.heap.size w w' := by
  go_enter Try.func18, Try.ntmps18
  go_wp2
  refine bodyPost_ret (v := .agg #[.int .u8 7, .int .u16 err, .int .u64 0, .int .u64 0, .int .u64 0, .int .u64 0, .int .u64 0, .bool false, .int .i64 0, .slice none 0 0]) (by simp [results, Try.results18, go_sem]) rfl ⟨rfl, ?_⟩
  repeat' (first | (with_reducible exact Below.refl _ _) | (with_reducible refine Below.setCell ?_ ?_ _) | (with_reducible refine Below.alloc ?_ ?_ _) | (with_reducible refine Below.drew ?_))
  all_goals first | omega | (simp; done) | (simp; omega)

set_option maxHeartbeats 1000000 in
theorem refclean_0 (code err limit left reset after nanos many : Int) (retry : Bool) (n c : Nat) (A : Option Addr) (w : World) (hcode : code ≠ 1 ∧ code ≠ 2 ∧ code ≠ 3 ∧ code ≠ 4 ∧ code ≠ 5 ∧ code ≠ 6 ∧ code ≠ 7 ∧ code ≠ 8) :
    Calls Try.prog 18 #[.agg #[.int .u8 code, .int .u16 err, .int .u64 limit, .int .u64 left, .int .u64 reset, .int .u64 after, .int .u64 nanos, .bool retry, .int .i64 many, .slice A n c]] w fun e w' =>
      e = .returned (.agg #[.int .u8 0, .int .u16 0, .int .u64 0, .int .u64 0, .int .u64 0, .int .u64 0, .int .u64 0, .bool false, .int .i64 0, .slice none 0 0]) ∧ Below w.heap.size w w' := by
  obtain ⟨h1, h2, h3, h4, h5, h6, h7, h8⟩ := hcode
  have k1 := beq_eq_false_iff_ne.2 h1
  have k2 := beq_eq_false_iff_ne.2 h2
  have k3 := beq_eq_false_iff_ne.2 h3
  have k4 := beq_eq_false_iff_ne.2 h4
  have k5 := beq_eq_false_iff_ne.2 h5
  have k6 := beq_eq_false_iff_ne.2 h6
  have k7 := beq_eq_false_iff_ne.2 h7
  have k8 := beq_eq_false_iff_ne.2 h8
  clear h1 h2 h3 h4 h5 h6 h7 h8
  go_enter Try.func18, Try.ntmps18
  go_wp2
  refine bodyPost_ret (v := .agg #[.int .u8 0, .int .u16 0, .int .u64 0, .int .u64 0, .int .u64 0, .int .u64 0, .int .u64 0, .bool false, .int .i64 0, .slice none 0 0]) (by simp [results, Try.results18, go_sem]) rfl ⟨rfl, ?_⟩
  repeat' (first | (with_reducible exact Below.refl _ _) | (with_reducible refine Below.setCell ?_ ?_ _) | (with_reducible refine Below.alloc ?_ ?_ _) | (with_reducible refine Below.drew ?_))
  all_goals first | omega | (simp; done) | (simp; omega)


set_option maxHeartbeats 1000000 in
theorem refclean_8 (err limit left reset after nanos many : Int) (retry : Bool) (body : List UInt8) (c : Nat) (A : Option Addr) (w : World) (hr : Row w w.heap.size A (u8s body)) (hl : body.length ≤ 140737488351232) :
    Calls Try.prog 18 #[.agg #[.int .u8 8, .int .u16 err, .int .u64 limit, .int .u64 left, .int .u64 reset, .int .u64 after, .int .u64 nanos, .bool retry, .int .i64 many, .slice A body.length c]] w fun e w' =>
      ∃ A' c', e = .returned (.agg #[.int .u8 8, .int .u16 0, .int .u64 0, .int .u64 0, .int .u64 0, .int .u64 0, .int .u64 0, .bool false, .int .i64 0, .slice A' body.length c']) ∧ Copy w' w.heap.size A' c' body ∧ Below w.heap.size w w' := by
  obtain ⟨i0, hi0, hz0, hz1, hz2⟩ := info_parts byte_info
  have HR := Lib.hid (fun W (hb : Below w.heap.size w W) => (hr.below hb).more hb.size)
  clear hr
  go_enter Try.func18, Try.ntmps18
  obtain ⟨W, hW⟩ : ∃ W : World, W = (((w.alloc (.cells #[.int .u8 8, .int .u16 err, .int .u64 limit, .int .u64 left, .int .u64 reset, .int .u64 after, .int .u64 nanos, .bool retry, .int .i64 many, .slice A body.length c] 27)).alloc (.cells #[.int .u8 0, .int .u16 0, .int .u64 0, .int .u64 0, .int .u64 0, .int .u64 0, .int .u64 0, .bool false, .int .i64 0, .slice none 0 0] 27)).alloc (.cells #[.int .u8 8, .int .u16 0, .int .u64 0, .int .u64 0, .int .u64 0, .int .u64 0, .int .u64 0, .bool false, .int .i64 0, .slice none 0 0] 27)) := ⟨_, rfl⟩
  have hWB : Below w.heap.size w W := by
    rw [hW]
    exact (((Below.refl w.heap.size w).alloc (Nat.le_refl _) _).alloc (by simp) _).alloc (by simp; omega) _
  have hWs : W.heap.size = w.heap.size + 3 := by rw [hW]; simp
  have hxb : Blk W (w.heap.size + 1 + 1) 27 #[.int .u8 8, .int .u16 0, .int .u64 0, .int .u64 0, .int .u64 0, .int .u64 0, .int .u64 0, .bool false, .int .i64 0, .slice none 0 0] := by
    rw [hW]
    have h := Blk.new ((w.alloc (.cells #[.int .u8 8, .int .u16 err, .int .u64 limit, .int .u64 left, .int .u64 reset, .int .u64 after, .int .u64 nanos, .bool retry, .int .i64 many, .slice A body.length c] 27)).alloc (.cells #[.int .u8 0, .int .u16 0, .int .u64 0, .int .u64 0, .int .u64 0, .int .u64 0, .int .u64 0, .bool false, .int .i64 0, .slice none 0 0] 27)) 27 #[.int .u8 8, .int .u16 0, .int .u64 0, .int .u64 0, .int .u64 0, .int .u64 0, .int .u64 0, .bool false, .int .i64 0, .slice none 0 0]
    rw [World.size_alloc, World.size_alloc] at h
    exact h
  have hxr : Blk W (w.heap.size + 1) 27 #[.int .u8 0, .int .u16 0, .int .u64 0, .int .u64 0, .int .u64 0, .int .u64 0, .int .u64 0, .bool false, .int .i64 0, .slice none 0 0] := by
    rw [hW]
    have h := (Blk.new (w.alloc (.cells #[.int .u8 8, .int .u16 err, .int .u64 limit, .int .u64 left, .int .u64 reset, .int .u64 after, .int .u64 nanos, .bool retry, .int .i64 many, .slice A body.length c] 27)) 27 #[.int .u8 0, .int .u16 0, .int .u64 0, .int .u64 0, .int .u64 0, .int .u64 0, .int .u64 0, .bool false, .int .i64 0, .slice none 0 0]).alloc (.cells #[.int .u8 8, .int .u16 0, .int .u64 0, .int .u64 0, .int .u64 0, .int .u64 0, .int .u64 0, .bool false, .int .i64 0, .slice none 0 0] 27)
    rw [World.size_alloc] at h
    exact h
  have XB := Lib.hid hxb
  have XR := Lib.hid hxr
  clear hxb hxr
  have HB := Lib.hid hWB
  have HW := Lib.hid hW
  clear hWB hW
  have HS := Lib.hid hWs
  clear hWs
  go_wp2_with (at_builtin; (rw [← HW.out]); refine wpList_append_row _ rfl (.tmp 58) (.tmp 60) 25 rfl (w.heap.size + 3) 5 i0 _ 1 rfl hi0 hz0 hz1 hz2 rfl (.slice none 0 0) 0 [] rfl (World.ownsRow_nil _ _ _ _) _ A body.length c (u8s body) rfl (by simp) (HR.out W HB.out) (one_u8s body) (by unfold maxLen; omega) (by omega) (Nat.le_of_eq HS.out.symm) ?_; intro v1 w2 hown1 hg1 hat1; have hgb := grown_below (Below.refl W.heap.size W) (World.ownsRow_nil W (w.heap.size + 3) 5 1) (Nat.le_of_eq HS.out) (Nat.le_refl _) hg1; obtain ⟨a0, a1, a2, a3, a4, a5, a6, a7, a8, a9⟩ := Blk.ten' (XB.out.below hgb XB.out.lt); obtain ⟨b0, b1, b2, b3, b4, b5, b6, b7, b8, b9⟩ := Blk.froz' (XB.out.below hgb XB.out.lt); obtain ⟨r0, r1, r2, r3, r4, r5, r6, r7, r8, r9⟩ := Blk.ten' (XR.out.below hgb XR.out.lt); obtain ⟨s0, s1, s2, s3, s4, s5, s6, s7, s8, s9⟩ := Blk.froz' (XR.out.below hgb XR.out.lt); obtain ⟨A2, c2, hv, hc2, -⟩ := own_form hown1; rw [Nat.zero_add, List.nil_append] at hown1; rw [Nat.zero_add] at hv hc2; subst hv)
  have HC : Hid (Copy w2 (w.heap.size + 3) A2 c2 body) := Lib.hid ⟨hc2, fun _ => hown1⟩
  have HG := Lib.hid (HB.out.trans (hgb.mono HB.out.size))
  refine bodyPost_ret (v := .agg #[.int .u8 8, .int .u16 0, .int .u64 0, .int .u64 0, .int .u64 0, .int .u64 0, .int .u64 0, .bool false, .int .i64 0, .slice A2 body.length c2]) (by simp [results, Try.results18, a0, a1, a2, a3, a4, a5, a6, a7, a8, a9, b9, s0, s1, s2, s3, s4, s5, s6, s7, s8, s9, r0, r1, r2, r3, r4, r5, r6, r7, r8, r9, go_sem]) rfl ⟨A2, c2, rfl, ?_, ?_⟩
  · refine Copy.base (B := w.heap.size + 3) ?_ (by omega)
    repeat' (first | (with_reducible exact HC.out) | (with_reducible refine Copy.setCell ?_ _ ?_ _) | (with_reducible refine Copy.alloc ?_ _))
    all_goals (simp; try omega)
  · repeat' (first | (with_reducible exact HG.out) | (with_reducible refine Below.setCell ?_ ?_ _) | (with_reducible refine Below.alloc ?_ ?_ _) | (with_reducible refine Below.drew ?_))
    all_goals (simp; try omega)

theorem refclean_any (a : Ans) (hf : a.body.length ≤ 140737488351232) (A : Option Addr) (c : Nat) (w : World) (hr : Row w w.heap.size A (u8s a.body)) :
    Calls Try.prog 18 #[ansV a A c] w fun e w' => ∃ A' c', e = .returned (ansV (clean a) A' c') ∧ Copy w' w.heap.size A' c' (clean a).body ∧ Below w.heap.size w w' := by
  obtain ⟨code, err, limit, left, reset, after, nanos, retry, many, body⟩ := a
  rcases code_cases code with h | h
  · rcases h with rfl | rfl | rfl | rfl | rfl | rfl | rfl | rfl
    · exact (refclean_1 err limit left reset after nanos many retry body.length c A w).mono fun e w' h => ⟨none, 0, h.1, Copy.nil_ _ _, h.2⟩
    · cases retry
      · exact (refclean_2f err limit left reset after nanos many body.length c A w).mono fun e w' h => ⟨none, 0, h.1, Copy.nil_ _ _, h.2⟩
      · exact (refclean_2t err limit left reset after nanos many body.length c A w).mono fun e w' h => ⟨none, 0, h.1, Copy.nil_ _ _, h.2⟩
    · exact (refclean_3 err limit left reset after nanos many retry body.length c A w).mono fun e w' h => ⟨none, 0, h.1, Copy.nil_ _ _, h.2⟩
    · exact (refclean_4 err limit left reset after nanos many retry body.length c A w).mono fun e w' h => ⟨none, 0, h.1, Copy.nil_ _ _, h.2⟩
    · exact (refclean_5 err limit left reset after nanos many retry body.length c A w).mono fun e w' h => ⟨none, 0, h.1, Copy.nil_ _ _, h.2⟩
    · by_cases hm : 0 < many
      · refine (refclean_6p err limit left reset after nanos many retry body.length c A w hm).mono fun e w' h => ⟨none, 0, ?_, Copy.nil_ _ _, h.2⟩
        rw [h.1]
        have : max 0 many = many := by omega
        simp [clean, zero, this]
      · have hx : max 0 many = 0 := by omega
        by_cases hz : many = 0
        · refine (refclean_6z err limit left reset after nanos many retry body.length c A w hz).mono fun e w' h => ⟨none, 0, ?_, Copy.nil_ _ _, h.2⟩
          rw [h.1]
          simp [clean, zero, hx]
        · refine (refclean_6n err limit left reset after nanos many retry body.length c A w (by omega)).mono fun e w' h => ⟨none, 0, ?_, Copy.nil_ _ _, h.2⟩
          rw [h.1]
          simp [clean, zero, hx]
    · exact (refclean_7 err limit left reset after nanos many retry body.length c A w).mono fun e w' h => ⟨none, 0, h.1, Copy.nil_ _ _, h.2⟩
    · exact refclean_8 err limit left reset after nanos many retry body c A w hr hf
  · have hn : ¬ isCode code := by unfold isCode; omega
    have hc : clean ⟨code, err, limit, left, reset, after, nanos, retry, many, body⟩ = zero := clean_none hn
    refine (refclean_0 code err limit left reset after nanos many retry body.length c A w h).mono fun e w' h => ⟨none, 0, ?_, ?_, h.2⟩
    · rw [hc]
      exact h.1
    · rw [hc]
      exact Copy.nil_ _ _
end Go.Proofs.Ytcgcfgomakaacaa.head
