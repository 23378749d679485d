/- head.Clean, walked. -/
import Derived.Test.YtcgcfgomakaacaaHeadStatus
import Derived.Test.YtcgcfgomakaacaaHeadPage
import Derived.Test.YtcgcfgomakaacaaAppend
import Derived.Outline
namespace Go.Proofs.Ytcgcfgomakaacaa.head
open Go.RowKit
open Go.Proofs.Ytcgcfgomakaacaa.aid

theorem own_zero (w : World) (o : World) (h : o = w.alloc (.cells #[] 5)) : o.ownsRow w.heap.size 5 1 (.slice (some ⟨w.heap.size, 0, none⟩) 0 0) 0 [] := by
  subst h
  exact ⟨by simp, .inr ⟨w.heap.size, 0, #[], rfl, Nat.le_refl _, heap_alloc_new w _, Nat.le_refl _, Nat.zero_le _, rfl, rfl⟩⟩
theorem one_u8s (l : List UInt8) : ∀ u ∈ u8s l, u.oneCell' = true := by
  intro u hu
  obtain ⟨s, _, rfl⟩ := List.mem_map.1 hu
  rfl
/-- a copy of some bytes lies from block B on -/
def Copy (w : World) (B : Nat) (A : Option Addr) (c : Nat) (l : List UInt8) : Prop := l.length ≤ c ∧ (l ≠ [] → w.ownsRow B 5 1 (.slice A l.length c) l.length (u8s l))
theorem Copy.row {w : World} {B : Nat} {A : Option Addr} {c : Nat} {l : List UInt8} (h : Copy w B A c l) : Row w w.heap.size A (u8s l) := by
  by_cases hl : l = []
  · subst hl
    exact Row.nil_
  · exact Row.of_own (h.2 hl)
theorem Copy.nil_ (w : World) (B : Nat) : Copy w B none 0 [] := ⟨Nat.le_refl _, fun h => absurd rfl h⟩
theorem Copy.base {w : World} {B B' : Nat} {A : Option Addr} {c : Nat} {l : List UInt8} (h : Copy w B A c l) (hB : B' ≤ B) : Copy w B' A c l := by
  refine ⟨h.1, fun hl => ⟨(h.2 hl).1, ?_⟩⟩
  rcases (h.2 hl).2 with h | ⟨g, cap, cur, hv, hg, hr⟩
  · exact .inl h
  · exact .inr ⟨g, cap, cur, hv, by omega, hr⟩
theorem Copy.kept {w w' : World} {B k : Nat} {A : Option Addr} {c : Nat} {l : List UInt8} (h : Copy w B A c l) (hg : w.grownBy w' (some k)) (hk : k < B) : Copy w' B A c l := by
  refine ⟨h.1, fun hl => (h.2 hl).kept hg (.inr ?_)⟩
  intro e
  rcases (h.2 hl).2 with ⟨hv, hn⟩ | ⟨g, cap, cur, hv, hb, hr⟩
  · rw [hv] at e
    simp [Value.ownBlock] at e
  · rw [hv] at e
    simp [Value.ownBlock] at e
    omega
theorem Copy.setCell {w : World} {B : Nat} {A : Option Addr} {c : Nat} {l : List UInt8} (h : Copy w B A c l) (p : Addr) (hp : p.block < B) (u : Value) : Copy (w.setCell p u) B A c l :=
  h.kept (k := p.block) ⟨rfl, rfl, rfl, by simp [World.setCell], fun k _ hk => Below.heap_setCell _ _ _ _ (fun e => hk (by simp [e]))⟩ hp
theorem Copy.alloc {w : World} {B : Nat} {A : Option Addr} {c : Nat} {l : List UInt8} (h : Copy w B A c l) (o : Obj) : Copy (w.alloc o) B A c l := ⟨h.1, fun hl => (h.2 hl).alloc o⟩
theorem Copy.below {w w' : World} {B : Nat} {A : Option Addr} {c : Nat} {l : List UInt8} (h : Copy w B A c l) (hb : Below w.heap.size w w') : Copy w' B A c l := by
  refine ⟨h.1, fun hl => ⟨(h.2 hl).1, ?_⟩⟩
  rcases (h.2 hl).2 with h | ⟨g, cap, cur, hv, hg, hblk, hr⟩
  · exact .inl h
  · have hlt : g < w.heap.size := (Array.getElem?_eq_some_iff.1 hblk).1
    exact .inr ⟨g, cap, cur, hv, hg, (hb.block g hlt).trans hblk, hr⟩

set_option maxHeartbeats 400000 in
theorem clone_any (l : List UInt8) (A : Option Addr) (c : Nat) (w : World) (h : Row w w.heap.size A (u8s l)) (hl : l.length ≤ 140737488351232) :
    Calls Try.prog 20 #[.slice A l.length c] w fun e w' => ∃ A' c', e = .returned (.slice A' l.length c') ∧ Copy w' w.heap.size A' c' l ∧ Below w.heap.size w w' := by
  obtain ⟨i0, hi0, hz0, hz1, hz2⟩ := info_parts byte_info
  have hnil := Lib.run_eql_slice_nil (P := Try.prog) w 25 5 A l.length c 0 0 rfl
  have hN := Lib.hid hnil
  cases A with
  | none =>
    have hn : l = [] := by
      cases l with
      | nil => rfl
      | cons u r =>
        obtain ⟨b, off, h, _⟩ := h (by simp)
        cases h
    subst hn
    have hN2 := Lib.run_eql_slice_nil (P := Try.prog) w 25 5 none 0 c 0 0 rfl
    clear h hnil hN
    go_enter Try.func20, Try.ntmps20
    go_wp2
    go_ret
    exact ⟨none, 0, rfl, Copy.nil_ _ _, Below.refl _ _⟩
  | some ad =>
    have hB : Below w.heap.size w (w.alloc (.cells #[] 5)) := (Below.refl _ w).alloc (Nat.le_refl _) _
    have HO := Lib.hid (own_zero w _ rfl)
    have HR := Lib.hid ((h.below hB).more hB.size)
    clear h hN
    go_enter Try.func20, Try.ntmps20
    go_wp2_with (at_builtin; refine wpList_append_row _ rfl (.tmp 5) (.tmp 6) 25 rfl w.heap.size 5 i0 _ 1 rfl hi0 hz0 hz1 hz2 rfl (.slice (some ⟨w.heap.size, 0, none⟩) 0 0) 0 [] rfl HO.out _ (some ad) l.length c (u8s l) rfl (by simp) HR.out (one_u8s l) (by unfold maxLen; omega) (by omega) hB.size ?_; intro v1 w2 hown1 hg1 hat1)
    go_ret
    have hb2 := grown_below hB HO.out (Nat.le_refl _) hB.size hg1
    obtain ⟨A2, c2, hv, hc2, -⟩ := own_form hown1
    rw [Nat.zero_add, List.nil_append] at hown1
    rw [Nat.zero_add] at hv hc2
    subst hv
    exact ⟨A2, c2, rfl, ⟨hc2, fun _ => hown1⟩, hb2⟩

abbrev ansV (a : Ans) (A : Option Addr) (c : Nat) : Value := .agg #[.int .u8 a.code, .int .u16 a.err, .int .u64 a.limit, .int .u64 a.left, .int .u64 a.reset, .int .u64 a.after, .int .u64 a.nanos, .bool a.retry, .int .i64 a.many, .slice A a.body.length c]

theorem bcell {W w1 : World} (hb : Below W.heap.size W w1) : (∀ b o, b < W.heap.size → w1.cell? ⟨b, o, none⟩ = W.cell? ⟨b, o, none⟩) ∧ (∀ b o, b < W.heap.size → w1.frozen? ⟨b, o, none⟩ = W.frozen? ⟨b, o, none⟩) :=
  ⟨fun b o h => hb.cell (p := ⟨b, o, none⟩) h, fun b o h => hb.frozen (p := ⟨b, o, none⟩) h⟩

-- CASES
set_option maxHeartbeats 1000000 in
theorem clean_1 (err limit left reset after nanos many : Int) (retry : Bool) (n c : Nat) (A : Option Addr) (w : World) :
    Calls Try.prog 14 #[.agg #[.int .u8 1, .int .u16 err, .int .u64 limit, .int .u64 left, .int .u64 reset, .int .u64 after, .int .u64 nanos, .bool retry, .int .i64 many, .slice A n c]] w fun e w' =>
      e = .returned (.agg #[.int .u8 1, .int .u16 0, .int .u64 limit, .int .u64 left, .int .u64 reset, .int .u64 0, .int .u64 0, .bool false, .int .i64 0, .slice none 0 0]) ∧ Below w.heap.size w w' := by
  have HS := Lib.hid (fun W => status_any 1 W)
  rw [show str (status 1) = .string b1 from rfl] at HS
  go_enter Try.func14, Try.ntmps14
  go_wp2_with fail
  refine (HS.out _).mono ?_
  rintro e w1 ⟨rfl, hb1⟩
  obtain ⟨hc, hf⟩ := bcell hb1
  have hz : w.heap.size + 1 < w1.heap.size := by have := hb1.size; simp at this; omega
  have hz0 : w.heap.size < w1.heap.size := by omega
  have g1 := Lib.hid ((((Below.refl w.heap.size w).alloc (Nat.le_refl _) _).alloc (by simp) _).trans (hb1.mono (by simp; omega)))
  clear hb1
  go_wp2_with fail
  go_region
  go_wp2_with fail
  refine bodyPost_ret (v := .agg #[.int .u8 1, .int .u16 0, .int .u64 limit, .int .u64 left, .int .u64 reset, .int .u64 0, .int .u64 0, .bool false, .int .i64 0, .slice none 0 0]) (by simp [results, Try.results14, hc, hz, hz0, go_sem]) rfl ⟨rfl, ?_⟩
  repeat' (first | (with_reducible exact g1.out) | (with_reducible refine Below.setCell ?_ ?_ _) | (with_reducible refine Below.alloc ?_ ?_ _) | (with_reducible refine Below.drew ?_))
  all_goals (simp; try omega)

set_option maxHeartbeats 1000000 in
theorem clean_2t (err limit left reset after nanos many : Int) (n c : Nat) (A : Option Addr) (w : World) :
    Calls Try.prog 14 #[.agg #[.int .u8 2, .int .u16 err, .int .u64 limit, .int .u64 left, .int .u64 reset, .int .u64 after, .int .u64 nanos, .bool true, .int .i64 many, .slice A n c]] w fun e w' =>
      e = .returned (.agg #[.int .u8 2, .int .u16 0, .int .u64 limit, .int .u64 left, .int .u64 reset, .int .u64 after, .int .u64 nanos, .bool true, .int .i64 0, .slice none 0 0]) ∧ Below w.heap.size w w' := by
  have HS := Lib.hid (fun W => status_any 2 W)
  rw [show str (status 2) = .string b2 from rfl] at HS
  go_enter Try.func14, Try.ntmps14
  go_wp2_with fail
  refine (HS.out _).mono ?_
  rintro e w1 ⟨rfl, hb1⟩
  obtain ⟨hc, hf⟩ := bcell hb1
  have hz : w.heap.size + 1 < w1.heap.size := by have := hb1.size; simp at this; omega
  have hz0 : w.heap.size < w1.heap.size := by omega
  have g1 := Lib.hid ((((Below.refl w.heap.size w).alloc (Nat.le_refl _) _).alloc (by simp) _).trans (hb1.mono (by simp; omega)))
  clear hb1
  go_wp2_with fail
  go_region
  go_wp2_with fail
  go_region
  go_wp2_with fail
  refine bodyPost_ret (v := .agg #[.int .u8 2, .int .u16 0, .int .u64 limit, .int .u64 left, .int .u64 reset, .int .u64 after, .int .u64 nanos, .bool true, .int .i64 0, .slice none 0 0]) (by simp [results, Try.results14, hc, hz, hz0, go_sem]) rfl ⟨rfl, ?_⟩
  repeat' (first | (with_reducible exact g1.out) | (with_reducible refine Below.setCell ?_ ?_ _) | (with_reducible refine Below.alloc ?_ ?_ _) | (with_reducible refine Below.drew ?_))
  all_goals (simp; try omega)

set_option maxHeartbeats 1000000 in
theorem clean_2f (err limit left reset after nanos many : Int) (n c : Nat) (A : Option Addr) (w : World) :
    Calls Try.prog 14 #[.agg #[.int .u8 2, .int .u16 err, .int .u64 limit, .int .u64 left, .int .u64 reset, .int .u64 after, .int .u64 nanos, .bool false, .int .i64 many, .slice A n c]] w fun e w' =>
      e = .returned (.agg #[.int .u8 2, .int .u16 0, .int .u64 limit, .int .u64 left, .int .u64 reset, .int .u64 0, .int .u64 0, .bool false, .int .i64 0, .slice none 0 0]) ∧ Below w.heap.size w w' := by
  have HS := Lib.hid (fun W => status_any 2 W)
  rw [show str (status 2) = .string b2 from rfl] at HS
  go_enter Try.func14, Try.ntmps14
  go_wp2_with fail
  refine (HS.out _).mono ?_
  rintro e w1 ⟨rfl, hb1⟩
  obtain ⟨hc, hf⟩ := bcell hb1
  have hz : w.heap.size + 1 < w1.heap.size := by have := hb1.size; simp at this; omega
  have hz0 : w.heap.size < w1.heap.size := by omega
  have g1 := Lib.hid ((((Below.refl w.heap.size w).alloc (Nat.le_refl _) _).alloc (by simp) _).trans (hb1.mono (by simp; omega)))
  clear hb1
  go_wp2_with fail
  go_region
  go_wp2_with fail
  refine bodyPost_ret (v := .agg #[.int .u8 2, .int .u16 0, .int .u64 limit, .int .u64 left, .int .u64 reset, .int .u64 0, .int .u64 0, .bool false, .int .i64 0, .slice none 0 0]) (by simp [results, Try.results14, hc, hz, hz0, go_sem]) rfl ⟨rfl, ?_⟩
  repeat' (first | (with_reducible exact g1.out) | (with_reducible refine Below.setCell ?_ ?_ _) | (with_reducible refine Below.alloc ?_ ?_ _) | (with_reducible refine Below.drew ?_))
  all_goals (simp; try omega)

set_option maxHeartbeats 1000000 in
theorem clean_3 (err limit left reset after nanos many : Int) (retry : Bool) (n c : Nat) (A : Option Addr) (w : World) :
    Calls Try.prog 14 #[.agg #[.int .u8 3, .int .u16 err, .int .u64 limit, .int .u64 left, .int .u64 reset, .int .u64 after, .int .u64 nanos, .bool retry, .int .i64 many, .slice A n c]] w fun e w' =>
      e = .returned (.agg #[.int .u8 3, .int .u16 0, .int .u64 limit, .int .u64 0, .int .u64 0, .int .u64 0, .int .u64 0, .bool false, .int .i64 0, .slice none 0 0]) ∧ Below w.heap.size w w' := by
  have HS := Lib.hid (fun W => status_any 3 W)
  rw [show str (status 3) = .string b3 from rfl] at HS
  go_enter Try.func14, Try.ntmps14
  go_wp2_with fail
  refine (HS.out _).mono ?_
  rintro e w1 ⟨rfl, hb1⟩
  obtain ⟨hc, hf⟩ := bcell hb1
  have hz : w.heap.size + 1 < w1.heap.size := by have := hb1.size; simp at this; omega
  have hz0 : w.heap.size < w1.heap.size := by omega
  have g1 := Lib.hid ((((Below.refl w.heap.size w).alloc (Nat.le_refl _) _).alloc (by simp) _).trans (hb1.mono (by simp; omega)))
  clear hb1
  go_wp2_with fail
  refine bodyPost_ret (v := .agg #[.int .u8 3, .int .u16 0, .int .u64 limit, .int .u64 0, .int .u64 0, .int .u64 0, .int .u64 0, .bool false, .int .i64 0, .slice none 0 0]) (by simp [results, Try.results14, hc, hz, hz0, go_sem]) rfl ⟨rfl, ?_⟩
  repeat' (first | (with_reducible exact g1.out) | (with_reducible refine Below.setCell ?_ ?_ _) | (with_reducible refine Below.alloc ?_ ?_ _) | (with_reducible refine Below.drew ?_))
  all_goals (simp; try omega)

set_option maxHeartbeats 1000000 in
theorem clean_4 (err limit left reset after nanos many : Int) (retry : Bool) (n c : Nat) (A : Option Addr) (w : World) :
    Calls Try.prog 14 #[.agg #[.int .u8 4, .int .u16 err, .int .u64 limit, .int .u64 left, .int .u64 reset, .int .u64 after, .int .u64 nanos, .bool retry, .int .i64 many, .slice A n c]] w fun e w' =>
      e = .returned (.agg #[.int .u8 4, .int .u16 0, .int .u64 0, .int .u64 0, .int .u64 0, .int .u64 0, .int .u64 0, .bool false, .int .i64 0, .slice none 0 0]) ∧ Below w.heap.size w w' := by
  have HS := Lib.hid (fun W => status_any 4 W)
  rw [show str (status 4) = .string b4 from rfl] at HS
  go_enter Try.func14, Try.ntmps14
  go_wp2_with fail
  refine (HS.out _).mono ?_
  rintro e w1 ⟨rfl, hb1⟩
  obtain ⟨hc, hf⟩ := bcell hb1
  have hz : w.heap.size + 1 < w1.heap.size := by have := hb1.size; simp at this; omega
  have hz0 : w.heap.size < w1.heap.size := by omega
  have g1 := Lib.hid ((((Below.refl w.heap.size w).alloc (Nat.le_refl _) _).alloc (by simp) _).trans (hb1.mono (by simp; omega)))
  clear hb1
  go_wp2_with fail
  refine bodyPost_ret (v := .agg #[.int .u8 4, .int .u16 0, .int .u64 0, .int .u64 0, .int .u64 0, .int .u64 0, .int .u64 0, .bool false, .int .i64 0, .slice none 0 0]) (by simp [results, Try.results14, hc, hz, hz0, go_sem]) rfl ⟨rfl, ?_⟩
  repeat' (first | (with_reducible exact g1.out) | (with_reducible refine Below.setCell ?_ ?_ _) | (with_reducible refine Below.alloc ?_ ?_ _) | (with_reducible refine Below.drew ?_))
  all_goals (simp; try omega)

set_option maxHeartbeats 1000000 in
theorem clean_5 (err limit left reset after nanos many : Int) (retry : Bool) (n c : Nat) (A : Option Addr) (w : World) :
    Calls Try.prog 14 #[.agg #[.int .u8 5, .int .u16 err, .int .u64 limit, .int .u64 left, .int .u64 reset, .int .u64 after, .int .u64 nanos, .bool retry, .int .i64 many, .slice A n c]] w fun e w' =>
      e = .returned (.agg #[.int .u8 5, .int .u16 err, .int .u64 0, .int .u64 0, .int .u64 0, .int .u64 0, .int .u64 0, .bool false, .int .i64 0, .slice none 0 0]) ∧ Below w.heap.size w w' := by
  have HS := Lib.hid (fun W => status_any 5 W)
  rw [show str (status 5) = .string b5 from rfl] at HS
  go_enter Try.func14, Try.ntmps14
  go_wp2_with fail
  refine (HS.out _).mono ?_
  rintro e w1 ⟨rfl, hb1⟩
  obtain ⟨hc, hf⟩ := bcell hb1
  have hz : w.heap.size + 1 < w1.heap.size := by have := hb1.size; simp at this; omega
  have hz0 : w.heap.size < w1.heap.size := by omega
  have g1 := Lib.hid ((((Below.refl w.heap.size w).alloc (Nat.le_refl _) _).alloc (by simp) _).trans (hb1.mono (by simp; omega)))
  clear hb1
  go_wp2_with fail
  refine bodyPost_ret (v := .agg #[.int .u8 5, .int .u16 err, .int .u64 0, .int .u64 0, .int .u64 0, .int .u64 0, .int .u64 0, .bool false, .int .i64 0, .slice none 0 0]) (by simp [results, Try.results14, hc, hz, hz0, go_sem]) rfl ⟨rfl, ?_⟩
  repeat' (first | (with_reducible exact g1.out) | (with_reducible refine Below.setCell ?_ ?_ _) | (with_reducible refine Below.alloc ?_ ?_ _) | (with_reducible refine Below.drew ?_))
  all_goals (simp; try omega)

set_option maxHeartbeats 1000000 in
theorem clean_6p (err limit left reset after nanos many : Int) (retry : Bool) (n c : Nat) (A : Option Addr) (w : World) (hm : 0 ≤ many) :
    Calls Try.prog 14 #[.agg #[.int .u8 6, .int .u16 err, .int .u64 limit, .int .u64 left, .int .u64 reset, .int .u64 after, .int .u64 nanos, .bool retry, .int .i64 many, .slice A n c]] w fun e w' =>
      e = .returned (.agg #[.int .u8 6, .int .u16 0, .int .u64 0, .int .u64 0, .int .u64 0, .int .u64 0, .int .u64 0, .bool false, .int .i64 many, .slice none 0 0]) ∧ Below w.heap.size w w' := by
  have HS := Lib.hid (fun W => status_any 6 W)
  rw [show str (status 6) = .string b6 from rfl] at HS
  go_enter Try.func14, Try.ntmps14
  go_wp2_with fail
  refine (HS.out _).mono ?_
  rintro e w1 ⟨rfl, hb1⟩
  obtain ⟨hc, hf⟩ := bcell hb1
  have hz : w.heap.size + 1 < w1.heap.size := by have := hb1.size; simp at this; omega
  have hz0 : w.heap.size < w1.heap.size := by omega
  have g1 := Lib.hid ((((Below.refl w.heap.size w).alloc (Nat.le_refl _) _).alloc (by simp) _).trans (hb1.mono (by simp; omega)))
  clear hb1
  go_wp2_with fail
  refine bodyPost_ret (v := .agg #[.int .u8 6, .int .u16 0, .int .u64 0, .int .u64 0, .int .u64 0, .int .u64 0, .int .u64 0, .bool false, .int .i64 many, .slice none 0 0]) (by simp [results, Try.results14, hc, hz, hz0, go_sem]) rfl ⟨rfl, ?_⟩
  repeat' (first | (with_reducible exact g1.out) | (with_reducible refine Below.setCell ?_ ?_ _) | (with_reducible refine Below.alloc ?_ ?_ _) | (with_reducible refine Below.drew ?_))
  all_goals (simp; try omega)

set_option maxHeartbeats 1000000 in
theorem clean_6n (err limit left reset after nanos many : Int) (retry : Bool) (n c : Nat) (A : Option Addr) (w : World) (hm : many < 0) :
    Calls Try.prog 14 #[.agg #[.int .u8 6, .int .u16 err, .int .u64 limit, .int .u64 left, .int .u64 reset, .int .u64 after, .int .u64 nanos, .bool retry, .int .i64 many, .slice A n c]] w fun e w' =>
      e = .returned (.agg #[.int .u8 6, .int .u16 0, .int .u64 0, .int .u64 0, .int .u64 0, .int .u64 0, .int .u64 0, .bool false, .int .i64 0, .slice none 0 0]) ∧ Below w.heap.size w w' := by
  have HS := Lib.hid (fun W => status_any 6 W)
  rw [show str (status 6) = .string b6 from rfl] at HS
  go_enter Try.func14, Try.ntmps14
  go_wp2_with fail
  refine (HS.out _).mono ?_
  rintro e w1 ⟨rfl, hb1⟩
  obtain ⟨hc, hf⟩ := bcell hb1
  have hz : w.heap.size + 1 < w1.heap.size := by have := hb1.size; simp at this; omega
  have hz0 : w.heap.size < w1.heap.size := by omega
  have g1 := Lib.hid ((((Below.refl w.heap.size w).alloc (Nat.le_refl _) _).alloc (by simp) _).trans (hb1.mono (by simp; omega)))
  clear hb1
  go_wp2_with fail
  refine bodyPost_ret (v := .agg #[.int .u8 6, .int .u16 0, .int .u64 0, .int .u64 0, .int .u64 0, .int .u64 0, .int .u64 0, .bool false, .int .i64 0, .slice none 0 0]) (by simp [results, Try.results14, hc, hz, hz0, go_sem]) rfl ⟨rfl, ?_⟩
  repeat' (first | (with_reducible exact g1.out) | (with_reducible refine Below.setCell ?_ ?_ _) | (with_reducible refine Below.alloc ?_ ?_ _) | (with_reducible refine Below.drew ?_))
  all_goals (simp; try omega)

set_option maxHeartbeats 1000000 in
theorem clean_7 (err limit left reset after nanos many : Int) (retry : Bool) (n c : Nat) (A : Option Addr) (w : World) :
    Calls Try.prog 14 #[.agg #[.int .u8 7, .int .u16 err, .int .u64 limit, .int .u64 left, .int .u64 reset, .int .u64 after, .int .u64 nanos, .bool retry, .int .i64 many, .slice A n c]] w fun e w' =>
      e = .returned (.agg #[.int .u8 7, .int .u16 err, .int .u64 0, .int .u64 0, .int .u64 0, .int .u64 0, .int .u64 0, .bool false, .int .i64 0, .slice none 0 0]) ∧ Below w.heap.size w w' := by
  have HS := Lib.hid (fun W => status_any 7 W)
  rw [show str (status 7) = .string b7 from rfl] at HS
  go_enter Try.func14, Try.ntmps14
  go_wp2_with fail
  refine (HS.out _).mono ?_
  rintro e w1 ⟨rfl, hb1⟩
  obtain ⟨hc, hf⟩ := bcell hb1
  have hz : w.heap.size + 1 < w1.heap.size := by have := hb1.size; simp at this; omega
  have hz0 : w.heap.size < w1.heap.size := by omega
  have g1 := Lib.hid ((((Below.refl w.heap.size w).alloc (Nat.le_refl _) _).alloc (by simp) _).trans (hb1.mono (by simp; omega)))
  clear hb1
  go_wp2_with fail
  refine bodyPost_ret (v := .agg #[.int .u8 7, .int .u16 err, .int .u64 0, .int .u64 0, .int .u64 0, .int .u64 0, .int .u64 0, .bool false, .int .i64 0, .slice none 0 0]) (by simp [results, Try.results14, hc, hz, hz0, go_sem]) rfl ⟨rfl, ?_⟩
  repeat' (first | (with_reducible exact g1.out) | (with_reducible refine Below.setCell ?_ ?_ _) | (with_reducible refine Below.alloc ?_ ?_ _) | (with_reducible refine Below.drew ?_))
  all_goals (simp; try omega)

set_option maxHeartbeats 1000000 in
theorem clean_0 (code err limit left reset after nanos many : Int) (retry : Bool) (n c : Nat) (A : Option Addr) (w : World) (hcode : code ≠ 1 ∧ code ≠ 2 ∧ code ≠ 3 ∧ code ≠ 4 ∧ code ≠ 5 ∧ code ≠ 6 ∧ code ≠ 7 ∧ code ≠ 8) :
    Calls Try.prog 14 #[.agg #[.int .u8 code, .int .u16 err, .int .u64 limit, .int .u64 left, .int .u64 reset, .int .u64 after, .int .u64 nanos, .bool retry, .int .i64 many, .slice A n c]] w fun e w' =>
      e = .returned (.agg #[.int .u8 0, .int .u16 0, .int .u64 0, .int .u64 0, .int .u64 0, .int .u64 0, .int .u64 0, .bool false, .int .i64 0, .slice none 0 0]) ∧ Below w.heap.size w w' := by
  have HS := Lib.hid (fun W => status_any code W)
  rw [status_none hcode, show str [] = .string ⟨#[]⟩ from rfl] at HS
  clear hcode
  go_enter Try.func14, Try.ntmps14
  go_wp2_with fail
  refine (HS.out _).mono ?_
  rintro e w1 ⟨rfl, hb1⟩
  obtain ⟨hc, hf⟩ := bcell hb1
  have hz : w.heap.size + 1 < w1.heap.size := by have := hb1.size; simp at this; omega
  have hz0 : w.heap.size < w1.heap.size := by omega
  have g1 := Lib.hid ((((Below.refl w.heap.size w).alloc (Nat.le_refl _) _).alloc (by simp) _).trans (hb1.mono (by simp; omega)))
  clear hb1
  go_wp2_with fail
  refine bodyPost_ret (v := .agg #[.int .u8 0, .int .u16 0, .int .u64 0, .int .u64 0, .int .u64 0, .int .u64 0, .int .u64 0, .bool false, .int .i64 0, .slice none 0 0]) (by simp [results, Try.results14, hc, hz, hz0, go_sem]) rfl ⟨rfl, ?_⟩
  repeat' (first | (with_reducible exact g1.out) | (with_reducible refine Below.setCell ?_ ?_ _) | (with_reducible refine Below.alloc ?_ ?_ _) | (with_reducible refine Below.drew ?_))
  all_goals (simp; try omega)

end Go.Proofs.Ytcgcfgomakaacaa.head
