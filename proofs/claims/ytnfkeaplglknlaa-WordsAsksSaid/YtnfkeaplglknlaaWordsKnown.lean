/- the laws' known, walked; how a caller reads rows of words. -/
import Derived.Test.YtnfkeaplglknlaaWordsSplitL
import Derived.Test.YtnfkeaplglknlaaWordsText
import Derived.Lib.SlBytesConst
namespace Go.Proofs.Ytnfkeaplglknlaa.words
open Go.RowKit
open Go.Proofs.Ytnfkeaplglknlaa.aid

theorem Rws.len {w : World} {v : Value} {rows : List (List Wd)} (h : Rws w v rows) : ∃ A c, v = .slice A rows.length c := by
  obtain ⟨A, c, hs, h1, _⟩ := h
  exact ⟨A, c, h1⟩
/-- a row, and its words -/
theorem Rws.at_ {w : World} {A : Option Addr} {n c : Nat} {rows : List (List Wd)} (h : Rws w (.slice A n c) rows) {k : Nat} (hk : k < rows.length) : ∃ g o gk ck, A = some ⟨g, o, none⟩ ∧ w.cell? ⟨g, o + k, none⟩ = some (.slice (some ⟨gk, 0, none⟩) rows[k].length ck) ∧ rows[k].length ≤ ck ∧
    ∀ i (hi : i < rows[k].length), w.cell? ⟨gk, i * 3, none⟩ = some (.string ⟨rows[k][i].text.toArray⟩) ∧ w.cell? ⟨gk, i * 3 + 1, none⟩ = some (.int .i64 (rows[k][i].line : Nat)) ∧ w.cell? ⟨gk, i * 3 + 2, none⟩ = some (.int .i64 (rows[k][i].col : Nat)) := by
  obtain ⟨A', c', hs, h1, h2, h3, h4⟩ := h
  obtain ⟨g, o, e, hlt, hc⟩ := h2.at_ (k := k) (by omega)
  injection h1 with e1 e2 e3
  subst e1
  obtain ⟨gk, ck, p1, p2, p3⟩ := h4 k hk
  refine ⟨g, o, gk, ck, e, hc k _ p1, p2, fun i hi => ?_⟩
  obtain ⟨b, off, q1, q2, q3⟩ := p3.at_ (k := i * 3) (by rw [wcells_len]; omega)
  injection q1 with q1
  injection q1 with q4 q5 q6
  subst q4 q5
  obtain ⟨r1, r2, r3⟩ := wcells_at _ i hi
  have s1 := q3 _ _ r1
  have s2 := q3 _ _ r2
  have s3 := q3 _ _ r3
  rw [Nat.zero_add] at s1 s2 s3
  exact ⟨s1, s2, s3⟩

theorem const_row (w : World) (l : List UInt8) (C : Array Value) (m : Nat × Nat) (hC : C.toList = u8s l) : Row (w.alloc (.cells C 5 m)) (w.alloc (.cells C 5 m)).heap.size (some ⟨w.heap.size, 0, none⟩) (u8s l) := fun _ =>
  ⟨w.heap.size, 0, rfl, by simp, fun j v hv => by
    rw [Nat.zero_add]
    refine (World.cell?_alloc_mark w C 5 m j).trans ?_
    rw [← hv, ← hC]
    simp⟩
theorem bytes_const (w : World) (l : List UInt8) (C : Array Value) (hC : C.toList = u8s l) (n : Nat) (hn : n = l.length) : ∃ w', (convert 22 22 (.slice (some ⟨w.heap.size, 0, none⟩) n n)).run Try.prog (w.alloc (.cells C 5)) = .ok (.slice (some ⟨w.heap.size, 0, none⟩) n n) w' ∧
    Below w.heap.size w w' ∧ Row w' w'.heap.size (some ⟨w.heap.size, 0, none⟩) (u8s l) := by
  subst hn
  exact ⟨_, Lib.run_convert_bytes_const w 22 5 C _ _ rfl rfl, (Below.refl _ w).alloc (Nat.le_refl _) _, const_row w l C _ hC⟩
def ex1 : List UInt8 := [97, 32, 32, 98, 10, 35, 32, 99, 10, 10, 32, 100, 10]
def ex2 : List UInt8 := [97, 10, 32, 98, 255]
theorem split_ex1 : split ex1 = ⟨[[⟨[97], 1, 1⟩, ⟨[98], 1, 4⟩], [⟨[100], 4, 2⟩]], 0, 0, 0⟩ := rfl
theorem split_ex2 : split ex2 = ⟨[], 20, 2, 3⟩ := rfl

set_option maxHeartbeats 4000000 in
set_option maxRecDepth 100000 in
theorem known_any (w : World) : Calls Try.prog 9 #[] w fun e w' => e = .returned (.bool true) ∧ Below w.heap.size w w' := by
  obtain ⟨w1, hr1, hb1, hrow1⟩ := bytes_const w ex1 #[.int .u8 97, .int .u8 32, .int .u8 32, .int .u8 98, .int .u8 10, .int .u8 35, .int .u8 32, .int .u8 99, .int .u8 10, .int .u8 10, .int .u8 32, .int .u8 100, .int .u8 10] rfl 13 rfl
  have HS1 := Lib.hid (split_any ex1 (some ⟨w.heap.size, 0, none⟩) 13 (by decide) w1 hrow1)
  have HB1 := Lib.hid hb1
  unfold SplitPost at HS1
  rw [split_ex1] at HS1
  clear hrow1 hb1
  go_enter Try.func9, Try.ntmps9
  go_wp2_with fail
  refine HS1.out.mono ?_
  rintro e w2 ⟨v2, rfl, hrws, hb2⟩
  obtain ⟨A2, c2, rfl⟩ := hrws.len
  have HB2 := Lib.hid (HB1.out.trans (hb2.mono HB1.out.size))
  obtain ⟨W, hW⟩ : ∃ W, W = w2.alloc (.cells #[.int .i64 0, .int .i64 0] 31) := ⟨_, rfl⟩
  have hbw : Below w2.heap.size w2 W := by rw [hW]; exact (Below.refl _ _).alloc (Nat.le_refl _) _
  have HRW := Lib.hid (hrws.below hbw)
  have HBW := Lib.hid (HB2.out.trans (hbw.mono HB2.out.size))
  have HPL := Lib.hid (show Blk W w2.heap.size 31 #[.int .i64 0, .int .i64 0] from by rw [hW]; exact Blk.new w2 _ _)
  obtain ⟨w3, hr3, hb3, hrow3⟩ := bytes_const W ex2 #[.int .u8 97, .int .u8 10, .int .u8 32, .int .u8 98, .int .u8 255] rfl 5 rfl
  have HS3 := Lib.hid (split_any ex2 (some ⟨W.heap.size, 0, none⟩) 5 (by decide) w3 hrow3)
  have HRW3 := Lib.hid (HRW.out.below hb3)
  have HPL3 := Lib.hid (HPL.out.below hb3 HPL.out.lt)
  have HB3 := Lib.hid (HBW.out.trans (hb3.mono HBW.out.size))
  unfold SplitPost at HS3
  rw [split_ex2] at HS3
  have hws : W.heap.size = w2.heap.size + 1 := by rw [hW]; simp
  rw [hws] at hr3 HS3
  rw [hW] at hr3
  clear hrws hb2 hbw hrow3 hb3 hW HRW HBW HB2 HPL hr1 HS1
  go_wp2_with fail
  refine HS3.out.mono ?_
  rintro e w4 ⟨v4, rfl, hrws4, hb4⟩
  obtain ⟨A4, c4, rfl⟩ := hrws4.len
  obtain ⟨V, hV⟩ : ∃ V, V = w4.alloc (.cells #[.int .i64 2, .int .i64 3] 31) := ⟨_, rfl⟩
  have hbv : Below w4.heap.size w4 V := by rw [hV]; exact (Below.refl _ _).alloc (Nat.le_refl _) _
  have hrw := (HRW3.out.below hb4).below hbv
  have hpl := (HPL3.out.below hb4 HPL3.out.lt)
  have hpl := hpl.below hbv hpl.lt
  have hpv : Blk V w4.heap.size 31 #[.int .i64 2, .int .i64 3] := by rw [hV]; exact Blk.new w4 _ _
  have HBV := Lib.hid ((HB3.out.trans (hb4.mono HB3.out.size)).trans (hbv.mono (HB3.out.trans (hb4.mono HB3.out.size)).size))
  obtain ⟨g, o, ga, ca, rfl, k0, l0, k1⟩ := hrw.at_ (k := 0) (by decide)
  obtain ⟨g', o', gb, cb, e, k2, l2, k3⟩ := hrw.at_ (k := 1) (by decide)
  injection e with e
  injection e with e1 e2 e3
  subst e1 e2
  have a0 : V.cell? ⟨g, o, none⟩ = some (.slice (some ⟨ga, 0, none⟩) 2 ca) := k0
  have a1 : V.cell? ⟨g, o + 1, none⟩ = some (.slice (some ⟨gb, 0, none⟩) 1 cb) := k2
  have a2 : V.cell? ⟨ga, 3, none⟩ = some (.string ⟨#[98]⟩) := (k1 1 (by decide)).1
  have a3 : V.cell? ⟨ga, 4, none⟩ = some (.int .i64 1) := (k1 1 (by decide)).2.1
  have a4 : V.cell? ⟨ga, 5, none⟩ = some (.int .i64 4) := (k1 1 (by decide)).2.2
  have a5 : V.cell? ⟨gb, 0, none⟩ = some (.string ⟨#[100]⟩) := (k3 0 (by decide)).1
  have a6 : V.cell? ⟨gb, 1, none⟩ = some (.int .i64 4) := (k3 0 (by decide)).2.1
  have a7 : V.cell? ⟨gb, 2, none⟩ = some (.int .i64 2) := (k3 0 (by decide)).2.2
  have b0 : V.cell? ⟨w2.heap.size, 0, none⟩ = some (.int .i64 0) := hpl.cell 0
  have b1 : V.cell? ⟨w2.heap.size, 1, none⟩ = some (.int .i64 0) := hpl.cell 1
  have b2 : V.cell? ⟨w4.heap.size, 0, none⟩ = some (.int .i64 2) := hpv.cell 0
  have b3 : V.cell? ⟨w4.heap.size, 1, none⟩ = some (.int .i64 3) := hpv.cell 1
  rw [hV] at a0 a1 a2 a3 a4 a5 a6 a7 b0 b1 b2 b3
  have HV := Lib.hid hV
  clear k0 k1 k2 k3 hrw hpl hpv hbv hrws4 hb4 hV HS3 hr3 HRW3 HPL3 HB3 HB1 hws
  go_wp2_with fail
  go_ret
  rw [← HV.out]
  exact ⟨rfl, HBV.out⟩
end Go.Proofs.Ytnfkeaplglknlaa.words
