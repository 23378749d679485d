/- HeadCodes, walked. -/
import Derived.Test.YtcgcfgomakaacaaHeadCodesZ
import Derived.Test.YtcgcfgomakaacaaHeadCodesN
import Derived.Test.YtcgcfgomakaacaaHeadCodesS
namespace Go.Proofs.Ytcgcfgomakaacaa.head
open Go.RowKit
open Go.Proofs.Ytcgcfgomakaacaa.aid

set_option maxHeartbeats 1000000 in
theorem headCodes_big (w : World) (a : Ans) (A : Option Addr) (c : Nat) (b : Ans) (B : Option Addr) (d : Nat) (x y : Int) (ha : (a.body.length : Int) ≤ 140737488351232) (hb : (b.body.length : Int) ≤ 140737488351232) (hbig : (300 : Int) < (a.body.length : Int) + b.body.length) :
    Calls Try.prog 5 #[ansV a A c, ansV b B d, .int .u8 x, .int .u8 y] w fun e w' => e = .returned (.bool true) ∧ Below w.heap.size w w' := by
  obtain ⟨a0, a1, a2, a3, a4, a5, a6, a7, a8, la⟩ := a
  obtain ⟨b0, b1, b2, b3, b4, b5, b6, b7, b8, lb⟩ := b
  simp only at hbig ha hb
  go_enter Try.func5, Try.ntmps5
  go_wp2_with fail
  refine (known_any _).mono ?_
  rintro e wk ⟨rfl, hbk⟩
  go_wp2_with fail
  go_ret
  exact ⟨rfl, (((Below.refl _ _).alloc (Nat.le_refl _) _).alloc (by simp) _).trans (hbk.mono (by simp; omega))⟩

set_option maxHeartbeats 4000000 in
theorem codes_diff (w : World) (a0 a1 a2 a3 a4 a5 a6 a8 b0 b1 b2 b3 b4 b5 b6 b8 x0 y0 m n : Int) (a7 b7 : Bool) (la lb : List UInt8) (A : Option Addr) (c : Nat) (B : Option Addr) (d : Nat)
    (NX : Hid (∀ W, Calls Try.prog 11 #[.agg #[.int .u8 a0, .int .u16 a1, .int .u64 a2, .int .u64 a3, .int .u64 a4, .int .u64 a5, .int .u64 a6, .bool a7, .int .i64 a8, .slice A la.length c], .int .u8 m] W fun e w' => e = .returned (.agg #[.int .u8 x0, .int .u16 a1, .int .u64 a2, .int .u64 a3, .int .u64 a4, .int .u64 a5, .int .u64 a6, .bool a7, .int .i64 a8, .slice A la.length c]) ∧ Below W.heap.size W w'))
    (NY : Hid (∀ W, Calls Try.prog 11 #[.agg #[.int .u8 b0, .int .u16 b1, .int .u64 b2, .int .u64 b3, .int .u64 b4, .int .u64 b5, .int .u64 b6, .bool b7, .int .i64 b8, .slice B lb.length d], .int .u8 n] W fun e w' => e = .returned (.agg #[.int .u8 y0, .int .u16 b1, .int .u64 b2, .int .u64 b3, .int .u64 b4, .int .u64 b5, .int .u64 b6, .bool b7, .int .i64 b8, .slice B lb.length d]) ∧ Below W.heap.size W w'))
    (hFx : Fine ⟨x0, a1, a2, a3, a4, a5, a6, a7, a8, la⟩) (hFy : Fine ⟨y0, b1, b2, b3, b4, b5, b6, b7, b8, lb⟩) (hra : Row w w.heap.size A (u8s la)) (hrb : Row w w.heap.size B (u8s lb)) (hs : (la.length : Int) + lb.length ≤ 300) (hs1 : (la.length : Int) ≤ 300) (hs2 : (lb.length : Int) ≤ 300) (h1 : 1 ≤ x0) (h8 : x0 ≤ 8) (hne : x0 ≠ y0) :
    Calls Try.prog 5 #[.agg #[.int .u8 a0, .int .u16 a1, .int .u64 a2, .int .u64 a3, .int .u64 a4, .int .u64 a5, .int .u64 a6, .bool a7, .int .i64 a8, .slice A la.length c], .agg #[.int .u8 b0, .int .u16 b1, .int .u64 b2, .int .u64 b3, .int .u64 b4, .int .u64 b5, .int .u64 b6, .bool b7, .int .i64 b8, .slice B lb.length d], .int .u8 m, .int .u8 n] w fun e w' => e = .returned (.bool true) ∧ Below w.heap.size w w' := by
  have RX := Lib.hid (fun W (h : Below w.heap.size w W) => render_any ⟨x0, a1, a2, a3, a4, a5, a6, a7, a8, la⟩ hFx A c W ((hra.below h).more h.size))
  have ST := Lib.hid (fun W => status_any x0 W)
  have hx : isCode x0 := by unfold isCode; omega
  have hpos := List.length_pos_iff.2 (render_ne (a := ⟨x0, a1, a2, a3, a4, a5, a6, a7, a8, la⟩) hx)
  have hst := status_some hx
  obtain ⟨T, hT⟩ : ∃ T : ByteArray, T = ⟨(status x0).toArray⟩ := ⟨_, rfl⟩
  have hT1 : ¬ T.toList = [] := by rw [hT, ByteArray.toList_eq]; simpa using hst
  have hT2 : T.toList.isEmpty = false := by simpa using hT1
  rw [show str (status x0) = .string T from by rw [hT]] at ST
  clear hT hst
  have RY := Lib.hid (fun W (h : Below w.heap.size w W) => render_any ⟨y0, b1, b2, b3, b4, b5, b6, b7, b8, lb⟩ hFy B d W ((hrb.below h).more h.size))
  have hll : render ⟨x0, a1, a2, a3, a4, a5, a6, a7, a8, la⟩ ≠ render ⟨y0, b1, b2, b3, b4, b5, b6, b7, b8, lb⟩ := by
    by_cases hy : isCode y0
    · exact fun h => hne (same_code (a := ⟨x0, a1, a2, a3, a4, a5, a6, a7, a8, la⟩) (b := ⟨y0, b1, b2, b3, b4, b5, b6, b7, b8, lb⟩) hx hy h)
    · rw [render_none (a := ⟨y0, b1, b2, b3, b4, b5, b6, b7, b8, lb⟩) hy]
      exact render_ne (a := ⟨x0, a1, a2, a3, a4, a5, a6, a7, a8, la⟩) hx
  obtain ⟨hq1, hq2⟩ := str_ne hll
  have hff := beq_eq_false_iff_ne.2 hne
  generalize render ⟨y0, b1, b2, b3, b4, b5, b6, b7, b8, lb⟩ = l2 at *
  generalize render ⟨x0, a1, a2, a3, a4, a5, a6, a7, a8, la⟩ = l at *
  have hpos2 : (0 : Int) < (l.length : Int) := by omega
  clear hx hll hne
  have HB := Lib.hid (((Below.refl w.heap.size w).alloc (Nat.le_refl _) (.cells #[.int .u8 a0, .int .u16 a1, .int .u64 a2, .int .u64 a3, .int .u64 a4, .int .u64 a5, .int .u64 a6, .bool a7, .int .i64 a8, .slice A la.length c] 27)).alloc (by simp) (.cells #[.int .u8 b0, .int .u16 b1, .int .u64 b2, .int .u64 b3, .int .u64 b4, .int .u64 b5, .int .u64 b6, .bool b7, .int .i64 b8, .slice B lb.length d] 27))
  have hxb := Blk.new (w.alloc (.cells #[.int .u8 a0, .int .u16 a1, .int .u64 a2, .int .u64 a3, .int .u64 a4, .int .u64 a5, .int .u64 a6, .bool a7, .int .i64 a8, .slice A la.length c] 27)) 27 #[.int .u8 b0, .int .u16 b1, .int .u64 b2, .int .u64 b3, .int .u64 b4, .int .u64 b5, .int .u64 b6, .bool b7, .int .i64 b8, .slice B lb.length d]
  rw [World.size_alloc] at hxb
  have XB := Lib.hid hxb
  clear hxb hFx hFy hra hrb
  go_enter Try.func5, Try.ntmps5
  go_wp2_with fail
  refine (NX.out _).mono ?_
  rintro e w1 ⟨rfl, hb1⟩
  have XB1 := Lib.hid (Blk.below XB.out hb1 XB.out.lt)
  have G1 := Lib.hid (HB.out.trans (hb1.mono HB.out.size))
  obtain ⟨e0, e1, e2, e3, e4, e5, e6, e7, e8, e9⟩ := Blk.ten XB1.out
  have hz1 := XB1.out.lt
  have BX1 := Lib.hid (Blk.new w1 27 #[.int .u8 x0, .int .u16 a1, .int .u64 a2, .int .u64 a3, .int .u64 a4, .int .u64 a5, .int .u64 a6, .bool a7, .int .i64 a8, .slice A la.length c])
  clear hb1 XB HB
  go_wp2_with fail
  refine (NY.out _).mono ?_
  rintro e w2 ⟨rfl, hb2⟩
  have BX2 := Lib.hid (Blk.below BX1.out hb2 BX1.out.lt)
  have G2 := Lib.hid ((G1.out.alloc G1.out.size _).trans (hb2.mono (by have := G1.out.size; simp; omega)))
  have hxy := Blk.new w2 27 #[.int .u8 y0, .int .u16 b1, .int .u64 b2, .int .u64 b3, .int .u64 b4, .int .u64 b5, .int .u64 b6, .bool b7, .int .i64 b8, .slice B lb.length d]
  have hxx := BX2.out.alloc (.cells #[.int .u8 y0, .int .u16 b1, .int .u64 b2, .int .u64 b3, .int .u64 b4, .int .u64 b5, .int .u64 b6, .bool b7, .int .i64 b8, .slice B lb.length d] 27)
  have hG := G2.out.alloc G2.out.size (.cells #[.int .u8 y0, .int .u16 b1, .int .u64 b2, .int .u64 b3, .int .u64 b4, .int .u64 b5, .int .u64 b6, .bool b7, .int .i64 b8, .slice B lb.length d] 27)
  obtain ⟨W, hW⟩ : ∃ W : World, W = w2.alloc (.cells #[.int .u8 y0, .int .u16 b1, .int .u64 b2, .int .u64 b3, .int .u64 b4, .int .u64 b5, .int .u64 b6, .bool b7, .int .i64 b8, .slice B lb.length d] 27) := ⟨_, rfl⟩
  rw [← hW] at hxy hxx hG
  have Bx_0 := Lib.hid (Blk.drew hxx)
  have By_0 := Lib.hid (Blk.drew hxy)
  have G_0 := Lib.hid hG.drew
  clear e0 e1 e2 e3 e4 e5 e6 e7 e8 e9 hb2 BX1 G1 XB1 BX2 G2 hz1
  generalize w1.heap.size = gx at *
  have kx_0 := fun i => hxx.cell i
  obtain ⟨e0, e1, e2, e3, e4, e5, e6, e7, e8, e9⟩ := Blk.ten hxx
  rw [hW] at e0 e1 e2 e3 e4 e5 e6 e7 e8 e9
  go_wp2_with fail
  clear e0 e1 e2 e3 e4 e5 e6 e7 e8 e9
  rw [← hW]
  generalize w2.heap.size = gy at *
  have ky_0 := fun i => hxy.cell i
  clear hW hxx hxy hG
  go_region_held (fun w' => (∀ i, w'.cell? ⟨gx, i, none⟩ = (#[.int .u8 x0, .int .u16 a1, .int .u64 a2, .int .u64 a3, .int .u64 a4, .int .u64 a5, .int .u64 a6, .bool a7, .int .i64 a8, .slice A la.length c] : Array Value)[i]?) ∧ (∀ i, w'.cell? ⟨gy, i, none⟩ = (#[.int .u8 y0, .int .u16 b1, .int .u64 b2, .int .u64 b3, .int .u64 b4, .int .u64 b5, .int .u64 b6, .bool b7, .int .i64 b8, .slice B lb.length d] : Array Value)[i]?)) (first | go_keep | exact ⟨‹_›, ‹_›⟩)
    (first
      | ((with_reducible refine (known_any _).mono ?_); rintro e z1 ⟨rfl, hb⟩; have Bx_1 := Lib.hid (Blk.below Bx_0.out hb Bx_0.out.lt); have kx_1 := fun i => Bx_1.out.cell i; have By_1 := Lib.hid (Blk.below By_0.out hb By_0.out.lt); have ky_1 := fun i => By_1.out.cell i; have G_1 := Lib.hid (G_0.out.trans (hb.mono G_0.out.size)); clear hb)
      | ((with_reducible refine (RX.out _ G_1.out).mono ?_); rintro e z2 ⟨Ar1, cr1, rfl, -, hr, hb⟩; have Bx_2 := Lib.hid (Blk.below Bx_1.out hb Bx_1.out.lt); have kx_2 := fun i => Bx_2.out.cell i; have By_2 := Lib.hid (Blk.below By_1.out hb By_1.out.lt); have ky_2 := fun i => By_2.out.cell i; have G_2 := Lib.hid (G_1.out.trans (hb.mono G_1.out.size)); have r1_2 := Lib.hid hr; have hsr1_2 := row_string (c := cr1) hr; clear hr hb)
      | ((with_reducible refine (ST.out _).mono ?_); rintro e z3 ⟨rfl, hb⟩; have Bx_3 := Lib.hid (Blk.below Bx_2.out hb Bx_2.out.lt); have kx_3 := fun i => Bx_3.out.cell i; have By_3 := Lib.hid (Blk.below By_2.out hb By_2.out.lt); have ky_3 := fun i => By_3.out.cell i; have G_3 := Lib.hid (G_2.out.trans (hb.mono G_2.out.size)); have r1_3 := Lib.hid ((r1_2.out.below hb).more hb.size); have hsr1_3 := row_string (c := cr1) r1_3.out; clear hb)
      | ((with_reducible refine (RX.out _ G_3.out).mono ?_); rintro e z4 ⟨Ar2, cr2, rfl, -, hr, hb⟩; have Bx_4 := Lib.hid (Blk.below Bx_3.out hb Bx_3.out.lt); have kx_4 := fun i => Bx_4.out.cell i; have By_4 := Lib.hid (Blk.below By_3.out hb By_3.out.lt); have ky_4 := fun i => By_4.out.cell i; have G_4 := Lib.hid (G_3.out.trans (hb.mono G_3.out.size)); have r2_4 := Lib.hid hr; have hsr2_4 := row_string (c := cr2) hr; clear hr hb)
      | ((with_reducible refine (RY.out _ G_4.out).mono ?_); rintro e z5 ⟨Ar3, cr3, rfl, -, hr, hb⟩; have Bx_5 := Lib.hid (Blk.below Bx_4.out hb Bx_4.out.lt); have kx_5 := fun i => Bx_5.out.cell i; have By_5 := Lib.hid (Blk.below By_4.out hb By_4.out.lt); have ky_5 := fun i => By_5.out.cell i; have G_5 := Lib.hid (G_4.out.trans (hb.mono G_4.out.size)); have r2_5 := Lib.hid ((r2_4.out.below hb).more hb.size); have hsr2_5 := row_string (c := cr2) r2_5.out; have r3_5 := Lib.hid hr; have hsr3_5 := row_string (c := cr3) hr; clear hr hb))
  all_goals go_wp2
  all_goals go_ret
  all_goals exact ⟨rfl, G_5.out⟩

theorem headCodes_walk (w : World) (a : Ans) (A : Option Addr) (c : Nat) (b : Ans) (B : Option Addr) (d : Nat) (m n : Int) (hFa : Fine a) (hca : a.body.length ≤ c) (hra : Row w w.heap.size A (u8s a.body)) (hFb : Fine b) (hcb : b.body.length ≤ d) (hrb : Row w w.heap.size B (u8s b.body)) (hm : 0 ≤ m ∧ m ≤ 255) (hn : 0 ≤ n ∧ n ≤ 255) :
    Calls Try.prog 5 #[ansV a A c, ansV b B d, .int .u8 m, .int .u8 n] w fun e w' => e = .returned (.bool true) ∧ Below w.heap.size w w' := by
  have hsa := hFa.2.2.2.2.2.2.2.2
  have hsb := hFb.2.2.2.2.2.2.2.2
  by_cases hbig : 300 < a.body.length + b.body.length
  · exact headCodes_big w a A c b B d m n (by omega) (by omega) (by omega)
  have hs : (a.body.length : Int) + b.body.length ≤ 300 := by omega
  have hs1 : (a.body.length : Int) ≤ 300 := by omega
  have hs2 : (b.body.length : Int) ≤ 300 := by omega
  clear hbig hsa hsb
  have hFx := coded_fine hFa (x := m % 10) (by omega) (by omega)
  have hFy := coded_fine hFb (x := n % 10) (by omega) (by omega)
  have NX := Lib.hid (fun W => answer_any a A c m hm.1 W)
  have NY := Lib.hid (fun W => answer_any b B d n hn.1 W)
  have hm10 : 0 ≤ m % 10 ∧ m % 10 ≤ 9 := by omega
  generalize m % 10 = x0 at *
  generalize n % 10 = y0 at *
  obtain ⟨a0, a1, a2, a3, a4, a5, a6, a7, a8, la⟩ := a
  obtain ⟨b0, b1, b2, b3, b4, b5, b6, b7, b8, lb⟩ := b
  by_cases h0 : x0 = 0
  · subst h0
    exact codes_zero w a0 a1 a2 a3 a4 a5 a6 a8 b0 b1 b2 b3 b4 b5 b6 b8 y0 m n a7 b7 la lb A c B d NX NY hFx hFy hra hrb hs hs1 hs2
  by_cases h9 : x0 = 9
  · subst h9
    exact codes_nine w a0 a1 a2 a3 a4 a5 a6 a8 b0 b1 b2 b3 b4 b5 b6 b8 y0 m n a7 b7 la lb A c B d NX NY hFx hFy hra hrb hs hs1 hs2
  by_cases he : x0 = y0
  · subst he
    exact codes_same w a0 a1 a2 a3 a4 a5 a6 a8 b0 b1 b2 b3 b4 b5 b6 b8 x0 m n a7 b7 la lb A c B d NX NY hFx hFy hra hrb hs hs1 hs2 (by omega) (by omega)
  · exact codes_diff w a0 a1 a2 a3 a4 a5 a6 a8 b0 b1 b2 b3 b4 b5 b6 b8 x0 y0 m n a7 b7 la lb A c B d NX NY hFx hFy hra hrb hs hs1 hs2 (by omega) (by omega) he
end Go.Proofs.Ytcgcfgomakaacaa.head
