/- BackFields, walked. -/
import Derived.Test.YtalehfdcebabnaaBackKnown
import Derived.Test.YtalehfdcebabnaaBackPlainC
import Derived.Test.YtalehfdcebabnaaHeadRefRenderC
import Derived.Test.YtalehfdcebabnaaAppendFull
import Derived.Deep.AppendLies
namespace Go.Proofs.Ytalehfdcebabnaa.back
open Go.RowKit Go.Shelf
open Go.Proofs.Ytalehfdcebabnaa.head
open Go.Proofs.Ytalehfdcebabnaa.aid

def xerr : List UInt8 := [88, 45, 69, 114, 114, 111, 114, 58, 32, 53, 13, 10]
theorem render_two (a1 a2 a3 a4 a5 a6 a8 : Int) (la : List UInt8) : (render ⟨2, a1, a2, a3, a4, a5, a6, true, a8, la⟩).length ≤ 300 := by
  have h : render ⟨2, a1, a2, a3, a4, a5, a6, true, a8, la⟩ = render ⟨2, a1, a2, a3, a4, a5, a6, true, a8, []⟩ := by
    rw [render_some (.inr (.inl rfl)), render_some (.inr (.inl rfl))]
    rfl
  rw [h]
  have := render_len ⟨2, a1, a2, a3, a4, a5, a6, true, a8, []⟩
  simpa using this

/-- a number by its name, found and not found -/
theorem field_some {l nm : List UInt8} {k : Nat} {v : Int} (h : field l nm = some k) (hk : (k : Int) = v) (hl : l.length < 4294967281) (hn : nm.length ≤ 1000) (A : Option Addr) (c : Nat) (m : Int) (w : World) (hm : w.cell? ⟨0, 0, none⟩ = some (.int .i64 m))
    (hr : Row w w.heap.size A (u8s l)) :
    Calls Try.prog 8 #[.slice A l.length c, .string ⟨nm.toArray⟩] w fun e W' => e = .returned (.tuple #[.int .u64 v, .bool true]) ∧ Below w.heap.size w W' := by
  have := field_any l hl ⟨nm.toArray⟩ (by simp [ByteArray.size]; omega) A c m w hm hr
  rw [show (ByteArray.mk nm.toArray).data.toList = nm from rfl, h] at this
  simp only [Option.getD_some, Option.isSome_some, hk] at this
  exact this
theorem field_none {l nm : List UInt8} (h : field l nm = none) (hl : l.length < 4294967281) (hn : nm.length ≤ 1000) (A : Option Addr) (c : Nat) (m : Int) (w : World) (hm : w.cell? ⟨0, 0, none⟩ = some (.int .i64 m))
    (hr : Row w w.heap.size A (u8s l)) :
    Calls Try.prog 8 #[.slice A l.length c, .string ⟨nm.toArray⟩] w fun e W' => e = .returned (.tuple #[.int .u64 0, .bool false]) ∧ Below w.heap.size w W' := by
  have := field_any l hl ⟨nm.toArray⟩ (by simp [ByteArray.size]; omega) A c m w hm hr
  rw [show (ByteArray.mk nm.toArray).data.toList = nm from rfl, h] at this
  simp only [Option.getD_none, Option.isSome_none] at this
  exact this

set_option maxHeartbeats 8000000 in
set_option maxRecDepth 100000 in
theorem fields_walk (w : World) (a0 a1 a2 a3 a4 a5 a6 a8 : Int) (a7 : Bool) (la : List UInt8) (A : Option Addr) (c : Nat) (lb : List UInt8) (B : Option Addr) (cb : Nat) (hF : Fine ⟨a0, a1, a2, a3, a4, a5, a6, a7, a8, la⟩) (hc : la.length ≤ c) (hra : Row w w.heap.size A (u8s la)) (rb : Row w w.heap.size B (u8s lb)) (hs : lb.length ≤ 200)
    (mx : Int) (hmx : w.cell? ⟨0, 0, none⟩ = some (.int .i64 mx)) :
    Calls Try.prog 3 #[.agg #[.int .u8 a0, .int .u16 a1, .int .u64 a2, .int .u64 a3, .int .u64 a4, .int .u64 a5, .int .u64 a6, .bool a7, .int .i64 a8, .slice A la.length c], .slice B lb.length cb] w fun e w' => e = .returned (.bool true) ∧ Below w.heap.size w w' := by
  have hFa : Fine ⟨2, a1, a2, a3, a4, a5, a6, true, a8, la⟩ := ⟨by simp only; omega, hF.2⟩
  have h2 := hF.2.2.1
  have h5 := hF.2.2.2.2.2.1
  have h6 := hF.2.2.2.2.2.2.1
  simp only at h2 h5 h6
  obtain ⟨f1, f2, f3, f4⟩ := fields_two hFa rfl rfl
  simp only at f1 f2 f3
  have hrl := render_two a1 a2 a3 a4 a5 a6 a8 la
  have RA := Lib.hid (fun W (h : Below w.heap.size w W) => refrender_any ⟨2, a1, a2, a3, a4, a5, a6, true, a8, la⟩ hFa A c hc W ((hra.below h).more h.size))
  obtain ⟨l, hl⟩ : ∃ l, l = render ⟨2, a1, a2, a3, a4, a5, a6, true, a8, la⟩ := ⟨_, rfl⟩
  rw [← hl] at f1 f2 f3 f4 hrl RA
  have F1 := Lib.hid (fun A c W => field_some f1 (v := a2) (by omega) (by omega) (by decide) A c mx W)
  have F2 := Lib.hid (fun A c W => field_some f2 (v := a6) (by omega) (by omega) (by decide) A c mx W)
  have F3 := Lib.hid (fun A c W => field_some f3 (v := a5) (by omega) (by omega) (by decide) A c mx W)
  have F4 := Lib.hid (fun A c W => field_none f4 (by omega) (by decide) A c mx W)
  obtain ⟨own, hown⟩ : ∃ own, own = xerr ++ lb := ⟨_, rfl⟩
  obtain ⟨N, hN⟩ : ∃ N, N = 12 + lb.length := ⟨_, rfl⟩
  have hol : own.length = N := by rw [hown, List.length_append, hN]; rfl
  have hF8 : Fine ⟨8, 0, 0, 0, 0, 0, 0, false, 0, own⟩ := ⟨by simp, by simp, by simp, by simp, by simp, by simp, by simp, by simp, by simp only; omega⟩
  obtain ⟨g1, g2⟩ := fields_eight hF8 rfl
  simp only at g2
  rw [hol] at g2
  have hrl8 := render_len ⟨8, 0, 0, 0, 0, 0, 0, false, 0, own⟩
  simp only at hrl8
  have RB := Lib.hid (fun A c W (hc : N ≤ c) (h : Row W W.heap.size A (u8s own)) => refrender_any ⟨8, 0, 0, 0, 0, 0, 0, false, 0, own⟩ hF8 A c (by simp only; omega) W h)
  unfold ansV at RB
  simp only [hol] at RB
  obtain ⟨r, hr⟩ : ∃ r, r = render ⟨8, 0, 0, 0, 0, 0, 0, false, 0, own⟩ := ⟨_, rfl⟩
  rw [← hr] at g1 g2 hrl8 RB
  have G1 := Lib.hid (fun A c W => field_none g1 (by omega) (by decide) A c mx W)
  have G2 := Lib.hid (fun A c W => field_some g2 (v := (N : Int)) rfl (by omega) (by decide) A c mx W)
  have hsi : (lb.length : Int) ≤ 200 := by omega
  have hNs : N ≤ 212 := by omega
  have hwN : IntKind.u64.wrap (N : Int) = (N : Int) := by
    unfold IntKind.wrap
    simp [IntKind.bits, IntKind.signed, IntKind.min, IntKind.max]
    omega
  have HM := Lib.hid hmx
  have HB := Lib.hid rb
  have HOL := Lib.hid hol
  have HOW := Lib.hid hown
  have HN := Lib.hid hN
  obtain ⟨i0, hi0, hz0, hz1, hz2⟩ := info_parts byte_info
  clear hl hr hF hFa hra hmx rb hown hF8 f1 f2 f3 f4 g1 g2 hol hN h2 h5 h6
  obtain ⟨W0, hW0⟩ : ∃ W0, W0 = w.alloc (.cells #[.int .u8 2, .int .u16 a1, .int .u64 a2, .int .u64 a3, .int .u64 a4, .int .u64 a5, .int .u64 a6, .bool true, .int .i64 a8, .slice A la.length c] 27) := ⟨_, rfl⟩
  have HX0 := Lib.hid (show Blk W0 w.heap.size 27 #[.int .u8 2, .int .u16 a1, .int .u64 a2, .int .u64 a3, .int .u64 a4, .int .u64 a5, .int .u64 a6, .bool true, .int .i64 a8, .slice A la.length c] from by rw [hW0]; exact Blk.new w _ _)
  have HB0 := Lib.hid (show Below w.heap.size w W0 from by rw [hW0]; exact (Below.refl _ _).alloc (Nat.le_refl _) _)
  have HW0 := Lib.hid hW0
  clear hW0
  go_enter Try.func3, Try.ntmps3
  go_wp2_with fail
  rw [← HW0.out]
  refine (RA.out W0 HB0.out).mono ?_
  rintro e w1 ⟨A1, c1, rfl, hc1, hr1, hb1⟩
  have HX1 := Lib.hid (HX0.out.below hb1 HX0.out.lt)
  have HB1 := Lib.hid (HB0.out.trans (hb1.mono HB0.out.size))
  have HR1 := Lib.hid hr1
  clear hr1 hb1 HX0 RA
  go_wp2_with fail
  refine (F1.out A1 c1 w1 (max_below HM.out HB1.out) HR1.out).mono ?_
  rintro e w2 ⟨rfl, hb⟩
  have HX2 := Lib.hid (HX1.out.below hb HX1.out.lt)
  have HB2 := Lib.hid (HB1.out.trans (hb.mono HB1.out.size))
  have HR2 := Lib.hid ((HR1.out.below hb).more hb.size)
  clear hb HX1 HB1 HR1 F1
  go_wp2_with fail
  refine (F2.out A1 c1 w2 (max_below HM.out HB2.out) HR2.out).mono ?_
  rintro e w3 ⟨rfl, hb⟩
  have HX3 := Lib.hid (HX2.out.below hb HX2.out.lt)
  have HB3 := Lib.hid (HB2.out.trans (hb.mono HB2.out.size))
  have HR3 := Lib.hid ((HR2.out.below hb).more hb.size)
  clear hb HX2 HB2 HR2 F2
  go_wp2_with fail
  refine (F3.out A1 c1 w3 (max_below HM.out HB3.out) HR3.out).mono ?_
  rintro e w4 ⟨rfl, hb⟩
  have HX4 := Lib.hid (HX3.out.below hb HX3.out.lt)
  have HB4 := Lib.hid (HB3.out.trans (hb.mono HB3.out.size))
  have HR4 := Lib.hid ((HR3.out.below hb).more hb.size)
  clear hb HX3 HB3 HR3 F3
  go_wp2_with fail
  refine (F4.out A1 c1 w4 (max_below HM.out HB4.out) HR4.out).mono ?_
  rintro e w5 ⟨rfl, hb⟩
  have HX5 := Lib.hid (HX4.out.below hb HX4.out.lt)
  have HB5 := Lib.hid (HB4.out.trans (hb.mono HB4.out.size))
  clear hb HX4 HB4 HR4 F4
  obtain ⟨w6, hr6, hb6, hrow6⟩ := bytes_const w5 xerr #[.int .u8 88, .int .u8 45, .int .u8 69, .int .u8 114, .int .u8 114, .int .u8 111, .int .u8 114, .int .u8 58, .int .u8 32, .int .u8 53, .int .u8 13, .int .u8 10] rfl 12 rfl
  obtain ⟨K, hK⟩ : ∃ K : Nat, K = 12 := ⟨_, rfl⟩
  have hr6' : (convert 25 25 (.slice (some ⟨w5.heap.size, 0, none⟩) 12 12)).run Try.prog (w5.alloc (.cells #[.int .u8 88, .int .u8 45, .int .u8 69, .int .u8 114, .int .u8 114, .int .u8 111, .int .u8 114, .int .u8 58, .int .u8 32, .int .u8 53, .int .u8 13, .int .u8 10] 5)) = .ok (.slice (some ⟨w5.heap.size, 0, none⟩) K K) w6 := by rw [hK]; exact hr6
  obtain ⟨V, hV⟩ : ∃ V : Value, V = .slice (some ⟨w5.heap.size, 0, none⟩) K K := ⟨_, rfl⟩
  rw [← hV] at hr6'
  have HV := Lib.hid hV
  have HX6 := Lib.hid (HX5.out.below hb6 HX5.out.lt)
  have HB6 := Lib.hid (HB5.out.trans (hb6.mono HB5.out.size))
  have HR6 := Lib.hid hrow6
  have HL6 := Lib.hid (HB.out.below HB6.out)
  have hlx := Lib.hid (show (u8s xerr).length = K from by rw [hK]; rfl)
  have hNK : N = K + lb.length := by rw [hK]; exact HN.out
  have hK0 : 0 < K := by omega
  have hKs : K ≤ 12 := by omega
  clear hK hr6 hV
  have hlb := Lib.hid (show (u8s lb).length = lb.length from List.length_map _)
  clear hb6 hrow6 HX5 HB5
  go_wp2_with (at_builtin; refine wpList_append_full _ rfl (.tmp 50) (.tmp 51) 25 rfl 5 i0 _ 1 rfl hi0 hz0 hz1 hz2 rfl w6.heap.size w5.heap.size K (u8s xerr) HV.out hlx.out hK0 HR6.out (Nat.le_refl _) w.heap.size B lb.length cb (u8s lb) rfl hlb.out HL6.out (by unfold maxLen; omega) (by omega) ?_; intro A7 c7 w7 hc7 hr7 hb7; have HX7 := Lib.hid (HX6.out.below hb7 HX6.out.lt); have HB7 := Lib.hid (HB6.out.trans (hb7.mono HB6.out.size)); have HR7 := Lib.hid (show Row w7 w7.heap.size A7 (u8s own) from (by rw [HOW.out, show u8s (xerr ++ lb) = u8s xerr ++ u8s lb from by simp [u8s]]; exact hr7)); rw [← hNK] at hc7 ⊢; clear hr7 hb7 HX6 HB6 HR6 hr6' hNK hK0 hKs)
  obtain ⟨W8, hW8⟩ : ∃ W8, W8 = w7.alloc (.cells #[.int .u8 8, .int .u16 0, .int .u64 0, .int .u64 0, .int .u64 0, .int .u64 0, .int .u64 0, .bool false, .int .i64 0, .slice A7 N c7] 27) := ⟨_, rfl⟩
  have hb8 : Below w7.heap.size w7 W8 := by rw [hW8]; exact (Below.refl _ _).alloc (Nat.le_refl _) _
  have HX8 := Lib.hid (HX7.out.below hb8 HX7.out.lt)
  have HB8 := Lib.hid (HB7.out.trans (hb8.mono HB7.out.size))
  have HR8 := Lib.hid ((HR7.out.below hb8).more hb8.size)
  have HD8 := Lib.hid (show Blk W8 w7.heap.size 27 #[.int .u8 8, .int .u16 0, .int .u64 0, .int .u64 0, .int .u64 0, .int .u64 0, .int .u64 0, .bool false, .int .i64 0, .slice A7 N c7] from by rw [hW8]; exact Blk.new w7 _ _)
  have HW8 := Lib.hid hW8
  clear hW8 hb8 HX7 HB7 HR7
  go_wp2_with fail
  rw [← HW8.out]
  refine (RB.out A7 c7 W8 hc7 HR8.out).mono ?_
  rintro e w9 ⟨A9, c9, rfl, hc9, hr9, hb⟩
  have HX9 := Lib.hid (HX8.out.below hb HX8.out.lt)
  have HD9 := Lib.hid (HD8.out.below hb HD8.out.lt)
  have HB9 := Lib.hid (HB8.out.trans (hb.mono HB8.out.size))
  have HR9 := Lib.hid ((HR8.out.below hb).more hb.size)
  have HQ9 := Lib.hid hr9
  clear hb hr9 HX8 HD8 HB8 HR8 HW8
  go_wp2_with fail
  refine (G1.out A9 c9 w9 (max_below HM.out HB9.out) HQ9.out).mono ?_
  rintro e w10 ⟨rfl, hb⟩
  have HX10 := Lib.hid (HX9.out.below hb HX9.out.lt)
  have HD10 := Lib.hid (HD9.out.below hb HD9.out.lt)
  have HB10 := Lib.hid (HB9.out.trans (hb.mono HB9.out.size))
  have HR10 := Lib.hid ((HR9.out.below hb).more hb.size)
  have d := fun i => HD10.out.cell i
  clear hb HX9 HD9 HB9 HR9 HQ9
  go_wp2_with fail
  refine (RB.out A7 c7 w10 hc7 HR10.out).mono ?_
  rintro e w11 ⟨A11, c11, rfl, hc11, hr11, hb⟩
  have HX11 := Lib.hid (HX10.out.below hb HX10.out.lt)
  have HD11 := Lib.hid (HD10.out.below hb HD10.out.lt)
  have HB11 := Lib.hid (HB10.out.trans (hb.mono HB10.out.size))
  have HQ11 := Lib.hid hr11
  clear hb hr11 HX10 HD10 HB10 HR10 d
  go_wp2_with fail
  refine (G2.out A11 c11 w11 (max_below HM.out HB11.out) HQ11.out).mono ?_
  rintro e w12 ⟨rfl, hb⟩
  have HX12 := Lib.hid (HX11.out.below hb HX11.out.lt)
  have HD12 := Lib.hid (HD11.out.below hb HD11.out.lt)
  have HB12 := Lib.hid (HB11.out.trans (hb.mono HB11.out.size))
  clear hb HX11 HD11 HB11 HQ11
  go_wp2_with fail
  refine (known_any mx w12 (max_below HM.out HB12.out)).mono ?_
  rintro e w13 ⟨rfl, hb⟩
  have hx := HX12.out.below hb HX12.out.lt
  have hd := HD12.out.below hb HD12.out.lt
  have x2 : w13.cell? ⟨w.heap.size, 2, none⟩ = some (.int .u64 a2) := hx.cell 2
  have x5 : w13.cell? ⟨w.heap.size, 5, none⟩ = some (.int .u64 a5) := hx.cell 5
  have x6 : w13.cell? ⟨w.heap.size, 6, none⟩ = some (.int .u64 a6) := hx.cell 6
  have d9 : w13.cell? ⟨w7.heap.size, 9, none⟩ = some (.slice A7 N c7) := hd.cell 9
  have HB13 := Lib.hid (HB12.out.trans (hb.mono HB12.out.size))
  clear hx hd hb HX12 HD12 HB12
  go_wp2_with fail
  go_ret
  exact ⟨rfl, HB13.out⟩

set_option maxHeartbeats 2000000 in
theorem fields_big (w : World) (a : Ans) (A : Option Addr) (c : Nat) (lb : List UInt8) (B : Option Addr) (cb : Nat) (h : 200 < lb.length)
    (mx : Int) (hmx : w.cell? ⟨0, 0, none⟩ = some (.int .i64 mx)) :
    Calls Try.prog 3 #[ansV a A c, .slice B lb.length cb] w fun e w' => e = .returned (.bool true) ∧ Below w.heap.size w w' := by
  obtain ⟨a0, a1, a2, a3, a4, a5, a6, a7, a8, la⟩ := a
  have hi : (200 : Int) < lb.length := by omega
  have HM := Lib.hid hmx
  clear hmx
  go_enter Try.func3, Try.ntmps3
  go_wp2_with fail
  refine (known_any mx _ (max_below HM.out ((Below.refl w.heap.size w).alloc (Nat.le_refl _) _))).mono ?_
  rintro e z5 ⟨rfl, hb5⟩
  go_wp2_with fail
  go_ret
  exact ⟨rfl, ((Below.refl w.heap.size w).alloc (Nat.le_refl _) _).trans (hb5.mono (by simp))⟩

theorem backFields_walk (w : World) (a : Ans) (A : Option Addr) (c : Nat) (l1 : List UInt8) (A1 : Option Addr) (c1 : Nat) (hF : Fine a) (hc : a.body.length ≤ c) (hr : Row w w.heap.size A (u8s a.body)) (n1 : l1.length ≤ 9223372036854775807) (r1 : Row w w.heap.size A1 (u8s l1))
    (mx : Int) (hmx : w.cell? ⟨0, 0, none⟩ = some (.int .i64 mx)) :
    Calls Try.prog 3 #[ansV a A c, .slice A1 l1.length c1] w fun e w' => e = .returned (.bool true) ∧ Below w.heap.size w w' := by
  by_cases hbig : 200 < l1.length
  · exact fields_big w a A c l1 A1 c1 hbig mx hmx
  · obtain ⟨a0, a1, a2, a3, a4, a5, a6, a7, a8, la⟩ := a
    exact fields_walk w a0 a1 a2 a3 a4 a5 a6 a8 a7 la A c l1 A1 c1 hF hc hr r1 (by omega) mx hmx
end Go.Proofs.Ytalehfdcebabnaa.back
