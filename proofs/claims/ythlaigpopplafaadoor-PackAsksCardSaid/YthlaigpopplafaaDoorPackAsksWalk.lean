/- PackAsks, walked. -/
import Derived.Test.YthlaigpopplafaaDoorPackAsksA
namespace Go.Proofs.YthlaigpopplafaaDoor.pack
open Go.RowKit
open Go.Proofs.YthlaigpopplafaaDoor.aid

theorem rows_below {w w' : World} {B : Nat} {A : Option Addr} {ls : List (List UInt8)} (h : frame.Rows w B A ls) (hb : Below B w w') : frame.Rows w' B A ls := by
  obtain ⟨vs, h1, h2, h3⟩ := h
  refine ⟨vs, h1.below hb, h2, fun j hj => ?_⟩
  obtain ⟨Aj, cj, e, h4, h5⟩ := h3 j hj
  exact ⟨Aj, cj, e, h4, h5.below hb⟩
theorem rows_more {w : World} {B B' : Nat} {A : Option Addr} {ls : List (List UInt8)} (h : frame.Rows w B A ls) (hb : B ≤ B') : frame.Rows w B' A ls := by
  obtain ⟨vs, h1, h2, h3⟩ := h
  refine ⟨vs, h1.more hb, h2, fun j hj => ?_⟩
  obtain ⟨Aj, cj, e, h4, h5⟩ := h3 j hj
  exact ⟨Aj, cj, e, h4, h5.more hb⟩

set_option maxHeartbeats 16000000 in
set_option maxRecDepth 100000 in
theorem packAsks_walk (w : World) (ck : Nat) (es : List Ent) (A : Option Addr) (c : Nat) (l1 : List UInt8) (A1 : Option Addr) (c1 : Nat) (a2 : Int) (l3 : List (List UInt8)) (A3 : Option Addr) (c3 : Nat) (l4 : List Nat) (A4 : Option Addr) (c4 : Nat) (a5 a6 a7 : Int)
    (kk : ck < 18446744073709551616) (n0 : es.length ≤ 140737488351232) (m0 : ∀ e ∈ es, e.till < 18446744073709551616) (mk : ∀ e ∈ es, e.key.length ≤ 140737488351232) (r0 : Row w w.heap.size A (ecells es))
    (n1 : l1.length ≤ 9223372036854775807) (q1 : l1.length ≤ c1) (r1 : Row w w.heap.size A1 (u8s l1)) (h2 : 0 ≤ a2 ∧ a2 ≤ 18446744073709551615)
    (n3 : l3.length ≤ 140737488351232) (m3 : ∀ l ∈ l3, l.length ≤ 140737488351232) (r3 : frame.Rows w w.heap.size A3 l3) (n4 : l4.length ≤ 140737488351232) (m4 : ∀ n ∈ l4, n < 65536) (r4 : Row w w.heap.size A4 (l4.map fun (n : Nat) => Value.int .u16 ((n : Nat) : Int)))
    (h5 : 0 ≤ a5 ∧ a5 ≤ 65535) (h6 : 0 ≤ a6 ∧ a6 ≤ 255) (h7 : 0 ≤ a7 ∧ a7 ≤ 255) :
    Calls Tryd.prog 3 #[.agg #[.int .u64 (ck : Nat), .slice A es.length c], .slice A1 l1.length c1, .int .u64 a2, .slice A3 l3.length c3, .slice A4 l4.length c4, .int .u16 a5, .int .u8 a6, .int .u8 a7] w fun e w' => e = .returned (.bool true) ∧ Below w.heap.size w w' := by
  obtain ⟨clk, rfl⟩ : ∃ k : Nat, a2 = (k : Int) := ⟨a2.toNat, by omega⟩
  obtain ⟨at_, rfl⟩ : ∃ k : Nat, a5 = (k : Int) := ⟨a5.toNat, by omega⟩
  obtain ⟨x, rfl⟩ : ∃ k : Nat, a6 = (k : Int) := ⟨a6.toNat, by omega⟩
  obtain ⟨how, rfl⟩ : ∃ k : Nat, a7 = (k : Int) := ⟨a7.toNat, by omega⟩
  have hclk : clk < 18446744073709551616 := by omega
  have hat : at_ < 65536 := by omega
  have hx : x < 256 := by omega
  have hh : how < 256 := by omega
  have HR1 := Lib.hid r1
  have HM0 := Lib.hid m0
  have HMK := Lib.hid mk
  obtain ⟨W, hW⟩ : ∃ W, W = w.alloc (.cells #[.int .u64 (ck : Nat), .slice A es.length c] 25) := ⟨_, rfl⟩
  have HBX := Lib.hid (show RBox w ck es A c W from by
    rw [hW]
    exact ⟨Blk.new w _ _, r0.below ((Below.refl _ _).alloc (Nat.le_refl _) _), (Below.refl _ _).alloc (Nat.le_refl _) _⟩)
  have HFW := Lib.hid (few_any l3 A3 c3 n3 m3 W w.heap.size (rows_below r3 HBX.out.bel))
  have HSN := Lib.hid (snap_any clk hclk l3 A3 c3 l4 A4 c4 n3 n4 m4)
  have HR3 := Lib.hid r3
  have HR4 := Lib.hid r4
  have HW := Lib.hid hW
  have d0 : W.cell? ⟨w.heap.size, 0, none⟩ = some (.int .u64 (ck : Nat)) := HBX.out.box.cell 0
  have d1 : W.cell? ⟨w.heap.size, 1, none⟩ = some (.slice A es.length c) := HBX.out.box.cell 1
  clear r0 r1 r3 r4 m0 mk m3 m4 hW h2 h5 h6 h7
  go_enter Tryd.func3, Tryd.ntmps3
  go_wp2_with fail
  rw [← HW.out]
  go_wp2_with fail
  go_loop [17, 18] (fun n i => ∃ k t : Nat, k ≤ es.length ∧ i = .int .i64 k ∧ n = .int .i64 t ∧ t + 16 + 8 * k = l1.length + sizeOf (es.take k) ∧ t ≤ 9223372036854775807 ∧ l1.length + k ≤ t) (fun _ i => es.length - (intOf i).toNat)
  case atStart => exact ⟨0, l1.length, by omega, rfl, rfl, by simp [sizeOf], n1, by omega⟩
  case round =>
    obtain ⟨k, t, hk, rfl, rfl, ht, ht2, ht3⟩ := hrel
    by_cases hbig : 1000 < t
    · have hbig' : (1000 : Int) < t := by omega
      by_cases hlt : k < es.length
      · have hlt' : (k : Int) < es.length := by omega
        go_wp2_with fail
        refine (known_any W).mono ?_
        rintro e wk ⟨rfl, hbk⟩
        go_wp2_with fail
        go_ret
        exact ⟨rfl, HBX.out.bel.trans (hbk.mono HBX.out.bel.size)⟩
      · obtain rfl : k = es.length := by omega
        go_wp2_with fail
        refine (known_any W).mono ?_
        rintro e wk ⟨rfl, hbk⟩
        go_wp2_with fail
        go_ret
        exact ⟨rfl, HBX.out.bel.trans (hbk.mono HBX.out.bel.size)⟩
    · have hbig' : (t : Int) ≤ 1000 := by omega
      by_cases hlt : k < es.length
      · have hlt' : (k : Int) < es.length := by omega
        obtain ⟨b, off, rfl, hb, hc0, hc1⟩ := ent_at HBX.out.row hlt
        have hst := size_take es k hlt
        have hmk := HMK.out es[k] (List.getElem_mem hlt)
        have HST := Lib.hid hst
        have HT := Lib.hid ht
        clear hst ht
        go_wp2_with fail
        refine ⟨⟨k + 1, t + (1 + es[k].key.length), by omega, by go_num, ?_, by rw [HST.out]; have := HT.out; omega, by omega, by omega⟩, by simp [intOf]; omega⟩
        congr 1
      · obtain rfl : k = es.length := by omega
        rw [List.take_length] at ht
        have hsz : sizeOf es ≤ 100000 := by omega
        have hl1 : l1.length ≤ 1000 := by omega
        have hl1' : (l1.length : Int) ≤ 1000 := by omega
        clear ht
        by_cases hfew : tot l3 ≤ 300
        · have hd : decide (tot l3 ≤ 300) = true := by simpa using hfew
          rw [hd] at HFW
          clear hd
          go_wp2_with fail
          refine HFW.out.mono ?_
          rintro e w1 ⟨rfl, rfl⟩
          go_wp2_with fail
          refine (known_any W).mono ?_
          rintro e w1 ⟨rfl, hb1⟩
          have HBX1 := Lib.hid (HBX.out.below hb1)
          have HSN1 := Lib.hid (HSN.out w1 (rows_more (rows_below HR3.out HBX1.out.bel) HBX1.out.bel.size) ((HR4.out.below HBX1.out.bel).more HBX1.out.bel.size))
          have hs2 := snap_size (clock := clk) l3 l4
          have hmay := snapOf_may hclk l3 l4
          have hckk : Hid ((snapOf clk l3 l4).clock = clk) := Lib.hid rfl
          obtain ⟨s, hs⟩ : ∃ s, s = snapOf clk l3 l4 := ⟨_, rfl⟩
          rw [← hs] at hs2 hmay hckk HSN1
          have HMY := Lib.hid hmay
          have hbl : (bodyOf s).length ≤ 1386 := by rw [body_len s]; exact hs2
          clear hs hmay hb1 HBX d0 d1 HSN HR3 HR4 HFW
          go_wp2_with fail
          refine HSN1.out.mono ?_
          rintro e w2 ⟨A5, c5, rfl, hcp, hrow, hb2⟩
          obtain ⟨V, hV⟩ : ∃ V, V = w2.alloc (.cells #[.int .u64 (clk : Nat), .slice A5 s.es.length c5] 25) := ⟨_, rfl⟩
          have HBY := Lib.hid (show RBox w2 clk s.es A5 c5 V from by
            rw [hV]
            exact ⟨Blk.new w2 _ _, hrow.below ((Below.refl _ _).alloc (Nat.le_refl _) _), (Below.refl _ _).alloc (Nat.le_refl _) _⟩)
          have HBX2 := Lib.hid ((HBX1.out.below hb2).below HBY.out.bel)
          have HV := Lib.hid hV
          have e0 : V.cell? ⟨w2.heap.size, 0, none⟩ = some (.int .u64 (clk : Nat)) := HBY.out.box.cell 0
          have e1 : V.cell? ⟨w2.heap.size, 1, none⟩ = some (.slice A5 s.es.length c5) := HBY.out.box.cell 1
          clear hrow hb2 hV HSN1 HBX1
          have HEN := Lib.hid (refenc_any s A5 c5 (by omega) HMY.out.clock (fun e he => (HMY.out.fits e he).2) V (HBY.out.row.more HBY.out.bel.size))
          rw [hckk.out] at HEN
          go_wp2_with fail
          rw [← HV.out]
          go_wp2_with fail
          refine HEN.out.mono ?_
          rintro e w3 ⟨A6, c6, rfl, hc6, hr6, hb3⟩
          rw [encode_may HMY.out] at hc6 hr6 ⊢
          simp only at hc6 hr6
          obtain ⟨bd, hbd⟩ : ∃ bd, bd = bodyOf s := ⟨_, rfl⟩
          simp only
          rw [← hbd] at hc6 hr6 hbl ⊢
          have HR6 := Lib.hid hr6
          have HBY3 := Lib.hid (HBY.out.below hb3)
          have HBX3 := Lib.hid (HBX2.out.below hb3)
          have d0 : w3.cell? ⟨w.heap.size, 0, none⟩ = some (.int .u64 (ck : Nat)) := HBX3.out.box.cell 0
          have d1 : w3.cell? ⟨w.heap.size, 1, none⟩ = some (.slice A es.length c) := HBX3.out.box.cell 1
          clear hr6 hb3 HEN e0 e1 HBY HBX2 hbd
          go_wp2_with fail
          refine (encodes_any ⟨ck, es⟩ A c hsz kk HM0.out w3 (HBX3.out.row.more HBX3.out.bel.size)).mono ?_
          rintro e w4 ⟨rfl, hb⟩
          have HR64 := Lib.hid ((HR6.out.below hb).more hb.size)
          have HBY4 := Lib.hid (HBY3.out.below hb)
          have HBX4 := Lib.hid (HBX3.out.below hb)
          have e0 : w4.cell? ⟨w2.heap.size, 0, none⟩ = some (.int .u64 (clk : Nat)) := HBY4.out.box.cell 0
          have e1 : w4.cell? ⟨w2.heap.size, 1, none⟩ = some (.slice A5 s.es.length c5) := HBY4.out.box.cell 1
          clear hb d0 d1 HR6 HBY3 HBX3
          have HEO := Lib.hid (encodes_any s A5 c5 (by omega) HMY.out.clock (fun e he => (HMY.out.fits e he).2) w4 (HBY4.out.row.more HBY4.out.bel.size))
          rw [hckk.out] at HEO
          go_wp2_with fail
          refine HEO.out.mono ?_
          rintro e w5 ⟨rfl, hb⟩
          have HR65 := Lib.hid ((HR64.out.below hb).more hb.size)
          have HB5 := Lib.hid (HBX4.out.below hb).bel
          clear hb e0 e1 HR64 HBY4 HBX4 HEO
          go_wp2_with fail
          refine (decodes_any l1 A1 c1 q1 (by omega) w5 ((HR1.out.below HB5.out).more HB5.out.size)).mono ?_
          rintro e w6 ⟨rfl, hb⟩
          have HR66 := Lib.hid ((HR65.out.below hb).more hb.size)
          have HB6 := Lib.hid (HB5.out.trans (hb.mono HB5.out.size))
          clear hb HB5 HR65
          go_wp2_with fail
          refine (decodes_any bd A6 c6 hc6 (by omega) w6 HR66.out).mono ?_
          rintro e w7 ⟨rfl, hb⟩
          have HR67 := Lib.hid ((HR66.out.below hb).more hb.size)
          have HB7 := Lib.hid (HB6.out.trans (hb.mono HB6.out.size))
          clear hb HB6 HR66
          have hbb := bent_len bd at_ x how
          go_wp2_with fail
          refine (bent_any bd A6 c6 at_ x how (by omega) hat hx hh w7 HR67.out).mono ?_
          rintro e w8 ⟨A8, c8, rfl, hc8, hr8, hb⟩
          have HR8 := Lib.hid hr8
          have HR68 := Lib.hid ((HR67.out.below hb).more hb.size)
          have HB8 := Lib.hid (HB7.out.trans (hb.mono HB7.out.size))
          clear hb hr8 HB7 HR67
          go_wp2_with fail
          refine (decodes_any (bent bd at_ x how) A8 c8 hc8 (by omega) w8 HR8.out).mono ?_
          rintro e w9 ⟨rfl, hb⟩
          have HR69 := Lib.hid ((HR68.out.below hb).more hb.size)
          have HB9 := Lib.hid (HB8.out.trans (hb.mono HB8.out.size))
          clear hb HB8 HR68 HR8 hc8
          go_wp2_with fail
          refine (bent_any bd A6 c6 at_ x how (by omega) hat hx hh w9 HR69.out).mono ?_
          rintro e w10 ⟨A8, c8, rfl, hc8, hr8, hb⟩
          have HR8 := Lib.hid hr8
          have HB10 := Lib.hid (HB9.out.trans (hb.mono HB9.out.size))
          obtain ⟨l8, hl8⟩ : ∃ l8, l8 = bent bd at_ x how := ⟨_, rfl⟩
          rw [← hl8] at HR8 hc8 hbb ⊢
          clear hb hr8 HB9 HR69 hl8
          have hb9 := bent_len l8 (at_ / 2) how x
          have hquo : (at_ : Int).tdiv 2 = ((at_ / 2 : Nat) : Int) := by rw [Int.tdiv_eq_ediv_of_nonneg (by omega)]; omega
          go_wp2_with fail
          rw [show ((at_ : Int) / 2) = ((at_ / 2 : Nat) : Int) from by omega]
          refine (bent_any l8 A8 c8 (at_ / 2) how x (by omega) (by omega) hh hx w10 HR8.out).mono ?_
          rintro e w11 ⟨A9, c9, rfl, hc9, hr9, hb⟩
          have HR9 := Lib.hid hr9
          have HB11 := Lib.hid (HB10.out.trans (hb.mono HB10.out.size))
          clear hb hr9 HB10 HR8
          go_wp2_with fail
          refine (decodes_any (bent l8 (at_ / 2) how x) A9 c9 hc9 (by omega) w11 HR9.out).mono ?_
          rintro e w12 ⟨rfl, hb⟩
          have HB12 := Lib.hid (HB11.out.trans (hb.mono HB11.out.size))
          clear hb
          go_wp2_with fail
          go_ret
          exact ⟨rfl, HB12.out⟩
        · have hd : decide (tot l3 ≤ 300) = false := by simpa using hfew
          rw [hd] at HFW
          clear hd
          go_wp2_with fail
          refine HFW.out.mono ?_
          rintro e w1 ⟨rfl, rfl⟩
          go_wp2_with fail
          refine (known_any W).mono ?_
          rintro e wk ⟨rfl, hbk⟩
          go_wp2_with fail
          go_ret
          exact ⟨rfl, HBX.out.bel.trans (hbk.mono HBX.out.bel.size)⟩
end Go.Proofs.YthlaigpopplafaaDoor.pack
