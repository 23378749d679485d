/- PackBack, walked. -/
import Derived.Test.YthlaigpopplafaaDoorPackSizeWalk
import Derived.Test.YthlaigpopplafaaDoorPackBent
import Derived.Test.YthlaigpopplafaaDoorPackSame
namespace Go.Proofs.YthlaigpopplafaaDoor.pack
open Go.RowKit
open Go.Proofs.YthlaigpopplafaaDoor.aid

set_option maxHeartbeats 8000000 in
set_option maxRecDepth 100000 in
theorem packBack_walk (w : World) (a0 : Int) (l1 : List (List UInt8)) (A1 : Option Addr) (c1 : Nat) (l2 : List Nat) (A2 : Option Addr) (c2 : Nat) (l3 : List UInt8) (A3 : Option Addr) (c3 : Nat) (a4 a5 a6 : Int) (h0 : 0 ≤ a0 ∧ a0 ≤ 18446744073709551615)
    (n1 : l1.length ≤ 140737488351232) (m1 : ∀ l ∈ l1, l.length ≤ 140737488351232) (r1 : frame.Rows w w.heap.size A1 l1) (n2 : l2.length ≤ 140737488351232) (m2 : ∀ n ∈ l2, n < 65536) (r2 : Row w w.heap.size A2 (l2.map fun (n : Nat) => Value.int .u16 ((n : Nat) : Int)))
    (n3 : l3.length ≤ 9223372036854775807) (q3 : l3.length ≤ c3) (r3 : Row w w.heap.size A3 (u8s l3)) (h4 : 0 ≤ a4 ∧ a4 ≤ 65535) (h5 : 0 ≤ a5 ∧ a5 ≤ 255) (h6 : 0 ≤ a6 ∧ a6 ≤ 255) :
    Calls Tryd.prog 4 #[.int .u64 a0, .slice A1 l1.length c1, .slice A2 l2.length c2, .slice A3 l3.length c3, .int .u16 a4, .int .u8 a5, .int .u8 a6] w fun e w' => e = .returned (.bool true) ∧ Below w.heap.size w w' := by
  obtain ⟨ck, rfl⟩ : ∃ ck : Nat, a0 = (ck : Int) := ⟨a0.toNat, by omega⟩
  obtain ⟨at_, rfl⟩ : ∃ at_ : Nat, a4 = (at_ : Int) := ⟨a4.toNat, by omega⟩
  obtain ⟨x, rfl⟩ : ∃ x : Nat, a5 = (x : Int) := ⟨a5.toNat, by omega⟩
  obtain ⟨how, rfl⟩ : ∃ how : Nat, a6 = (how : Int) := ⟨a6.toNat, by omega⟩
  have hck : ck < 18446744073709551616 := by omega
  have hat : at_ < 65536 := by omega
  have hx : x < 256 := by omega
  have hh : how < 256 := by omega
  have HFW := Lib.hid (few_any l1 A1 c1 n1 m1 w w.heap.size r1)
  have HSN := Lib.hid (snap_any ck hck l1 A1 c1 l2 A2 c2 n1 n2 m2 w r1 r2)
  have HR3 := Lib.hid r3
  clear r1 r2 m1 m2 r3 h0 h4 h5 h6
  by_cases hfew : tot l1 ≤ 300
  · have hd : decide (tot l1 ≤ 300) = true := by simpa using hfew
    rw [hd] at HFW
    clear hd
    by_cases h300 : l3.length ≤ 300
    · have h300' : (l3.length : Int) ≤ 300 := by omega
      have hsz := snap_size (clock := ck) l1 l2
      have hln := snapOf_len ck l1 l2
      have hmay := snapOf_may hck l1 l2
      have hckk : Hid ((snapOf ck l1 l2).clock = ck) := Lib.hid rfl
      obtain ⟨s, hs⟩ : ∃ s, s = snapOf ck l1 l2 := ⟨_, rfl⟩
      rw [← hs] at hsz hmay hckk HSN hln
      have HMY := Lib.hid hmay
      have HPL := Lib.hid (body_len s)
      have hbl : (bodyOf s).length ≤ 1386 := by rw [HPL.out]; exact hsz
      have HDE := Lib.hid (decode_body hmay)
      clear hs hmay
      go_enter Tryd.func4, Tryd.ntmps4
      go_wp2_with fail
      refine HFW.out.mono ?_
      rintro e w1 ⟨rfl, rfl⟩
      go_wp2_with fail
      refine HSN.out.mono ?_
      rintro e w2 ⟨A, cp, rfl, hcp, hrow, hb2⟩
      have HB2 := Lib.hid hb2
      obtain ⟨W, hW⟩ : ∃ W, W = w2.alloc (.cells #[.int .u64 (ck : Nat), .slice A s.es.length cp] 25) := ⟨_, rfl⟩
      have HBX := Lib.hid (show RBox w2 ck s.es A cp W from by
        rw [hW]
        exact ⟨Blk.new w2 _ _, hrow.below ((Below.refl _ _).alloc (Nat.le_refl _) _), (Below.refl _ _).alloc (Nat.le_refl _) _⟩)
      have HW := Lib.hid hW
      have d0 : W.cell? ⟨w2.heap.size, 0, none⟩ = some (.int .u64 (ck : Nat)) := HBX.out.box.cell 0
      have d1 : W.cell? ⟨w2.heap.size, 1, none⟩ = some (.slice A s.es.length cp) := HBX.out.box.cell 1
      clear hrow hb2 hW HFW HSN
      have HEN := Lib.hid (enc_any s A cp (by omega) HMY.out.clock (fun e he => (HMY.out.fits e he).2) W (HBX.out.row.more HBX.out.bel.size))
      rw [hckk.out] at HEN
      go_wp2_with fail
      rw [← HW.out]
      go_wp2_with fail
      refine HEN.out.mono ?_
      rintro e w3 ⟨A5, c5, rfl, hc5, hr5, hb3⟩
      rw [encode_may HMY.out] at hc5 hr5 ⊢
      simp only at hc5 hr5
      obtain ⟨bd, hbd⟩ : ∃ bd, bd = bodyOf s := ⟨_, rfl⟩
      simp only
      rw [← hbd] at hc5 hr5 hbl HDE ⊢
      have HBD := Lib.hid hbd
      have HR5 := Lib.hid hr5
      have HBX3 := Lib.hid (HBX.out.below hb3)
      have HWB : Hid (Below w.heap.size w W) := Lib.hid (HB2.out.trans (HBX.out.bel.mono HB2.out.size))
      have HB3 := Lib.hid (HWB.out.trans (hb3.mono HWB.out.size))
      have HDX := Lib.hid (decode_x bd A5 c5 w3 hc5 (by omega) hr5)
      clear hr5 hb3 HEN d0 d1 hbd
      go_wp2_with fail
      refine HDX.out.mono ?_
      rintro e w4 ⟨v4, rfl, hown, hb4⟩
      rw [HDE.out] at hown ⊢
      obtain ⟨A6, c6, rfl⟩ := own_slice hown
      simp only at hown
      obtain ⟨W4, hW4⟩ : ∃ W4, W4 = w4.alloc (.cells #[.int .u64 (s.clock : Nat), .slice A6 s.es.length c6] 25) := ⟨_, rfl⟩
      have hb4' : Below w4.heap.size w4 W4 := by rw [hW4]; exact (Below.refl _ _).alloc (Nat.le_refl _) _
      have hq3 := HBX3.out.below hb4
      have HBX4 := Lib.hid (hq3.below hb4')
      have HB4a := Lib.hid (HB3.out.trans (hb4.mono HB3.out.size))
      have HB4 := Lib.hid (HB4a.out.trans (hb4'.mono HB4a.out.size))
      have HR4 := Lib.hid ((((HR5.out.below hb4).more hb4.size).below hb4').more hb4'.size)
      have HT4 := Lib.hid (((of_ownN hown).below hb4').more hb4'.size)
      have HY4 := Lib.hid (show Blk W4 w4.heap.size 25 #[.int .u64 (s.clock : Nat), .slice A6 s.es.length c6] from by rw [hW4]; exact Blk.new w4 _ _)
      have HW4 := Lib.hid hW4
      clear hown hb4 hb4' hq3 hW4 HDX HBX3
      go_wp2_with fail
      rw [← HW4.out]
      refine (known_any _).mono ?_
      rintro e w5 ⟨rfl, hb5⟩
      have HBX5 := Lib.hid (HBX4.out.below hb5)
      have HB5 := Lib.hid (HB4.out.trans (hb5.mono HB4.out.size))
      have HR5b := Lib.hid ((HR4.out.below hb5).more hb5.size)
      have HT5 := Lib.hid ((HT4.out.below hb5).more hb5.size)
      have HY5 := Lib.hid (HY4.out.below hb5 HY4.out.lt)
      have d0 : w5.cell? ⟨w2.heap.size, 0, none⟩ = some (.int .u64 (ck : Nat)) := HBX5.out.box.cell 0
      have d1 : w5.cell? ⟨w2.heap.size, 1, none⟩ = some (.slice A s.es.length cp) := HBX5.out.box.cell 1
      have d2 : w5.cell? ⟨w4.heap.size, 0, none⟩ = some (.int .u64 (s.clock : Nat)) := HY5.out.cell 0
      have d3 : w5.cell? ⟨w4.heap.size, 1, none⟩ = some (.slice A6 s.es.length c6) := HY5.out.cell 1
      clear hb5 HBX4 HB4 HR4 HT4 HY4
      have HSM := Lib.hid (same_any s s A A6 cp c6 (by omega) (by omega) w5 (HBX5.out.row.more HBX5.out.bel.size) HT5.out)
      rw [hckk.out, same_refl] at HSM
      rw [hckk.out] at d2
      go_wp2_with fail
      refine HSM.out.mono ?_
      rintro e w6 ⟨rfl, hb6⟩
      have HBX6 := Lib.hid (HBX5.out.below hb6)
      have HB6 := Lib.hid (HB5.out.trans (hb6.mono HB5.out.size))
      have HR6 := Lib.hid ((HR5b.out.below hb6).more hb6.size)
      have d0 : w6.cell? ⟨w2.heap.size, 0, none⟩ = some (.int .u64 (ck : Nat)) := HBX6.out.box.cell 0
      have d1 : w6.cell? ⟨w2.heap.size, 1, none⟩ = some (.slice A s.es.length cp) := HBX6.out.box.cell 1
      clear hb6 HSM HT5 HY5 d2 d3 HBX5 HB5 HR5b
      go_wp2_with fail
      refine (size_any ck s.es A cp (by omega) w6 (HBX6.out.row.more HBX6.out.bel.size)).mono ?_
      rintro e w7 ⟨rfl, hb7⟩
      have HB7 := Lib.hid (HB6.out.trans (hb7.mono HB6.out.size))
      have HR7 := Lib.hid ((HR6.out.below hb7).more hb7.size)
      have HA7 := Lib.hid (again_any l3 A3 c3 q3 (by omega) w7 ((HR3.out.below HB7.out).more HB7.out.size))
      have hzz : sizeOf s.es = bd.length := by rw [HBD.out]; exact HPL.out.symm
      rw [hzz]
      clear hb7 HBX6 HB6 HR6 d0 d1
      go_wp2_with fail
      refine HA7.out.mono ?_
      rintro e w8 ⟨rfl, hb8⟩
      have HB8 := Lib.hid (HB7.out.trans (hb8.mono HB7.out.size))
      have HR8 := Lib.hid ((HR7.out.below hb8).more hb8.size)
      have HBE := Lib.hid (bent_any bd A5 c5 at_ x how (by omega) hat hx hh w8 HR8.out)
      clear hb8 HA7 HB7 HR7
      go_wp2_with fail
      refine HBE.out.mono ?_
      rintro e w9 ⟨A9, c9, rfl, hc9, hr9, hb9⟩
      have HB9 := Lib.hid (HB8.out.trans (hb9.mono HB8.out.size))
      have hbb := bent_len bd at_ x how
      have HA9 := Lib.hid (again_any (bent bd at_ x how) A9 c9 hc9 (by omega) w9 hr9)
      clear hb9 HBE HB8 HR8 hr9
      go_wp2_with fail
      refine HA9.out.mono ?_
      rintro e w10 ⟨rfl, hb10⟩
      have HB10 := Lib.hid (HB9.out.trans (hb10.mono HB9.out.size))
      clear hb10
      go_wp2_with fail
      go_ret
      exact ⟨rfl, HB10.out⟩
    · have h300' : (300 : Int) < l3.length := by omega
      go_enter Tryd.func4, Tryd.ntmps4
      go_wp2_with fail
      refine HFW.out.mono ?_
      rintro e w1 ⟨rfl, rfl⟩
      go_wp2_with fail
      refine (known_any _).mono ?_
      rintro e wk ⟨rfl, hbk⟩
      go_wp2_with fail
      go_ret
      exact ⟨rfl, hbk⟩
  · have hd : decide (tot l1 ≤ 300) = false := by simpa using hfew
    rw [hd] at HFW
    clear hd
    go_enter Tryd.func4, Tryd.ntmps4
    go_wp2_with fail
    refine HFW.out.mono ?_
    rintro e w1 ⟨rfl, rfl⟩
    go_wp2_with fail
    refine (known_any _).mono ?_
    rintro e wk ⟨rfl, hbk⟩
    go_wp2_with fail
    go_ret
    exact ⟨rfl, hbk⟩
end Go.Proofs.YthlaigpopplafaaDoor.pack
