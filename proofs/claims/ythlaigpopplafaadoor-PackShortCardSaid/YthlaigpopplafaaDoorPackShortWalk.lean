/- PackShort, walked. -/
import Derived.Test.YthlaigpopplafaaDoorPackSizeWalk
namespace Go.Proofs.YthlaigpopplafaaDoor.pack
open Go.RowKit
open Go.Proofs.YthlaigpopplafaaDoor.aid

theorem decode_front' {s : Snap} (h : May s) (i : Nat) (hi : i < (bodyOf s).length) : ∃ err, decode ((bodyOf s).take i) = (nosnap, err) ∧ (i < 4 → err = 40) ∧ (¬ i < 4 → err = 41) := by
  refine ⟨_, decode_front h i hi, ?_, ?_⟩
  · intro h4; rw [if_pos h4]
  · intro h4; rw [if_neg h4]
theorem decode_more' {s : Snap} (h : May s) (t : List UInt8) : ∃ x err, decode (bodyOf s ++ t) = (x, err) ∧ (t.length = 0 → err = 0) ∧ (t.length ≠ 0 → err = 43) := by
  rw [decode_more h t]
  by_cases ht : t = []
  · exact ⟨_, _, if_pos ht, fun _ => rfl, fun h => absurd (by rw [ht]; rfl) h⟩
  · exact ⟨_, _, if_neg ht, fun h => absurd (List.eq_nil_of_length_eq_zero h) ht, fun _ => rfl⟩

set_option maxHeartbeats 8000000 in
set_option maxRecDepth 100000 in
theorem packShort_walk (w : World) (a0 : Int) (l1 : List (List UInt8)) (A1 : Option Addr) (c1 : Nat) (l2 : List Nat) (A2 : Option Addr) (c2 : Nat) (a3 : Int) (l4 : List UInt8) (A4 : Option Addr) (c4 : Nat) (h0 : 0 ≤ a0 ∧ a0 ≤ 18446744073709551615)
    (n1 : l1.length ≤ 140737488351232) (m1 : ∀ l ∈ l1, l.length ≤ 140737488351232) (r1 : frame.Rows w w.heap.size A1 l1) (n2 : l2.length ≤ 140737488351232) (m2 : ∀ n ∈ l2, n < 65536) (r2 : Row w w.heap.size A2 (l2.map fun (n : Nat) => Value.int .u16 ((n : Nat) : Int)))
    (h3 : 0 ≤ a3 ∧ a3 ≤ 65535) (n4 : l4.length ≤ 9223372036854775807) (r4 : Row w w.heap.size A4 (u8s l4)) :
    Calls Tryd.prog 5 #[.int .u64 a0, .slice A1 l1.length c1, .slice A2 l2.length c2, .int .u16 a3, .slice A4 l4.length c4] w fun e w' => e = .returned (.bool true) ∧ Below w.heap.size w w' := by
  obtain ⟨ck, rfl⟩ : ∃ ck : Nat, a0 = (ck : Int) := ⟨a0.toNat, by omega⟩
  obtain ⟨at_, rfl⟩ : ∃ at_ : Nat, a3 = (at_ : Int) := ⟨a3.toNat, by omega⟩
  have hck : ck < 18446744073709551616 := by omega
  have HFW := Lib.hid (few_any l1 A1 c1 n1 m1 w w.heap.size r1)
  have HSN := Lib.hid (snap_any ck hck l1 A1 c1 l2 A2 c2 n1 n2 m2 w r1 r2)
  have HR4 := Lib.hid r4
  clear r1 r2 m1 m2 r4
  by_cases hfew : tot l1 ≤ 300
  · have hd : decide (tot l1 ≤ 300) = true := by simpa using hfew
    rw [hd] at HFW
    clear hd
    by_cases h100 : l4.length ≤ 100
    · have h100' : (l4.length : Int) ≤ 100 := by omega
      have hsz := snap_size (clock := ck) l1 l2
      have hmay := snapOf_may hck l1 l2
      have hckk : Hid ((snapOf ck l1 l2).clock = ck) := Lib.hid rfl
      obtain ⟨s, hs⟩ : ∃ s, s = snapOf ck l1 l2 := ⟨_, rfl⟩
      rw [← hs] at hsz hmay hckk HSN
      have HMY := Lib.hid hmay
      have HPL := Lib.hid (body_len s)
      have h16 := body_16 s
      have hbl : (bodyOf s).length ≤ 1386 := by rw [HPL.out]; exact hsz
      have hil : at_ % (bodyOf s).length < (bodyOf s).length := Nat.mod_lt _ (by omega)
      obtain ⟨err1, hd1, he4, he5⟩ := decode_front' hmay _ hil
      obtain ⟨sx, err2, hd2, he0, he43⟩ := decode_more' hmay l4
      have HD1 := Lib.hid hd1
      have HD2 := Lib.hid hd2
      clear hs hmay hd1 hd2
      go_enter Tryd.func5, Tryd.ntmps5
      go_wp2_with fail
      refine HFW.out.mono ?_
      rintro e w1 ⟨rfl, rfl⟩
      go_wp2_with fail
      refine HSN.out.mono ?_
      rintro e w2 ⟨A, cp, rfl, hcp, hrow, hb2⟩
      have HEN := Lib.hid (enc_any s A cp (by omega) HMY.out.clock (fun e he => (HMY.out.fits e he).2) w2 hrow)
      rw [hckk.out] at HEN
      have HB2 := Lib.hid hb2
      clear hrow hb2 HFW HSN
      go_wp2_with fail
      refine HEN.out.mono ?_
      rintro e w3 ⟨A3, c3, rfl, hc3, hr3, hb3⟩
      rw [encode_may HMY.out] at hc3 hr3 ⊢
      simp only at hc3 hr3
      have HR3 := Lib.hid hr3
      have HB3 := Lib.hid (HB2.out.trans (hb3.mono HB2.out.size))
      obtain ⟨bd, hbd⟩ : ∃ bd, bd = bodyOf s := ⟨_, rfl⟩
      simp only
      rw [← hbd] at hc3 HR3 h16 hbl hil HD1 HD2 he4 he5 ⊢
      have hbl0 : ((bd.length : Int) == 0) = false := beq_eq_false_iff_ne.2 (by omega)
      have h16i : (16 : Int) ≤ bd.length := by omega
      clear hr3 hb3 HEN hbd HPL hsz
      obtain ⟨i0, hi0, hz0, hz1, hz2⟩ := info_parts u8_info
      obtain ⟨i, hi⟩ : ∃ i, i = at_ % bd.length := ⟨_, rfl⟩
      have hxi : ((at_ : Int) % (bd.length : Int)) = (i : Int) := by rw [hi]; rfl
      rw [← hi] at hil HD1 he4 he5
      have hic : (i : Int) ≤ c3 := by omega
      have htl : (bd.take i).length = i := by rw [List.length_take]; omega
      have HDa := decode_x (bd.take i) A3 c3 w3 (by omega) (by omega) (by rw [← u8s_take]; exact HR3.out.take i)
      rw [htl] at HDa
      have HDa := Lib.hid HDa
      have hfour : (decide ((i : Int) < 4) = true ∧ err1 = 40) ∨ (decide ((i : Int) < 4) = false ∧ err1 = 41) := by
        by_cases h : i < 4
        · exact .inl ⟨by simp; omega, he4 h⟩
        · exact .inr ⟨by simp; omega, he5 h⟩
      have hzero : (((l4.length : Int) == 0) = true ∧ err2 = 0) ∨ (((l4.length : Int) == 0) = false ∧ err2 = 43) := by
        by_cases h : l4.length = 0
        · exact .inl ⟨beq_iff_eq.2 (by omega), he0 h⟩
        · exact .inr ⟨beq_eq_false_iff_ne.2 (by omega), he43 h⟩
      clear hi htl he4 he5 he0 he43
      rcases hfour with ⟨hd4, rfl⟩ | ⟨hd4, rfl⟩ <;> rcases hzero with ⟨hdz, rfl⟩ | ⟨hdz, rfl⟩
      all_goals
        go_wp2_with fail
        refine HDa.out.mono ?_
        rintro e w4 ⟨v4, rfl, hown, hb4⟩
        rw [HD1.out] at hown ⊢
        obtain ⟨A5, c5, rfl⟩ := own_slice hown
        have HB4 := Lib.hid ((HB3.out.trans (hb4.mono HB3.out.size)).alloc (by have := HB3.out.size; have := hb4.size; omega) (.cells #[.int .u64 (nosnap.clock : Nat), .slice A5 nosnap.es.length c5] 25))
        have HR5 := Lib.hid (((HR3.out.below hb4).more hb4.size).below ((Below.refl _ _).alloc (Nat.le_refl _) (.cells #[.int .u64 (nosnap.clock : Nat), .slice A5 nosnap.es.length c5] 25)))
        have hbd0 := Lib.hid (show (u8s bd).length = bd.length from List.length_map _)
        have hl40 := Lib.hid (show (u8s l4).length = l4.length from List.length_map _)
        have hle4 : w.heap.size ≤ w4.heap.size := by have := HB3.out.size; have := hb4.size; omega
        clear hown hb4 HDa
        go_wp2_with (first
          | (at_builtin; refine wpList_append_row _ rfl (.tmp 52) (.tmp 53) 26 rfl w4.heap.size 5 i0 _ 1 rfl hi0 hz0 hz1 hz2 rfl (.slice none 0 0) 0 [] rfl (World.ownsRow_nil _ _ _ _) _ A3 bd.length c3 (u8s bd) rfl hbd0.out HR5.out (one_u8s _) (by unfold maxLen; omega) (by omega) (by simp) ?_; intro v1 w6 hown1 hg1 hat1; have HB6 := Lib.hid (HB4.out.trans ((own_belowN (World.ownsRow_nil _ w4.heap.size 5 1) (by simp) hg1).mono hle4)); have hs6 := hg1.size; have HO1 := Lib.hid hown1; clear hown1 hg1 hat1)
          | (at_builtin; refine wpList_append_row _ rfl (.tmp 55) (.tmp 56) 26 rfl w4.heap.size 5 i0 _ 1 rfl hi0 hz0 hz1 hz2 rfl v1 _ _ rfl HO1.out _ A4 l4.length c4 (u8s l4) rfl hl40.out (HR4.out.below HB6.out) (one_u8s _) (by unfold maxLen; omega) (by omega) (by simp at hs6; omega) ?_; intro v2 w7 hown2 hg2 hat2; have HB7 := Lib.hid (HB6.out.trans ((own_belowN HO1.out (by simp at hs6; omega) hg2).mono hle4)); obtain ⟨N, hN⟩ : ∃ N, N = 0 + bd.length + l4.length := ⟨_, rfl⟩; rw [← hN] at hown2; have HNN := Lib.hid hN; have HO2 := Lib.hid hown2; obtain ⟨A7, c7, rfl, hc7⟩ := own_formN HO2.out; clear hown2 hg2 hat2 hN))
        have hcat : (bd ++ l4).length = N := by rw [HNN.out, List.length_append]; omega
        have HDb := decode_x (bd ++ l4) A7 c7 w7 (by rw [hcat]; exact hc7) (by rw [hcat, HNN.out]; omega) (by
          have h := of_ownN HO2.out
          rw [show ([] : List Value) ++ u8s bd ++ u8s l4 = u8s (bd ++ l4) from by simp [u8s]] at h
          exact h)
        rw [hcat] at HDb
        refine HDb.mono ?_
        rintro e w8 ⟨v8, rfl, hown8, hb8⟩
        rw [HD2.out] at hown8 ⊢
        obtain ⟨A8, c8, rfl⟩ := own_slice hown8
        have HB8 := Lib.hid ((HB7.out.trans (hb8.mono HB7.out.size)).alloc (by have := HB7.out.size; have := hb8.size; omega) (.cells #[.int .u64 (sx.clock : Nat), .slice A8 sx.es.length c8] 25))
        clear hown8 hb8
        go_wp2_with fail
        refine (known_any _).mono ?_
        rintro e w9 ⟨rfl, hb9⟩
        go_wp2_with fail
        go_ret
        exact ⟨rfl, HB8.out.trans (hb9.mono HB8.out.size)⟩
    · have h100' : (100 : Int) < l4.length := by omega
      go_enter Tryd.func5, Tryd.ntmps5
      go_wp2_with fail
      refine HFW.out.mono ?_
      rintro e w1 ⟨rfl, rfl⟩
      go_wp2_with fail
      refine (known_any _).mono ?_
      rintro e wk ⟨rfl, hbk⟩
      go_wp2_with fail
      go_ret
      exact ⟨rfl, hbk⟩
  · have hd : decide (tot l1 ≤ 300) = false := by simpa using hfew
    rw [hd] at HFW
    clear hd
    go_enter Tryd.func5, Tryd.ntmps5
    go_wp2_with fail
    refine HFW.out.mono ?_
    rintro e w1 ⟨rfl, rfl⟩
    go_wp2_with fail
    refine (known_any _).mono ?_
    rintro e wk ⟨rfl, hbk⟩
    go_wp2_with fail
    go_ret
    exact ⟨rfl, hbk⟩
end Go.Proofs.YthlaigpopplafaaDoor.pack
