/- the laws' helpers: known, few, walked. -/
import Derived.Test.YthlaigpopplafaaDoorPackEnc
import Derived.Test.YthlaigpopplafaaDoorPackRefD
import Derived.Test.YthlaigpopplafaaDoorOpenRows
import Derived.Lib.SlBytesConst
namespace Go.Proofs.YthlaigpopplafaaDoor.pack
open Go.RowKit
open Go.Proofs.YthlaigpopplafaaDoor.aid

/-- a literal of bytes, turned into a slice -/
theorem const_row (w : World) (l : List UInt8) (C : Array Value) (m : Nat × Nat) (hC : C.toList = u8s l) : Row (w.alloc (.cells C 5 m)) (w.alloc (.cells C 5 m)).heap.size (some ⟨w.heap.size, 0, none⟩) (u8s l) := fun _ =>
  ⟨w.heap.size, 0, rfl, by simp, fun j v hv => by
    rw [Nat.zero_add]
    refine (World.cell?_alloc_mark w C 5 m j).trans ?_
    rw [← hv, ← hC]
    simp⟩
theorem bytes_const (w : World) (l : List UInt8) (C : Array Value) (hC : C.toList = u8s l) (n : Nat) (hn : n = l.length) : ∃ w', (convert 26 26 (.slice (some ⟨w.heap.size, 0, none⟩) n n)).run Tryd.prog (w.alloc (.cells C 5)) = .ok (.slice (some ⟨w.heap.size, 0, none⟩) n n) w' ∧
    Below w.heap.size w w' ∧ Row w' w'.heap.size (some ⟨w.heap.size, 0, none⟩) (u8s l) := by
  subst hn
  exact ⟨_, Lib.run_convert_bytes_const w 26 5 C _ _ rfl rfl, (Below.refl _ w).alloc (Nat.le_refl _) _, const_row w l C _ hC⟩
def known1 : List UInt8 := [84, 76, 82, 49, 0, 0, 0, 0, 0, 0, 0, 1, 0, 0, 0, 0]
theorem known_enc : encode ⟨1, []⟩ = (known1, 0) := by decide
theorem known_dec3 : decode [84, 76, 82] = (nosnap, 40) := by
  unfold decode
  rw [if_pos (by decide)]
theorem known_dec4 : decode [84, 76, 82, 49] = (nosnap, 41) := by
  unfold decode
  rw [if_neg (by decide), if_pos (by decide)]

set_option maxHeartbeats 4000000 in
set_option maxRecDepth 100000 in
theorem known_any (w : World) : Calls Tryd.prog 10 #[] w fun e w' => e = .returned (.bool true) ∧ Below w.heap.size w w' := by
  have HE := Lib.hid (enc_any ⟨1, []⟩ none 0 (by decide) (by decide) (fun e h => by simp at h) w Row.nil_)
  change Hid (Calls Tryd.prog 16 #[.agg #[.int .u64 1, .slice none 0 0]] w (EncPost ⟨1, []⟩ .u16 w)) at HE
  go_enter Tryd.func10, Tryd.ntmps10
  go_wp2_with fail
  refine HE.out.mono ?_
  rintro e w1 ⟨A1, c1, rfl, hc1, hr1, hb1⟩
  rw [known_enc] at hc1 hr1 ⊢
  have HR1 := Lib.hid hr1
  have HB1 := Lib.hid hb1
  clear hr1 hb1 HE
  obtain ⟨w2, hr2, hb2, hrow2⟩ := bytes_const w1 [84, 76, 82] #[.int .u8 84, .int .u8 76, .int .u8 82] rfl 3 rfl
  have HR2 := Lib.hid hrow2
  have HB2 := Lib.hid (HB1.out.trans (hb2.mono HB1.out.size))
  have HQ1 := Lib.hid ((HR1.out.below hb2).more hb2.size)
  clear hb2 hrow2 HR1 HB1
  go_wp2_with fail
  refine (decode_x [84, 76, 82] (some ⟨w1.heap.size, 0, none⟩) 3 w2 (by decide) (by decide) HR2.out).mono ?_
  rintro e w3 ⟨v3, rfl, hown, hb3⟩
  rw [known_dec3] at hown ⊢
  obtain ⟨A3, c3, rfl⟩ := own_slice hown
  have HB3 := Lib.hid (HB2.out.trans (hb3.mono HB2.out.size))
  have HQ3 := Lib.hid ((HQ1.out.below hb3).more hb3.size)
  clear hown hb3 HR2 hr2 HB2 HQ1
  have HB4 := Lib.hid (HB3.out.alloc HB3.out.size (.cells #[.int .u64 (nosnap.clock : Nat), .slice A3 nosnap.es.length c3] 25))
  have HQ4 := Lib.hid ((HQ3.out.below ((Below.refl _ _).alloc (Nat.le_refl _) (.cells #[.int .u64 (nosnap.clock : Nat), .slice A3 nosnap.es.length c3] 25))))
  obtain ⟨w4, hw4⟩ : ∃ w4, w4 = w3.alloc (.cells #[.int .u64 (nosnap.clock : Nat), .slice A3 nosnap.es.length c3] 25) := ⟨_, rfl⟩
  rw [← hw4] at HB4 HQ4
  have hs4 : w4.heap.size = w3.heap.size + 1 := by rw [hw4]; simp
  obtain ⟨w5, hr5, hb5, hrow5⟩ := bytes_const w4 [84, 76, 82, 49] #[.int .u8 84, .int .u8 76, .int .u8 82, .int .u8 49] rfl 4 rfl
  rw [hs4] at hr5 hrow5
  rw [hw4] at hr5
  have HR5 := Lib.hid hrow5
  have HB5 := Lib.hid (HB4.out.trans (hb5.mono HB4.out.size))
  have HQ5 := Lib.hid ((HQ4.out.below (hb5.mono (by omega))).more (show w3.heap.size ≤ w5.heap.size by have := hb5.size; omega))
  clear hb5 hrow5 HB4 HQ4 HB3 HQ3
  go_wp2_with fail
  refine (decode_x [84, 76, 82, 49] (some ⟨w3.heap.size + 1, 0, none⟩) 4 w5 (by decide) (by decide) HR5.out).mono ?_
  rintro e w6 ⟨v6, rfl, hown, hb6⟩
  rw [known_dec4] at hown ⊢
  obtain ⟨A6, c6, rfl⟩ := own_slice hown
  have HB6 := Lib.hid (HB5.out.trans (hb6.mono HB5.out.size))
  have hq6 := (HQ5.out.below hb6).more hb6.size
  have hq7 := hq6.below ((Below.refl _ _).alloc (Nat.le_refl _) (.cells #[.int .u64 (nosnap.clock : Nat), .slice A6 nosnap.es.length c6] 25))
  have hcv := row_string (c := c1) hq7
  have HB7 := Lib.hid (HB6.out.alloc HB6.out.size (.cells #[.int .u64 (nosnap.clock : Nat), .slice A6 nosnap.es.length c6] 25))
  obtain ⟨w7, hw7⟩ : ∃ w7, w7 = w6.alloc (.cells #[.int .u64 (nosnap.clock : Nat), .slice A6 nosnap.es.length c6] 25) := ⟨_, rfl⟩
  rw [← hw7] at HB7
  have HW7 := Lib.hid hw7
  clear hown hb6 HR5 hr5 HB5 HQ5 hq6 hq7 hw7 hw4
  go_wp2_with fail
  rw [← HW7.out]
  have HZ := Lib.hid (size_any 0 [] none 0 (by decide) w7 Row.nil_)
  change Hid (Calls Tryd.prog 19 #[.agg #[.int .u64 0, .slice none 0 0]] w7 fun e w' => e = .returned (.int .i64 16) ∧ Below w7.heap.size w7 w') at HZ
  refine HZ.out.mono ?_
  rintro e w8 ⟨rfl, hb8⟩
  go_wp2_with fail
  go_ret
  exact ⟨rfl, HB7.out.trans (hb8.mono HB7.out.size)⟩
theorem fewAt_le (c : List (List UInt8)) (k : Nat) : ((c.take k).map List.length).sum ≤ (c.map List.length).sum := by
  conv => rhs; rw [← List.take_append_drop k c]
  rw [List.map_append, List.sum_append]
  omega
def tot (c : List (List UInt8)) : Nat := c.length + (c.map List.length).sum
set_option maxHeartbeats 4000000 in
theorem few_any (c : List (List UInt8)) (A : Option Addr) (cap : Nat) (hc : c.length ≤ 140737488351232) (hl : ∀ l ∈ c, l.length ≤ 140737488351232) (w : World) (B : Nat) (hr : frame.Rows w B A c) :
    Calls Tryd.prog 9 #[.slice A c.length cap] w fun e w' => e = .returned (.bool (decide (tot c ≤ 300))) ∧ w = w' := by
  have HR := Lib.hid hr
  have HL := Lib.hid hl
  clear hr hl
  go_enter Tryd.func9, Tryd.ntmps9
  go_wp2_with fail
  go_loop [3, 4] (fun n i => ∃ (k m : Nat), k ≤ c.length ∧ i = .int .i64 k ∧ n = .int .i64 m ∧ m = c.length + ((c.take k).map List.length).sum ∧ (m ≤ 300 ∨ m ≤ 140737488351232 + 300)) (fun _ i => c.length - (intOf i).toNat)
  case atStart => exact ⟨0, c.length, by omega, rfl, rfl, by simp, .inr (by omega)⟩
  case round =>
    obtain ⟨k, m, hk, rfl, rfl, hm, hmb⟩ := hrel
    have hle := fewAt_le c k
    have HM := Lib.hid hm
    by_cases hlt : k < c.length
    · by_cases h3 : m ≤ 300
      · obtain ⟨b, off, Aj, cj, rfl, hb, hc0, hlen, -⟩ := HR.out.at_ (Below.refl _ _) hlt
        have hj := HL.out c[k] (List.getElem_mem hlt)
        have HT : Hid (((c.take (k + 1)).map List.length).sum = ((c.take k).map List.length).sum + c[k].length) := Lib.hid (by rw [List.take_succ_eq_append_getElem hlt, List.map_append, List.sum_append]; simp)
        clear hm hle
        generalize c[k].length = q at *
        go_wp2_with fail
        go_round
        case rel => exact ⟨k + 1, m + q, by omega, by go_num, by go_num, by rw [HT.out, HM.out]; omega, .inr (by omega)⟩
        case measure => simp [intOf]; omega
      · have hno : decide (tot c ≤ 300) = false := by
          unfold tot
          simp
          omega
        have HNO := Lib.hid hno
        have h3' : (300 : Int) < m := by omega
        clear hno hm hle
        go_wp2_with fail
        go_ret
        refine ⟨?_, rfl⟩
        rw [HNO.out]
        simp
        omega
    · obtain rfl : k = c.length := by omega
      have hd : decide (tot c ≤ 300) = decide (m ≤ 300) := by
        unfold tot
        rw [hm, List.take_length]
      have HD := Lib.hid hd
      clear hd hm hle
      go_wp2_with fail
      go_ret
      refine ⟨?_, rfl⟩
      rw [HD.out]
      simp
      omega
end Go.Proofs.YthlaigpopplafaaDoor.pack
