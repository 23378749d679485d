/- KeySorted, walked. -/
import Derived.Test.YtckbijkgibjjjaaKeySortedLaw
import Derived.Test.YtckbijkgibjjjaaOpenRows
namespace Go.Proofs.Ytckbijkgibjjjaa.key
open Go.RowKit
open Go.Proofs.Ytckbijkgibjjjaa.aid

abbrev keyB (l : List UInt8) : ByteArray := ⟨(keyOf l).toArray⟩
theorem row_val {w : World} {v : Value} {base : Nat} {e : TypeId} {n : Nat} {xs : List Value} (h : w.ownsRow base e 1 v n xs) : ∃ A c, v = .slice A n c ∧ n ≤ c ∧ Row w w.heap.size A xs := by
  obtain ⟨A, c, rfl, h1, -⟩ := own_form h
  exact ⟨A, c, rfl, h1, Row.of_own h⟩

theorem own_below {w w' : World} {base : Nat} {e : TypeId} {v : Value} {n : Nat} {xs : List Value} (h : w.ownsRow base e 1 v n xs) (hb : Below w.heap.size w w') : w'.ownsRow base e 1 v n xs := by
  refine ⟨h.1, ?_⟩
  rcases h.2 with h | ⟨g, cap, cur, hv, hg, hblk, hr⟩
  · exact .inl h
  · have hlt : g < w.heap.size := (Array.getElem?_eq_some_iff.1 hblk).1
    exact .inr ⟨g, cap, cur, hv, hg, (hb.block g hlt).trans hblk, hr⟩
theorem keys_succ (l : List (List UInt8)) (k : Nat) (h : k < l.length) : bss ((l.take (k + 1)).map keyB) = bss ((l.take k).map keyB) ++ [.string (keyB l[k])] := by
  rw [List.take_succ_eq_append_getElem h, List.map_append]
  show List.map Value.string (_ ++ [keyB l[k]]) = _
  rw [List.map_append]
  rfl

set_option maxHeartbeats 2000000 in
set_option maxRecDepth 100000 in
theorem keySorted_walk (w : World) (l0 : List ByteArray) (A0 : Option Addr) (c0 : Nat) (l1 : List (List UInt8)) (A1 : Option Addr) (c1 : Nat) (a2 : Int)
    (h0 : l0.length ≤ 9223372036854775807) (hc0 : l0.length ≤ c0) (z0 : ∀ s ∈ l0, s.size ≤ 140737488351232) (r0 : Row w w.heap.size A0 (l0.map .string))
    (h1 : l1.length ≤ 9223372036854775807) (r1 : frame.Rows w w.heap.size A1 l1) (w2 : 0 ≤ a2 ∧ a2 ≤ 255) :
    Calls Try.prog 7 #[.slice A0 l0.length c0, .slice A1 l1.length c1, .int .u8 a2] w fun e w' => e = .returned (.bool true) ∧ Below w.heap.size w w' := by
  obtain ⟨i0, hi0, hz0, hz1, hz2⟩ := info_parts str_info
  have R0 := Lib.hid r0
  have R1 := Lib.hid r1
  have Z0 := Lib.hid z0
  clear r0 r1 z0
  by_cases hbig : 30 < l0.length ∨ 20 < l1.length
  · rcases (show (30 : Int) < l0.length ∨ ((l0.length : Int) ≤ 30 ∧ (20 : Int) < l1.length) by omega) with hb | ⟨hb, hb'⟩
    all_goals
      clear hbig
      go_enter Try.func7, Try.ntmps7
      go_wp2_with fail
      refine (known_any _).mono ?_
      rintro e wk ⟨rfl, hbk⟩
      go_wp2_with fail
      go_ret
      exact ⟨rfl, hbk⟩
  have hb0 : (l0.length : Int) ≤ 30 := by omega
  have hb1 : (l1.length : Int) ≤ 20 := by omega
  have hb1' : l1.length ≤ 20 := by omega
  clear hbig
  go_enter Try.func7, Try.ntmps7
  go_wp2_with fail
  go_loopw [7, 8] (fun v i wr => ∃ k : Nat, k ≤ l1.length ∧ i = .int .i64 k ∧ wr.ownsRow w.heap.size 9 1 v k (bss ((l1.take k).map keyB)) ∧ Below w.heap.size w wr) (fun _ i _ => l1.length - (intOf i).toNat)
  case atStart => exact ⟨0, by omega, rfl, World.ownsRow_nil _ _ _ _, Below.refl _ _⟩
  case round =>
    obtain ⟨k, hk, rfl, hown, hB⟩ := hrel
    by_cases hlt : k < l1.length
    · obtain ⟨b, off, Aj, cj, rfl, hb, hcell, hlen, hrow⟩ := R1.out.at_ hB hlt
      have hlt' : (k : Int) < l1.length := by omega
      have HO := Lib.hid hown
      have HRW := Lib.hid hrow
      clear hown hrow
      by_cases hbig : 20 < l1[k].length
      · have hbig' : (20 : Int) < l1[k].length := by omega
        clear hbig
        go_wp2_with fail
        refine (known_any _).mono ?_
        rintro e wk ⟨rfl, hbk⟩
        go_wp2_with fail
        go_ret
        exact ⟨rfl, hB.trans (hbk.mono hB.size)⟩
      · have hbig' : (l1[k].length : Int) ≤ 20 := by omega
        go_wp2_with fail
        refine (key_any l1[k] Aj cj hlen _ (HRW.out.more hB.size)).mono ?_
        rintro e wk ⟨rfl, hbk⟩
        have hB2 := hB.trans (hbk.mono hB.size)
        have hownk := own_below HO.out hbk
        have hBa := hB2.alloc hB2.size (.cells #[.string (keyB l1[k])] 9)
        have HBA := Lib.hid hBa
        have HOK := Lib.hid (hownk.alloc (.cells #[.string (keyB l1[k])] 9))
        have HKS := Lib.hid (keys_succ l1 k hlt)
        clear hownk hBa
        go_wp2_with (at_builtin; refine wpList_append_row _ rfl (.tmp 31) (.tmp 37) 22 rfl w.heap.size 9 i0 _ 16 rfl hi0 hz0 hz1 hz2 rfl _ k _ rfl HOK.out _ (some ⟨wk.heap.size, 0, none⟩) 1 1 [.string (keyB l1[k])] rfl rfl (Row.new wk 9 #[.string (keyB l1[k])]) (by simp [Value.oneCell']) (by unfold maxLen; omega) (by omega) HBA.out.size ?_; intro v1 w3 hown3 hg3 hat3)
        have hB3 := grown_below HBA.out HOK.out (Nat.le_refl _) HBA.out.size hg3
        rw [← HKS.out] at hown3
        have HO3 := Lib.hid hown3
        clear hown3 hg3 hat3
        go_wp2_with fail
        go_roundw
        case rel => exact ⟨k + 1, by omega, by go_num, HO3.out, hB3⟩
        case measure => simp [intOf]; omega
    · have hlt' : (l1.length : Int) ≤ k := by omega
      have hkl : k = l1.length := by omega
      obtain ⟨A2, c2, hv, hkc, hrow⟩ := row_val hown
      rw [hv]
      have HRW := Lib.hid hrow
      have hcap2 : ((l1.take k).map keyB).length = k := by simp; omega
      have SL : Hid (∀ W, Below wr.heap.size wr W → Calls Try.prog 17 #[.slice A2 k c2, .int .u8 a2] W fun e W' => e = .returned (.bool true) ∧ Below W.heap.size W W') := Lib.hid (fun W hW => by
        have h := sortedlaw_any ((l1.take k).map keyB) A2 c2 a2 (by rw [hcap2]; omega) (by rw [hcap2]; exact hkc) (by
          intro s hs
          obtain ⟨l, hl, rfl⟩ := List.mem_map.1 hs
          have := (keyOf_right l).2.1
          simp [ByteArray.size]
          omega) w2 W ((HRW.out.below hW).more hW.size)
        rw [hcap2] at h
        exact h)
      clear hown hv hrow hcap2 hlt hkl
      go_wp2_with fail
      refine (known_any _).mono ?_
      rintro e w4 ⟨rfl, hb4⟩
      have g4 := hB.trans (hb4.mono hB.size)
      go_wp2_with fail
      refine (sortedlaw_any l0 A0 c0 a2 (by omega) hc0 Z0.out w2 _ ((R0.out.below g4).more g4.size)).mono ?_
      rintro e w5 ⟨rfl, hb5⟩
      have g5 := g4.trans (hb5.mono g4.size)
      have hb45 := hb4.trans (hb5.mono hb4.size)
      go_wp2_with fail
      refine (SL.out _ hb45).mono ?_
      rintro e w6 ⟨rfl, hb6⟩
      go_wp2_with fail
      go_ret
      exact ⟨rfl, g5.trans (hb6.mono g5.size)⟩
end Go.Proofs.Ytckbijkgibjjjaa.key
