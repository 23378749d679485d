/- the reference's put and get, walked. -/
import Derived.Test.YthlaigpopplafaaDoorPackSame
import Derived.Test.YthlaigpopplafaaDoorAppend
namespace Go.Proofs.YthlaigpopplafaaDoor.pack
open Go.RowKit
open Go.Proofs.YthlaigpopplafaaDoor.aid

theorem u8_info : (Tryd.prog.info? 5).map (fun i => (i.zero, i.size, i.bytes)) = some (some (.int .u8 0), 1, 1) := by kernel_rfl
theorem be_take (n m j : Nat) (h : j + 1 ≤ m) : (be n m).take (m - (j + 1) + 1) = (be n m).take (m - (j + 1)) ++ [UInt8.ofNat (n / 256 ^ j)] := by
  have h2 := be_drop n (j + 1) (m - (j + 1))
  rw [show j + 1 + (m - (j + 1)) = m from by omega] at h2
  have h3 : (be n m)[m - (j + 1)]? = some (UInt8.ofNat (n / 256 ^ j)) := by
    rw [← List.head?_drop, h2]
    rfl
  rw [List.take_add_one, h3]
  rfl
theorem u8s_snoc (l : List UInt8) (n k : Nat) : u8s (l ++ [UInt8.ofNat (n / 256 ^ k)]) = u8s l ++ [.int .u8 ((n / 256 ^ k % 256 : Nat) : Int)] := by
  simp [u8s]
theorem own_below {w w' : World} {B : Nat} {e : TypeId} {v : Value} {n : Nat} {xs : List Value} (hown : w.ownsRow B e 1 v n xs) (hB : B ≤ w.heap.size) (hg : w.grownBy w' v.ownBlock) : Below B w w' := grown_below (Below.refl B w) hown (Nat.le_refl _) hB hg
def RPut (w : World) (B n m : Nat) (xs : List UInt8) (v i : Value) (wr : World) : Prop :=
  ∃ j : Nat, j ≤ m ∧ i = .int .i64 ((j : Int) - 1) ∧ wr.ownsRow B 5 1 v (xs.length + (m - j)) (u8s (xs ++ (be n m).take (m - j))) ∧ Below B w wr
set_option maxHeartbeats 2000000 in
set_option maxRecDepth 100000 in
theorem refput_any (n : Nat) (hn : n < 18446744073709551616) (m : Nat) (hm : m = 4 ∨ m = 8) (B : Nat) (v : Value) (xs : List UInt8) (hx : xs.length ≤ 1000000) (w : World) (hB : B ≤ w.heap.size) (hown : w.ownsRow B 5 1 v xs.length (u8s xs)) :
    Calls Tryd.prog 24 #[v, .int .u64 n, .int .i64 m] w fun e w' => ∃ v', e = .returned v' ∧ w'.ownsRow B 5 1 v' (xs.length + m) (u8s (xs ++ be n m)) ∧ Below B w w' := by
  obtain ⟨i0, hi0, hz0, hz1, hz2⟩ := info_parts u8_info
  obtain ⟨A, c, rfl, -, -⟩ := own_form hown
  have HO := Lib.hid hown
  clear hown
  have hm2 : (m : Int) ≤ 8 := by omega
  go_enter Tryd.func24, Tryd.ntmps24
  go_wp2_with fail
  go_loopw [0, 7] (fun v i wr => RPut w B n m xs v i wr) (fun _ i _ => (intOf i + 1).toNat)
  case atStart => exact ⟨m, by omega, rfl, by rw [Nat.sub_self, List.take_zero, List.append_nil]; exact HO.out, Below.refl _ _⟩
  case round =>
    obtain ⟨j, hj, rfl, hown, hBw⟩ := hrel
    obtain ⟨A, c, rfl, -, -⟩ := own_form hown
    have HO := Lib.hid hown
    have HB := Lib.hid hBw
    have hBs := Nat.le_trans hB hBw.size
    clear hown
    cases j with
    | zero =>
      go_wp2
      go_ret
      refine ⟨_, rfl, ?_, HB.out⟩
      have h := HO.out
      rw [Nat.sub_zero, List.take_of_length_le (by rw [be_len]; omega)] at h
      exact h
    | succ j =>
      have h1 : ((j + 1 : Nat) : Int) - 1 = j := by omega
      rw [h1]
      have HT := Lib.hid (be_take n m j hj)
      have hlen : m - (j + 1) + 1 = m - j := by omega
      rw [hlen] at HT
      have hml : xs.length + (m - (j + 1)) + 1 = xs.length + (m - j) := by omega
      have hcase : j = 0 ∨ j = 1 ∨ j = 2 ∨ j = 3 ∨ j = 4 ∨ j = 5 ∨ j = 6 ∨ j = 7 := by omega
      clear hlen h1
      obtain ⟨q, hq⟩ : ∃ q, q = m - (j + 1) := ⟨_, rfl⟩
      rw [← hq] at HO hml HT ⊢
      have hq8 : q ≤ 8 := by omega
      have HQ := Lib.hid hq
      clear hq
      rcases hcase with rfl | rfl | rfl | rfl | rfl | rfl | rfl | rfl
      · have HOK := Lib.hid (HO.out.alloc (.cells #[.int .u8 ((n : Int) % 256)] 5))
        have HBA := Lib.hid (HB.out.alloc hBs (.cells #[.int .u8 ((n : Int) % 256)] 5))
        go_wp2_with (at_builtin; refine wpList_append_row _ rfl (.tmp 14) (.tmp 21) 26 rfl B 5 i0 _ 1 rfl hi0 hz0 hz1 hz2 rfl _ (xs.length + q) _ rfl HOK.out _ (some ⟨wr.heap.size, 0, none⟩) 1 1 [.int .u8 ((n : Int) % 256)] rfl rfl (Row.new wr 5 #[.int .u8 ((n : Int) % 256)]) (by simp [Value.oneCell']) (by unfold maxLen; omega) (by omega) (Nat.le_trans hB HBA.out.size) ?_; intro v1 w3 hown3 hg3 hat3)
        have hB3 := Lib.hid (grown_below HBA.out HOK.out (Nat.le_refl _) (Nat.le_trans hB HBA.out.size) hg3)
        rw [show ((n : Int) % 256) = ((n / 256 ^ 0 % 256 : Nat) : Int) from by simp only [Nat.reducePow]; omega, ← u8s_snoc, List.append_assoc, ← HT.out, hml] at hown3
        have HO3 := Lib.hid hown3
        clear hown3 hg3 hat3
        go_wp2_with fail
        go_roundw
        case rel => exact ⟨0, by omega, by go_num, HO3.out, hB3.out⟩
        case measure => simp [intOf]
      · have HOK := Lib.hid (HO.out.alloc (.cells #[.int .u8 ((n : Int) / 256 % 256)] 5))
        have HBA := Lib.hid (HB.out.alloc hBs (.cells #[.int .u8 ((n : Int) / 256 % 256)] 5))
        go_wp2_with (at_builtin; refine wpList_append_row _ rfl (.tmp 14) (.tmp 21) 26 rfl B 5 i0 _ 1 rfl hi0 hz0 hz1 hz2 rfl _ (xs.length + q) _ rfl HOK.out _ (some ⟨wr.heap.size, 0, none⟩) 1 1 [.int .u8 ((n : Int) / 256 % 256)] rfl rfl (Row.new wr 5 #[.int .u8 ((n : Int) / 256 % 256)]) (by simp [Value.oneCell']) (by unfold maxLen; omega) (by omega) (Nat.le_trans hB HBA.out.size) ?_; intro v1 w3 hown3 hg3 hat3)
        have hB3 := Lib.hid (grown_below HBA.out HOK.out (Nat.le_refl _) (Nat.le_trans hB HBA.out.size) hg3)
        rw [show ((n : Int) / 256 % 256) = ((n / 256 ^ 1 % 256 : Nat) : Int) from by simp only [Nat.reducePow]; omega, ← u8s_snoc, List.append_assoc, ← HT.out, hml] at hown3
        have HO3 := Lib.hid hown3
        clear hown3 hg3 hat3
        go_wp2_with fail
        go_roundw
        case rel => exact ⟨1, by omega, by go_num, HO3.out, hB3.out⟩
        case measure => simp [intOf]
      · have HOK := Lib.hid (HO.out.alloc (.cells #[.int .u8 ((n : Int) / 65536 % 256)] 5))
        have HBA := Lib.hid (HB.out.alloc hBs (.cells #[.int .u8 ((n : Int) / 65536 % 256)] 5))
        go_wp2_with (at_builtin; refine wpList_append_row _ rfl (.tmp 14) (.tmp 21) 26 rfl B 5 i0 _ 1 rfl hi0 hz0 hz1 hz2 rfl _ (xs.length + q) _ rfl HOK.out _ (some ⟨wr.heap.size, 0, none⟩) 1 1 [.int .u8 ((n : Int) / 65536 % 256)] rfl rfl (Row.new wr 5 #[.int .u8 ((n : Int) / 65536 % 256)]) (by simp [Value.oneCell']) (by unfold maxLen; omega) (by omega) (Nat.le_trans hB HBA.out.size) ?_; intro v1 w3 hown3 hg3 hat3)
        have hB3 := Lib.hid (grown_below HBA.out HOK.out (Nat.le_refl _) (Nat.le_trans hB HBA.out.size) hg3)
        rw [show ((n : Int) / 65536 % 256) = ((n / 256 ^ 2 % 256 : Nat) : Int) from by simp only [Nat.reducePow]; omega, ← u8s_snoc, List.append_assoc, ← HT.out, hml] at hown3
        have HO3 := Lib.hid hown3
        clear hown3 hg3 hat3
        go_wp2_with fail
        go_roundw
        case rel => exact ⟨2, by omega, by go_num, HO3.out, hB3.out⟩
        case measure => simp [intOf]
      · have HOK := Lib.hid (HO.out.alloc (.cells #[.int .u8 ((n : Int) / 16777216 % 256)] 5))
        have HBA := Lib.hid (HB.out.alloc hBs (.cells #[.int .u8 ((n : Int) / 16777216 % 256)] 5))
        go_wp2_with (at_builtin; refine wpList_append_row _ rfl (.tmp 14) (.tmp 21) 26 rfl B 5 i0 _ 1 rfl hi0 hz0 hz1 hz2 rfl _ (xs.length + q) _ rfl HOK.out _ (some ⟨wr.heap.size, 0, none⟩) 1 1 [.int .u8 ((n : Int) / 16777216 % 256)] rfl rfl (Row.new wr 5 #[.int .u8 ((n : Int) / 16777216 % 256)]) (by simp [Value.oneCell']) (by unfold maxLen; omega) (by omega) (Nat.le_trans hB HBA.out.size) ?_; intro v1 w3 hown3 hg3 hat3)
        have hB3 := Lib.hid (grown_below HBA.out HOK.out (Nat.le_refl _) (Nat.le_trans hB HBA.out.size) hg3)
        rw [show ((n : Int) / 16777216 % 256) = ((n / 256 ^ 3 % 256 : Nat) : Int) from by simp only [Nat.reducePow]; omega, ← u8s_snoc, List.append_assoc, ← HT.out, hml] at hown3
        have HO3 := Lib.hid hown3
        clear hown3 hg3 hat3
        go_wp2_with fail
        go_roundw
        case rel => exact ⟨3, by omega, by go_num, HO3.out, hB3.out⟩
        case measure => simp [intOf]
      · have HOK := Lib.hid (HO.out.alloc (.cells #[.int .u8 ((n : Int) / 4294967296 % 256)] 5))
        have HBA := Lib.hid (HB.out.alloc hBs (.cells #[.int .u8 ((n : Int) / 4294967296 % 256)] 5))
        go_wp2_with (at_builtin; refine wpList_append_row _ rfl (.tmp 14) (.tmp 21) 26 rfl B 5 i0 _ 1 rfl hi0 hz0 hz1 hz2 rfl _ (xs.length + q) _ rfl HOK.out _ (some ⟨wr.heap.size, 0, none⟩) 1 1 [.int .u8 ((n : Int) / 4294967296 % 256)] rfl rfl (Row.new wr 5 #[.int .u8 ((n : Int) / 4294967296 % 256)]) (by simp [Value.oneCell']) (by unfold maxLen; omega) (by omega) (Nat.le_trans hB HBA.out.size) ?_; intro v1 w3 hown3 hg3 hat3)
        have hB3 := Lib.hid (grown_below HBA.out HOK.out (Nat.le_refl _) (Nat.le_trans hB HBA.out.size) hg3)
        rw [show ((n : Int) / 4294967296 % 256) = ((n / 256 ^ 4 % 256 : Nat) : Int) from by simp only [Nat.reducePow]; omega, ← u8s_snoc, List.append_assoc, ← HT.out, hml] at hown3
        have HO3 := Lib.hid hown3
        clear hown3 hg3 hat3
        go_wp2_with fail
        go_roundw
        case rel => exact ⟨4, by omega, by go_num, HO3.out, hB3.out⟩
        case measure => simp [intOf]
      · have HOK := Lib.hid (HO.out.alloc (.cells #[.int .u8 ((n : Int) / 1099511627776 % 256)] 5))
        have HBA := Lib.hid (HB.out.alloc hBs (.cells #[.int .u8 ((n : Int) / 1099511627776 % 256)] 5))
        go_wp2_with (at_builtin; refine wpList_append_row _ rfl (.tmp 14) (.tmp 21) 26 rfl B 5 i0 _ 1 rfl hi0 hz0 hz1 hz2 rfl _ (xs.length + q) _ rfl HOK.out _ (some ⟨wr.heap.size, 0, none⟩) 1 1 [.int .u8 ((n : Int) / 1099511627776 % 256)] rfl rfl (Row.new wr 5 #[.int .u8 ((n : Int) / 1099511627776 % 256)]) (by simp [Value.oneCell']) (by unfold maxLen; omega) (by omega) (Nat.le_trans hB HBA.out.size) ?_; intro v1 w3 hown3 hg3 hat3)
        have hB3 := Lib.hid (grown_below HBA.out HOK.out (Nat.le_refl _) (Nat.le_trans hB HBA.out.size) hg3)
        rw [show ((n : Int) / 1099511627776 % 256) = ((n / 256 ^ 5 % 256 : Nat) : Int) from by simp only [Nat.reducePow]; omega, ← u8s_snoc, List.append_assoc, ← HT.out, hml] at hown3
        have HO3 := Lib.hid hown3
        clear hown3 hg3 hat3
        go_wp2_with fail
        go_roundw
        case rel => exact ⟨5, by omega, by go_num, HO3.out, hB3.out⟩
        case measure => simp [intOf]
      · have HOK := Lib.hid (HO.out.alloc (.cells #[.int .u8 ((n : Int) / 281474976710656 % 256)] 5))
        have HBA := Lib.hid (HB.out.alloc hBs (.cells #[.int .u8 ((n : Int) / 281474976710656 % 256)] 5))
        go_wp2_with (at_builtin; refine wpList_append_row _ rfl (.tmp 14) (.tmp 21) 26 rfl B 5 i0 _ 1 rfl hi0 hz0 hz1 hz2 rfl _ (xs.length + q) _ rfl HOK.out _ (some ⟨wr.heap.size, 0, none⟩) 1 1 [.int .u8 ((n : Int) / 281474976710656 % 256)] rfl rfl (Row.new wr 5 #[.int .u8 ((n : Int) / 281474976710656 % 256)]) (by simp [Value.oneCell']) (by unfold maxLen; omega) (by omega) (Nat.le_trans hB HBA.out.size) ?_; intro v1 w3 hown3 hg3 hat3)
        have hB3 := Lib.hid (grown_below HBA.out HOK.out (Nat.le_refl _) (Nat.le_trans hB HBA.out.size) hg3)
        rw [show ((n : Int) / 281474976710656 % 256) = ((n / 256 ^ 6 % 256 : Nat) : Int) from by simp only [Nat.reducePow]; omega, ← u8s_snoc, List.append_assoc, ← HT.out, hml] at hown3
        have HO3 := Lib.hid hown3
        clear hown3 hg3 hat3
        go_wp2_with fail
        go_roundw
        case rel => exact ⟨6, by omega, by go_num, HO3.out, hB3.out⟩
        case measure => simp [intOf]
      · have HOK := Lib.hid (HO.out.alloc (.cells #[.int .u8 ((n : Int) / 72057594037927936)] 5))
        have HBA := Lib.hid (HB.out.alloc hBs (.cells #[.int .u8 ((n : Int) / 72057594037927936)] 5))
        go_wp2_with (at_builtin; refine wpList_append_row _ rfl (.tmp 14) (.tmp 21) 26 rfl B 5 i0 _ 1 rfl hi0 hz0 hz1 hz2 rfl _ (xs.length + q) _ rfl HOK.out _ (some ⟨wr.heap.size, 0, none⟩) 1 1 [.int .u8 ((n : Int) / 72057594037927936)] rfl rfl (Row.new wr 5 #[.int .u8 ((n : Int) / 72057594037927936)]) (by simp [Value.oneCell']) (by unfold maxLen; omega) (by omega) (Nat.le_trans hB HBA.out.size) ?_; intro v1 w3 hown3 hg3 hat3)
        have hB3 := Lib.hid (grown_below HBA.out HOK.out (Nat.le_refl _) (Nat.le_trans hB HBA.out.size) hg3)
        rw [show ((n : Int) / 72057594037927936) = ((n / 256 ^ 7 % 256 : Nat) : Int) from by simp only [Nat.reducePow]; omega, ← u8s_snoc, List.append_assoc, ← HT.out, hml] at hown3
        have HO3 := Lib.hid hown3
        clear hown3 hg3 hat3
        go_wp2_with fail
        go_roundw
        case rel => exact ⟨7, by omega, by go_num, HO3.out, hB3.out⟩
        case measure => simp [intOf]
set_option maxHeartbeats 2000000 in
theorem refget_any (l : List UInt8) (A : Option Addr) (c : Nat) (hl : l.length ≤ 8) (w : World) (hr : Row w w.heap.size A (u8s l)) :
    Calls Tryd.prog 39 #[.slice A l.length c] w fun e w' => e = .returned (.int .u64 (num l : Nat)) ∧ w = w' := by
  have HR := Lib.hid hr
  clear hr
  go_enter Tryd.func39, Tryd.ntmps39
  go_wp2_with fail
  go_loop [3, 4] (fun a i => ∃ k : Nat, k ≤ l.length ∧ i = .int .i64 k ∧ a = .int .u64 (num (l.take k) : Nat)) (fun _ i => l.length - (intOf i).toNat)
  case atStart => exact ⟨0, by omega, rfl, rfl⟩
  case round =>
    obtain ⟨k, hk, rfl, rfl⟩ := hrel
    by_cases hlt : k < l.length
    · obtain ⟨g, off, rfl, hgb, hc⟩ := HR.out.at_ (k := k) (by simp [u8s]; omega)
      have hc0 := hc k (.int .u8 (l[k].toNat : Int)) (u8s_at _ _ hlt)
      have hsn : num (l.take (k + 1)) = num (l.take k) * 256 + l[k].toNat := by rw [List.take_succ_eq_append_getElem (by omega), num_snoc]
      have hb1 := num_lt (l.take k)
      have hlk : (l.take k).length = k := by rw [List.length_take]; omega
      have hb2 := num_take_lt l (k + 1) (by omega)
      have hb3 := l[k].toNat_lt
      rw [hsn] at hb2
      have HS := Lib.hid hsn
      clear hsn hc
      generalize num (l.take k) = n at *
      generalize l[k].toNat = x at *
      go_wp2_with fail
      go_round
      case rel => exact ⟨k + 1, by omega, by go_num, by rw [HS.out]; go_num⟩
      case measure => simp [intOf]; omega
    · obtain rfl : k = l.length := by omega
      go_wp2_with fail
      go_ret
      refine ⟨?_, rfl⟩
      try rw [List.take_length]
      rfl
end Go.Proofs.YthlaigpopplafaaDoor.pack
