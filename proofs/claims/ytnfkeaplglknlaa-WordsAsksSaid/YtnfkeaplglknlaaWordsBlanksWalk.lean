/- WordsBlanks, walked. -/
import Derived.Test.YtnfkeaplglknlaaWordsPartsWalk
import Derived.Test.YtnfkeaplglknlaaWordsBlanksLaw
namespace Go.Proofs.Ytnfkeaplglknlaa.words
open Go.RowKit
open Go.Proofs.Ytnfkeaplglknlaa.aid

theorem Rws.row_ {w : World} {A : Option Addr} {n c : Nat} {rows : List (List Wd)} (h : Rws w (.slice A n c) rows) {k : Nat} (hk : k < rows.length) {row : List Wd} (hrow : rows[k] = row) : ∃ g o gk ck, A = some ⟨g, o, none⟩ ∧ w.cell? ⟨g, o + k, none⟩ = some (.slice (some ⟨gk, 0, none⟩) row.length ck) ∧ row.length ≤ ck ∧
    ∀ i (hi : i < row.length), w.cell? ⟨gk, i * 3, none⟩ = some (.string ⟨row[i].text.toArray⟩) ∧ w.cell? ⟨gk, i * 3 + 1, none⟩ = some (.int .i64 (row[i].line : Nat)) ∧ w.cell? ⟨gk, i * 3 + 2, none⟩ = some (.int .i64 (row[i].col : Nat)) := by
  subst hrow
  exact h.at_ hk
set_option maxHeartbeats 16000000 in
set_option maxRecDepth 100000 in
theorem wordsBlanks_walk (w : World) (l0 : List UInt8) (A0 : Option Addr) (c0 : Nat) (a1 : Int) (n0 : l0.length ≤ 9223372036854775807) (r0 : Row w w.heap.size A0 (u8s l0)) (h1 : 0 ≤ a1 ∧ a1 ≤ 255) :
    Calls Try.prog 6 #[.slice A0 l0.length c0, .int .u8 a1] w fun e w' => e = .returned (.bool true) ∧ Below w.heap.size w w' := by
  obtain ⟨n, rfl⟩ : ∃ n : Nat, a1 = (n : Int) := ⟨a1.toNat, by omega⟩
  have hn8 : (n : Int) ≤ 255 := by omega
  have HTX0 := Lib.hid (text_any l0 A0 c0 n0 w r0)
  obtain ⟨i0, hi0, hz0, hz1, hz2⟩ := info_parts byte_info
  obtain ⟨m, hm⟩ : ∃ m, m = n % 4 := ⟨_, rfl⟩
  have hm1 : (n : Int) % 4 = (m : Int) := by rw [hm]; rfl
  have hm2 : (n : Int).tmod 4 = (m : Int) := by rw [Int.tmod_eq_emod_of_nonneg (by omega)]; exact hm1
  have hm3 : m ≤ 3 := by omega
  clear r0 h1 hm
  go_enter Try.func6, Try.ntmps6
  go_wp2_with fail
  refine HTX0.out.mono ?_
  rintro e w2 ⟨v2, rfl, hown2, hb2⟩
  have hta := textOf_len l0
  obtain ⟨tt, htt⟩ : ∃ tt, tt = textOf l0 := ⟨_, rfl⟩
  rw [← htt] at hown2 hta
  obtain ⟨A2, c2, rfl, hc2, -⟩ := own_form hown2
  have HR2 := Lib.hid (of_own hown2)
  have HB2 := Lib.hid hb2
  clear hown2 hb2 htt HTX0
  go_wp2_with fail
  go_loopw [6, 7] (fun v i wr => ∃ k, k ≤ tt.length ∧ i = .int .i64 (k : Nat) ∧ wr.ownsRow w2.heap.size 5 1 v (stretch m (tt.take k)).length (u8s (stretch m (tt.take k))) ∧ Below w2.heap.size w2 wr) (fun _ i _ => tt.length - (intOf i).toNat)
  case atStart => exact ⟨0, by omega, rfl, World.ownsRow_nil _ _ _ _, Below.refl _ _⟩
  case round =>
    obtain ⟨k, hk, rfl, hown, hB⟩ := hrel
    by_cases hlt : k < tt.length
    · have hlt' : (k : Int) < tt.length := by omega
      obtain ⟨g, o, rfl, hgb, hcl⟩ := (HR2.out.below hB).at_ (k := k) (by rw [List.length_map]; exact hlt)
      have hc0 := hcl k (.int .u8 (tt[k].toNat : Int)) (u8s_at tt k hlt)
      have hb8 : (tt[k].toNat : Int) ≤ 255 := by have := tt[k].toNat_lt; omega
      obtain ⟨acc, hacc⟩ : ∃ acc, acc = stretch m (tt.take k) := ⟨_, rfl⟩
      have hsl := stretch_len m (tt.take k)
      have hsn := stretch_snoc m tt k hlt
      rw [List.length_take] at hsl
      rw [← hacc] at hown hsl hsn
      have hal : acc.length ≤ 4000 := by
        have h1 : (m + 1) * min k tt.length ≤ 4 * 560 := Nat.mul_le_mul (by omega) (by omega)
        omega
      obtain ⟨y, hy⟩ : ∃ y, y = tt[k] := ⟨_, rfl⟩
      rw [← hy] at hc0 hb8 hsn
      have HSN := Lib.hid hsn
      have HAL := Lib.hid hal
      have HOA := Lib.hid (hown.alloc (.cells #[.int .u8 (y.toNat : Int)] 5))
      have HBA := Lib.hid (hB.alloc hB.size (.cells #[.int .u8 (y.toNat : Int)] 5))
      have HCL := Lib.hid (fun W (hb : Below w2.heap.size w2 W) => ((HR2.out.below hb).at_ (k := k) (by rw [List.length_map]; exact hlt)))
      have HC0 : Hid (∀ W, Below w2.heap.size w2 W → W.cell? ⟨g, o + k, none⟩ = some (.int .u8 (y.toNat : Int))) := Lib.hid (fun W hb => by
        obtain ⟨g', o', e, -, hq⟩ := (HR2.out.below hb).at_ (k := k) (by rw [List.length_map]; exact hlt)
        injection e with e
        injection e with e1 e2 e3
        subst e1 e2
        rw [hy]
        exact hq k _ (u8s_at tt k hlt))
      clear hcl hacc hsl hsn hal hown hB HCL
      obtain ⟨z, hz⟩ : ∃ z, z = y.toNat := ⟨_, rfl⟩
      have hmo : more y = (z == 32 || z == 10) := by rw [hz]; rfl
      have HMO := Lib.hid hmo
      rw [← hz] at hc0 hb8 HOA HBA HC0
      have HZ := Lib.hid hz
      clear hmo hz hy
      have hcase : ((z == 32 || z == 10) = true ∧ ((z : Int) == 32) = true) ∨ ((z == 32 || z == 10) = true ∧ ((z : Int) == 32) = false ∧ ((z : Int) == 10) = true) ∨ ((z == 32 || z == 10) = false ∧ ((z : Int) == 32) = false ∧ ((z : Int) == 10) = false) := by
        rcases (show z = 32 ∨ z = 10 ∨ (z ≠ 32 ∧ z ≠ 10) from by omega) with rfl | rfl | ⟨q1, q2⟩
        · exact .inl ⟨rfl, rfl⟩
        · exact .inr (.inl ⟨rfl, rfl, rfl⟩)
        · exact .inr (.inr ⟨by simp [q1, q2], beq_eq_false_iff_ne.2 (by omega), beq_eq_false_iff_ne.2 (by omega)⟩)
      rcases hcase with ⟨hmm, q1⟩ | ⟨hmm, q1, q2⟩ | ⟨hmm, q1, q2⟩
      · go_wp2_with (at_builtin; go_must (refine wpList_append_row _ rfl (.tmp 25) (.tmp 30) 22 rfl w2.heap.size 5 i0 _ 1 rfl hi0 hz0 hz1 hz2 rfl _ acc.length (u8s acc) rfl HOA.out _ (some ⟨wr.heap.size, 0, none⟩) 1 1 [.int .u8 (z : Int)] rfl rfl (Row.new wr 5 #[.int .u8 (z : Int)]) (by simp [Value.oneCell']) (by have := HAL.out; unfold maxLen; omega) (by have := HAL.out; omega) HBA.out.size ?_; intro v3 w3 hown3 hg3 hat3; have hb3 := grown_below HBA.out HOA.out (Nat.le_refl _) HBA.out.size hg3; have hc3 := HC0.out w3 hb3; rw [HZ.out, u8s_snoc_] at hown3; have HO3 := Lib.hid hown3; have HB3 := Lib.hid hb3; clear hown3 hg3 hat3 hb3))
        go_loopw [6, 8] (fun v i wr2 => ∃ j, j ≤ m ∧ i = .int .i64 (j : Nat) ∧ wr2.ownsRow w2.heap.size 5 1 v (acc.length + 1 + j) (u8s (acc ++ [y] ++ (bls m).take j)) ∧ Below w2.heap.size w2 wr2) (fun _ i _ => m - (intOf i).toNat)
        case atStart => exact ⟨0, by omega, rfl, by rw [List.take_zero, List.append_nil]; exact HO3.out, HB3.out⟩
        case round =>
          obtain ⟨j, hj, rfl, hown, hB⟩ := hrel
          by_cases hjm : j < m
          · have hjm' : (j : Int) < m := by omega
            have hbt := bls_take m j hjm
            rcases (show j = 0 ∨ j = 1 ∨ j = 2 from by omega) with rfl | rfl | rfl
            · have HO4 := Lib.hid ((hown.alloc (.cells #[.int .u8 32, .int .u8 9] 5)).alloc (.cells #[.int .u8 32] 5))
              have hba := hB.alloc hB.size (.cells #[.int .u8 32, .int .u8 9] 5)
              have HB4 := Lib.hid (hba.alloc hba.size (.cells #[.int .u8 32] 5))
              have HBT := Lib.hid hbt
              clear hown hB hba hbt
              go_wp2_with (at_builtin; go_must (refine wpList_append_row _ rfl (.tmp 51) (.tmp 57) 22 rfl w2.heap.size 5 i0 _ 1 rfl hi0 hz0 hz1 hz2 rfl _ (acc.length + 1 + 0) _ rfl HO4.out _ (some ⟨wr.heap.size + 1, 0, none⟩) 1 1 [.int .u8 32] rfl rfl (by have h := Row.new (wr.alloc (.cells #[.int .u8 32, .int .u8 9] 5)) 5 #[.int .u8 32]; simpa using h) (by simp [Value.oneCell']) (by have := HAL.out; unfold maxLen; omega) (by have := HAL.out; omega) HB4.out.size ?_; intro v5 w5 hown5 hg5 hat5; have hb5 := grown_below HB4.out HO4.out (Nat.le_refl _) HB4.out.size hg5; have HO5 := Lib.hid hown5; have HB5 := Lib.hid hb5; clear hown5 hg5 hat5 hb5))
              go_wp2_with fail
              go_roundw
              case rel => exact ⟨0 + 1, by omega, by go_num, by
                have h := HO5.out
                rw [show u8s (acc ++ [y] ++ List.take 0 (bls m)) ++ [Value.int .u8 32] = u8s (acc ++ [y] ++ List.take (0 + 1) (bls m)) from by rw [HBT.out]; simp [u8s, bl]] at h
                exact h, HB5.out⟩
              case measure => simp [intOf]; omega
            · have HO4 := Lib.hid ((hown.alloc (.cells #[.int .u8 32, .int .u8 9] 5)).alloc (.cells #[.int .u8 9] 5))
              have hba := hB.alloc hB.size (.cells #[.int .u8 32, .int .u8 9] 5)
              have HB4 := Lib.hid (hba.alloc hba.size (.cells #[.int .u8 9] 5))
              have HBT := Lib.hid hbt
              clear hown hB hba hbt
              go_wp2_with (at_builtin; go_must (refine wpList_append_row _ rfl (.tmp 51) (.tmp 57) 22 rfl w2.heap.size 5 i0 _ 1 rfl hi0 hz0 hz1 hz2 rfl _ (acc.length + 1 + 1) _ rfl HO4.out _ (some ⟨wr.heap.size + 1, 0, none⟩) 1 1 [.int .u8 9] rfl rfl (by have h := Row.new (wr.alloc (.cells #[.int .u8 32, .int .u8 9] 5)) 5 #[.int .u8 9]; simpa using h) (by simp [Value.oneCell']) (by have := HAL.out; unfold maxLen; omega) (by have := HAL.out; omega) HB4.out.size ?_; intro v5 w5 hown5 hg5 hat5; have hb5 := grown_below HB4.out HO4.out (Nat.le_refl _) HB4.out.size hg5; have HO5 := Lib.hid hown5; have HB5 := Lib.hid hb5; clear hown5 hg5 hat5 hb5))
              go_wp2_with fail
              go_roundw
              case rel => exact ⟨1 + 1, by omega, by go_num, by
                have h := HO5.out
                rw [show u8s (acc ++ [y] ++ List.take 1 (bls m)) ++ [Value.int .u8 9] = u8s (acc ++ [y] ++ List.take (1 + 1) (bls m)) from by rw [HBT.out]; simp [u8s, bl]] at h
                exact h, HB5.out⟩
              case measure => simp [intOf]; omega
            · have HO4 := Lib.hid ((hown.alloc (.cells #[.int .u8 32, .int .u8 9] 5)).alloc (.cells #[.int .u8 32] 5))
              have hba := hB.alloc hB.size (.cells #[.int .u8 32, .int .u8 9] 5)
              have HB4 := Lib.hid (hba.alloc hba.size (.cells #[.int .u8 32] 5))
              have HBT := Lib.hid hbt
              clear hown hB hba hbt
              go_wp2_with (at_builtin; go_must (refine wpList_append_row _ rfl (.tmp 51) (.tmp 57) 22 rfl w2.heap.size 5 i0 _ 1 rfl hi0 hz0 hz1 hz2 rfl _ (acc.length + 1 + 2) _ rfl HO4.out _ (some ⟨wr.heap.size + 1, 0, none⟩) 1 1 [.int .u8 32] rfl rfl (by have h := Row.new (wr.alloc (.cells #[.int .u8 32, .int .u8 9] 5)) 5 #[.int .u8 32]; simpa using h) (by simp [Value.oneCell']) (by have := HAL.out; unfold maxLen; omega) (by have := HAL.out; omega) HB4.out.size ?_; intro v5 w5 hown5 hg5 hat5; have hb5 := grown_below HB4.out HO4.out (Nat.le_refl _) HB4.out.size hg5; have HO5 := Lib.hid hown5; have HB5 := Lib.hid hb5; clear hown5 hg5 hat5 hb5))
              go_wp2_with fail
              go_roundw
              case rel => exact ⟨2 + 1, by omega, by go_num, by
                have h := HO5.out
                rw [show u8s (acc ++ [y] ++ List.take 2 (bls m)) ++ [Value.int .u8 32] = u8s (acc ++ [y] ++ List.take (2 + 1) (bls m)) from by rw [HBT.out]; simp [u8s, bl]] at h
                exact h, HB5.out⟩
              case measure => simp [intOf]; omega
          · obtain rfl : m = j := by omega
            have hfin : (bls m).take m = bls m := List.take_of_length_le (by rw [bls_len]; omega)
            rw [hfin] at hown
            have HO5 := Lib.hid hown
            have HB5 := Lib.hid hB
            clear hown hB hfin
            go_wp2_with fail
            go_roundw
            case rel => exact ⟨k + 1, by omega, by go_num, by
              have h := HO5.out
              rw [HSN.out]
              unfold wide
              rw [HMO.out, hmm, if_pos rfl]
              rw [show acc ++ y :: bls m = acc ++ [y] ++ bls m by simp, List.length_append, List.length_append, bls_len]
              exact h, HB5.out⟩
            case measure => simp [intOf]; omega
      · go_wp2_with (at_builtin; go_must (refine wpList_append_row _ rfl (.tmp 25) (.tmp 30) 22 rfl w2.heap.size 5 i0 _ 1 rfl hi0 hz0 hz1 hz2 rfl _ acc.length (u8s acc) rfl HOA.out _ (some ⟨wr.heap.size, 0, none⟩) 1 1 [.int .u8 (z : Int)] rfl rfl (Row.new wr 5 #[.int .u8 (z : Int)]) (by simp [Value.oneCell']) (by have := HAL.out; unfold maxLen; omega) (by have := HAL.out; omega) HBA.out.size ?_; intro v3 w3 hown3 hg3 hat3; have hb3 := grown_below HBA.out HOA.out (Nat.le_refl _) HBA.out.size hg3; have hc3 := HC0.out w3 hb3; rw [HZ.out, u8s_snoc_] at hown3; have HO3 := Lib.hid hown3; have HB3 := Lib.hid hb3; clear hown3 hg3 hat3 hb3))
        go_loopw [6, 8] (fun v i wr2 => ∃ j, j ≤ m ∧ i = .int .i64 (j : Nat) ∧ wr2.ownsRow w2.heap.size 5 1 v (acc.length + 1 + j) (u8s (acc ++ [y] ++ (bls m).take j)) ∧ Below w2.heap.size w2 wr2) (fun _ i _ => m - (intOf i).toNat)
        case atStart => exact ⟨0, by omega, rfl, by rw [List.take_zero, List.append_nil]; exact HO3.out, HB3.out⟩
        case round =>
          obtain ⟨j, hj, rfl, hown, hB⟩ := hrel
          by_cases hjm : j < m
          · have hjm' : (j : Int) < m := by omega
            have hbt := bls_take m j hjm
            rcases (show j = 0 ∨ j = 1 ∨ j = 2 from by omega) with rfl | rfl | rfl
            · have HO4 := Lib.hid ((hown.alloc (.cells #[.int .u8 32, .int .u8 9] 5)).alloc (.cells #[.int .u8 32] 5))
              have hba := hB.alloc hB.size (.cells #[.int .u8 32, .int .u8 9] 5)
              have HB4 := Lib.hid (hba.alloc hba.size (.cells #[.int .u8 32] 5))
              have HBT := Lib.hid hbt
              clear hown hB hba hbt
              go_wp2_with (at_builtin; go_must (refine wpList_append_row _ rfl (.tmp 51) (.tmp 57) 22 rfl w2.heap.size 5 i0 _ 1 rfl hi0 hz0 hz1 hz2 rfl _ (acc.length + 1 + 0) _ rfl HO4.out _ (some ⟨wr.heap.size + 1, 0, none⟩) 1 1 [.int .u8 32] rfl rfl (by have h := Row.new (wr.alloc (.cells #[.int .u8 32, .int .u8 9] 5)) 5 #[.int .u8 32]; simpa using h) (by simp [Value.oneCell']) (by have := HAL.out; unfold maxLen; omega) (by have := HAL.out; omega) HB4.out.size ?_; intro v5 w5 hown5 hg5 hat5; have hb5 := grown_below HB4.out HO4.out (Nat.le_refl _) HB4.out.size hg5; have HO5 := Lib.hid hown5; have HB5 := Lib.hid hb5; clear hown5 hg5 hat5 hb5))
              go_wp2_with fail
              go_roundw
              case rel => exact ⟨0 + 1, by omega, by go_num, by
                have h := HO5.out
                rw [show u8s (acc ++ [y] ++ List.take 0 (bls m)) ++ [Value.int .u8 32] = u8s (acc ++ [y] ++ List.take (0 + 1) (bls m)) from by rw [HBT.out]; simp [u8s, bl]] at h
                exact h, HB5.out⟩
              case measure => simp [intOf]; omega
            · have HO4 := Lib.hid ((hown.alloc (.cells #[.int .u8 32, .int .u8 9] 5)).alloc (.cells #[.int .u8 9] 5))
              have hba := hB.alloc hB.size (.cells #[.int .u8 32, .int .u8 9] 5)
              have HB4 := Lib.hid (hba.alloc hba.size (.cells #[.int .u8 9] 5))
              have HBT := Lib.hid hbt
              clear hown hB hba hbt
              go_wp2_with (at_builtin; go_must (refine wpList_append_row _ rfl (.tmp 51) (.tmp 57) 22 rfl w2.heap.size 5 i0 _ 1 rfl hi0 hz0 hz1 hz2 rfl _ (acc.length + 1 + 1) _ rfl HO4.out _ (some ⟨wr.heap.size + 1, 0, none⟩) 1 1 [.int .u8 9] rfl rfl (by have h := Row.new (wr.alloc (.cells #[.int .u8 32, .int .u8 9] 5)) 5 #[.int .u8 9]; simpa using h) (by simp [Value.oneCell']) (by have := HAL.out; unfold maxLen; omega) (by have := HAL.out; omega) HB4.out.size ?_; intro v5 w5 hown5 hg5 hat5; have hb5 := grown_below HB4.out HO4.out (Nat.le_refl _) HB4.out.size hg5; have HO5 := Lib.hid hown5; have HB5 := Lib.hid hb5; clear hown5 hg5 hat5 hb5))
              go_wp2_with fail
              go_roundw
              case rel => exact ⟨1 + 1, by omega, by go_num, by
                have h := HO5.out
                rw [show u8s (acc ++ [y] ++ List.take 1 (bls m)) ++ [Value.int .u8 9] = u8s (acc ++ [y] ++ List.take (1 + 1) (bls m)) from by rw [HBT.out]; simp [u8s, bl]] at h
                exact h, HB5.out⟩
              case measure => simp [intOf]; omega
            · have HO4 := Lib.hid ((hown.alloc (.cells #[.int .u8 32, .int .u8 9] 5)).alloc (.cells #[.int .u8 32] 5))
              have hba := hB.alloc hB.size (.cells #[.int .u8 32, .int .u8 9] 5)
              have HB4 := Lib.hid (hba.alloc hba.size (.cells #[.int .u8 32] 5))
              have HBT := Lib.hid hbt
              clear hown hB hba hbt
              go_wp2_with (at_builtin; go_must (refine wpList_append_row _ rfl (.tmp 51) (.tmp 57) 22 rfl w2.heap.size 5 i0 _ 1 rfl hi0 hz0 hz1 hz2 rfl _ (acc.length + 1 + 2) _ rfl HO4.out _ (some ⟨wr.heap.size + 1, 0, none⟩) 1 1 [.int .u8 32] rfl rfl (by have h := Row.new (wr.alloc (.cells #[.int .u8 32, .int .u8 9] 5)) 5 #[.int .u8 32]; simpa using h) (by simp [Value.oneCell']) (by have := HAL.out; unfold maxLen; omega) (by have := HAL.out; omega) HB4.out.size ?_; intro v5 w5 hown5 hg5 hat5; have hb5 := grown_below HB4.out HO4.out (Nat.le_refl _) HB4.out.size hg5; have HO5 := Lib.hid hown5; have HB5 := Lib.hid hb5; clear hown5 hg5 hat5 hb5))
              go_wp2_with fail
              go_roundw
              case rel => exact ⟨2 + 1, by omega, by go_num, by
                have h := HO5.out
                rw [show u8s (acc ++ [y] ++ List.take 2 (bls m)) ++ [Value.int .u8 32] = u8s (acc ++ [y] ++ List.take (2 + 1) (bls m)) from by rw [HBT.out]; simp [u8s, bl]] at h
                exact h, HB5.out⟩
              case measure => simp [intOf]; omega
          · obtain rfl : m = j := by omega
            have hfin : (bls m).take m = bls m := List.take_of_length_le (by rw [bls_len]; omega)
            rw [hfin] at hown
            have HO5 := Lib.hid hown
            have HB5 := Lib.hid hB
            clear hown hB hfin
            go_wp2_with fail
            go_roundw
            case rel => exact ⟨k + 1, by omega, by go_num, by
              have h := HO5.out
              rw [HSN.out]
              unfold wide
              rw [HMO.out, hmm, if_pos rfl]
              rw [show acc ++ y :: bls m = acc ++ [y] ++ bls m by simp, List.length_append, List.length_append, bls_len]
              exact h, HB5.out⟩
            case measure => simp [intOf]; omega
      · go_wp2_with (at_builtin; go_must (refine wpList_append_row _ rfl (.tmp 25) (.tmp 30) 22 rfl w2.heap.size 5 i0 _ 1 rfl hi0 hz0 hz1 hz2 rfl _ acc.length (u8s acc) rfl HOA.out _ (some ⟨wr.heap.size, 0, none⟩) 1 1 [.int .u8 (z : Int)] rfl rfl (Row.new wr 5 #[.int .u8 (z : Int)]) (by simp [Value.oneCell']) (by have := HAL.out; unfold maxLen; omega) (by have := HAL.out; omega) HBA.out.size ?_; intro v3 w3 hown3 hg3 hat3; have hb3 := grown_below HBA.out HOA.out (Nat.le_refl _) HBA.out.size hg3; have hc3 := HC0.out w3 hb3; rw [HZ.out, u8s_snoc_] at hown3; have HO3 := Lib.hid hown3; have HB3 := Lib.hid hb3; clear hown3 hg3 hat3 hb3))
        go_roundw
        case rel => exact ⟨k + 1, by omega, by go_num, by
          have h := HO3.out
          rw [HSN.out]
          unfold wide
          rw [HMO.out, hmm, if_neg (by simp), List.length_append]
          exact h, HB3.out⟩
        case measure => simp [intOf]; omega
    · obtain rfl : k = tt.length := by omega
      rw [List.take_length] at hown
      obtain ⟨A3, c3, rfl, hc3, -⟩ := own_form hown
      obtain ⟨st, hst⟩ : ∃ st, st = stretch m tt := ⟨_, rfl⟩
      have hss := split_stretch m tt (by have : (m + 1) * tt.length ≤ 4 * 560 := Nat.mul_le_mul (by omega) (by omega); omega)
      rw [← hst] at hown hc3 hss ⊢
      have HSR := Lib.hid (of_own hown)
      have HTR := Lib.hid ((HR2.out.below hB).more hB.size)
      have HBW := Lib.hid (HB2.out.trans (hB.mono HB2.out.size))
      clear hown hB hst
      have HS4 := Lib.hid (split_any tt A2 c2 hc2 wr HTR.out)
      unfold SplitPost at HS4
      have HS5f := Lib.hid (fun W (h : Below wr.heap.size wr W) => split_any st A3 c3 hc3 W ((HSR.out.below h).more h.size))
      unfold SplitPost at HS5f
      obtain ⟨E1, hE1⟩ : ∃ E1, E1 = (split tt).err := ⟨_, rfl⟩
      obtain ⟨L1, hL1⟩ : ∃ L1, L1 = (split tt).line := ⟨_, rfl⟩
      obtain ⟨C1, hC1⟩ : ∃ C1, C1 = (split tt).col := ⟨_, rfl⟩
      obtain ⟨X, hX⟩ : ∃ X, X = (split tt).out := ⟨_, rfl⟩
      rw [← hE1, ← hL1, ← hC1, ← hX] at HS4
      obtain ⟨L2, hL2⟩ : ∃ L2, L2 = (split st).line := ⟨_, rfl⟩
      obtain ⟨C2, hC2⟩ : ∃ C2, C2 = (split st).col := ⟨_, rfl⟩
      obtain ⟨Y, hY⟩ : ∃ Y, Y = (split st).out := ⟨_, rfl⟩
      rw [← hss.1, ← hE1, ← hL2, ← hC2, ← hY] at HS5f
      have hro := hss.2
      rw [← hX, ← hY] at hro
      have HRO := Lib.hid hro
      have hxs : X.length ≤ 2000 := by
        rw [hX]
        by_cases he : (split tt).err = 0
        · rw [split_rows (by omega) (split_good (by omega) he)]
          have := all_len tt 1
          omega
        · rw [(split_bad (by omega) he).1]
          simp
      have hyx : Y.length = X.length := hro.len.symm
      have HSM : Hid (∀ k (h : k < X.length), X[k].length ≤ 2000) := Lib.hid (fun k h => by
        have h1 : X[k] ∈ (split tt).out := by rw [← hX]; exact List.getElem_mem h
        have h2 := split_few (by omega) h1
        omega)
      have HYX := Lib.hid hyx
      clear hE1 hL1 hC1 hX hL2 hC2 hY hss hro hyx
      go_wp2_with fail
      refine HS4.out.mono ?_
      rintro e w5 ⟨v5, rfl, hx5, hb5⟩
      obtain ⟨A5, c5, rfl⟩ := hx5.len
      obtain ⟨W5, hW5⟩ : ∃ W5, W5 = w5.alloc (.cells #[.int .i64 L1, .int .i64 C1] 31) := ⟨_, rfl⟩
      have hbw : Below w5.heap.size w5 W5 := by rw [hW5]; exact (Below.refl _ _).alloc (Nat.le_refl _) _
      have hq := hb5.trans (hbw.mono hb5.size)
      have HX5 := Lib.hid (hx5.below hbw)
      have HS5 := Lib.hid (HS5f.out W5 hq)
      have HB5 := Lib.hid (HBW.out.trans (hq.mono HBW.out.size))
      have HW5 := Lib.hid hW5
      clear hx5 hb5 hbw hq hW5 HS4 HS5f HBW HSR HTR
      go_wp2_with fail
      rw [← HW5.out]
      refine HS5.out.mono ?_
      rintro e w6 ⟨v6, rfl, hx6, hb6⟩
      obtain ⟨A6, c6, rfl⟩ := hx6.len
      rw [HYX.out] at hx6 ⊢
      obtain ⟨W6, hW6⟩ : ∃ W6, W6 = w6.alloc (.cells #[.int .i64 L2, .int .i64 C2] 31) := ⟨_, rfl⟩
      have hbw : Below w6.heap.size w6 W6 := by rw [hW6]; exact (Below.refl _ _).alloc (Nat.le_refl _) _
      have hq := hb6.trans (hbw.mono hb6.size)
      have HY6 := Lib.hid (hx6.below hbw)
      have HX6 := Lib.hid (HX5.out.below hq)
      have HB6 := Lib.hid (HB5.out.trans (hq.mono HB5.out.size))
      have HW6 := Lib.hid hW6
      clear hx6 hb6 hbw hq hW6 HS5 HB5 HX5 HW5
      go_wp2_with fail
      rw [← HW6.out]
      go_loopw [15] (fun i wr => ∃ k, k ≤ X.length ∧ i = .int .i64 (k : Nat) ∧ Below W6.heap.size W6 wr) (fun i _ => X.length - (intOf i).toNat)
      case atStart => exact ⟨0, by omega, rfl, Below.refl _ _⟩
      case round =>
        obtain ⟨k, hk, rfl, hBk⟩ := hrel
        have HBK := Lib.hid hBk
        by_cases hkx : k < X.length
        · have hkx' : (k : Int) < X.length := by omega
          have hky : k < Y.length := by rw [HYX.out]; exact hkx
          have hrw := HRO.out.at_ k hkx hky
          have hln := hrw.len
          obtain ⟨xs, hxs0⟩ : ∃ xs, X[k] = xs := ⟨_, rfl⟩
          obtain ⟨ys, hys0⟩ : ∃ ys, Y[k] = ys := ⟨_, rfl⟩
          have hsm : xs.length ≤ 2000 := by rw [← hxs0]; exact HSM.out k hkx
          rw [hxs0, hys0] at hrw hln
          obtain ⟨gx, ox, gxk, cx, rfl, xx0, xm1, xx1⟩ := (HX6.out.below hBk).row_ hkx hxs0
          obtain ⟨gy, oy, gyk, cy, rfl, yy0, ym1, yy1⟩ := (HY6.out.below hBk).row_ hky hys0
          rw [← hln] at yy0 ym1
          have HXX := Lib.hid xx1
          have HYY := Lib.hid yy1
          have HRW := Lib.hid hrw
          have HLN := Lib.hid hln
          have hxm : (xs.length : Int) ≤ cx := by omega
          have hym : (xs.length : Int) ≤ cy := by omega
          clear xx1 yy1 hrw hln hxs0 hys0 hBk
          go_wp2_with fail
          go_quiet (fail)
          go_wp2_with fail
          rename_i nq _
          go_loopw [16] (fun i wr2 => ∃ j, j ≤ xs.length ∧ i = .int .i64 (j : Nat) ∧ Below wr.heap.size wr wr2) (fun i _ => xs.length - (intOf i).toNat)
          case atStart => exact ⟨0, by omega, rfl, below_drewN (Below.refl _ _) _⟩
          case round =>
            obtain ⟨j, hj, rfl, hBj⟩ := hrel
            have HBJ := Lib.hid hBj
            have x0 := (hBj.cell (p := ⟨gx, ox + k, none⟩) (cell_lt xx0)).trans xx0
            have y0 := (hBj.cell (p := ⟨gy, oy + k, none⟩) (cell_lt yy0)).trans yy0
            by_cases hji : j < xs.length
            · have hji' : (j : Int) < xs.length := by omega
              have hjy : j < ys.length := by rw [← HLN.out]; exact hji
              obtain ⟨p1, p2, p3⟩ := HXX.out j hji
              obtain ⟨q1, q2, q3⟩ := HYY.out j hjy
              obtain ⟨ht, hl, hc⟩ := HRW.out.at_ j hji hjy
              rw [← ht] at q1
              rw [← hl] at q2
              have x1 := (hBj.cell (p := ⟨gxk, j * 3, none⟩) (cell_lt p1)).trans p1
              have x2 := (hBj.cell (p := ⟨gxk, j * 3 + 1, none⟩) (cell_lt p2)).trans p2
              have x3 := (hBj.cell (p := ⟨gxk, j * 3 + 2, none⟩) (cell_lt p3)).trans p3
              have y1 := (hBj.cell (p := ⟨gyk, j * 3, none⟩) (cell_lt q1)).trans q1
              have y2 := (hBj.cell (p := ⟨gyk, j * 3 + 1, none⟩) (cell_lt q2)).trans q2
              have y3 := (hBj.cell (p := ⟨gyk, j * 3 + 2, none⟩) (cell_lt q3)).trans q3
              obtain ⟨xt, hxt⟩ : ∃ xt : ByteArray, xt = ⟨xs[j].text.toArray⟩ := ⟨_, rfl⟩
              obtain ⟨xl, hxl⟩ : ∃ xl, xl = xs[j].line := ⟨_, rfl⟩
              obtain ⟨xc, hxc⟩ : ∃ xc, xc = xs[j].col := ⟨_, rfl⟩
              obtain ⟨yc, hyc⟩ : ∃ yc, yc = ys[j].col := ⟨_, rfl⟩
              rw [← hxt] at x1 y1
              rw [← hxl] at x2 y2
              rw [← hxc] at x3 hc
              rw [← hyc] at y3 hc
              have hc' : (xc : Int) ≤ yc := by omega
              clear hxt hxl hxc hyc hc ht hl hBj p1 p2 p3 q1 q2 q3 hjy xx0 yy0
              go_wp2_with fail
              go_quiet (fail)
              go_wp2_with fail
              go_roundw
              case rel => exact ⟨j + 1, by omega, by go_num, below_drewN HBJ.out _⟩
              case measure => simp [intOf]; omega
            · obtain rfl : j = xs.length := by omega
              have HQ := Lib.hid (HBK.out.trans (hBj.mono HBK.out.size))
              clear hBj xx0 yy0
              go_wp2_with fail
              go_roundw
              case rel => exact ⟨k + 1, by omega, by go_num, HQ.out⟩
              case measure => simp [intOf]; omega
        · obtain rfl : k = X.length := by omega
          clear hBk
          go_wp2_with fail
          refine (known_any wr).mono ?_
          rintro e wk ⟨rfl, hbk⟩
          have HQ := Lib.hid (HB6.out.trans (HBK.out.mono HB6.out.size))
          have HQ2 := Lib.hid (HQ.out.trans (hbk.mono HQ.out.size))
          clear hbk
          go_wp2_with fail
          go_ret
          exact ⟨rfl, HQ2.out⟩
end Go.Proofs.Ytnfkeaplglknlaa.words
