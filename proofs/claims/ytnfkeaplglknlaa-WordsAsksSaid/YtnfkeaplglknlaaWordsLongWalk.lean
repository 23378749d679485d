/- WordsLong, walked. -/
import Derived.Test.YtnfkeaplglknlaaWordsKnown
namespace Go.Proofs.Ytnfkeaplglknlaa.words
open Go.RowKit
open Go.Proofs.Ytnfkeaplglknlaa.aid

theorem good_nat (b : UInt8) : good b = !((decide (b.toNat < 32) && (b.toNat != 9 && b.toNat != 10)) || decide (126 < b.toNat)) := by
  unfold good isEnd isBlank isVis
  obtain ⟨n, hn⟩ : ∃ n, n = b.toNat := ⟨_, rfl⟩
  rw [← hn]
  rw [Bool.eq_iff_iff]
  simp only [Bool.or_eq_true, beq_iff_eq, Bool.and_eq_true, decide_eq_true_eq, Bool.not_eq_true', Bool.or_eq_false_iff, Bool.and_eq_false_iff, decide_eq_false_iff_not, bne_eq_false_iff_eq]
  omega
theorem split_le {l : List UInt8} (h : l.length ≤ 1048576) : (split l).err ≤ 20 ∧ (split l).line ≤ 1048577 ∧ (split l).col ≤ 1048577 := by
  rw [split_err h]
  refine ⟨by split <;> omega, ?_⟩
  unfold split
  rw [if_neg (by omega)]
  by_cases he : (scan l 1 1 [] [] []).err = 0
  · have : ∀ (l : List UInt8) (n c : Nat) (cur : List UInt8) (row : List Wd) (out : List (List Wd)), (scan l n c cur row out).err = 0 → (scan l n c cur row out).line = 0 ∧ (scan l n c cur row out).col = 0 := by
      intro l
      induction l with
      | nil => intros; exact ⟨rfl, rfl⟩
      | cons b r ih =>
        intro n c cur row out h
        unfold scan at h ⊢
        by_cases h1 : isEnd b = true
        · rw [if_pos h1] at h ⊢; exact ih _ _ _ _ _ h
        · rw [if_neg h1] at h ⊢
          by_cases h2 : isBlank b = true
          · rw [if_pos h2] at h ⊢; exact ih _ _ _ _ _ h
          · rw [if_neg h2] at h ⊢
            by_cases h3 : isVis b = true
            · rw [if_pos h3] at h ⊢; exact ih _ _ _ _ _ h
            · rw [if_neg h3] at h; simp at h
    obtain ⟨h1, h2⟩ := this l 1 1 [] [] [] he
    rw [h1, h2]
    omega
  · obtain ⟨_, _, h1, h2⟩ := scan_place l 1 1 [] [] [] (Nat.le_refl _) (Nat.le_refl _) he
    omega

set_option maxHeartbeats 8000000 in
set_option maxRecDepth 100000 in
theorem wordsLong_walk (w : World) (l0 : List UInt8) (A0 : Option Addr) (c0 : Nat) (a1 a2 : Int) (n0 : l0.length ≤ 9223372036854775807) (r0 : Row w w.heap.size A0 (u8s l0)) (h1 : 0 ≤ a1 ∧ a1 ≤ 255) (h2 : 0 ≤ a2 ∧ a2 ≤ 255) :
    Calls Try.prog 4 #[.slice A0 l0.length c0, .int .u8 a1, .int .u8 a2] w fun e w' => e = .returned (.bool true) ∧ Below w.heap.size w w' := by
  obtain ⟨at_, rfl⟩ : ∃ k : Nat, a2 = (k : Int) := ⟨a2.toNat, by omega⟩
  obtain ⟨y, rfl⟩ : ∃ y : UInt8, a1 = (y.toNat : Int) := ⟨aid.byteOf a1, (aid.byteOf_toNat h1.1 h1.2).symm⟩
  have hy := y.toNat_lt
  have hat : at_ < 256 := by omega
  have hat' : (at_ : Int) ≤ 255 := by omega
  have HTX := Lib.hid (fun W h => text_any l0 A0 c0 n0 W h)
  have HR0 := Lib.hid r0
  obtain ⟨Z, hZ⟩ : ∃ Z : List UInt8, Z.length = 1048577 := ⟨List.replicate 1048577 0, List.length_replicate⟩
  have hsz : split Z = ⟨[], 21, 0, 0⟩ := by unfold split; rw [if_pos (by omega)]
  have HLZ := Lib.hid (fun A c W => split_long Z A c (by omega) W)
  unfold SplitPost at HLZ
  rw [hsz, hZ] at HLZ
  obtain ⟨i0, hi0, hz0, hz1, hz2⟩ := info_parts byte_info
  clear r0 h1 h2 hsz hZ
  go_enter Try.func4, Try.ntmps4
  go_wp2_with (at_make; refine wpList_make_full _ rfl _ _ 22 rfl w.heap.size 5 i0 _ 1 rfl hi0 hz0 hz1 .i64 .i64 1048577 1048577 1048577 rfl rfl (by omega) (by omega) (by rw [hz2]; decide) (by unfold maxLen; decide) (Nat.le_refl _) ?_; intro wA hownA hgA; have HBA := Lib.hid (grown_old hgA (Nat.le_refl _) (by simp)); clear hownA hgA)
  refine (HLZ.out _ _ wA).mono ?_
  rintro e w1 ⟨v1, rfl, -, hb1⟩
  obtain ⟨W1, hW1⟩ : ∃ W1, W1 = w1.alloc (.cells #[.int .i64 0, .int .i64 0] 31) := ⟨_, rfl⟩
  have hbw : Below w1.heap.size w1 W1 := by rw [hW1]; exact (Below.refl _ _).alloc (Nat.le_refl _) _
  have HP1 := Lib.hid (show Blk W1 w1.heap.size 31 #[.int .i64 0, .int .i64 0] from by rw [hW1]; exact Blk.new w1 _ _)
  have hq := HBA.out.trans (hb1.mono HBA.out.size)
  have HB1 := Lib.hid (hq.trans (hbw.mono hq.size))
  have HT1 := Lib.hid (HTX.out W1 ((HR0.out.below HB1.out).more HB1.out.size))
  have HW1 := Lib.hid hW1
  clear hb1 hbw hq hW1 HLZ HBA HTX HR0
  go_wp2_with fail
  rw [← HW1.out]
  refine HT1.out.mono ?_
  rintro e w2 ⟨v2, rfl, hown2, hb2⟩
  have htl := textOf_len l0
  obtain ⟨tt, htt⟩ : ∃ tt, tt = textOf l0 := ⟨_, rfl⟩
  rw [← htt] at hown2 htl
  obtain ⟨A2, c2, rfl, hc2, -⟩ := own_form hown2
  have hr2 := of_own hown2
  have HS2 := Lib.hid (split_any tt A2 c2 hc2 w2 hr2)
  have HR2 := Lib.hid hr2
  have HP2 := Lib.hid (HP1.out.below hb2 HP1.out.lt)
  have HB2 := Lib.hid (HB1.out.trans (hb2.mono HB1.out.size))
  clear hown2 hr2 hb2 htt HT1 HP1 HB1
  unfold SplitPost at HS2
  have hs1 := split_err (l := tt) (by omega)
  obtain ⟨E1, hE1⟩ : ∃ E1, E1 = (split tt).err := ⟨_, rfl⟩
  obtain ⟨L1, hL1⟩ : ∃ L1, L1 = (split tt).line := ⟨_, rfl⟩
  obtain ⟨C1, hC1⟩ : ∃ C1, C1 = (split tt).col := ⟨_, rfl⟩
  rw [← hE1, ← hL1, ← hC1] at HS2
  rw [← hE1] at hs1
  have HE1 := Lib.hid hs1
  clear hs1
  clear hE1 hL1 hC1
  go_wp2_with fail
  refine HS2.out.mono ?_
  rintro e w3 ⟨v3, rfl, -, hb3⟩
  obtain ⟨W3, hW3⟩ : ∃ W3, W3 = w3.alloc (.cells #[.int .i64 L1, .int .i64 C1] 31) := ⟨_, rfl⟩
  have hbw : Below w3.heap.size w3 W3 := by rw [hW3]; exact (Below.refl _ _).alloc (Nat.le_refl _) _
  have hq := HB2.out.trans (hb3.mono HB2.out.size)
  have HB3 := Lib.hid (hq.trans (hbw.mono hq.size))
  have hq2 := (HP2.out.below hb3 HP2.out.lt)
  have HP3 := Lib.hid (hq2.below hbw hq2.lt)
  have HR3 := Lib.hid ((((HR2.out.below hb3).more hb3.size).below hbw).more hbw.size)
  have HW3 := Lib.hid hW3
  clear hb3 hbw hq hq2 hW3 HS2 HB2 HP2 HR2
  obtain ⟨i, hi⟩ : ∃ i, i = at_ % (tt.length + 1) := ⟨_, rfl⟩
  have hxi : ((at_ : Int) % ((tt.length : Int) + 1)) = (i : Int) := by rw [hi]; rfl
  have hil : i ≤ tt.length := by have := Nat.mod_lt at_ (show 0 < tt.length + 1 by omega); omega
  have hil1 : (i : Int) ≤ tt.length := by omega
  have hil2 : (i : Int) ≤ c2 := by omega
  have htk : (tt.take i).length = i := by rw [List.length_take]; omega
  have hdk : (tt.drop i).length = tt.length - i := by rw [List.length_drop]
  have hxt : ((at_ : Int).tmod ((tt.length : Int) + 1)) = (i : Int) := by rw [Int.tmod_eq_emod_of_nonneg (by omega)]; exact hxi
  clear hi
  have HTK := Lib.hid htk
  have HDK := Lib.hid hdk
  have HTL := Lib.hid htl
  have HIL := Lib.hid hil
  clear htk hdk
  go_wp2_with (first
    | (at_builtin; (rw [← HW3.out]); refine wpList_append_row _ rfl (.tmp 42) (.tmp 45) 22 rfl W3.heap.size 5 i0 _ 1 rfl hi0 hz0 hz1 hz2 rfl (.slice none 0 0) 0 [] rfl (World.ownsRow_nil _ _ _ _) _ A2 i c2 (u8s (tt.take i)) rfl (by rw [List.length_map]; exact HTK.out) (by rw [← u8s_take']; exact HR3.out.take i) (one_bytes _) (by have := HTL.out; have := HIL.out; unfold maxLen; omega) (by have := HTL.out; have := HIL.out; omega) (Nat.le_refl _) ?_; intro v4 w4 hown4 hg4 hat4; rw [Nat.zero_add, List.nil_append] at hown4; have hb4 := grown_below (Below.refl W3.heap.size W3) (World.ownsRow_nil W3 W3.heap.size 5 1) (Nat.le_refl _) (Nat.le_refl _) hg4; obtain ⟨A4, c4, rfl, -, -⟩ := own_form hown4; have HO4 := Lib.hid (hown4.alloc (.cells #[.int .u8 (y.toNat : Int)] 5)); have HB4 := Lib.hid (hb4.alloc hb4.size (.cells #[.int .u8 (y.toNat : Int)] 5)); clear hown4 hg4 hat4 hb4)
    | (at_builtin; refine wpList_append_row _ rfl (.tmp 47) (.tmp 49) 22 rfl W3.heap.size 5 i0 _ 1 rfl hi0 hz0 hz1 hz2 rfl (.slice A4 i c4) i (u8s (tt.take i)) rfl HO4.out _ (some ⟨w4.heap.size, 0, none⟩) 1 1 [.int .u8 (y.toNat : Int)] rfl rfl (Row.new w4 5 #[.int .u8 (y.toNat : Int)]) (by simp [Value.oneCell']) (by have := HTL.out; have := HIL.out; unfold maxLen; omega) (by have := HTL.out; have := HIL.out; omega) HB4.out.size ?_; intro v5 w5 hown5 hg5 hat5; rw [u8s_snoc_] at hown5; have hb5 := grown_below HB4.out HO4.out (Nat.le_refl _) HB4.out.size hg5; obtain ⟨A5, c5, rfl, -, -⟩ := own_form hown5; have HO5 := Lib.hid hown5; have HB5 := Lib.hid hb5; have HR5 := Lib.hid ((HR3.out.below hb5).more hb5.size); clear hown5 hg5 hat5 hb5)
    | (at_builtin; go_must (refine wpList_append_row _ rfl (.tmp 51) (.tmp 54) 22 rfl W3.heap.size 5 i0 _ 1 rfl hi0 hz0 hz1 hz2 rfl (.slice A5 (i + 1) c5) (i + 1) (u8s (tt.take i ++ [y])) rfl HO5.out _ _ (tt.length - i) (c2 - i) (u8s (tt.drop i)) rfl (by rw [List.length_map]; exact HDK.out) (by rw [← u8s_drop']; exact HR5.out.drop (by rw [List.length_map]; omega)) (one_bytes _) (by have := HTL.out; have := HIL.out; unfold maxLen; omega) (by have := HTL.out; have := HIL.out; omega) HB5.out.size ?_; intro v6 w6 hown6 hg6 hat6; have hb6 := grown_below HB5.out HO5.out (Nat.le_refl _) HB5.out.size hg6; obtain ⟨A6, c6, rfl, hc6, -⟩ := own_form hown6; have HO6 := Lib.hid hown6; have HB6 := Lib.hid hb6; clear hown6 hg6 hat6 hb6)))
  all_goals
    obtain ⟨ss, hss⟩ : ∃ ss, ss = (tt.take i ++ [y]) ++ tt.drop i := ⟨_, rfl⟩
    have hsl : ss.length = i + 1 + (tt.length - i) := by rw [hss, List.length_append, List.length_append, HTK.out, HDK.out]; rfl
    have hall : ss.all good = (tt.all good && good y) := by
      rw [hss, List.all_append, List.all_append]
      conv => rhs; rw [← List.take_append_drop i tt, List.all_append]
      simp [Bool.and_assoc, Bool.and_comm, Bool.and_left_comm]
    have hr6 : Row w6 w6.heap.size A6 (u8s ss) := by
      have h := of_own HO6.out
      rw [show u8s (tt.take i ++ [y]) ++ u8s (tt.drop i) = u8s ss from by rw [hss]; simp [u8s]] at h
      exact h
    have hs2 := split_err (l := ss) (by have := HTL.out; have := HIL.out; omega)
    rw [hall] at hs2
    have HS6 := split_any ss A6 c6 (by rw [hsl]; exact hc6) w6 hr6
    unfold SplitPost at HS6
    rw [hsl] at HS6
    have HS6 := Lib.hid HS6
    obtain ⟨E2, hE2⟩ : ∃ E2, E2 = (split ss).err := ⟨_, rfl⟩
    obtain ⟨L2, hL2⟩ : ∃ L2, L2 = (split ss).line := ⟨_, rfl⟩
    obtain ⟨C2, hC2⟩ : ∃ C2, C2 = (split ss).col := ⟨_, rfl⟩
    rw [← hE2, ← hL2, ← hC2] at HS6
    rw [← hE2] at hs2
    have hE := HE1.out
    have hgy := good_nat y
    have HP6 := Lib.hid (HP3.out.below HB6.out HP3.out.lt)
    have HB6' := Lib.hid (HB3.out.trans (HB6.out.mono HB3.out.size))
    obtain ⟨n, hn⟩ : ∃ n, n = y.toNat := ⟨_, rfl⟩
    rw [← hn] at hgy hy ⊢
    clear hr6 hall hss hsl hE2 hL2 hC2 hn HO6 HB6 HO5 HB5 HR5 HO4 HB4 HP3 HB3 HR3 HTK HDK HE1 hxi hxt hil hil1 hil2 hat hat' HW1 HW3
    go_wp2_with fail
    refine HS6.out.mono ?_
    rintro e w7 ⟨v7, rfl, -, hb7⟩
    have HP7 := Lib.hid (HP6.out.below hb7 HP6.out.lt)
    have HB7 := Lib.hid (HB6'.out.trans (hb7.mono HB6'.out.size))
    obtain ⟨W7, hW7⟩ : ∃ W7, W7 = w7.alloc (.cells #[.int .i64 L2, .int .i64 C2] 31) := ⟨_, rfl⟩
    have hbw : Below w7.heap.size w7 W7 := by rw [hW7]; exact (Below.refl _ _).alloc (Nat.le_refl _) _
    have HP8 := Lib.hid (HP7.out.below hbw HP7.out.lt)
    have HB8 := Lib.hid (HB7.out.trans (hbw.mono HB7.out.size))
    have HW7 := Lib.hid hW7
    clear hb7 hbw hW7 HP7 HB7 HS6 HP6 HB6'
    have hcase : (n = 9 ∧ good y = true) ∨ (n = 10 ∧ good y = true) ∨ ((n < 32 ∧ n ≠ 9 ∧ n ≠ 10) ∧ good y = false) ∨ ((32 ≤ n ∧ n ≤ 126) ∧ good y = true) ∨ (126 < n ∧ good y = false) := by
      rw [hgy]
      rcases (show n = 9 ∨ n = 10 ∨ (n < 32 ∧ n ≠ 9 ∧ n ≠ 10) ∨ (32 ≤ n ∧ n ≤ 126) ∨ 126 < n from by omega) with h | h | ⟨h1, h2, h3⟩ | ⟨h1, h2⟩ | h
      · subst h; simp
      · subst h; simp
      · refine .inr (.inr (.inl ⟨⟨h1, h2, h3⟩, ?_⟩))
        simp [h1, h2, h3]
      · refine .inr (.inr (.inr (.inl ⟨⟨h1, h2⟩, ?_⟩)))
        have e1 : decide (n < 32) = false := by simp; omega
        have e2 : decide (126 < n) = false := by simp; omega
        rw [e1, e2]
        rfl
      · refine .inr (.inr (.inr (.inr ⟨h, ?_⟩)))
        simp [h]
    have hEE : (tt.all good = true ∧ E1 = 0) ∨ (tt.all good = false ∧ E1 = 20) := by
      cases hg : tt.all good
      · rw [hg] at hE; exact .inr ⟨rfl, by simpa using hE⟩
      · rw [hg] at hE; exact .inl ⟨rfl, by simpa using hE⟩
    clear hE hgy
    rcases hEE with ⟨hg, rfl⟩ | ⟨hg, rfl⟩ <;> rw [hg] at hs2 <;> rcases hcase with ⟨rfl, hq⟩ | ⟨rfl, hq⟩ | ⟨⟨q1, q2, q3⟩, hq⟩ | ⟨⟨q1, q2⟩, hq⟩ | ⟨q1, hq⟩ <;> rw [hq] at hs2 <;> simp only [Bool.and_true, Bool.and_false, if_true, if_false, Bool.false_eq_true, reduceIte] at hs2 <;> subst hs2
    all_goals (try have g1 : (n : Int) < 32 := by omega)
    all_goals (try have g2 : ((n : Int) != 9) = true := by simp; omega)
    all_goals (try have g3 : ((n : Int) != 10) = true := by simp; omega)
    all_goals (try have g4 : (32 : Int) ≤ n := by omega)
    all_goals (try have g5 : (n : Int) ≤ 126 := by omega)
    all_goals (try have g6 : (126 : Int) < n := by omega)
    all_goals (try have g7 : decide ((126 : Int) < (n : Int)) = true := by simp; omega)
    all_goals (try have g8 : decide ((126 : Int) < (n : Int)) = false := by simp; omega)
    all_goals (try have g9 : decide ((n : Int) < 32) = true := by simp; omega)
    all_goals (try have g10 : decide ((n : Int) < 32) = false := by simp; omega)
    all_goals
      go_wp2_with fail
      rw [← HW7.out]
      refine (known_any W7).mono ?_
      rintro e wk ⟨rfl, hbk⟩
      have hpk := HP8.out.below hbk HP8.out.lt
      have k0 : wk.cell? ⟨w1.heap.size, 0, none⟩ = some (.int .i64 0) := hpk.cell 0
      have k1 : wk.cell? ⟨w1.heap.size, 1, none⟩ = some (.int .i64 0) := hpk.cell 1
      have HBK := Lib.hid (HB8.out.trans (hbk.mono HB8.out.size))
      clear hpk hbk
      go_wp2_with fail
      go_ret
      exact ⟨rfl, HBK.out⟩
end Go.Proofs.Ytnfkeaplglknlaa.words
