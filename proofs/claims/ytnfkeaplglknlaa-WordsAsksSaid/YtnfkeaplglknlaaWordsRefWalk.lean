/- the document's answer for words, walked: a line. -/
import Derived.Test.YtnfkeaplglknlaaWordsRefLaw
import Derived.Test.YtnfkeaplglknlaaWordsBackOne
import Derived.Test.YtnfkeaplglknlaaAppendN
namespace Go.Proofs.Ytnfkeaplglknlaa.words
open Go.RowKit
open Go.Proofs.Ytnfkeaplglknlaa.aid

set_option maxHeartbeats 1000000 in
theorem rblank_any (b : UInt8) (w : World) :
    Calls Try.prog 27 #[.int .u8 (b.toNat : Nat)] w fun e w' => e = .returned (.bool (isBlank b)) ∧ w = w' := by
  have hb := b.toNat_lt
  unfold isBlank
  obtain ⟨n, hn⟩ : ∃ n, n = b.toNat := ⟨_, rfl⟩
  rw [← hn] at hb ⊢
  clear hn
  rcases (show n = 32 ∨ n = 9 ∨ (n ≠ 32 ∧ n ≠ 9) from by omega) with rfl | rfl | ⟨h1, h2⟩
  all_goals (try have e1 : ((n : Int) == 32) = false := beq_eq_false_iff_ne.2 (by omega))
  all_goals (try have e2 : ((n : Int) == 9) = false := beq_eq_false_iff_ne.2 (by omega))
  all_goals (try have e3 : (n == 32) = false := beq_eq_false_iff_ne.2 (by omega))
  all_goals (try have e4 : (n == 9) = false := beq_eq_false_iff_ne.2 (by omega))
  all_goals go_enter Try.func27, Try.ntmps27
  all_goals go_wp2
  all_goals go_ret
  all_goals refine ⟨?_, rfl⟩
  · rfl
  · rfl
  · rw [e3, e4]; rfl

set_option maxHeartbeats 16000000 in
set_option maxRecDepth 100000 in
theorem rline_any (x : List UInt8) (A : Option Addr) (c n : Nat) (hc : x.length ≤ c) (hl : x.length ≤ 2000) (hn : n ≤ 3000) (w : World) (hr : Row w w.heap.size A (u8s x)) :
    Calls Try.prog 28 #[.slice A x.length c, .int .i64 (n : Nat)] w fun e w' => ∃ v, e = .returned v ∧ w'.ownsRow w.heap.size 36 3 v (lineOf x n).length (wcells (lineOf x n)) ∧ Below w.heap.size w w' := by
  obtain ⟨i0, hi0, hq0, hq1, hq2⟩ := info_parts word_info
  have hcc : (x.length : Int) ≤ c := by omega
  have HR := Lib.hid hr
  clear hr
  go_enter Try.func28, Try.ntmps28
  go_wp2_with fail
  go_loopw [5, 6] (fun v i wr => ∃ k row, k ≤ x.length ∧ i = .int .i64 (k : Nat) ∧ Hid (wds x n 1 [] [] = wds (x.drop k) n (k + 1) [] row) ∧ Hid (row = [] ∨ told row = true) ∧ row.length ≤ k ∧ Hid (wr.ownsRow w.heap.size 36 3 v row.length (wcells row)) ∧ Below w.heap.size w wr) (fun _ i _ => x.length - (intOf i).toNat)
  case atStart => exact ⟨0, [], by omega, rfl, Lib.hid rfl, Lib.hid (.inl rfl), by simp, Lib.hid (World.ownsRow_nil _ _ _ _), Below.refl _ _⟩
  case round =>
    obtain ⟨k, row, hk, rfl, hwd, htd, hrk, hO, hB⟩ := hrel
    by_cases hlt : k < x.length
    · have hlt' : (k : Int) < x.length := by omega
      obtain ⟨g, o, rfl, hgb, hcl⟩ := (HR.out.below hB).at_ (k := k) (by rw [List.length_map]; exact hlt)
      have HCL := Lib.hid (fun i (h : i < x.length) => hcl i _ (u8s_at x i h))
      have hc0 := HCL.out k hlt
      have HBK := Lib.hid hB
      by_cases hbl : isBlank x[k] = true
      · have HBL := Lib.hid (rblank_any x[k] wr)
        rw [hbl] at HBL
        have HW2 : Hid (wds x n 1 [] [] = wds (x.drop (k + 1)) n (k + 1 + 1) [] row) := Lib.hid (by rw [hwd.out, List.drop_eq_getElem_cons hlt, wds_blank _ _ _ _ _ hbl])
        obtain ⟨y, hy⟩ : ∃ y, y = x[k].toNat := ⟨_, rfl⟩
        rw [← hy] at hc0 HBL
        clear hcl hbl hy hB
        go_wp2_with fail
        refine HBL.out.mono ?_
        rintro e w1 ⟨rfl, rfl⟩
        go_wp2_with fail
        go_roundw
        case rel => exact ⟨k + 1, row, by omega, by go_num, HW2, htd, by omega, hO, HBK.out⟩
        case measure => simp [intOf]; omega
      · have hbl' : isBlank x[k] = false := by simpa using hbl
        have HBL := Lib.hid (rblank_any x[k] wr)
        rw [hbl'] at HBL
        have HB0 := Lib.hid hbl'
        obtain ⟨Av, cv, rfl⟩ := own_slice hO.out
        obtain ⟨y, hy⟩ : ∃ y, y = x[k].toNat := ⟨_, rfl⟩
        rw [← hy] at hc0 HBL
        have HY := Lib.hid hy
        clear hcl hbl hbl' hy hB
        go_wp2_with fail
        refine HBL.out.mono ?_
        rintro e w1 ⟨rfl, rfl⟩
        clear HBL
        go_wp2_with fail
        go_loop [6] (fun i => ∃ m, k ≤ m ∧ m ≤ x.length ∧ i = .int .i64 (m : Nat) ∧ Hid (∀ b ∈ (x.drop k).take (m - k), isBlank b = false)) (fun i => x.length - (intOf i).toNat)
        case atStart => exact ⟨k, by omega, by omega, rfl, Lib.hid (by simp)⟩
        case round =>
          obtain ⟨m, hkm, hm, rfl, hvs⟩ := hrel
          by_cases hgo : ∃ h : m < x.length, isBlank x[m] = false
          · obtain ⟨hml, hmb⟩ := hgo
            have hml' : (m : Int) < x.length := by omega
            have hc1 := HCL.out m hml
            have HBM := Lib.hid (rblank_any x[m] wr)
            rw [hmb] at HBM
            have HV2 : Hid (∀ b ∈ (x.drop k).take (m + 1 - k), isBlank b = false) := Lib.hid (by
              have e : (x.drop k).take (m + 1 - k) = (x.drop k).take (m - k) ++ [x[m]] := by
                rw [show m + 1 - k = m - k + 1 by omega, List.take_succ_eq_append_getElem (by rw [List.length_drop]; omega), List.getElem_drop]
                congr 3
                omega
              rw [e]
              intro b hb
              rcases List.mem_append.1 hb with hb | hb
              · exact hvs.out b hb
              · rw [List.mem_singleton] at hb
                rw [hb]
                exact hmb)
            obtain ⟨z, hz⟩ : ∃ z, z = x[m].toNat := ⟨_, rfl⟩
            rw [← hz] at hc1 HBM
            clear hmb hz
            go_wp2_with fail
            refine HBM.out.mono ?_
            rintro e w1 ⟨rfl, rfl⟩
            go_wp2_with fail
            go_round
            case rel => exact ⟨m + 1, by omega, by omega, by go_num, HV2⟩
            case measure => simp [intOf]; omega
          · have hmk : k < m := by
              rcases Nat.lt_or_ge k m with h | h
              · exact h
              · obtain rfl : m = k := by omega
                exact absurd ⟨hlt, HB0.out⟩ hgo
            have hen : m = x.length ∨ ∃ h : m < x.length, isBlank x[m] = true := by
              by_cases h : m < x.length
              · refine .inr ⟨h, ?_⟩
                cases hq : isBlank x[m] with
                | true => rfl
                | false => exact absurd ⟨h, hq⟩ hgo
              · exact .inl (by omega)
            have hnx := wds_next x n k m row hmk hm hvs.out hen
            have hex : (x.length : Int) ≤ m ∨ ((m : Int) < x.length ∧ ∃ z : UInt8, wr.cell? ⟨g, o + m, none⟩ = some (.int .u8 (z.toNat : Nat)) ∧ isBlank z = true) := by
              rcases hen with h | ⟨h, hb⟩
              · exact .inl (by omega)
              · exact .inr ⟨by omega, x[m], HCL.out m h, hb⟩
            obtain ⟨t, ht⟩ : ∃ t, t = (x.drop k).take (m - k) := ⟨_, rfl⟩
            have htl : t.length = m - k := by rw [ht, List.length_take, List.length_drop]; omega
            have hth : t.head? = some x[k] := by
              rw [ht, List.head?_take, if_neg (by omega), List.head?_drop, List.getElem?_eq_getElem hlt]
            have hcv0 := str_part (HR.out.below HBK.out) k (m - k) (c - k) (by omega)
            rw [← ht] at hnx hcv0
            obtain ⟨S, hS⟩ : ∃ S : ByteArray, S = ⟨t.toArray⟩ := ⟨_, rfl⟩
            rw [← hS] at hcv0
            have hck : ¬ c = k := by omega
            have hwd2 := hwd.out.trans hnx
            have HW2 := Lib.hid hwd2
            have HWC : Hid (wcells (row ++ [⟨t, n, k + 1⟩]) = wcells row ++ [.string S, .int .i64 (n : Nat), .int .i64 ((k : Int) + 1)]) := Lib.hid (by rw [wcells_snoc, hS]; rfl)
            have k1 : (k : Int) ≤ m := by omega
            have k2 : (m : Int) ≤ c := by omega
            have hyk := HY.out
            have hpart : (row = [] ∧ y = 35) ∨ ((row = [] ∧ y ≠ 35) ∨ row ≠ []) := by
              by_cases h1 : row = []
              · by_cases h2 : y = 35
                · exact .inl ⟨h1, h2⟩
                · exact .inr (.inl ⟨h1, h2⟩)
              · exact .inr (.inr h1)
            rcases hpart with ⟨hr0, h35⟩ | hpart
            · have HE : Hid (lineOf x n = []) := Lib.hid (by
                obtain ⟨r, hr⟩ := wds_pre (x.drop m) n (m + 1) [] (row ++ [⟨t, n, k + 1⟩])
                have e35 : x[k] = 35 := UInt8.toNat_inj.1 (by rw [← hyk, h35]; rfl)
                unfold lineOf
                rw [hwd2, hr, told_pre (by simp), hr0]
                have : told ([] ++ [(⟨t, n, k + 1⟩ : Wd)]) = (t.head? != some 35) := rfl
                rw [this, hth, e35]
                rfl)
              have r1 : ((row.length : Int) == 0) = true := by rw [hr0]; rfl
              have r2 : ((y : Int) == 35) = true := by rw [h35]; rfl
              clear hnx hwd2 ht htl hth hS hyk hr0 h35 hgo hen hcv0
              rcases hex with q1 | ⟨q1, z, q2, q3⟩
              · go_wp2_with fail
                go_ret
                rw [HE.out]
                exact ⟨_, rfl, World.ownsRow_nil _ _ _ _, HBK.out⟩
              · have HBM := Lib.hid (rblank_any z wr)
                rw [q3] at HBM
                clear q3
                obtain ⟨z', hz⟩ : ∃ z', z' = z.toNat := ⟨_, rfl⟩
                rw [← hz] at q2 HBM
                clear hz
                go_wp2_with fail
                refine HBM.out.mono ?_
                rintro e w1 ⟨rfl, rfl⟩
                go_wp2_with fail
                go_ret
                rw [HE.out]
                exact ⟨_, rfl, World.ownsRow_nil _ _ _ _, HBK.out⟩
            · have HT2 : Hid (row ++ [(⟨t, n, k + 1⟩ : Wd)] = [] ∨ told (row ++ [⟨t, n, k + 1⟩]) = true) := Lib.hid (.inr (by
                rcases hpart with ⟨h1, h2⟩ | h1
                · rw [h1]
                  have : told ([] ++ [(⟨t, n, k + 1⟩ : Wd)]) = (t.head? != some 35) := rfl
                  rw [this, hth, bne_iff_ne]
                  intro e
                  injection e with e
                  rw [e] at hyk
                  exact h2 hyk
                · rw [told_pre h1]
                  exact htd.out.resolve_left h1))
              have r1 : (((row.length : Int) == 0) = true ∧ ((y : Int) == 35) = false) ∨ ((row.length : Int) == 0) = false := by
                rcases hpart with ⟨h1, h2⟩ | h1
                · exact .inl ⟨by rw [h1]; rfl, beq_eq_false_iff_ne.2 (by omega)⟩
                · exact .inr (beq_eq_false_iff_ne.2 (by have := List.length_pos_iff.2 h1; omega))
              have HOA := Lib.hid (hO.out.alloc (.cells #[.string S, .int .i64 (n : Nat), .int .i64 ((k : Int) + 1)] 36))
              have HBA := Lib.hid (HBK.out.alloc HBK.out.size (.cells #[.string S, .int .i64 (n : Nat), .int .i64 ((k : Int) + 1)] 36))
              clear hnx hwd2 ht htl hth hS hyk hgo hen hpart
              rcases r1 with ⟨r1, r2⟩ | r1 <;> rcases hex with q1 | ⟨q1, z, q2, q3⟩
              all_goals (try (have HBM := Lib.hid (rblank_any z wr); rw [q3] at HBM; clear q3; obtain ⟨z', hz⟩ : ∃ z', z' = z.toNat := ⟨_, rfl⟩; rw [← hz] at q2 HBM; clear hz))
              all_goals
                go_wp2_with (first | (at_builtin; go_must (refine wpList_append_rowN _ rfl (.tmp 44) (.tmp 54) 37 rfl w.heap.size 36 i0 _ 3 32 (by omega) rfl hi0 hq0 hq1 hq2 rfl _ row.length _ rfl HOA.out _ (some ⟨wr.heap.size, 0, none⟩) 1 1 [.string S, .int .i64 (n : Nat), .int .i64 ((k : Int) + 1)] rfl rfl (Row.new wr 36 #[.string S, .int .i64 (n : Nat), .int .i64 ((k : Int) + 1)]) (by simp [Value.oneCell']) (by unfold maxLen; omega) (by omega) HBA.out.size ?_; intro v5 w5 hown5 hg5 hat5; rw [← HWC.out] at hown5; have HO5 := Lib.hid hown5; have HB5 := Lib.hid (HBA.out.grown hg5 HBA.out.size (fun k' e => (own_lt HOA.out e).1)); clear hown5 hg5 hat5)) | ((refine HBM.out.mono ?_); rintro e w1 ⟨rfl, rfl⟩))
                go_wp2_with fail
                go_roundw
                case rel => exact ⟨m, _, by omega, rfl, HW2, HT2, by rw [List.length_append, List.length_singleton]; omega, by rw [List.length_append, List.length_singleton]; exact HO5, HB5.out⟩
                case measure => simp [intOf]; omega
    · obtain rfl : k = x.length := by omega
      have HE : Hid (lineOf x n = row) := Lib.hid (by
        have h := hwd.out
        rw [List.drop_length] at h
        have e : wds [] n (x.length + 1) [] row = row := by unfold wds; exact kp_nil _ _ _
        rw [e] at h
        unfold lineOf
        rw [h]
        rcases htd.out with h2 | h2
        · rw [h2]; split <;> rfl
        · rw [if_pos h2])
      go_wp2_with fail
      go_ret
      rw [HE.out]
      exact ⟨_, rfl, hO.out, hB⟩
end Go.Proofs.Ytnfkeaplglknlaa.words
