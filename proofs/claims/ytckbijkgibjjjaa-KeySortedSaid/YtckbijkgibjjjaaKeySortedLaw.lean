/- the laws' helper 'sorted', walked. -/
import Derived.Test.YtckbijkgibjjjaaKeyLawA
import Derived.Test.YtckbijkgibjjjaaAppend
namespace Go.Proofs.Ytckbijkgibjjjaa.key
open Go.RowKit
open Go.Proofs.Ytckbijkgibjjjaa.aid

theorem less_self (a : List UInt8) : less a a = false := by
  have := (less_total a a).2
  simpa using this
theorem Rise.pair {ss : List ByteArray} (h : Rise ss ss.length) : ∀ (j i : Nat) (hi : i < j) (hj : j < ss.length), less (dl ss[i]) (dl ss[j]) = true
  | 0, _, hi, _ => by omega
  | j + 1, i, hi, hj => by
    have h1 := h j (by omega) hj
    by_cases e : i = j
    · subst e; exact h1
    · exact less_trans _ _ _ (Rise.pair h j i (by omega) (by omega)) h1
theorem rise_take {ss : List ByteArray} (h : rise ss = true) (i : Nat) : rise (ss.take i) = true := by
  rw [rise_iff] at h ⊢
  intro j hj hl
  simp only [List.length_take] at hj hl
  have := h j (by omega) (by omega)
  simpa using this
theorem rise_drop {ss : List ByteArray} (h : rise ss = true) (i : Nat) : rise (ss.drop i) = true := by
  rw [rise_iff] at h ⊢
  intro j hj hl
  simp only [List.length_drop] at hj hl
  have := h (i + j) (by omega) (by omega)
  simpa [Nat.add_assoc] using this
theorem rise_twice (ss : List ByteArray) (i : Nat) (hi : i < ss.length) : rise (ss.take (i + 1) ++ ss.drop i) = false := by
  refine rise_not _ i (by simp; omega) ?_
  have e1 : (ss.take (i + 1) ++ ss.drop i)[i]'(by simp; omega) = ss[i] := by
    rw [List.getElem_append_left (by simp; omega)]
    simp
  have e2 : (ss.take (i + 1) ++ ss.drop i)[i + 1]'(by simp; omega) = ss[i] := by
    rw [List.getElem_append_right (by simp; omega)]
    simp only [List.getElem_drop]
    congr 1
    simp
    omega
  rw [e1, e2]
  exact less_self _

theorem str_info : (Try.prog.info? 9).map (fun i => (i.zero, i.size, i.bytes)) = some (some (.string ByteArray.empty), 1, 16) := by kernel_rfl

abbrev bss (ss : List ByteArray) : List Value := ss.map .string

set_option maxHeartbeats 2000000 in
set_option maxRecDepth 100000 in
theorem sortedlaw_any (ss : List ByteArray) (A : Option Addr) (c : Nat) (x : Int) (hn : ss.length ≤ 30) (hcap : ss.length ≤ c) (hs : ∀ s ∈ ss, s.size ≤ 140737488351232) (hx : 0 ≤ x ∧ x ≤ 255) (w : World) (hr : Row w w.heap.size A (bss ss)) :
    Calls Try.prog 17 #[.slice A ss.length c, .int .u8 x] w fun e w' => e = .returned (.bool true) ∧ Below w.heap.size w w' := by
  obtain ⟨i0, hi0, hz0, hz1, hz2⟩ := info_parts str_info
  obtain ⟨hx0, hx1⟩ := hx
  have HR := Lib.hid hr
  have hs2 : ∀ s ∈ ss, s.size ≤ 9223372036854775807 := fun s h => by have := hs s h; omega
  have HS := Lib.hid hs2
  have HSO := Lib.hid (sorted_any ss A c (by omega) hs2 w hr)
  clear hs hr hs2
  by_cases h0 : ss.length = 0
  · have he : ss = [] := List.eq_nil_of_length_eq_zero h0
    subst he
    go_enter Try.func17, Try.ntmps17
    go_wp2_with fail
    refine HSO.out.mono ?_
    rintro e w1 ⟨rfl, hb1⟩
    go_wp2_with fail
    go_ret
    exact ⟨rfl, hb1⟩
  have hz : ((ss.length : Int) == 0) = false := beq_eq_false_iff_ne.2 (by omega)
  obtain ⟨b, off, rfl, hb, hc⟩ := HR.out.at_ (k := 0) (by simp; omega)
  have HC := Lib.hid hc
  clear hc
  obtain ⟨i, hxi⟩ := Int.eq_ofNat_of_zero_le (Int.emod_nonneg x (show (ss.length : Int) ≠ 0 by omega))
  have hilt : (i : Int) < ss.length := by rw [← hxi]; exact Int.emod_lt_of_pos x (by omega)
  have hi2 : i < ss.length := by omega
  have hic : (i : Int) + 1 ≤ c := by omega
  have hic2 : (i : Int) ≤ c := by omega
  have H2 := Lib.hid (rise_twice ss i hi2)
  have HT : Hid (rise ss = true → rise (ss.take i) = true ∧ rise (ss.drop i) = true) := Lib.hid (fun h => ⟨rise_take h i, rise_drop h i⟩)
  have HP : Hid (rise ss = true → ∀ (q p : Nat) (hp : p < q) (hq : q < ss.length), less (dl ss[p]) (dl ss[q]) = true) := Lib.hid (fun h q p hp hq => Rise.pair ((rise_iff ss).1 h) q p hp hq)
  clear h0
  generalize rise ss = r at *
  go_enter Try.func17, Try.ntmps17
  go_wp2_with fail
  refine HSO.out.mono ?_
  rintro e w1 ⟨rfl, hb1⟩
  go_wp2_with (first
    | (at_builtin; refine wpList_append_row _ rfl (.tmp 21) (.tmp 25) 22 rfl w.heap.size 9 i0 _ 16 rfl hi0 hz0 hz1 hz2 rfl (.slice none 0 0) 0 [] rfl (World.ownsRow_nil _ _ _ _) w.heap.size (some ⟨b, off, none⟩) (i + 1) c ((bss ss).take (i + 1)) rfl (by simp; omega) ((HR.out.below hb1).take (i + 1)) (fun u hu => one_strs ss u (List.mem_of_mem_take hu)) (by unfold maxLen; omega) (by omega) hb1.size ?_; intro v1 w2 hown1 hg1 hat1)
    | (at_builtin; refine wpList_append_row _ rfl (.tmp 27) (.tmp 30) 22 rfl w.heap.size 9 i0 _ 16 rfl hi0 hz0 hz1 hz2 rfl v1 _ _ rfl hown1 w.heap.size (some ⟨b, off + i, none⟩) (ss.length - i) (c - i) ((bss ss).drop i) rfl (by simp) ((HR.out.below (grown_below hb1 (World.ownsRow_nil w1 w.heap.size 9 1) (Nat.le_refl _) hb1.size hg1)).from_ i) (fun u hu => one_strs ss u (List.mem_of_mem_drop hu)) (by unfold maxLen; omega) (by omega) (grown_below hb1 (World.ownsRow_nil w1 w.heap.size 9 1) (Nat.le_refl _) hb1.size hg1).size ?_; intro v2 w3 hown2 hg2 hat2))
  have hB2 := grown_below hb1 (World.ownsRow_nil w1 w.heap.size 9 1) (Nat.le_refl _) hb1.size hg1
  have hB3 := grown_below hB2 hown1 (Nat.le_refl _) hB2.size hg2
  have hl2 : (ss.take (i + 1) ++ ss.drop i).length = 0 + (i + 1) + (ss.length - i) := by simp; omega
  have hcells : [] ++ (bss ss).take (i + 1) ++ (bss ss).drop i = bss (ss.take (i + 1) ++ ss.drop i) := by simp [bss]
  rw [hcells] at hown2
  have hex := own_form hown2
  obtain ⟨A2, c2, hv2, hc2, -⟩ := hex
  rw [hv2] at hown2 ⊢
  have hrow2 := Row.of_own hown2
  have SO2 : Hid (∀ W, Below w3.heap.size w3 W → Calls Try.prog 12 #[.slice A2 (0 + (i + 1) + (ss.length - i)) c2] W fun e W' => e = .returned (.bool false) ∧ Below W.heap.size W W') := Lib.hid (fun W hW => by
    have h := sorted_any (ss.take (i + 1) ++ ss.drop i) A2 c2 (by rw [hl2]; omega) (fun s hs => HS.out s (by
      rcases List.mem_append.1 hs with h | h
      · exact List.mem_of_mem_take h
      · exact List.mem_of_mem_drop h)) W ((hrow2.below hW).more hW.size)
    rw [hl2, H2.out] at h
    exact h)
  have STA : Hid (∀ W, Below w.heap.size w W → Calls Try.prog 12 #[.slice (some ⟨b, off, none⟩) i c] W fun e W' => e = .returned (.bool (rise (ss.take i))) ∧ Below W.heap.size W W') := Lib.hid (fun W hW => by
    have h := sorted_any (ss.take i) (some ⟨b, off, none⟩) c (by simp; omega) (fun s hs => HS.out s (List.mem_of_mem_take hs)) W (by
      have := ((HR.out.below hW).more hW.size).take i
      simpa [bss] using this)
    rw [show (ss.take i).length = i from by simp; omega] at h
    exact h)
  have STD : Hid (∀ W, Below w.heap.size w W → Calls Try.prog 12 #[.slice (some ⟨b, off + i, none⟩) (ss.length - i) (c - i)] W fun e W' => e = .returned (.bool (rise (ss.drop i))) ∧ Below W.heap.size W W') := Lib.hid (fun W hW => by
    have h := sorted_any (ss.drop i) (some ⟨b, off + i, none⟩) (c - i) (by simp; omega) (fun s hs => HS.out s (List.mem_of_mem_drop hs)) W (by
      have := ((HR.out.below hW).more hW.size).from_ i
      simpa [bss] using this)
    rw [show (ss.drop i).length = ss.length - i from by simp] at h
    exact h)
  have HB3 := Lib.hid hB3
  have HS2 : Hid (w.heap.size ≤ w3.heap.size) := Lib.hid hB3.size
  clear hB3 hB2 hl2 hcells hv2 hown2 hown1 hrow2 hg1 hg2 hat1 hat2 hi0 hz0 hz1 hz2 hc2 hcap H2
  generalize 0 + (i + 1) + (ss.length - i) = n2 at *
  go_loopw [8] (fun q wr => ∃ k : Nat, k ≤ ss.length ∧ q = .int .i64 k ∧ Below w3.heap.size w3 wr) (fun q _ => ss.length - (intOf q).toNat)
  case atStart => exact ⟨0, by omega, rfl, Below.refl _ _⟩
  case round =>
    obtain ⟨k, hk, rfl, hBo⟩ := hrel
    have hBw : Below w.heap.size w wr := HB3.out.trans (hBo.mono HS2.out)
    cases r with
    | false =>
      rcases (show (k : Int) < ss.length ∨ (ss.length : Int) ≤ k by omega) with hlt | hlt
      all_goals
        go_wp2_with fail
        refine (SO2.out _ hBo).mono ?_
        rintro e w5 ⟨rfl, hb5⟩
        have g5 := hBw.trans (hb5.mono hBw.size)
        go_wp2_with fail
        go_ret
        exact ⟨rfl, g5⟩
    | true =>
      by_cases hlt : k < ss.length
      · have hlt' : (k : Int) < ss.length := by omega
        have HPP := Lib.hid (HP.out rfl k)
        obtain ⟨wo, rfl⟩ : ∃ wo : World, wo = wr := ⟨_, rfl⟩
        go_wp2_with fail
        go_loopw [9] (fun q wr => ∃ p : Nat, p ≤ k ∧ q = .int .i64 p ∧ Below w3.heap.size w3 wr) (fun q _ => k - (intOf q).toNat)
        case atStart => exact ⟨0, by omega, rfl, hBo⟩
        case round =>
          obtain ⟨p, hp, rfl, hBi⟩ := hrel
          have hBv : Below w.heap.size w wr := HB3.out.trans (hBi.mono HS2.out)
          by_cases hpk : p < k
          · have hc0 := (hBv.cell (p := ⟨b, off + p, none⟩) hb).trans (HC.out p (.string ss[p]) (by simp [bss]))
            have hc1 := (hBv.cell (p := ⟨b, off + k, none⟩) hb).trans (HC.out k (.string ss[k]) (by simp [bss]))
            have HLH := Lib.hid (fun W => less_any ss[p] ss[k] (HS.out _ (by simp)) (HS.out _ (by simp)) W)
            have HLE := Lib.hid (HPP.out p hpk hlt)
            have hpk' : (p : Int) < k := by omega
            have hpn' : (p : Int) < ss.length := by omega
            go_wp2_with fail
            refine wp_region_still_tail 8 (by kernel_rfl) (by kernel_rfl) ?_
            simp only [List.take_succ_cons, List.take_zero, List.drop_succ_cons, List.drop_zero]
            change wpStill _ _ (World.drew _) _ _ _
            repeat (refine wpStill_step (fun K hK => ?_); go_simp; (try go_bits); refine hK _ ?_; clear hK K)
            refine wpStill_nil ?_
            go_wp2_with fail
            refine (HLH.out _).mono ?_
            rintro e w4 ⟨rfl, hb4⟩
            rw [show less ss[p].data.toList ss[k].data.toList = _ from HLE.out]
            have hBn := hBi.drew.trans (hb4.mono hBi.size)
            go_wp2_with fail
            go_roundw
            case rel => exact ⟨p + 1, by omega, by go_num, hBn⟩
            case measure => simp [intOf]; omega
          · have hpk' : (k : Int) ≤ p := by omega
            clear hpk
            go_wp2_with fail
            go_roundw
            case rel => exact ⟨k + 1, by omega, by go_num, hBi⟩
            case measure => simp [intOf]; omega
      · have hlt' : (ss.length : Int) ≤ k := by omega
        have hT := HT.out rfl
        go_wp2_with fail
        refine (SO2.out _ hBo).mono ?_
        rintro e w5 ⟨rfl, hb5⟩
        have g5 := hBw.trans (hb5.mono hBw.size)
        go_wp2_with fail
        refine (STA.out _ g5).mono ?_
        rintro e w6 ⟨rfl, hb6⟩
        have g6 := g5.trans (hb6.mono g5.size)
        rw [hT.1]
        go_wp2_with fail
        refine (STD.out _ g6).mono ?_
        rintro e w7 ⟨rfl, hb7⟩
        have g7 := g6.trans (hb7.mono g6.size)
        rw [hT.2]
        go_wp2_with fail
        go_ret
        exact ⟨rfl, g7⟩
end Go.Proofs.Ytckbijkgibjjjaa.key
