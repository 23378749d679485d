/- the document's answer for words, walked: joined. -/
import Derived.Test.YtnfkeaplglknlaaWordsBackOne
namespace Go.Proofs.Ytnfkeaplglknlaa.words
open Go.RowKit
open Go.Proofs.Ytnfkeaplglknlaa.aid

theorem join_snoc : ∀ (l : List (List UInt8)) (x : List UInt8), Lib.join (l ++ [x]) [32] = Lib.join l [32] ++ ((if l = [] then [] else [32]) ++ x)
  | [], x => by simp [Lib.join_one, Lib.join_nil]
  | [y], x => by
    show Lib.join [y, x] [32] = _
    rw [join_two, Lib.join_one, Lib.join_one]
    simp
  | y :: z :: r, x => by
    have ih := join_snoc (z :: r) x
    show Lib.join (y :: z :: (r ++ [x])) [32] = _
    rw [join_two, join_two]
    rw [show z :: (r ++ [x]) = z :: r ++ [x] from rfl, ih]
    simp
theorem join_grow : ∀ (b a : List (List UInt8)), (Lib.join a [32]).length ≤ (Lib.join (a ++ b) [32]).length
  | [], a => by simp
  | x :: b, a => by
    have h := join_grow b (a ++ [x])
    rw [List.append_assoc, List.singleton_append] at h
    rw [join_snoc, List.length_append] at h
    omega
theorem join_take (l : List (List UInt8)) (i : Nat) (h : i < l.length) : Lib.join (l.take (i + 1)) [32] = Lib.join (l.take i) [32] ++ ((if i = 0 then [] else [32]) ++ l[i]) := by
  rw [List.take_succ_eq_append_getElem h, join_snoc]
  congr 2
  by_cases h0 : i = 0
  · subst h0; simp
  · rw [if_neg h0, if_neg]
    intro e
    have := congrArg List.length e
    rw [List.length_take, List.length_nil] at this
    omega
theorem join_take_le (l : List (List UInt8)) (i : Nat) : (Lib.join (l.take i) [32]).length ≤ (Lib.join l [32]).length := by
  have h := join_grow (l.drop i) (l.take i)
  rw [List.take_append_drop] at h
  exact h

set_option maxHeartbeats 16000000 in
set_option maxRecDepth 100000 in
theorem rjoin_any (ls : List (List (List UInt8))) (v : Value) (w : World) (h : Lns w v ls) (hlen : (joinText ls).length ≤ 100000) (hn : ls.length ≤ 100000) (hw : ∀ l ∈ ls, l.length ≤ 100000) :
    Calls Try.prog 15 #[v] w fun e w' => ∃ v, e = .returned v ∧ w'.ownsRow w.heap.size 5 1 v (joinText ls).length (u8s (joinText ls)) ∧ Below w.heap.size w w' := by
  obtain ⟨A, c, rfl, hc⟩ := h.len
  have HL := Lib.hid h
  have HLE := Lib.hid hlen
  have HW := Lib.hid hw
  have hcc : (ls.length : Int) ≤ c := by omega
  obtain ⟨i0, hi0, hz0, hz1, hz2⟩ := info_parts byte_info
  clear h hlen hw
  go_enter Try.func15, Try.ntmps15
  go_wp2_with fail
  go_loopw [3, 4] (fun v i wr => ∃ k, k ≤ ls.length ∧ i = .int .i64 (k : Nat) ∧ Hid (wr.ownsRow w.heap.size 5 1 v (joinText (ls.take k)).length (u8s (joinText (ls.take k)))) ∧ Below w.heap.size w wr) (fun _ i _ => ls.length - (intOf i).toNat)
  case atStart => exact ⟨0, by omega, rfl, Lib.hid (World.ownsRow_nil _ _ _ _), Below.refl _ _⟩
  case round =>
    obtain ⟨k, hk, rfl, hO, hBk⟩ := hrel
    by_cases hlt : k < ls.length
    · have hlt' : (k : Int) < ls.length := by omega
      have hjl := joinText_line ls k hlt
      have HJS := Lib.hid (joinText_succ ls k hlt)
      obtain ⟨l, hl⟩ : ∃ l, ls[k] = l := ⟨_, rfl⟩
      have hlw := HW.out l (by rw [← hl]; exact List.getElem_mem hlt)
      rw [hl] at hjl HJS
      obtain ⟨acc, hacc⟩ : ∃ acc, acc = joinText (ls.take k) := ⟨_, rfl⟩
      rw [← hacc] at hjl HJS hO
      have HTL : Hid (∀ i, acc.length + (Lib.join (l.take i) [32]).length + 1 ≤ 100000) := Lib.hid (fun i => by
        have h1 := join_take_le l i
        have h2 : (joinLine l).length = (Lib.join l [32]).length + 1 := by simp [joinLine]
        have := HLE.out
        omega)
      have HBK := Lib.hid hBk
      clear hjl hacc hBk
      go_wp2_with fail
      obtain ⟨wo, rfl⟩ : ∃ wo : World, wo = wr := ⟨_, rfl⟩
      go_loopw [3, 5] (fun v i wr => ∃ i', i' ≤ l.length ∧ i = .int .i64 (i' : Nat) ∧ Hid (wr.ownsRow w.heap.size 5 1 v (acc ++ Lib.join (l.take i') [32]).length (u8s (acc ++ Lib.join (l.take i') [32]))) ∧ Below w.heap.size w wr) (fun _ i _ => l.length - (intOf i).toNat)
      case atStart => exact ⟨0, by omega, rfl, Lib.hid (by rw [List.take_zero, Lib.join_nil, List.append_nil]; exact hO.out), HBK.out⟩
      case round =>
        obtain ⟨i, hi, rfl, hO2, hB2⟩ := hrel
        obtain ⟨g, o, A', c', rfl, hcellw, hc', hrow⟩ := HL.out.at_ hlt hl
        have HCW : Hid (∀ W, Below w.heap.size w W → W.cell? ⟨g, o + k, none⟩ = some (.slice A' l.length c')) := Lib.hid (fun W hb => (hb.cell (p := ⟨g, o + k, none⟩) (cell_lt hcellw)).trans hcellw)
        have hcell := HCW.out wr hB2
        clear hcellw
        by_cases hil : i < l.length
        · have hil' : (i : Int) < l.length := by omega
          have hc3 : (l.length : Int) ≤ c' := by omega
          obtain ⟨g2, o2, rfl, hlt2, hcl2⟩ := hrow.at_ (k := i) (by rw [List.length_map]; exact hil)
          have hx0 := hcl2 i (.string ⟨l[i].toArray⟩) (by rw [List.getElem?_map, List.getElem?_eq_getElem hil]; rfl)
          have hjt := join_take l i hil
          have hbd := HTL.out (i + 1)
          obtain ⟨x, hx⟩ : ∃ x, l[i] = x := ⟨_, rfl⟩
          rw [hx] at hx0 hjt
          obtain ⟨S, hS⟩ : ∃ S : ByteArray, S = ⟨x.toArray⟩ := ⟨_, rfl⟩
          rw [← hS] at hx0
          have hSz : S.size = x.length := by rw [hS]; simp [ByteArray.size]
          have HXW : Hid (∀ W, Below w.heap.size w W → W.cell? ⟨g2, o2 + i, none⟩ = some (.string S)) := Lib.hid (fun W hb => (hb.cell (p := ⟨g2, o2 + i, none⟩) (cell_lt hx0)).trans hx0)
          have HSZ := Lib.hid hSz
          have HS := Lib.hid hS
          obtain ⟨pre, hpre⟩ : ∃ pre, pre = acc ++ Lib.join (l.take i) [32] := ⟨_, rfl⟩
          have HJT : Hid (acc ++ Lib.join (l.take (i + 1)) [32] = pre ++ ((if i = 0 then [] else [32]) ++ x)) := Lib.hid (by rw [hjt, hpre, List.append_assoc])
          have hpl : pre.length + (if i = 0 then 0 else 1) + x.length + 1 ≤ 100000 := by
            rw [hjt, List.length_append, List.length_append] at hbd
            rw [hpre, List.length_append]
            split at hbd <;> simp_all <;> omega
          rw [← hpre] at hO2
          have HB2 := Lib.hid hB2
          clear hcl2 hlt2 hx hS hSz hjt hbd hpre hB2 hrow hx0
          have hpart : (i = 0) ∨ ((0 : Int) < i ∧ i ≠ 0) := by omega
          rcases hpart with h0 | ⟨h0, h0'⟩
          · rw [if_pos h0] at HJT hpl
            rw [List.nil_append] at HJT
            have r0 : decide ((0 : Int) < (i : Int)) = false := decide_eq_false (by omega)
            have r0' : decide (0 < i) = false := decide_eq_false (by omega)
            have hpl2 : pre.length + x.length + 1 ≤ 100000 := by omega
            clear h0 hpl
            go_wp2_with fail
            obtain ⟨p2, hp2⟩ : ∃ p2, p2 = pre := ⟨_, rfl⟩
            rw [← hp2] at hO2 HJT hpl2
            have HOP := hO2
            have HBP := HB2
            have HJ2 := HJT
            clear hp2 hO2 HB2
            clear hcell
            go_loopw [3, 6] (fun v j wr2 => ∃ j', j' ≤ S.size ∧ j = .int .i64 (j' : Nat) ∧ Hid (wr2.ownsRow w.heap.size 5 1 v (p2.length + j') (u8s (p2 ++ x.take j'))) ∧ Below w.heap.size w wr2) (fun _ j _ => S.size - (intOf j).toNat)
            case atStart => exact ⟨0, by omega, rfl, Lib.hid (by rw [List.take_zero, List.append_nil]; exact HOP.out), HBP.out⟩
            case round =>
              obtain ⟨j, hj, rfl, hO4, hB4⟩ := hrel
              have hcell2 := HCW.out _ hB4
              have hx2 := HXW.out _ hB4
              by_cases hjl : j < S.size
              · have hjl' : (j : Int) < S.size := by omega
                have hb8' : (S[j].toNat : Int) ≤ 255 := by have := S[j].toNat_lt; omega
                have hsj : x.take (j + 1) = x.take j ++ [S[j]] := by
                  have hsj0 : S[j] = x[j]'(by rw [← HSZ.out]; exact hjl) := by
                    have := HS.out
                    subst this
                    rfl
                  rw [hsj0]
                  exact List.take_succ_eq_append_getElem _
                have HSJ := Lib.hid hsj
                have hjx : j < x.length := by have := HSZ.out; omega
                have HO6 := Lib.hid (hO4.out.alloc (.cells #[.int .u8 (S[j].toNat : Int)] 5))
                have HB6 := Lib.hid (hB4.alloc hB4.size (.cells #[.int .u8 (S[j].toNat : Int)] 5))
                clear hsj hO4 hB4
                go_wp2_with (at_builtin; go_must (refine wpList_append_row _ rfl (.tmp 39) (.tmp 49) 22 rfl w.heap.size 5 i0 _ 1 rfl hi0 hz0 hz1 hz2 rfl _ (p2.length + j) _ rfl HO6.out _ (some ⟨wr.heap.size, 0, none⟩) 1 1 [.int .u8 (S[j].toNat : Int)] rfl rfl (Row.new wr 5 #[.int .u8 (S[j].toNat : Int)]) (by simp [Value.oneCell']) (by unfold maxLen; omega) (by omega) HB6.out.size ?_; intro v7 w7 hown7 hg7 hat7; have HB7 := Lib.hid (grown_below HB6.out HO6.out (Nat.le_refl _) HB6.out.size hg7); rw [u8s_snoc_, List.append_assoc, ← HSJ.out] at hown7; have HO7 := Lib.hid hown7; clear hown7 hg7 hat7))
                go_wp2_with fail
                go_roundw
                case rel => exact ⟨j + 1, by omega, by go_num, HO7, HB7.out⟩
                case measure => simp [intOf]; omega
              · obtain rfl : j = S.size := by omega
                have HF : Hid (wr.ownsRow w.heap.size 5 1 _ (acc ++ Lib.join (l.take (i + 1)) [32]).length (u8s (acc ++ Lib.join (l.take (i + 1)) [32]))) := Lib.hid (by
                  have h := hO4.out
                  rw [HSZ.out, List.take_length] at h
                  rw [HJ2.out, List.length_append]
                  exact h)
                have HB6 := Lib.hid hB4
                clear hO4 hB4
                go_wp2_with fail
                go_roundw
                case rel => exact ⟨i + 1, by omega, by go_num, HF, HB6.out⟩
                case measure => simp [intOf]; omega
          · rw [if_neg h0'] at HJT hpl
            have HO3 := Lib.hid (hO2.out.alloc (.cells #[.int .u8 32] 5))
            have HB3 := Lib.hid (HB2.out.alloc HB2.out.size (.cells #[.int .u8 32] 5))
            clear hO2
            go_wp2_with (at_builtin; go_must (refine wpList_append_row _ rfl (.tmp 24) (.tmp 25) 22 rfl w.heap.size 5 i0 _ 1 rfl hi0 hz0 hz1 hz2 rfl _ pre.length _ rfl HO3.out _ (some ⟨wr.heap.size, 0, none⟩) 1 1 [.int .u8 32] rfl rfl (Row.new wr 5 #[.int .u8 32]) (by simp [Value.oneCell']) (by unfold maxLen; omega) (by omega) HB3.out.size ?_; intro v5 w5 hown5 hg5 hat5; have HO5 := Lib.hid hown5; have HB5 := Lib.hid (grown_below HB3.out HO3.out (Nat.le_refl _) HB3.out.size hg5); clear hown5 hg5 hat5))
            go_wp2_with fail
            obtain ⟨p2, hp2⟩ : ∃ p2, p2 = pre ++ [32] := ⟨_, rfl⟩
            have HOP := Lib.hid (show w5.ownsRow w.heap.size 5 1 v5 p2.length (u8s p2) from by
              have h := HO5.out
              rw [show u8s pre ++ [Value.int .u8 32] = u8s p2 from by rw [hp2]; simp [u8s], show pre.length + 1 = p2.length from by rw [hp2]; simp] at h
              exact h)
            have HBP := HB5
            have HJ2 : Hid (acc ++ Lib.join (l.take (i + 1)) [32] = p2 ++ x) := Lib.hid (by rw [HJT.out, hp2, List.append_assoc])
            have hpl2 : p2.length + x.length + 1 ≤ 100000 := by rw [hp2, List.length_append, List.length_singleton]; omega
            clear hp2 HO5 HB5 hpl HO3 HB3 HJT HB2
            clear hcell
            go_loopw [3, 6] (fun v j wr2 => ∃ j', j' ≤ S.size ∧ j = .int .i64 (j' : Nat) ∧ Hid (wr2.ownsRow w.heap.size 5 1 v (p2.length + j') (u8s (p2 ++ x.take j'))) ∧ Below w.heap.size w wr2) (fun _ j _ => S.size - (intOf j).toNat)
            case atStart => exact ⟨0, by omega, rfl, Lib.hid (by rw [List.take_zero, List.append_nil]; exact HOP.out), HBP.out⟩
            case round =>
              obtain ⟨j, hj, rfl, hO4, hB4⟩ := hrel
              have hcell2 := HCW.out _ hB4
              have hx2 := HXW.out _ hB4
              by_cases hjl : j < S.size
              · have hjl' : (j : Int) < S.size := by omega
                have hb8' : (S[j].toNat : Int) ≤ 255 := by have := S[j].toNat_lt; omega
                have hsj : x.take (j + 1) = x.take j ++ [S[j]] := by
                  have hsj0 : S[j] = x[j]'(by rw [← HSZ.out]; exact hjl) := by
                    have := HS.out
                    subst this
                    rfl
                  rw [hsj0]
                  exact List.take_succ_eq_append_getElem _
                have HSJ := Lib.hid hsj
                have hjx : j < x.length := by have := HSZ.out; omega
                have HO6 := Lib.hid (hO4.out.alloc (.cells #[.int .u8 (S[j].toNat : Int)] 5))
                have HB6 := Lib.hid (hB4.alloc hB4.size (.cells #[.int .u8 (S[j].toNat : Int)] 5))
                clear hsj hO4 hB4
                go_wp2_with (at_builtin; go_must (refine wpList_append_row _ rfl (.tmp 39) (.tmp 49) 22 rfl w.heap.size 5 i0 _ 1 rfl hi0 hz0 hz1 hz2 rfl _ (p2.length + j) _ rfl HO6.out _ (some ⟨wr.heap.size, 0, none⟩) 1 1 [.int .u8 (S[j].toNat : Int)] rfl rfl (Row.new wr 5 #[.int .u8 (S[j].toNat : Int)]) (by simp [Value.oneCell']) (by unfold maxLen; omega) (by omega) HB6.out.size ?_; intro v7 w7 hown7 hg7 hat7; have HB7 := Lib.hid (grown_below HB6.out HO6.out (Nat.le_refl _) HB6.out.size hg7); rw [u8s_snoc_, List.append_assoc, ← HSJ.out] at hown7; have HO7 := Lib.hid hown7; clear hown7 hg7 hat7))
                go_wp2_with fail
                go_roundw
                case rel => exact ⟨j + 1, by omega, by go_num, HO7, HB7.out⟩
                case measure => simp [intOf]; omega
              · obtain rfl : j = S.size := by omega
                have HF : Hid (wr.ownsRow w.heap.size 5 1 _ (acc ++ Lib.join (l.take (i + 1)) [32]).length (u8s (acc ++ Lib.join (l.take (i + 1)) [32]))) := Lib.hid (by
                  have h := hO4.out
                  rw [HSZ.out, List.take_length] at h
                  rw [HJ2.out, List.length_append]
                  exact h)
                have HB6 := Lib.hid hB4
                clear hO4 hB4
                go_wp2_with fail
                go_roundw
                case rel => exact ⟨i + 1, by omega, by go_num, HF, HB6.out⟩
                case measure => simp [intOf]; omega
        · obtain rfl : i = l.length := by omega
          rw [List.take_length] at hO2
          have HO3 := Lib.hid (hO2.out.alloc (.cells #[.int .u8 10] 5))
          have HB3 := Lib.hid (hB2.alloc hB2.size (.cells #[.int .u8 10] 5))
          have hln := HTL.out l.length
          rw [List.take_length] at hln
          have hal : (acc ++ Lib.join l [32]).length ≤ 100000 := by rw [List.length_append]; omega
          have HJ2 : Hid (joinText (ls.take (k + 1)) = (acc ++ Lib.join l [32]) ++ [10]) := Lib.hid (by rw [HJS.out, List.append_assoc]; rfl)
          obtain ⟨a2, ha2⟩ : ∃ a2, a2 = acc ++ Lib.join l [32] := ⟨_, rfl⟩
          rw [← ha2] at HO3 hal HJ2
          clear hB2 hrow hln ha2 hO2
          go_wp2_with (at_builtin; go_must (refine wpList_append_row _ rfl (.tmp 51) (.tmp 52) 22 rfl w.heap.size 5 i0 _ 1 rfl hi0 hz0 hz1 hz2 rfl _ a2.length _ rfl HO3.out _ (some ⟨wr.heap.size, 0, none⟩) 1 1 [.int .u8 10] rfl rfl (Row.new wr 5 #[.int .u8 10]) (by simp [Value.oneCell']) (by unfold maxLen; omega) (by omega) HB3.out.size ?_; intro v5 w5 hown5 hg5 hat5; have HO5 := Lib.hid hown5; have HB5 := Lib.hid (grown_below HB3.out HO3.out (Nat.le_refl _) HB3.out.size hg5); clear hown5 hg5 hat5))
          go_wp2_with fail
          go_roundw
          case rel => exact ⟨k + 1, by omega, by go_num, Lib.hid (by
            rw [HJ2.out, List.length_append, List.length_singleton]
            have h := HO5.out
            rw [show u8s a2 ++ [Value.int .u8 10] = u8s (a2 ++ [10]) from by simp [u8s]] at h
            exact h), HB5.out⟩
          case measure => simp [intOf]; omega
    · obtain rfl : k = ls.length := by omega
      rw [List.take_length] at hO
      go_wp2_with fail
      go_ret
      exact ⟨_, rfl, hO.out, hBk⟩
end Go.Proofs.Ytnfkeaplglknlaa.words
