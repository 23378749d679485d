/- WordsParts, walked. -/
import Derived.Test.YtnfkeaplglknlaaWordsKnown
import Derived.Test.YtnfkeaplglknlaaWordsPartsLaw
namespace Go.Proofs.Ytnfkeaplglknlaa.words
open Go.RowKit
open Go.Proofs.Ytnfkeaplglknlaa.aid

theorem cell_lt {w : World} {g i : Nat} {v : Value} (h : w.cell? ⟨g, i, none⟩ = some v) : g < w.heap.size := World.block_lt_of_cell? w _ h
theorem end_ten : isEnd 10 = true := rfl
/-- the first word of a row -/
theorem Rws.first {w : World} {A : Option Addr} {n c : Nat} {rows : List (List Wd)} (h : Rws w (.slice A n c) rows) {k : Nat} (hk : k < rows.length) {x : Wd} {r : List Wd} (hx : rows[k] = x :: r) : ∃ g o gk m ck, A = some ⟨g, o, none⟩ ∧ w.cell? ⟨g, o + k, none⟩ = some (.slice (some ⟨gk, 0, none⟩) m ck) ∧ 0 < m ∧ m ≤ ck ∧
    w.cell? ⟨gk, 0, none⟩ = some (.string ⟨x.text.toArray⟩) ∧ w.cell? ⟨gk, 1, none⟩ = some (.int .i64 (x.line : Nat)) ∧ w.cell? ⟨gk, 2, none⟩ = some (.int .i64 (x.col : Nat)) := by
  obtain ⟨g, o, gk, ck, h1, h2, h3, h4⟩ := h.at_ hk
  have hl : 0 < rows[k].length := by rw [hx]; simp
  have h5 := h4 0 hl
  have e : rows[k][0] = x := by
    have : ∀ (l : List Wd) (h : 0 < l.length), l = x :: r → l[0] = x := by rintro l h rfl; rfl
    exact this _ hl hx
  rw [e] at h5
  exact ⟨g, o, gk, rows[k].length, ck, h1, h2, hl, h3, h5.1, h5.2.1, h5.2.2⟩

set_option maxHeartbeats 16000000 in
set_option maxRecDepth 100000 in
theorem wordsParts_walk (w : World) (l0 : List UInt8) (A0 : Option Addr) (c0 : Nat) (l1 : List UInt8) (A1 : Option Addr) (c1 : Nat) (n0 : l0.length ≤ 9223372036854775807) (r0 : Row w w.heap.size A0 (u8s l0)) (n1 : l1.length ≤ 9223372036854775807) (r1 : Row w w.heap.size A1 (u8s l1)) :
    Calls Try.prog 5 #[.slice A0 l0.length c0, .slice A1 l1.length c1] w fun e w' => e = .returned (.bool true) ∧ Below w.heap.size w w' := by
  have HR1 := Lib.hid r1
  have HTX0 := Lib.hid (text_any l0 A0 c0 n0 w r0)
  have HTX1 := Lib.hid (fun W h => text_any l1 A1 c1 n1 W h)
  obtain ⟨i0, hi0, hz0, hz1, hz2⟩ := info_parts byte_info
  clear r0 r1
  go_enter Try.func5, Try.ntmps5
  go_wp2_with fail
  refine HTX0.out.mono ?_
  rintro e w2 ⟨v2, rfl, hown2, hb2⟩
  have hta := textOf_len l0
  obtain ⟨ta, hta0⟩ : ∃ ta, ta = textOf l0 := ⟨_, rfl⟩
  rw [← hta0] at hown2 hta
  obtain ⟨A2, c2, rfl, -, -⟩ := own_form hown2
  have HO2 := Lib.hid (hown2.alloc (.cells #[.int .u8 10] 5))
  have HB2 := Lib.hid (hb2.alloc hb2.size (.cells #[.int .u8 10] 5))
  have HTA := Lib.hid hta
  clear hown2 hb2 hta0 HTX0
  go_wp2_with (at_builtin; go_must (refine wpList_append_row _ rfl (.tmp 24) (.tmp 25) 22 rfl w.heap.size 5 i0 _ 1 rfl hi0 hz0 hz1 hz2 rfl (.slice A2 ta.length c2) ta.length (u8s ta) rfl HO2.out _ (some ⟨w2.heap.size, 0, none⟩) 1 1 [.int .u8 10] rfl rfl (Row.new w2 5 #[.int .u8 10]) (by simp [Value.oneCell']) (by have := HTA.out; unfold maxLen; omega) (by have := HTA.out; omega) HB2.out.size ?_; intro v3 w3 hown3 hg3 hat3; have hb3 := grown_below HB2.out HO2.out (Nat.le_refl _) HB2.out.size hg3; obtain ⟨A3, c3, rfl, hc3, -⟩ := own_form hown3; have HO3 := Lib.hid hown3; have HB3 := Lib.hid hb3; clear hown3 hg3 hat3 hb3))
  obtain ⟨la, hla⟩ : ∃ la, la = ta ++ 10 :: [] := ⟨_, rfl⟩
  have hlal : la.length = ta.length + 1 := by rw [hla]; simp
  have HRA3 : Hid (Row w3 w3.heap.size A3 (u8s la)) := Lib.hid (by
    have h := of_own HO3.out
    rw [show u8s ta ++ [Value.int .u8 10] = u8s la from by rw [hla]; simp [u8s]] at h
    exact h)
  have HLA := Lib.hid hla
  rw [← hlal] at hc3 ⊢
  have hla5 : la.length ≤ 561 := by have := HTA.out; omega
  clear hlal
  refine (HTX1.out w3 ((HR1.out.below HB3.out).more HB3.out.size)).mono ?_
  rintro e w4 ⟨v4, rfl, hown4, hb4⟩
  have htb := textOf_len l1
  obtain ⟨tb, htb0⟩ : ∃ tb, tb = textOf l1 := ⟨_, rfl⟩
  rw [← htb0] at hown4 htb
  obtain ⟨A4, c4, rfl, hc4, -⟩ := own_form hown4
  have HRB4 := Lib.hid (of_own hown4)
  have HRA4 := Lib.hid ((HRA3.out.below hb4).more hb4.size)
  have HB4 := Lib.hid (HB3.out.trans (hb4.mono HB3.out.size))
  have HTB := Lib.hid htb
  clear hown4 hb4 htb0 HTX1 HO2 HO3 HB2 HB3 HR1 HRA3 hla
  have HS4 := Lib.hid (split_any la A3 c3 hc3 w4 HRA4.out)
  unfold SplitPost at HS4
  obtain ⟨E1, hE1⟩ : ∃ E1, E1 = (split la).err := ⟨_, rfl⟩
  obtain ⟨L1, hL1⟩ : ∃ L1, L1 = (split la).line := ⟨_, rfl⟩
  obtain ⟨C1, hC1⟩ : ∃ C1, C1 = (split la).col := ⟨_, rfl⟩
  obtain ⟨X, hX⟩ : ∃ X, X = (split la).out := ⟨_, rfl⟩
  rw [← hE1, ← hL1, ← hC1, ← hX] at HS4
  have HE1 := Lib.hid hE1
  have HX := Lib.hid hX
  clear hE1 hL1 hC1 hX
  go_wp2_with fail
  refine HS4.out.mono ?_
  rintro e w5 ⟨v5, rfl, hx5, hb5⟩
  obtain ⟨A5, c5, rfl⟩ := hx5.len
  obtain ⟨W5, hW5⟩ : ∃ W5, W5 = w5.alloc (.cells #[.int .i64 L1, .int .i64 C1] 31) := ⟨_, rfl⟩
  have hbw : Below w5.heap.size w5 W5 := by rw [hW5]; exact (Below.refl _ _).alloc (Nat.le_refl _) _
  have hq := hb5.trans (hbw.mono hb5.size)
  have HX5 := Lib.hid (hx5.below hbw)
  have HRA5 := Lib.hid ((HRA4.out.below hq).more hq.size)
  have HRB5 := Lib.hid ((HRB4.out.below hq).more hq.size)
  have HB5 := Lib.hid (HB4.out.trans (hq.mono HB4.out.size))
  have HW5 := Lib.hid hW5
  clear hx5 hb5 hbw hq hW5 HS4 HB4 HRA4 HRB4
  have HS5 := Lib.hid (split_any tb A4 c4 hc4 W5 HRB5.out)
  unfold SplitPost at HS5
  obtain ⟨E2, hE2⟩ : ∃ E2, E2 = (split tb).err := ⟨_, rfl⟩
  obtain ⟨L2, hL2⟩ : ∃ L2, L2 = (split tb).line := ⟨_, rfl⟩
  obtain ⟨C2, hC2⟩ : ∃ C2, C2 = (split tb).col := ⟨_, rfl⟩
  obtain ⟨Y, hY⟩ : ∃ Y, Y = (split tb).out := ⟨_, rfl⟩
  rw [← hE2, ← hL2, ← hC2, ← hY] at HS5
  have HE2 := Lib.hid hE2
  have HY := Lib.hid hY
  clear hE2 hL2 hC2 hY
  go_wp2_with fail
  rw [← HW5.out]
  refine HS5.out.mono ?_
  rintro e w6 ⟨v6, rfl, hx6, hb6⟩
  obtain ⟨A6, c6, rfl⟩ := hx6.len
  obtain ⟨W6, hW6⟩ : ∃ W6, W6 = w6.alloc (.cells #[.int .i64 L2, .int .i64 C2] 31) := ⟨_, rfl⟩
  have hbw : Below w6.heap.size w6 W6 := by rw [hW6]; exact (Below.refl _ _).alloc (Nat.le_refl _) _
  have hq := hb6.trans (hbw.mono hb6.size)
  have HY6 := Lib.hid (hx6.below hbw)
  have HX6 := Lib.hid (HX5.out.below hq)
  have HRA6 := Lib.hid ((HRA5.out.below hq).more hq.size)
  have HRB6 := Lib.hid ((HRB5.out.below hq).more hq.size)
  have HB6 := Lib.hid (HB5.out.trans (hq.mono HB5.out.size))
  have HW6 := Lib.hid hW6
  clear hx6 hb6 hbw hq hW6 HS5 HB5 HRA5 HRB5 HX5 HW5
  go_wp2_with (first
    | (at_builtin; (rw [← HW6.out]); refine wpList_append_row _ rfl (.tmp 41) (.tmp 42) 22 rfl W6.heap.size 5 i0 _ 1 rfl hi0 hz0 hz1 hz2 rfl (.slice none 0 0) 0 [] rfl (World.ownsRow_nil _ _ _ _) _ A3 la.length c3 (u8s la) rfl (by rw [List.length_map]) HRA6.out (one_bytes _) (by unfold maxLen; omega) (by omega) (Nat.le_refl _) ?_; intro v7 w7 hown7 hg7 hat7; rw [Nat.zero_add, List.nil_append] at hown7; have hb7 := grown_below (Below.refl W6.heap.size W6) (World.ownsRow_nil W6 W6.heap.size 5 1) (Nat.le_refl _) (Nat.le_refl _) hg7; obtain ⟨A7, c7, rfl, -, -⟩ := own_form hown7; have HO7 := Lib.hid hown7; have HB7 := Lib.hid hb7; have HRB7 := Lib.hid ((HRB6.out.below hb7).more hb7.size); clear hown7 hg7 hat7 hb7)
    | (at_builtin; go_must (refine wpList_append_row _ rfl (.tmp 44) (.tmp 45) 22 rfl W6.heap.size 5 i0 _ 1 rfl hi0 hz0 hz1 hz2 rfl (.slice A7 la.length c7) la.length (u8s la) rfl HO7.out _ A4 tb.length c4 (u8s tb) rfl (by rw [List.length_map]) HRB7.out (one_bytes _) (by have := HTB.out; unfold maxLen; omega) (by have := HTB.out; omega) HB7.out.size ?_; intro v8 w8 hown8 hg8 hat8; have hb8 := grown_below HB7.out HO7.out (Nat.le_refl _) HB7.out.size hg8; obtain ⟨A8, c8, rfl, hc8, -⟩ := own_form hown8; have HO8 := Lib.hid hown8; have HB8 := Lib.hid hb8; clear hown8 hg8 hat8 hb8)))
  obtain ⟨lb, hlb⟩ : ∃ lb, lb = la ++ tb := ⟨_, rfl⟩
  have hlbl : lb.length = la.length + tb.length := by rw [hlb]; simp
  have hr8 : Row w8 w8.heap.size A8 (u8s lb) := by
    have h := of_own HO8.out
    rw [show u8s la ++ u8s tb = u8s lb from by rw [hlb]; simp [u8s]] at h
    exact h
  rw [← hlbl] at hc8 ⊢
  have HS8 := Lib.hid (split_any lb A8 c8 hc8 w8 hr8)
  unfold SplitPost at HS8
  obtain ⟨E3, hE3⟩ : ∃ E3, E3 = (split lb).err := ⟨_, rfl⟩
  obtain ⟨L3, hL3⟩ : ∃ L3, L3 = (split lb).line := ⟨_, rfl⟩
  obtain ⟨C3, hC3⟩ : ∃ C3, C3 = (split lb).col := ⟨_, rfl⟩
  obtain ⟨Z, hZ⟩ : ∃ Z, Z = (split lb).out := ⟨_, rfl⟩
  rw [← hE3, ← hL3, ← hC3, ← hZ] at HS8
  have hlb6 : lb.length ≤ 1200 := by have := HTB.out; omega
  clear hlbl
  have he1 : E1 = if la.all good then 0 else 20 := by rw [HE1.out]; exact split_err (by omega)
  have he2 : E2 = if tb.all good then 0 else 20 := by rw [HE2.out]; exact split_err (by have := HTB.out; omega)
  have he3 : E3 = if (la.all good && tb.all good) then 0 else 20 := by rw [hE3, split_err (by omega), hlb, List.all_append]
  have HLB := Lib.hid hlb
  have HZ := Lib.hid hZ
  refine HS8.out.mono ?_
  rintro e w9 ⟨v9, rfl, hx9, hb9⟩
  obtain ⟨A9, c9, rfl⟩ := hx9.len
  obtain ⟨W9, hW9⟩ : ∃ W9, W9 = w9.alloc (.cells #[.int .i64 L3, .int .i64 C3] 31) := ⟨_, rfl⟩
  have hbw : Below w9.heap.size w9 W9 := by rw [hW9]; exact (Below.refl _ _).alloc (Nat.le_refl _) _
  have hq := HB8.out.trans ((hb9.trans (hbw.mono hb9.size)).mono HB8.out.size)
  have HZ9 := Lib.hid (hx9.below hbw)
  have HX9 := Lib.hid (HX6.out.below hq)
  have HY9 := Lib.hid (HY6.out.below hq)
  have HRA9 := Lib.hid ((HRA6.out.below hq).more hq.size)
  have HB9 := Lib.hid (HB6.out.trans (hq.mono HB6.out.size))
  have HW9 := Lib.hid hW9
  clear hx9 hb9 hbw hq hW9 HS8 HB8 HB6 HX6 HY6 HRA6 HRB6 HRB7 HO7 HO8 HB7 hr8 hE3 hL3 hC3 hZ hlb HW6
  cases hga : la.all good
  · rw [hga] at he1 he3
    simp only [Bool.false_and, Bool.false_eq_true, if_false, reduceIte] at he1 he3
    subst he1 he3
    clear he2
    go_wp2_with fail
    rw [← HW9.out]
    refine (known_any W9).mono ?_
    rintro e wk ⟨rfl, hbk⟩
    go_wp2_with fail
    go_ret
    exact ⟨rfl, HB9.out.trans (hbk.mono HB9.out.size)⟩
  · cases hgb : tb.all good
    · rw [hga] at he1 he3
      rw [hgb] at he2 he3
      simp only [Bool.and_false, Bool.false_eq_true, if_false, if_true, reduceIte] at he1 he2 he3
      subst he1 he2 he3
      go_wp2_with fail
      rw [← HW9.out]
      refine (known_any W9).mono ?_
      rintro e wk ⟨rfl, hbk⟩
      go_wp2_with fail
      go_ret
      exact ⟨rfl, HB9.out.trans (hbk.mono HB9.out.size)⟩
    · have hXr := HX.out
      have hYr := HY.out
      have hZr := HZ.out
      rw [split_rows (by omega) hga, HLA.out, all_app ta [] end_ten, all_nil, List.append_nil] at hXr
      rw [split_rows (by have := HTB.out; omega) hgb] at hYr
      have hlball : lb.all good = true := by rw [HLB.out, List.all_append, hga, hgb]; rfl
      rw [split_rows (by omega) hlball, HLB.out, HLA.out, List.append_assoc, List.singleton_append, all_app ta tb end_ten, ← hXr, show 1 + 1 + ta.countP isEnd = 1 + (ta.countP isEnd + 1) by omega, all_shift, ← hYr] at hZr
      have hcnt : la.countP isEnd = ta.countP isEnd + 1 := by rw [HLA.out, List.countP_append]; rfl
      rw [← hcnt] at hZr
      have HZR := Lib.hid hZr
      have HXR := Lib.hid hXr
      have HYR := Lib.hid hYr
      have HZL : Hid (Z.length = X.length + Y.length) := Lib.hid (by rw [hZr]; simp)
      have hcl : la.countP isEnd ≤ la.length := List.countP_le_length
      rw [hga] at he1 he3
      rw [hgb] at he2 he3
      simp only [Bool.and_self, if_true, reduceIte] at he1 he2 he3
      subst he1 he2 he3
      have hxl := all_len ta 1
      have hyl := all_len tb 1
      rw [← hXr] at hxl
      rw [← hYr] at hyl
      have HXW : Hid (∀ (k : Nat) (h : k < X.length), ∃ x r, X[k] = x :: r ∧ x.line ≤ 2000 ∧ x.col ≤ 2000) := Lib.hid (fun k h => by
        have hm : X[k] ∈ allRows ta 1 := by rw [← hXr]; exact List.getElem_mem h
        obtain ⟨p1, p2⟩ := all_words hm
        cases hc : X[k] with
        | nil => exact absurd hc p1
        | cons x r =>
          have := p2 x (by rw [hc]; exact List.mem_cons_self ..)
          have := HTA.out
          exact ⟨x, r, rfl, by omega, by omega⟩)
      have HYW : Hid (∀ (k : Nat) (h : k < Y.length), ∃ x r, Y[k] = x :: r ∧ x.line ≤ 2000 ∧ x.col ≤ 2000) := Lib.hid (fun k h => by
        have hm : Y[k] ∈ allRows tb 1 := by rw [← hYr]; exact List.getElem_mem h
        obtain ⟨p1, p2⟩ := all_words hm
        cases hc : Y[k] with
        | nil => exact absurd hc p1
        | cons x r =>
          have := p2 x (by rw [hc]; exact List.mem_cons_self ..)
          have := HTB.out
          exact ⟨x, r, rfl, by omega, by omega⟩)
      have hxs : X.length ≤ 2000 := by have := HTA.out; omega
      have hys : Y.length ≤ 2000 := by have := HTB.out; omega
      have hzs : Z.length ≤ 4000 := by rw [HZL.out]; omega
      have hzne : ((Z.length : Int) != (X.length : Int) + (Y.length : Int)) = false := by rw [bne_eq_false_iff_eq, HZL.out]; omega
      clear hXr hYr hZr hlball hcnt hxl hyl HX HY HZ HXR HYR HE1 HE2 HLB hga hgb
      go_wp2_with fail
      rw [← HW9.out]
      go_loop [17, 18] (fun n i => ∃ k, k ≤ la.length ∧ i = .int .i64 (k : Nat) ∧ n = .int .i64 ((la.take k).countP isEnd : Nat)) (fun _ i => la.length - (intOf i).toNat)
      case atStart => exact ⟨0, by omega, rfl, rfl⟩
      case round =>
        obtain ⟨k, hk, rfl, rfl⟩ := hrel
        have hcp : (la.take k).countP isEnd ≤ k := by have := List.countP_le_length (p := isEnd) (l := la.take k); rw [List.length_take] at this; omega
        by_cases hlt : k < la.length
        · have hlt' : (k : Int) < la.length := by omega
          obtain ⟨g3, o3, rfl, hgb3, hcl3⟩ := HRA9.out.at_ (k := k) (by rw [List.length_map]; exact hlt)
          have hc0 := hcl3 k (.int .u8 (la[k].toNat : Int)) (u8s_at la k hlt)
          have hb8 : (la[k].toNat : Int) ≤ 255 := by have := la[k].toNat_lt; omega
          have htk : la.take (k + 1) = la.take k ++ [la[k]] := List.take_succ_eq_append_getElem hlt
          have hst : (la.take (k + 1)).countP isEnd = (la.take k).countP isEnd + if isEnd la[k] then 1 else 0 := by rw [htk, List.countP_append, List.countP_singleton]
          have HST := Lib.hid hst
          obtain ⟨y, hy⟩ : ∃ y, y = la[k].toNat := ⟨_, rfl⟩
          have hye : isEnd la[k] = (y == 10) := by rw [hy]; rfl
          rw [← hy] at hc0 hb8
          have HYE := Lib.hid hye
          clear htk hst hcl3 hy hye
          by_cases h10 : y = 10
          · subst h10
            go_wp2_with fail
            refine ⟨⟨k + 1, by omega, by go_num, ?_⟩, by simp [intOf]; omega⟩
            rw [HST.out, HYE.out]
            go_num
          · have h10' : ((y : Int) == 10) = false := beq_eq_false_iff_ne.2 (by omega)
            go_wp2_with fail
            refine ⟨⟨k + 1, by omega, by go_num, ?_⟩, by simp [intOf]; omega⟩
            rw [HST.out, HYE.out, show (y == 10) = false from beq_eq_false_iff_ne.2 h10]
            rfl
        · obtain rfl : k = la.length := by omega
          rw [List.take_length]
          obtain ⟨L, hL⟩ : ∃ L, L = la.countP isEnd := ⟨_, rfl⟩
          have hls : L ≤ 600 := by omega
          rw [← hL] at HZR ⊢
          clear hL hcl hcp
          go_wp2_with fail
          go_loopw [19] (fun i wr => ∃ k, k ≤ Z.length ∧ i = .int .i64 (k : Nat) ∧ Below W9.heap.size W9 wr) (fun i _ => Z.length - (intOf i).toNat)
          case atStart => exact ⟨0, by omega, rfl, Below.refl _ _⟩
          case round =>
            obtain ⟨k, hk2, rfl, hBk⟩ := hrel
            have HBK := Lib.hid hBk
            by_cases hkz : k < Z.length
            · have hkz' : (k : Int) < Z.length := by omega
              by_cases hkx : k < X.length
              · have hkx' : (k : Int) < X.length := by omega
                obtain ⟨x, r, hxk, hx1, hx2⟩ := HXW.out k hkx
                have hzk : Z[k] = x :: r := by
                  have : ∀ (Z' : List (List Wd)) (h : k < Z'.length), Z' = X ++ Y.map (List.map (shW L)) → Z'[k] = X[k] := by
                    rintro Z' h rfl
                    exact List.getElem_append_left hkx
                  rw [this Z hkz HZR.out, hxk]
                obtain ⟨gx, ox, gxk, mx, cx, rfl, xx0, xm0, xm1, xx1, xx2, xx3⟩ := (HX9.out.below hBk).first hkx hxk
                obtain ⟨gz, oz, gzk, mz, cz, rfl, zz0, zm0, zm1, zz1, zz2, zz3⟩ := (HZ9.out.below hBk).first hkz hzk
                have b1 := cell_lt xx0
                have b2 := cell_lt xx1
                have b3 := cell_lt zz0
                have b4 := cell_lt zz1
                have m1 : (0 : Int) < mx := by omega
                have m2 : (0 : Int) < mz := by omega
                obtain ⟨xt, hxt⟩ : ∃ xt : ByteArray, xt = ⟨x.text.toArray⟩ := ⟨_, rfl⟩
                rw [← hxt] at xx1 zz1
                clear hxt hxk hzk hBk
                go_wp2_with fail
                go_quiet (fail)
                go_wp2_with fail
                go_roundw
                case rel => exact ⟨k + 1, by omega, by go_num, below_drewN (HBK.out.alloc HBK.out.size _) _⟩
                case measure => simp [intOf]; omega
              · have hkx' : (X.length : Int) ≤ k := by omega
                obtain ⟨j, hj⟩ : ∃ j, j = k - X.length := ⟨_, rfl⟩
                have hjy : j < Y.length := by have := HZL.out; omega
                have hjy' : (j : Int) < Y.length := by omega
                have hkj : (k : Int) - (X.length : Int) = (j : Int) := by omega
                obtain ⟨x, r, hxk, hx1, hx2⟩ := HYW.out j hjy
                have hzk : Z[k] = shW L x :: r.map (shW L) := by
                  have : ∀ (Z' : List (List Wd)) (h : k < Z'.length), Z' = X ++ Y.map (List.map (shW L)) → Z'[k] = (Y[j]).map (shW L) := by
                    rintro Z' h rfl
                    rw [List.getElem_append_right (by omega), List.getElem_map]
                    congr 2
                    omega
                  rw [this Z hkz HZR.out, hxk]
                  rfl
                obtain ⟨gx, ox, gxk, mx, cx, rfl, xx0, xm0, xm1, xx1, xx2, xx3⟩ := (HY9.out.below hBk).first hjy hxk
                obtain ⟨gz, oz, gzk, mz, cz, rfl, zz0, zm0, zm1, zz1, zz2, zz3⟩ := (HZ9.out.below hBk).first hkz hzk
                have zz1' : wr.cell? ⟨gzk, 0, none⟩ = some (.string ⟨x.text.toArray⟩) := zz1
                have zz2' : wr.cell? ⟨gzk, 1, none⟩ = some (.int .i64 ((x.line : Int) + (L : Int))) := zz2
                have zz3' : wr.cell? ⟨gzk, 2, none⟩ = some (.int .i64 (x.col : Nat)) := zz3
                have b1 := cell_lt xx0
                have b2 := cell_lt xx1
                have b3 := cell_lt zz0
                have b4 := cell_lt zz1
                have m1 : (0 : Int) < mx := by omega
                have m2 : (0 : Int) < mz := by omega
                obtain ⟨xt, hxt⟩ : ∃ xt : ByteArray, xt = ⟨x.text.toArray⟩ := ⟨_, rfl⟩
                rw [← hxt] at xx1 zz1'
                clear hxt hxk hzk hBk hj zz1 zz2 zz3
                go_wp2_with fail
                go_quiet (fail)
                go_wp2_with fail
                go_roundw
                case rel => exact ⟨k + 1, by omega, by go_num, below_drewN (HBK.out.alloc HBK.out.size _) _⟩
                case measure => simp [intOf]; omega
            · obtain rfl : k = Z.length := by omega
              clear hBk
              go_wp2_with fail
              refine (known_any wr).mono ?_
              rintro e wk ⟨rfl, hbk⟩
              have HQ := Lib.hid (HB9.out.trans (HBK.out.mono HB9.out.size))
              have HQ2 := Lib.hid (HQ.out.trans (hbk.mono HQ.out.size))
              clear hbk
              go_wp2_with fail
              go_ret
              exact ⟨rfl, HQ2.out⟩
end Go.Proofs.Ytnfkeaplglknlaa.words
