/- WordsBack, walked. -/
import Derived.Test.YtnfkeaplglknlaaWordsBackOne
namespace Go.Proofs.Ytnfkeaplglknlaa.words
open Go.RowKit
open Go.Proofs.Ytnfkeaplglknlaa.aid

abbrev svs (l : List (List UInt8)) : List Value := l.map fun x => .string ⟨x.toArray⟩
/-- rows of strings that are done: each whole in a block of its own -/
def RS (W : World) (B : Nat) (hs : List Value) (rows : List (List (List UInt8))) : Prop :=
  hs.length = rows.length ∧ ∀ j (h : j < rows.length), ∃ g c cur, hs[j]? = some (.slice (some ⟨g, 0, none⟩) rows[j].length c) ∧ rows[j].length ≤ c ∧ g < B ∧ Blk W g 9 cur ∧ cur.toList.take rows[j].length = svs rows[j]
theorem RS.keep {W W' : World} {B : Nat} {hs : List Value} {rows : List (List (List UInt8))} {row : Option Nat} (h : RS W B hs rows) (hg : W.grownBy W' row) (hr : ∀ k, row = some k → B ≤ k ∨ ∃ t cs, t ≠ 9 ∧ Blk W k t cs) : RS W' B hs rows := by
  refine ⟨h.1, fun j hj => ?_⟩
  obtain ⟨g, c, cur, h1, h2, h4, h5, h6⟩ := h.2 j hj
  refine ⟨g, c, cur, h1, h2, h4, h5.grown hg (fun e => ?_), h6⟩
  rcases hr g e.symm with h | ⟨t, cs, hne, hb⟩
  · omega
  · exact Blk.ne_ hb h5 hne rfl
theorem RS.more {W : World} {B B' : Nat} {hs : List Value} {rows : List (List (List UInt8))} (h : RS W B hs rows) (hB : B ≤ B') : RS W B' hs rows :=
  ⟨h.1, fun j hj => by obtain ⟨g, c, cur, h1, h2, h4, h5⟩ := h.2 j hj; exact ⟨g, c, cur, h1, h2, by omega, h5⟩⟩
theorem RS.nil (W : World) (B : Nat) : RS W B [] [] := ⟨rfl, fun j h => by simp at h⟩
theorem RS.add {W : World} {B : Nat} {hs : List Value} {rows : List (List (List UInt8))} (h : RS W B hs rows) {g c : Nat} {cur : Array Value} {row : List (List UInt8)} (hc : row.length ≤ c) (h2 : g < B) (h3 : Blk W g 9 cur) (h4 : cur.toList.take row.length = svs row) :
    RS W B (hs ++ [.slice (some ⟨g, 0, none⟩) row.length c]) (rows ++ [row]) := by
  refine ⟨by simp [h.1], fun j hj => ?_⟩
  rcases Nat.lt_or_ge j rows.length with hlt | hge
  · obtain ⟨g, c, cur, p1, p2⟩ := h.2 j hlt
    have e : (rows ++ [row])[j] = rows[j] := List.getElem_append_left hlt
    rw [e]
    exact ⟨g, c, cur, by rw [List.getElem?_append_left (by rw [h.1]; exact hlt)]; exact p1, p2⟩
  · have hj2 : j = rows.length := by simp at hj; omega
    subst hj2
    have e : (rows ++ [row])[rows.length] = row := by simp
    rw [e]
    exact ⟨g, c, cur, by rw [← h.1]; simp, hc, h2, h3, h4⟩
theorem RS.lns {W : World} {base : Nat} {hs : List Value} {rows : List (List (List UInt8))} {v : Value} (h : RS W W.heap.size hs rows) (ho : W.ownsRow base 40 1 v rows.length hs) : Lns W v rows := by
  obtain ⟨A, c, rfl, hc, -⟩ := own_form ho
  refine ⟨A, c, hs, rfl, hc, of_own ho, h.1, fun j hj => ?_⟩
  obtain ⟨g, c', cur, h1, h2, h4, h5, h6⟩ := h.2 j hj
  refine ⟨_, c', h1, h2, fun hn => ⟨g, 0, rfl, h5.lt, fun i u hu => ?_⟩⟩
  rw [Nat.zero_add, h5.cell i]
  have h7 : (cur.toList.take rows[j].length)[i]? = some u := by rw [h6]; exact hu
  rw [List.getElem?_take] at h7
  split at h7
  · simpa using h7
  · cases h7
theorem RS.push {W : World} {base Br : Nat} {hs : List Value} {rows : List (List (List UInt8))} {row : List (List UInt8)} {v : Value} (h : RS W Br hs rows) (hB : Br ≤ W.heap.size) (ho : W.ownsRow base 9 1 v row.length (svs row)) (hne : row ≠ []) : RS W W.heap.size (hs ++ [v]) (rows ++ [row]) := by
  rcases ho.2 with ⟨rfl, h0⟩ | ⟨g, cap, cur, rfl, hb, hh, hn, _, _, htk⟩
  · exact absurd (List.eq_nil_of_length_eq_zero h0) hne
  · exact (h.more hB).add hn (Array.getElem?_eq_some_iff.1 hh).1 hh (by rw [Nat.mul_one] at htk; exact htk)
theorem own_keep {w w' : World} {base : Nat} {e : TypeId} {size n : Nat} {v : Value} {xs : List Value} (h : w.ownsRow base e size v n xs) (hb : Below w.heap.size w w') : w'.ownsRow base e size v n xs := h.kept (grown_none hb none) (by cases hv : v.ownBlock <;> simp)
theorem short_len : ∀ ls : List (List (List UInt8)), (∀ l ∈ ls, shortLine l) → (joinText ls).length ≤ ls.length * 2020
  | [], _ => Nat.le_refl _
  | l :: r, h => by
    have ih := short_len r (fun x hx => h x (List.mem_cons_of_mem _ hx))
    obtain ⟨h1, h2, h3⟩ := h l (List.mem_cons_self ..)
    have h4 := join_wt l h1.1
    have h5 : ∀ m : List (List UInt8), (∀ x ∈ m, x.length ≤ 100) → wt m ≤ m.length * 101 := by
      intro m
      induction m with
      | nil => intro _; exact Nat.le_refl _
      | cons x r ih =>
        intro hm
        have h6 := ih (fun y hy => hm y (List.mem_cons_of_mem _ hy))
        have h7 := hm x (List.mem_cons_self ..)
        have e : wt (x :: r) = x.length + 1 + wt r := by simp [wt]
        rw [e, List.length_cons]
        omega
    have h6 := h5 l h3
    have e : (joinText (l :: r)).length = (joinLine l).length + (joinText r).length := by simp [joinText]
    rw [e, h4, List.length_cons]
    omega
theorem str_info : (Try.prog.info? 9).map (fun i => (i.zero, i.size, i.bytes)) = some (some (.string ⟨#[]⟩), 1, 16) := by kernel_rfl
theorem strs_info : (Try.prog.info? 40).map (fun i => (i.zero, i.size, i.bytes)) = some (some (.slice none 0 0), 1, 24) := by kernel_rfl

set_option maxHeartbeats 16000000 in
set_option maxRecDepth 100000 in
theorem wordsBack_walk (w : World) (ls : List (List (List UInt8))) (v : Value) (l1 : List UInt8) (A1 : Option Addr) (c1 : Nat) (h0 : Lns w v ls) (n1 : l1.length ≤ 9223372036854775807) (r1 : Row w w.heap.size A1 (u8s l1)) :
    Calls Try.prog 8 #[v, .slice A1 l1.length c1] w fun e w' => e = .returned (.bool true) ∧ Below w.heap.size w w' := by
  obtain ⟨A, c, rfl, hc⟩ := h0.len
  have HL := Lib.hid h0
  have HTX := Lib.hid (text_any l1 A1 c1 n1 w r1)
  clear h0 r1
  by_cases hb1 : 30 < ls.length
  · have hb1' : (30 : Int) < ls.length := by omega
    go_enter Try.func8, Try.ntmps8
    go_wp2_with fail
    refine (known_any w).mono ?_
    rintro e wk ⟨rfl, hbk⟩
    go_wp2_with fail
    go_ret
    exact ⟨rfl, hbk⟩
  by_cases hb2 : 100 < l1.length
  · have hb1' : (ls.length : Int) ≤ 30 := by omega
    have hb2' : (100 : Int) < l1.length := by omega
    go_enter Try.func8, Try.ntmps8
    go_wp2_with fail
    refine (known_any w).mono ?_
    rintro e wk ⟨rfl, hbk⟩
    go_wp2_with fail
    go_ret
    exact ⟨rfl, hbk⟩
  have hb1' : (ls.length : Int) ≤ 30 := by omega
  have hb2' : (l1.length : Int) ≤ 100 := by omega
  obtain ⟨i1, hi1, hy0, hy1, hy2⟩ := info_parts str_info
  obtain ⟨i2, hi2, hx0, hx1, hx2⟩ := info_parts strs_info
  go_enter Try.func8, Try.ntmps8
  go_wp2_with fail
  refine HTX.out.mono ?_
  rintro e w2 ⟨v2, rfl, hown2, hb2⟩
  have hta := textOf_len l1
  obtain ⟨tt, htt⟩ : ∃ tt, tt = textOf l1 := ⟨_, rfl⟩
  rw [← htt] at hown2 hta
  obtain ⟨A2, c2, rfl, hc2, -⟩ := own_form hown2
  have HS2 := Lib.hid (split_any tt A2 c2 hc2 w2 (of_own hown2))
  have HB2 := Lib.hid hb2
  unfold SplitPost at HS2
  obtain ⟨hbk1, hbk2⟩ := split_back (l := tt) (by omega)
  have hfew : ∀ row ∈ (split tt).out, row.length ≤ tt.length := fun row hr => split_few (by omega) hr
  have hxs : (split tt).out.length ≤ 600 := by
    by_cases he : (split tt).err = 0
    · rw [split_rows (by omega) (split_good (by omega) he)]
      have := all_len tt 1
      omega
    · rw [(split_bad (by omega) he).1]
      simp
  have her : (split tt).err = 0 ∨ (split tt).out = [] := by
    by_cases he : (split tt).err = 0
    · exact .inl he
    · exact .inr (split_bad (by omega) he).1
  obtain ⟨E1, hE1⟩ : ∃ E1, E1 = (split tt).err := ⟨_, rfl⟩
  obtain ⟨L1, hL1⟩ : ∃ L1, L1 = (split tt).line := ⟨_, rfl⟩
  obtain ⟨C1, hC1⟩ : ∃ C1, C1 = (split tt).col := ⟨_, rfl⟩
  obtain ⟨X, hX⟩ : ∃ X, X = (split tt).out := ⟨_, rfl⟩
  rw [← hE1, ← hL1, ← hC1, ← hX] at HS2
  rw [← hX] at hbk1 hbk2 hfew hxs
  rw [← hE1, ← hX] at her
  have HFW := Lib.hid hfew
  have HOK := Lib.hid hbk1
  have HJL : Hid ((joinText (X.map (List.map Wd.text))).length ≤ 1000) := Lib.hid (by omega)
  have HER := Lib.hid her
  clear hown2 hb2 htt hE1 hL1 hC1 hX hbk1 hbk2 hfew her HTX
  go_wp2_with fail
  refine HS2.out.mono ?_
  rintro e w3 ⟨v3, rfl, hx3, hb3⟩
  obtain ⟨A3, c3, rfl⟩ := hx3.len
  obtain ⟨W3, hW3⟩ : ∃ W3, W3 = w3.alloc (.cells #[.int .i64 L1, .int .i64 C1] 31) := ⟨_, rfl⟩
  have hbw : Below w3.heap.size w3 W3 := by rw [hW3]; exact (Below.refl _ _).alloc (Nat.le_refl _) _
  have hq := hb3.trans (hbw.mono hb3.size)
  have HX3 := Lib.hid (hx3.below hbw)
  have HB3 := Lib.hid (HB2.out.trans (hq.mono HB2.out.size))
  have HW3 := Lib.hid hW3
  clear hx3 hb3 hbw hq hW3 HS2 HB2
  go_wp2_with fail
  rw [← HW3.out]
  go_loopw [8, 9] (fun O i wr => ∃ k hs, k ≤ X.length ∧ i = .int .i64 (k : Nat) ∧ Hid (wr.ownsRow W3.heap.size 40 1 O k hs) ∧ Hid (RS wr wr.heap.size hs ((X.take k).map (List.map Wd.text))) ∧ Below W3.heap.size W3 wr) (fun _ i _ => X.length - (intOf i).toNat)
  case atStart => exact ⟨0, [], by omega, rfl, Lib.hid (World.ownsRow_nil _ _ _ _), Lib.hid (RS.nil _ _), Below.refl _ _⟩
  case round =>
    obtain ⟨k, hs, hk, rfl, hO, hRS, hBk⟩ := hrel
    by_cases hkx : k < X.length
    · have hkx' : (k : Int) < X.length := by omega
      have he0 : E1 = 0 := by
        rcases HER.out with h | h
        · exact h
        · rw [h] at hkx; simp at hkx
      obtain ⟨R, hR⟩ : ∃ R, X[k] = R := ⟨_, rfl⟩
      have hRf := HFW.out R (by rw [← hR]; exact List.getElem_mem hkx)
      have hRo := HOK.out (R.map Wd.text) (by rw [← hR]; exact List.mem_map_of_mem (List.getElem_mem hkx))
      have HTK : Hid ((X.take (k + 1)).map (List.map Wd.text) = (X.take k).map (List.map Wd.text) ++ [R.map Wd.text]) := Lib.hid (by rw [List.take_succ_eq_append_getElem hkx, hR, List.map_append]; rfl)
      have HRN : Hid (R.map Wd.text ≠ []) := Lib.hid hRo.1
      obtain ⟨gx, ox, gk, cx, rfl, xx0, xm1, xx1⟩ := (HX3.out.below hBk).row_ hkx hR
      have HXX := Lib.hid xx1
      have hxm : (R.length : Int) ≤ cx := by omega
      have HBK := Lib.hid hBk
      have he0' : ((E1 : Int) == 0) = true := by rw [he0]; rfl
      clear xx1 hR hRo hBk he0
      go_wp2_with fail
      obtain ⟨wo, rfl⟩ : ∃ wo : World, wo = wr := ⟨_, rfl⟩
      go_loopw [10, 11] (fun V i wr2 => ∃ j, j ≤ R.length ∧ i = .int .i64 (j : Nat) ∧ Hid (wr2.ownsRow wo.heap.size 9 1 V j (svs ((R.take j).map Wd.text))) ∧ Below wo.heap.size wo wr2) (fun _ i _ => R.length - (intOf i).toNat)
      case atStart => exact ⟨0, by omega, rfl, Lib.hid (World.ownsRow_nil _ _ _ _), Below.refl _ _⟩
      case round =>
        obtain ⟨j, hj, rfl, hV, hBj⟩ := hrel
        have x0 := (hBj.cell (p := ⟨gx, ox + k, none⟩) (cell_lt xx0)).trans xx0
        by_cases hji : j < R.length
        · have hji' : (j : Int) < R.length := by omega
          obtain ⟨p1, -, -⟩ := HXX.out j hji
          have p1' := (hBj.cell (p := ⟨gk, j * 3, none⟩) (cell_lt p1)).trans p1
          have HTJ : Hid (svs ((R.take (j + 1)).map Wd.text) = svs ((R.take j).map Wd.text) ++ [.string ⟨R[j].text.toArray⟩]) := Lib.hid (by unfold svs; rw [List.take_succ_eq_append_getElem hji, List.map_append, List.map_append]; rfl)
          obtain ⟨S, hS⟩ : ∃ S : ByteArray, S = ⟨R[j].text.toArray⟩ := ⟨_, rfl⟩
          rw [← hS] at p1' HTJ
          have HVA := Lib.hid (hV.out.alloc (.cells #[.string S] 9))
          have HBA := Lib.hid (hBj.alloc hBj.size (.cells #[.string S] 9))
          clear hS p1 hBj xx0
          go_wp2_with (at_builtin; go_must (refine wpList_append_row _ rfl (.tmp 47) (.tmp 56) 40 rfl wo.heap.size 9 i1 _ 16 rfl hi1 hy0 hy1 hy2 rfl _ j _ rfl HVA.out _ (some ⟨wr.heap.size, 0, none⟩) 1 1 [.string S] rfl rfl (Row.new wr 9 #[.string S]) (by simp [Value.oneCell']) (by unfold maxLen; omega) (by omega) HBA.out.size ?_; intro v5 w5 hown5 hg5 hat5; rw [← HTJ.out] at hown5; have HO5 := Lib.hid hown5; have HB5 := Lib.hid (grown_below HBA.out HVA.out (Nat.le_refl _) HBA.out.size hg5); clear hown5 hg5 hat5))
          go_wp2_with fail
          go_roundw
          case rel => exact ⟨j + 1, by omega, by go_num, HO5, HB5.out⟩
          case measure => simp [intOf]; omega
        · obtain rfl : j = R.length := by omega
          rw [List.take_length] at hV
          have hRS2 := hRS.out.keep (grown_none hBj none) (by simp)
          have hO2 := own_keep hO.out hBj
          have hP : RS wr wr.heap.size (hs ++ [u10]) ((X.take (k + 1)).map (List.map Wd.text)) := by
            rw [HTK.out]
            exact hRS2.push hBj.size (by rw [List.length_map]; exact hV.out) HRN.out
          obtain ⟨Av, cv, rfl⟩ := own_slice hV.out
          have hba : Below wr.heap.size wr (wr.alloc (.cells #[.slice Av R.length cv] 40)) := (Below.refl _ _).alloc (Nat.le_refl _) _
          have HPA := Lib.hid (hP.keep (grown_none hba none) (by simp))
          have HOA := Lib.hid (own_keep hO2 hba)
          have hB6 := HBK.out.trans (hBj.mono HBK.out.size)
          have HBA := Lib.hid (hB6.trans (hba.mono hB6.size))
          clear hRS2 hO2 hP hba hB6 hBj xx0 hRS hO hV
          go_wp2_with (at_builtin; go_must (refine wpList_append_row _ rfl (.tmp 58) (.tmp 60) 39 rfl W3.heap.size 40 i2 _ 24 rfl hi2 hx0 hx1 hx2 rfl _ k _ rfl HOA.out _ (some ⟨wr.heap.size, 0, none⟩) 1 1 [.slice Av R.length cv] rfl rfl (Row.new wr 40 #[.slice Av R.length cv]) (by simp [Value.oneCell']) (by unfold maxLen; omega) (by omega) HBA.out.size ?_; intro v6 w6 hown6 hg6 hat6; have HO6 := Lib.hid hown6; have HB6 := Lib.hid (grown_below HBA.out HOA.out (Nat.le_refl _) HBA.out.size hg6); have HP6 := Lib.hid ((HPA.out.keep hg6 (fun k' e => by obtain ⟨cur, h1, _⟩ := own_has HOA.out e; exact .inr ⟨_, cur, by decide, h1⟩)).more (Nat.le_trans (by simp) hg6.size)); clear hown6 hg6 hat6))
          go_wp2_with fail
          go_roundw
          case rel => exact ⟨k + 1, _, by omega, by go_num, HO6, HP6, HB6.out⟩
          case measure => simp [intOf]; omega
    · obtain rfl : k = X.length := by omega
      rw [List.take_length] at hRS
      obtain ⟨rows, hrows⟩ : ∃ rows, rows = X.map (List.map Wd.text) := ⟨_, rfl⟩
      have hrl : rows.length = X.length := by rw [hrows, List.length_map]
      have HWL : Hid (∀ l ∈ rows, l.length ≤ 600) := Lib.hid (fun l hl => by
        rw [hrows] at hl
        obtain ⟨R, hR, rfl⟩ := List.mem_map.1 hl
        have := HFW.out R hR
        rw [List.length_map]
        omega)
      rw [← hrows] at HOK HJL hRS
      have hlns := hRS.out.lns (by rw [hrl]; exact hO.out)
      have HBA := Lib.hid (fun W (h : Below wr.heap.size wr W) => back_any rows u8 W (hlns.below h) HOK.out (Nat.le_trans HJL.out (by omega)) (by omega) (fun l hl => Nat.le_trans (HWL.out l hl) (by omega)))
      have hG := HB3.out.trans (hBk.mono HB3.out.size)
      have HG := Lib.hid hG
      have HPL := Lib.hid (fun W (h : Below w.heap.size w W) => plain_any ls _ W (HL.out.below h) (by omega))
      have HBB := Lib.hid (fun W (h : Below w.heap.size w W) (hs : ∀ l ∈ ls, shortLine l) => back_any ls _ W (HL.out.below h) (fun l hl => (hs l hl).1) (Nat.le_trans (short_len ls hs) (by omega)) (by omega) (fun l hl => Nat.le_trans (hs l hl).2.1 (by omega)))
      clear hRS hO hrows hrl hlns hG hBk
      go_wp2_with fail
      refine (known_any wr).mono ?_
      rintro e wk ⟨rfl, hbk⟩
      have HBk := Lib.hid hbk
      clear hbk
      go_wp2_with fail
      refine (HBA.out wk HBk.out).mono ?_
      rintro e wb ⟨rfl, hbb⟩
      have HBb := Lib.hid (HG.out.trans ((HBk.out.trans (hbb.mono HBk.out.size)).mono HG.out.size))
      clear hbb
      go_wp2_with fail
      refine (HPL.out wb HBb.out).mono ?_
      rintro e wp ⟨b, rfl, hsl, rfl⟩
      have HSL := Lib.hid hsl
      clear hsl
      cases b
      · go_wp2_with fail
        go_ret
        exact ⟨rfl, HBb.out⟩
      · go_wp2_with fail
        refine (HBB.out wb HBb.out (HSL.out (by simp))).mono ?_
        rintro e wz ⟨rfl, hbz⟩
        have HBz := Lib.hid (HBb.out.trans (hbz.mono HBb.out.size))
        clear hbz
        go_wp2_with fail
        go_ret
        exact ⟨rfl, HBz.out⟩
end Go.Proofs.Ytnfkeaplglknlaa.words
