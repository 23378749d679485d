/- the laws' back, walked: joined lines are split into the same. -/
import Derived.Test.YtnfkeaplglknlaaWordsPlainWalk
import Derived.Test.YtnfkeaplglknlaaWordsBlanksWalk
namespace Go.Proofs.Ytnfkeaplglknlaa.words
open Go.RowKit
open Go.Proofs.Ytnfkeaplglknlaa.aid

set_option maxHeartbeats 16000000 in
set_option maxRecDepth 100000 in
theorem back_any (ls : List (List (List UInt8))) (v : Value) (w : World) (h : Lns w v ls) (hok : ∀ l ∈ ls, lineOk l) (hlen : (joinText ls).length ≤ 100000) (hn : ls.length ≤ 100000) (hw : ∀ l ∈ ls, l.length ≤ 100000) :
    Calls Try.prog 16 #[v] w fun e w' => e = .returned (.bool true) ∧ Below w.heap.size w w' := by
  obtain ⟨A, c, rfl, hc⟩ := h.len
  have HL := Lib.hid h
  have HJ := Lib.hid (join_any ls _ w h hlen hn hw)
  obtain ⟨h0, h1, h2⟩ := join_split ls hok (by omega)
  have HSP := Lib.hid (fun A' c' W (hc' : (joinText ls).length ≤ c') hr => split_any (joinText ls) A' c' hc' W hr)
  unfold SplitPost at HSP
  obtain ⟨L1, hL1⟩ : ∃ L1, L1 = (split (joinText ls)).line := ⟨_, rfl⟩
  obtain ⟨C1, hC1⟩ : ∃ C1, C1 = (split (joinText ls)).col := ⟨_, rfl⟩
  obtain ⟨X, hX⟩ : ∃ X, X = (split (joinText ls)).out := ⟨_, rfl⟩
  rw [h0, ← hL1, ← hC1, ← hX] at HSP
  rw [← hX] at h1
  have h2' : ∀ k (h : k < X.length), ∀ w ∈ X[k], w.line = k + 1 := by
    intro k hk w hw
    subst hX
    exact h2 k hk w hw
  have hXl : X.length = ls.length := by rw [← h1, List.length_map]
  have HXT : Hid (∀ k (hk : k < X.length) (hk2 : k < ls.length), (X[k]).map Wd.text = ls[k]) := Lib.hid (fun k hk hk2 => by
    have : ∀ (Y : List (List (List UInt8))) (h : k < Y.length), X.map (List.map Wd.text) = Y → (X[k]).map Wd.text = Y[k] := by
      rintro Y h rfl
      rw [List.getElem_map]
    exact this ls hk2 h1)
  have HXL := Lib.hid h2'
  have HLE := Lib.hid hXl
  have HW := Lib.hid hw
  have hcc : (ls.length : Int) ≤ c := by omega
  obtain ⟨T, hT⟩ : ∃ T, T = joinText ls := ⟨_, rfl⟩
  rw [← hT] at HJ HSP
  clear h hok hlen hw h0 h1 h2 h2' hL1 hC1 hX hXl hT
  go_enter Try.func16, Try.ntmps16
  go_wp2_with fail
  refine HJ.out.mono ?_
  rintro e w1 ⟨A1, c1, rfl, hc1, hr1, hb1⟩
  have HS1 := Lib.hid (HSP.out A1 c1 w1 hc1 hr1)
  have HB1 := Lib.hid hb1
  clear hr1 hb1 HJ HSP
  go_wp2_with fail
  refine HS1.out.mono ?_
  rintro e w2 ⟨v2, rfl, hx2, hb2⟩
  obtain ⟨A2, c2, rfl⟩ := hx2.len
  rw [HLE.out] at hx2 ⊢
  obtain ⟨W3, hW3⟩ : ∃ W3, W3 = w2.alloc (.cells #[.int .i64 L1, .int .i64 C1] 31) := ⟨_, rfl⟩
  have hbw : Below w2.heap.size w2 W3 := by rw [hW3]; exact (Below.refl _ _).alloc (Nat.le_refl _) _
  have hq := hb2.trans (hbw.mono hb2.size)
  have HX3 := Lib.hid (hx2.below hbw)
  have hB3 := HB1.out.trans (hq.mono HB1.out.size)
  have HL3 := Lib.hid (HL.out.below hB3)
  have HB3 := Lib.hid hB3
  have HW3 := Lib.hid hW3
  clear hx2 hb2 hbw hq hW3 hB3 HS1 HB1 HL
  go_wp2_with fail
  rw [← HW3.out]
  go_loopw [6] (fun i wr => ∃ k, k ≤ ls.length ∧ i = .int .i64 (k : Nat) ∧ Below W3.heap.size W3 wr) (fun i _ => ls.length - (intOf i).toNat)
  case atStart => exact ⟨0, by omega, rfl, Below.refl _ _⟩
  case round =>
    obtain ⟨k, hk, rfl, hBk⟩ := hrel
    have HBK := Lib.hid hBk
    by_cases hkl : k < ls.length
    · have hkl' : (k : Int) < ls.length := by omega
      have hkx : k < X.length := by rw [HLE.out]; exact hkl
      obtain ⟨R, hR⟩ : ∃ R, X[k] = R := ⟨_, rfl⟩
      obtain ⟨l, hl⟩ : ∃ l, ls[k] = l := ⟨_, rfl⟩
      have htx := HXT.out k hkx hkl
      have hln := HXL.out k hkx
      rw [hR] at htx hln
      rw [hl] at htx
      have hll : l.length = R.length := by rw [← htx, List.length_map]
      have hlw := HW.out l (by rw [← hl]; exact List.getElem_mem hkl)
      obtain ⟨gx, ox, gk, cx, rfl, xx0, xm1, xx1⟩ := (HX3.out.below hBk).row_ hkx hR
      obtain ⟨gy, oy, A', cy, rfl, yy0, ym1, yy1⟩ := (HL3.out.below hBk).at_ hkl hl
      rw [hll] at yy0 ym1 hlw
      have HXX := Lib.hid xx1
      have HYY := Lib.hid yy1
      have HTX := Lib.hid htx
      have HLN := Lib.hid hln
      have hxm : (R.length : Int) ≤ cx := by omega
      have hym : (R.length : Int) ≤ cy := by omega
      clear xx1 yy1 htx hln hll hR hl hBk
      go_wp2_with fail
      go_quiet (fail)
      go_wp2_with fail
      obtain ⟨wo, rfl⟩ : ∃ wo : World, wo = wr := ⟨_, rfl⟩
      go_loopw [7] (fun i wr2 => ∃ j, j ≤ R.length ∧ i = .int .i64 (j : Nat) ∧ Below wo.heap.size wo wr2) (fun i _ => R.length - (intOf i).toNat)
      case atStart => exact ⟨0, by omega, rfl, below_drewN (Below.refl _ _) _⟩
      case round =>
        obtain ⟨j, hj, rfl, hBj⟩ := hrel
        have HBJ := Lib.hid hBj
        have x0 := (hBj.cell (p := ⟨gx, ox + k, none⟩) (cell_lt xx0)).trans xx0
        have y0 := (hBj.cell (p := ⟨gy, oy + k, none⟩) (cell_lt yy0)).trans yy0
        by_cases hji : j < R.length
        · have hji' : (j : Int) < R.length := by omega
          obtain ⟨p1, p2, p3⟩ := HXX.out j hji
          have hlj := HLN.out _ (List.getElem_mem hji)
          rw [hlj] at p2
          have hjl : j < l.length := by rw [← HTX.out, List.length_map]; exact hji
          obtain ⟨gs, os, rfl, hlt2, hcl2⟩ := HYY.out.at_ (k := j) (by rw [List.length_map]; exact hjl)
          have q1 := hcl2 j (.string ⟨R[j].text.toArray⟩) (by
            rw [← HTX.out, List.getElem?_map, List.getElem?_map, List.getElem?_eq_getElem hji]
            rfl)
          have p1' := (hBj.cell (p := ⟨gk, j * 3, none⟩) (cell_lt p1)).trans p1
          have p2' : wr.cell? ⟨gk, j * 3 + 1, none⟩ = some (.int .i64 ((k : Int) + 1)) := (hBj.cell (p := ⟨gk, j * 3 + 1, none⟩) (cell_lt p2)).trans p2
          have q1' := (hBj.cell (p := ⟨gs, os + j, none⟩) (cell_lt q1)).trans q1
          obtain ⟨S, hS⟩ : ∃ S : ByteArray, S = ⟨R[j].text.toArray⟩ := ⟨_, rfl⟩
          rw [← hS] at p1' q1'
          clear hS p1 p2 p3 q1 hcl2 hlt2 hlj hBj xx0 yy0
          go_wp2_with fail
          go_quiet (fail)
          go_wp2_with fail
          go_roundw
          case rel => exact ⟨j + 1, by omega, by go_num, below_drewN HBJ.out _⟩
          case measure => simp [intOf]; omega
        · obtain rfl : j = R.length := by omega
          have HQ := Lib.hid (HBK.out.trans (hBj.mono HBK.out.size))
          clear hBj xx0 yy0
          go_wp2_with fail
          go_roundw
          case rel => exact ⟨k + 1, by omega, by go_num, HQ.out⟩
          case measure => simp [intOf]; omega
    · obtain rfl : k = ls.length := by omega
      have HQ := Lib.hid (HB3.out.trans (hBk.mono HB3.out.size))
      clear hBk
      go_wp2_with fail
      go_ret
      exact ⟨rfl, HQ.out⟩
end Go.Proofs.Ytnfkeaplglknlaa.words
