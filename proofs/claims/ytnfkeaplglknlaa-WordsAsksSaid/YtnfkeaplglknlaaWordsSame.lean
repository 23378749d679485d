/- the document's Same for words, walked. -/
import Derived.Test.YtnfkeaplglknlaaWordsBlanksWalk
import Derived.Laws.StructEq
namespace Go.Proofs.Ytnfkeaplglknlaa.words
open Go.RowKit
open Go.Proofs.Ytnfkeaplglknlaa.aid

set_option maxHeartbeats 16000000 in
set_option maxRecDepth 100000 in
theorem same_any (X : List (List Wd)) (v v' : Value) (w : World) (h : Rws w v X) (h' : Rws w v' X) (hn : X.length ≤ 2000) (hf : ∀ R ∈ X, R.length ≤ 2000) :
    Calls Try.prog 23 #[v, v'] w fun e w' => e = .returned (.bool true) ∧ Below w.heap.size w w' := by
  obtain ⟨A1, c1, rfl⟩ := h.len
  obtain ⟨A2, c2, rfl⟩ := h'.len
  have HX := Lib.hid h
  have HY := Lib.hid h'
  have HF := Lib.hid hf
  clear h h' hf
  go_enter Try.func23, Try.ntmps23
  go_wp2_with fail
  go_loopw [5] (fun i wr => ∃ k, k ≤ X.length ∧ i = .int .i64 (k : Nat) ∧ Below w.heap.size w wr) (fun i _ => X.length - (intOf i).toNat)
  case atStart => exact ⟨0, by omega, rfl, Below.refl _ _⟩
  case round =>
    obtain ⟨k, hk, rfl, hBk⟩ := hrel
    have HBK := Lib.hid hBk
    by_cases hkx : k < X.length
    · have hkx' : (k : Int) < X.length := by omega
      obtain ⟨R, hR⟩ : ∃ R, X[k] = R := ⟨_, rfl⟩
      have hRl := HF.out R (by rw [← hR]; exact List.getElem_mem hkx)
      obtain ⟨gx, ox, gk, cx, rfl, xx0, xm1, xx1⟩ := (HX.out.below hBk).row_ hkx hR
      obtain ⟨gy, oy, hk2, cy, rfl, yy0, ym1, yy1⟩ := (HY.out.below hBk).row_ hkx hR
      have HXX := Lib.hid xx1
      have HYY := Lib.hid yy1
      have hxm : (R.length : Int) ≤ cx := by omega
      have hym : (R.length : Int) ≤ cy := by omega
      clear xx1 yy1 hR hBk
      go_wp2_with fail
      go_quiet (fail)
      go_wp2_with fail
      obtain ⟨wo, rfl⟩ : ∃ wo : World, wo = wr := ⟨_, rfl⟩
      go_loopw [6] (fun i wr2 => ∃ j, j ≤ R.length ∧ i = .int .i64 (j : Nat) ∧ Below wo.heap.size wo wr2) (fun i _ => R.length - (intOf i).toNat)
      case atStart => exact ⟨0, by omega, rfl, below_drewN (Below.refl _ _) _⟩
      case round =>
        obtain ⟨j, hj, rfl, hBj⟩ := hrel
        have HBJ := Lib.hid hBj
        have x0 := (hBj.cell (p := ⟨gx, ox + k, none⟩) (cell_lt xx0)).trans xx0
        have y0 := (hBj.cell (p := ⟨gy, oy + k, none⟩) (cell_lt yy0)).trans yy0
        by_cases hji : j < R.length
        · have hji' : (j : Int) < R.length := by omega
          obtain ⟨p1, p2, p3⟩ := HXX.out j hji
          obtain ⟨q1, q2, q3⟩ := HYY.out j hji
          have x1 := (hBj.cell (p := ⟨gk, j * 3, none⟩) (cell_lt p1)).trans p1
          have x2 := (hBj.cell (p := ⟨gk, j * 3 + 1, none⟩) (cell_lt p2)).trans p2
          have x3 := (hBj.cell (p := ⟨gk, j * 3 + 2, none⟩) (cell_lt p3)).trans p3
          have y1 := (hBj.cell (p := ⟨hk2, j * 3, none⟩) (cell_lt q1)).trans q1
          have y2 := (hBj.cell (p := ⟨hk2, j * 3 + 1, none⟩) (cell_lt q2)).trans q2
          have y3 := (hBj.cell (p := ⟨hk2, j * 3 + 2, none⟩) (cell_lt q3)).trans q3
          obtain ⟨xt, hxt⟩ : ∃ xt : ByteArray, xt = ⟨R[j].text.toArray⟩ := ⟨_, rfl⟩
          obtain ⟨xl, hxl⟩ : ∃ xl, xl = R[j].line := ⟨_, rfl⟩
          obtain ⟨xc, hxc⟩ : ∃ xc, xc = R[j].col := ⟨_, rfl⟩
          rw [← hxt] at x1 y1
          rw [← hxl] at x2 y2
          rw [← hxc] at x3 y3
          clear hxt hxl hxc hBj p1 p2 p3 q1 q2 q3 xx0 yy0
          go_wp2_with fail
          go_quiet (fail)
          go_wp2_with fail
          go_roundw
          case rel => exact ⟨j + 1, by omega, by go_num, below_drewN HBJ.out _⟩
          case measure => simp [intOf]; omega
        · obtain rfl : j = R.length := by omega
          have HQ := Lib.hid (HBK.out.trans (hBj.mono HBK.out.size))
          clear hBj xx0 yy0
          go_wp2_with fail
          go_roundw
          case rel => exact ⟨k + 1, by omega, by go_num, HQ.out⟩
          case measure => simp [intOf]; omega
    · obtain rfl : k = X.length := by omega
      clear hBk
      go_wp2_with fail
      go_ret
      exact ⟨rfl, HBK.out⟩
end Go.Proofs.Ytnfkeaplglknlaa.words
