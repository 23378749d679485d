/- KeyBytes, walked. -/
import Derived.Test.YtckbijkgibjjjaaKeyLawA
namespace Go.Proofs.Ytckbijkgibjjjaa.key
open Go.RowKit
open Go.Proofs.Ytckbijkgibjjjaa.aid

def tildes (k : Nat) : List UInt8 := List.replicate k 126
theorem tildes_succ (k : Nat) : tildes (k + 1) = tildes k ++ [126] := by
  unfold tildes
  rw [List.replicate_succ']
theorem tildes_len (k : Nat) : (tildes k).length = k := by simp [tildes]
theorem tildes_right (k : Nat) : right (tildes k) = (decide (1 ≤ k) && decide (k ≤ 128)) := by
  have hv : (tildes k).all vis = true := by
    rw [List.all_eq_true]
    intro x hx
    rw [List.eq_of_mem_replicate hx]
    decide
  unfold right
  rw [hv, tildes_len]
  simp
theorem bent_right (l : List UInt8) (h1 : l.length ≤ 12) (hv : l.all vis = true) (i : Nat) (b : UInt8) : right (l.take i ++ [b] ++ l.drop i) = vis b := by
  have e1 : (l.take i).all vis = true := by
    rw [List.all_eq_true] at hv ⊢
    exact fun x hx => hv x (List.mem_of_mem_take hx)
  have e2 : (l.drop i).all vis = true := by
    rw [List.all_eq_true] at hv ⊢
    exact fun x hx => hv x (List.mem_of_mem_drop hx)
  have hl : (l.take i ++ [b] ++ l.drop i).length = l.length + 1 := by
    simp
    omega
  unfold right
  rw [hl]
  simp [List.all_append, e1, e2]
  omega

set_option maxHeartbeats 800000 in
set_option maxRecDepth 100000 in
theorem keyBytes_walk (w : World) (l0 : List UInt8) (A0 : Option Addr) (c0 : Nat) (a1 a2 a3 : Int)
    (h0 : l0.length ≤ 9223372036854775807) (r0 : Row w w.heap.size A0 (u8s l0)) (w1 : 0 ≤ a1 ∧ a1 ≤ 255) (w2 : 0 ≤ a2 ∧ a2 ≤ 255) (w3 : 0 ≤ a3 ∧ a3 ≤ 255) :
    Calls Try.prog 6 #[.slice A0 l0.length c0, .int .u8 a1, .int .u8 a2, .int .u8 a3] w fun e w' => e = .returned (.bool true) ∧ Below w.heap.size w w' := by
  obtain ⟨w1, w1'⟩ := w1
  obtain ⟨w2, w2'⟩ := w2
  obtain ⟨w3, w3'⟩ := w3
  obtain ⟨k1, k2, k3, k4⟩ := keyOf_right l0
  have hbent := fun i => bent_right (keyOf l0) k2 k4 i (aid.byteOf a1)
  have hbn := byteOf_toNat w1 w1'
  have K1 := Lib.hid k1
  have HB := Lib.hid hbent
  have HN := Lib.hid hbn
  have R0 := Lib.hid r0
  have KA := Lib.hid (key_any l0 A0 c0 h0 w r0)
  clear k1 k4 hbent hbn r0
  generalize keyOf l0 = own at *
  go_enter Try.func6, Try.ntmps6
  go_wp2_with fail
  refine KA.out.mono ?_
  rintro e wk ⟨rfl, hbk⟩
  go_wp2_with fail
  have hx0 : 0 ≤ a2 % ((own.length : Int) + 1) := Int.emod_nonneg _ (by omega)
  have hx1 : a2 % ((own.length : Int) + 1) ≤ own.length := by have := Int.emod_lt_of_pos a2 (show 0 < (own.length : Int) + 1 by omega); omega
  generalize a2 % ((own.length : Int) + 1) = x at *
  obtain ⟨i, rfl⟩ := Int.eq_ofNat_of_zero_le hx0
  clear hx0
  have hcv := one_byte_drew wk a1 w1 w1'
  go_region
  clear hcv
  rw [bent_mk]
  have g1 := (hbk.alloc hbk.size (.cells #[.int .u8 a1] 5)).drew
  have hll : (own.take i ++ [aid.byteOf a1] ++ own.drop i).length ≤ 13 := by simp; omega
  have hbi := HB.out i
  generalize own.take i ++ [aid.byteOf a1] ++ own.drop i = bent at *
  have HBI := Lib.hid hbi
  clear hbi
  go_wp2_with fail
  go_loop [12, 13] (fun s k => ∃ j : Nat, (j : Int) ≤ a3 ∧ k = .int .i64 j ∧ s = .string ⟨(tildes j).toArray⟩) (fun _ k => (a3 - intOf k).toNat)
  case atStart => exact ⟨0, by omega, rfl, rfl⟩
  case round =>
    obtain ⟨j, hj, rfl, rfl⟩ := hrel
    have hlj : (tildes j).length ≤ 300 := by rw [tildes_len]; omega
    by_cases hlt : (j : Int) < a3
    · have HT := Lib.hid (tildes_succ j)
      go_wp2
      go_round
      case rel => exact ⟨j + 1, by omega, by go_num, by rw [HT.out]; exact congrArg Value.string (ByteArray.mk_append_mk (tildes j) [126])⟩
      case measure => simp [intOf]; omega
    · have hge : a3 ≤ j := by omega
      have hrt := tildes_right j
      have hr3 : right (tildes j) = (decide (0 < a3) && decide (a3 ≤ 128)) := by
        rw [hrt]
        congr 1
        · exact decide_eq_decide.2 (by omega)
        · exact decide_eq_decide.2 (by omega)
      have HR := Lib.hid hr3
      clear hrt hr3 hlt
      go_wp2_with fail
      refine (known_any _).mono ?_
      rintro e w4 ⟨rfl, hb4⟩
      have g2 := g1.trans (hb4.mono g1.size)
      go_wp2_with fail
      refine (right_any _ (by simp [ByteArray.size]; omega) _).mono ?_
      rintro e w5 ⟨rfl, hb5⟩
      have g3 := g2.trans (hb5.mono g2.size)
      rw [show right _ = true from K1.out]
      go_wp2_with fail
      refine (right_any _ (by simp [ByteArray.size]; omega) _).mono ?_
      rintro e w6 ⟨rfl, hb6⟩
      have g4 := g3.trans (hb6.mono g3.size)
      rw [show right _ = vis (aid.byteOf a1) from HBI.out]
      have hn := HN.out
      by_cases hv1 : 32 < a1
      · have hd1 : decide (32 < a1) = true := by simp; omega
        by_cases hv2 : a1 < 127
        · have hd2 : decide (a1 < 127) = true := by simp; omega
          have hvis : vis (aid.byteOf a1) = true := by simp [vis]; omega
          rw [hvis]
          clear hn hvis HBI HN
          go_wp2_with fail
          refine (right_any _ (by simp [ByteArray.size]; omega) _).mono ?_
          rintro e w7 ⟨rfl, hb7⟩
          have g5 := g4.trans (hb7.mono g4.size)
          rw [show right _ = _ from HR.out]
          by_cases hz : 0 < a3
          · have hz1 : decide (0 < a3) = true := by simp; omega
            by_cases hy : a3 ≤ 128
            · have hz2 : decide (a3 ≤ 128) = true := by simp; omega
              rw [hz1, hz2]
              go_wp2_with fail
              go_ret
              exact ⟨rfl, g5⟩
            · have hz2 : decide (a3 ≤ 128) = false := by simp; omega
              rw [hz1, hz2]
              go_wp2_with fail
              go_ret
              exact ⟨rfl, g5⟩
          · have hz1 : decide (0 < a3) = false := by simp; omega
            rw [hz1, Bool.false_and]
            go_wp2_with fail
            go_ret
            exact ⟨rfl, g5⟩
        · have hd2 : decide (a1 < 127) = false := by simp; omega
          have hvis : vis (aid.byteOf a1) = false := by simp [vis]; omega
          rw [hvis]
          clear hn hvis HBI HN
          go_wp2_with fail
          refine (right_any _ (by simp [ByteArray.size]; omega) _).mono ?_
          rintro e w7 ⟨rfl, hb7⟩
          have g5 := g4.trans (hb7.mono g4.size)
          rw [show right _ = _ from HR.out]
          by_cases hz : 0 < a3
          · have hz1 : decide (0 < a3) = true := by simp; omega
            by_cases hy : a3 ≤ 128
            · have hz2 : decide (a3 ≤ 128) = true := by simp; omega
              rw [hz1, hz2]
              go_wp2_with fail
              go_ret
              exact ⟨rfl, g5⟩
            · have hz2 : decide (a3 ≤ 128) = false := by simp; omega
              rw [hz1, hz2]
              go_wp2_with fail
              go_ret
              exact ⟨rfl, g5⟩
          · have hz1 : decide (0 < a3) = false := by simp; omega
            rw [hz1, Bool.false_and]
            go_wp2_with fail
            go_ret
            exact ⟨rfl, g5⟩
      · have hd1 : decide (32 < a1) = false := by simp; omega
        have hvis : vis (aid.byteOf a1) = false := by simp [vis]; omega
        rw [hvis]
        clear hn hvis HBI HN
        go_wp2_with fail
        refine (right_any _ (by simp [ByteArray.size]; omega) _).mono ?_
        rintro e w7 ⟨rfl, hb7⟩
        have g5 := g4.trans (hb7.mono g4.size)
        rw [show right _ = _ from HR.out]
        by_cases hz : 0 < a3
        · have hz1 : decide (0 < a3) = true := by simp; omega
          by_cases hy : a3 ≤ 128
          · have hz2 : decide (a3 ≤ 128) = true := by simp; omega
            rw [hz1, hz2]
            go_wp2_with fail
            go_ret
            exact ⟨rfl, g5⟩
          · have hz2 : decide (a3 ≤ 128) = false := by simp; omega
            rw [hz1, hz2]
            go_wp2_with fail
            go_ret
            exact ⟨rfl, g5⟩
        · have hz1 : decide (0 < a3) = false := by simp; omega
          rw [hz1, Bool.false_and]
          go_wp2_with fail
          go_ret
          exact ⟨rfl, g5⟩
end Go.Proofs.Ytckbijkgibjjjaa.key
