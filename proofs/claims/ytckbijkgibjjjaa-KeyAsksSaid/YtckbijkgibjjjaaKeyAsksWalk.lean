/- KeyAsks, walked. -/
import Derived.Test.YtckbijkgibjjjaaKeyLawA
namespace Go.Proofs.Ytckbijkgibjjjaa.key
open Go.RowKit
open Go.Proofs.Ytckbijkgibjjjaa.aid

def exes (k : Nat) : List UInt8 := List.replicate k 120
theorem exes_succ (k : Nat) : exes (k + 1) = exes k ++ [120] := by
  unfold exes
  rw [List.replicate_succ']
theorem exes_len (k : Nat) : (exes k).length = k := by simp [exes]
theorem size_mk2 (l : List UInt8) : (ByteArray.mk l.toArray).size = l.length := by simp [ByteArray.size]

set_option maxHeartbeats 1600000 in
set_option maxRecDepth 100000 in
theorem keyAsks_walk (w : World) (a0 a1 : ByteArray) (l2 : List ByteArray) (A2 : Option Addr) (c2 : Nat) (l3 : List UInt8) (A3 : Option Addr) (c3 : Nat) (l4 : List UInt8) (A4 : Option Addr) (c4 : Nat) (a5 : Int)
    (w0 : a0.size ≤ 140737488351232) (w1 : a1.size ≤ 140737488351232)
    (h2 : l2.length ≤ 9223372036854775807) (_hc2 : l2.length ≤ c2) (z2 : ∀ s ∈ l2, s.size ≤ 140737488351232) (r2 : Row w w.heap.size A2 (l2.map .string))
    (h3 : l3.length ≤ 9223372036854775807) (r3 : Row w w.heap.size A3 (u8s l3)) (h4 : l4.length ≤ 9223372036854775807) (r4 : Row w w.heap.size A4 (u8s l4)) (w5 : 0 ≤ a5 ∧ a5 ≤ 255) :
    Calls Try.prog 3 #[.string a0, .string a1, .slice A2 l2.length c2, .slice A3 l3.length c3, .slice A4 l4.length c4, .int .u8 a5] w fun e w' => e = .returned (.bool true) ∧ Below w.heap.size w w' := by
  obtain ⟨w5, w5'⟩ := w5
  have k3 := keyOf_right l3
  have k4 := keyOf_right l4
  have q3 := k3.2.1
  have q4 := k4.2.1
  have R2 := Lib.hid r2
  have R3 := Lib.hid r3
  have R4 := Lib.hid r4
  have Z2 := Lib.hid z2
  clear r2 r3 r4 z2 k3 k4
  go_enter Try.func3, Try.ntmps3
  go_wp2_with fail
  go_loop [13, 14] (fun t i => ∃ (k : Nat) (T : Int), k ≤ l2.length ∧ i = .int .i64 k ∧ t = .int .i64 T ∧ 0 ≤ T ∧ T ≤ 300000000000000) (fun _ i => l2.length - (intOf i).toNat)
  case atStart => exact ⟨0, _, by omega, rfl, rfl, by omega, by omega⟩
  case round =>
    obtain ⟨k, T, hk, rfl, rfl, hT0, hT1⟩ := hrel
    by_cases hgo : k < l2.length ∧ T ≤ 1000
    · obtain ⟨hlt, hT2⟩ := hgo
      obtain ⟨b, off, rfl, hb, hc⟩ := R2.out.at_ (k := k) (by simp; omega)
      have hc0 := hc k (.string l2[k]) (by simp)
      have hz : (l2[k].size : Int) ≤ 140737488351232 := by have := Z2.out l2[k] (by simp); omega
      have hi : (k : Int) < l2.length := by omega
      clear hc
      go_wp2_with fail
      go_round
      case rel => exact ⟨k + 1, _, by omega, by go_num, rfl, by omega, by omega⟩
      case measure => simp [intOf]; omega
    · by_cases hbig : 1000 < T
      · rcases (show ((k : Int) < l2.length) ∨ ((l2.length : Int) ≤ k) by omega) with hstop | hstop
        all_goals
          clear hgo
          go_wp2_with fail
          refine (known_any _).mono ?_
          rintro e w1 ⟨rfl, hb1⟩
          go_wp2_with fail
          go_ret
          exact ⟨rfl, hb1⟩
      · have hT2 : T ≤ 1000 := by omega
        have hstop2 : (l2.length : Int) ≤ k := by omega
        clear hgo hbig
        go_wp2_with fail
        refine (known_any _).mono ?_
        rintro e w1 ⟨rfl, g1⟩
        go_wp2_with fail
        go_loop [15, 16] (fun s i => ∃ j : Nat, (j : Int) ≤ a5 ∧ i = .int .i64 j ∧ s = .string ⟨(exes j).toArray⟩) (fun _ i => (a5 - intOf i).toNat)
        case atStart => exact ⟨0, by omega, rfl, rfl⟩
        case round =>
          obtain ⟨j, hj, rfl, rfl⟩ := hrel
          have hlj : (exes j).length ≤ 300 := by rw [exes_len]; omega
          by_cases hlt : (j : Int) < a5
          · have HT := Lib.hid (exes_succ j)
            go_wp2
            go_round
            case rel => exact ⟨j + 1, by omega, by go_num, by rw [HT.out]; exact congrArg Value.string (ByteArray.mk_append_mk (exes j) [120])⟩
            case measure => simp [intOf]; omega
          · have hge : a5 ≤ j := by omega
            clear hlt
            generalize exes j = long at *
            go_wp2_with fail
            refine (key_any l3 A3 c3 h3 _ ((R3.out.below g1).more g1.size)).mono ?_
            rintro e w2 ⟨rfl, hb2⟩
            have g2 := g1.trans (hb2.mono g1.size)
            go_wp2_with fail
            refine (key_any l4 A4 c4 h4 _ ((R4.out.below g2).more g2.size)).mono ?_
            rintro e w3 ⟨rfl, hb3⟩
            have g3 := g2.trans (hb3.mono g2.size)
            generalize keyOf l3 = x at *
            generalize keyOf l4 = y at *
            go_wp2_with fail
            refine (asks_any _ _ (by omega) (by omega) _).mono ?_
            rintro e w4 ⟨rfl, hb4⟩
            have g4 := g3.trans (hb4.mono g3.size)
            go_wp2_with fail
            refine (asks_any _ _ (by rw [size_mk2]; omega) (by rw [size_mk2]; omega) _).mono ?_
            rintro e w5 ⟨rfl, hb5⟩
            have g5 := g4.trans (hb5.mono g4.size)
            go_wp2_with fail
            refine (asks_any _ _ (by rw [ByteArray.size_append, size_mk2]; omega) (by rw [ByteArray.size_append, size_mk2]; omega) _).mono ?_
            rintro e w6 ⟨rfl, hb6⟩
            have g6 := g5.trans (hb6.mono g5.size)
            go_wp2_with fail
            refine (asks_any _ _ (by rw [size_mk2]; omega) (by rw [ByteArray.size_append, size_mk2]; omega) _).mono ?_
            rintro e w7 ⟨rfl, hb7⟩
            have g7 := g6.trans (hb7.mono g6.size)
            go_wp2_with fail
            refine (asks_any _ _ (by rw [size_mk2]; omega) (by rw [size_mk2]; omega) _).mono ?_
            rintro e w8 ⟨rfl, hb8⟩
            have g8 := g7.trans (hb8.mono g7.size)
            go_wp2_with fail
            refine (sorted_any l2 A2 c2 h2 (fun s hs => by have := Z2.out s hs; omega) _ ((R2.out.below g8).more g8.size)).mono ?_
            rintro e w9 ⟨rfl, hb9⟩
            have g9 := g8.trans (hb9.mono g8.size)
            go_wp2_with fail
            refine (refsorted_any l2 A2 c2 h2 (fun s hs => by have := Z2.out s hs; omega) _ ((R2.out.below g9).more g9.size)).mono ?_
            rintro e w10 ⟨rfl, hb10⟩
            have g10 := g9.trans (hb10.mono g9.size)
            go_wp2_with fail
            refine (sorted_any [⟨x.toArray⟩, ⟨y.toArray⟩] _ _ (by simp) (by simp [size_mk2]; omega) _ (Row.new w10 9 #[.string ⟨x.toArray⟩, .string ⟨y.toArray⟩])).mono ?_
            rintro e w11 ⟨rfl, hb11⟩
            have ga := g10.alloc g10.size (.cells #[.string ⟨x.toArray⟩, .string ⟨y.toArray⟩] 9)
            have g11 := ga.trans (hb11.mono ga.size)
            go_wp2_with fail
            refine (refsorted_any [⟨x.toArray⟩, ⟨y.toArray⟩] _ _ (by simp) (by simp [size_mk2]; omega) _ (Row.new w11 9 #[.string ⟨x.toArray⟩, .string ⟨y.toArray⟩])).mono ?_
            rintro e w12 ⟨rfl, hb12⟩
            have gb := g11.alloc g11.size (.cells #[.string ⟨x.toArray⟩, .string ⟨y.toArray⟩] 9)
            go_wp2_with fail
            go_ret
            exact ⟨rfl, gb.trans (hb12.mono gb.size)⟩
end Go.Proofs.Ytckbijkgibjjjaa.key
