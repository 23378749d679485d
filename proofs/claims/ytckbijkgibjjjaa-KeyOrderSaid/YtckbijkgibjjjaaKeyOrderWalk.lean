/- KeyOrder, walked. -/
import Derived.Test.YtckbijkgibjjjaaKeyLawA
namespace Go.Proofs.Ytckbijkgibjjjaa.key
open Go.RowKit
open Go.Proofs.Ytckbijkgibjjjaa.aid

set_option maxHeartbeats 800000 in
theorem keyOrder_big (w : World) (a0 a1 a2 : ByteArray) (v3 v4 v5 : Value) (w0 : (a0.size : Int) ≤ 140737488351232) (w1 : (a1.size : Int) ≤ 140737488351232) (w2 : (a2.size : Int) ≤ 140737488351232) (hbig : (500 : Int) < (a0.size : Int) + a1.size + a2.size) :
    Calls Try.prog 4 #[.string a0, .string a1, .string a2, v3, v4, v5] w fun e w' => e = .returned (.bool true) ∧ Below w.heap.size w w' := by
  go_enter Try.func4, Try.ntmps4
  go_wp2_with fail
  refine (known_any _).mono ?_
  rintro e wk ⟨rfl, hbk⟩
  go_wp2_with fail
  go_ret
  exact ⟨rfl, hbk⟩

theorem size_mk (l : List UInt8) : (ByteArray.mk l.toArray).size = l.length := by simp [ByteArray.size]

set_option maxHeartbeats 800000 in
theorem keyOrder_walk (w : World) (a0 a1 a2 : ByteArray) (l3 : List UInt8) (A3 : Option Addr) (c3 : Nat) (l4 : List UInt8) (A4 : Option Addr) (c4 : Nat) (l5 : List UInt8) (A5 : Option Addr) (c5 : Nat)
    (w0 : a0.size ≤ 140737488351232) (w1 : a1.size ≤ 140737488351232) (w2 : a2.size ≤ 140737488351232)
    (h3 : l3.length ≤ 9223372036854775807) (r3 : Row w w.heap.size A3 (u8s l3)) (h4 : l4.length ≤ 9223372036854775807) (r4 : Row w w.heap.size A4 (u8s l4)) (h5 : l5.length ≤ 9223372036854775807) (r5 : Row w w.heap.size A5 (u8s l5)) :
    Calls Try.prog 4 #[.string a0, .string a1, .string a2, .slice A3 l3.length c3, .slice A4 l4.length c4, .slice A5 l5.length c5] w fun e w' => e = .returned (.bool true) ∧ Below w.heap.size w w' := by
  by_cases hbig : 500 < a0.size + a1.size + a2.size
  · exact keyOrder_big w a0 a1 a2 _ _ _ (by omega) (by omega) (by omega) (by omega)
  have hs : (a0.size : Int) + a1.size + a2.size ≤ 500 := by omega
  have hs0 : (a0.size : Int) + a1.size ≤ 500 := by omega
  have R3 := Lib.hid r3
  have R4 := Lib.hid r4
  have R5 := Lib.hid r5
  clear r3 r4 r5 hbig
  have k3 := keyOf_right l3
  have k4 := keyOf_right l4
  have k5 := keyOf_right l5
  have q3 := k3.2.1
  have q4 := k4.2.1
  have q5 := k5.2.1
  clear k3 k4 k5
  go_enter Try.func4, Try.ntmps4
  go_wp2_with fail
  refine (known_any _).mono ?_
  rintro e wk ⟨rfl, hbk⟩
  go_wp2_with fail
  refine (order_any a0 a1 a2 (by omega) (by omega) (by omega) _).mono ?_
  rintro e wo ⟨rfl, hbo⟩
  have g1 := hbk.trans (hbo.mono hbk.size)
  go_wp2_with fail
  refine (key_any l3 A3 c3 h3 _ ((R3.out.below g1).more g1.size)).mono ?_
  rintro e wa ⟨rfl, hba⟩
  have g2 := g1.trans (hba.mono g1.size)
  go_wp2_with fail
  refine (key_any l4 A4 c4 h4 _ ((R4.out.below g2).more g2.size)).mono ?_
  rintro e wb ⟨rfl, hbb⟩
  have g3 := g2.trans (hbb.mono g2.size)
  go_wp2_with fail
  refine (key_any l5 A5 c5 h5 _ ((R5.out.below g3).more g3.size)).mono ?_
  rintro e wc ⟨rfl, hbc⟩
  have g4 := g3.trans (hbc.mono g3.size)
  go_wp2_with fail
  refine (order_any _ _ _ (by rw [size_mk]; omega) (by rw [size_mk]; omega) (by rw [size_mk]; omega) _).mono ?_
  rintro e wd ⟨rfl, hbd⟩
  go_wp2_with fail
  go_ret
  exact ⟨rfl, g4.trans (hbd.mono g4.size)⟩
end Go.Proofs.Ytckbijkgibjjjaa.key
