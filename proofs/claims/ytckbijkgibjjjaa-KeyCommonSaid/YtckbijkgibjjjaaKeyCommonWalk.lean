/- KeyCommon, walked. -/
import Derived.Test.YtckbijkgibjjjaaKeyCommonLaw
namespace Go.Proofs.Ytckbijkgibjjjaa.key
open Go.RowKit
open Go.Proofs.Ytckbijkgibjjjaa.aid

theorem size_mk' (l : List UInt8) : (ByteArray.mk l.toArray).size = l.length := by simp [ByteArray.size]

set_option maxHeartbeats 800000 in
theorem keyCommon_big (w : World) (a0 a1 : ByteArray) (v2 v3 : Value) (w0 : (a0.size : Int) ≤ 140737488351232) (w1 : (a1.size : Int) ≤ 140737488351232) (hbig : (500 : Int) < (a0.size : Int) + a1.size) :
    Calls Try.prog 5 #[.string a0, .string a1, v2, v3] w fun e w' => e = .returned (.bool true) ∧ Below w.heap.size w w' := by
  go_enter Try.func5, Try.ntmps5
  go_wp2_with fail
  refine (known_any _).mono ?_
  rintro e wk ⟨rfl, hbk⟩
  go_wp2_with fail
  go_ret
  exact ⟨rfl, hbk⟩

set_option maxHeartbeats 800000 in
theorem keyCommon_walk (w : World) (a0 a1 : ByteArray) (l2 : List UInt8) (A2 : Option Addr) (c2 : Nat) (l3 : List UInt8) (A3 : Option Addr) (c3 : Nat)
    (w0 : a0.size ≤ 140737488351232) (w1 : a1.size ≤ 140737488351232)
    (h2 : l2.length ≤ 9223372036854775807) (r2 : Row w w.heap.size A2 (u8s l2)) (h3 : l3.length ≤ 9223372036854775807) (r3 : Row w w.heap.size A3 (u8s l3)) :
    Calls Try.prog 5 #[.string a0, .string a1, .slice A2 l2.length c2, .slice A3 l3.length c3] w fun e w' => e = .returned (.bool true) ∧ Below w.heap.size w w' := by
  by_cases hbig : 500 < a0.size + a1.size
  · exact keyCommon_big w a0 a1 _ _ (by omega) (by omega) (by omega)
  have hs : (a0.size : Int) + a1.size ≤ 500 := by omega
  have R2 := Lib.hid r2
  have R3 := Lib.hid r3
  have k2 := keyOf_right l2
  have k3 := keyOf_right l3
  have q2 := k2.2.1
  have q3 := k3.2.1
  clear r2 r3 hbig k2 k3
  go_enter Try.func5, Try.ntmps5
  go_wp2_with fail
  refine (known_any _).mono ?_
  rintro e wk ⟨rfl, hbk⟩
  go_wp2_with fail
  refine (commonlaw_any a0 a1 (by omega) (by omega) _).mono ?_
  rintro e wo ⟨rfl, hbo⟩
  have g1 := hbk.trans (hbo.mono hbk.size)
  go_wp2_with fail
  refine (key_any l2 A2 c2 h2 _ ((R2.out.below g1).more g1.size)).mono ?_
  rintro e wa ⟨rfl, hba⟩
  have g2 := g1.trans (hba.mono g1.size)
  go_wp2_with fail
  refine (key_any l3 A3 c3 h3 _ ((R3.out.below g2).more g2.size)).mono ?_
  rintro e wb ⟨rfl, hbb⟩
  have g3 := g2.trans (hbb.mono g2.size)
  go_wp2_with fail
  refine (commonlaw_any _ _ (by rw [size_mk']; omega) (by rw [size_mk']; omega) _).mono ?_
  rintro e wc ⟨rfl, hbc⟩
  have g4 := g3.trans (hbc.mono g3.size)
  go_wp2_with fail
  refine (commonlaw_any _ _ (by simp; omega) (by omega) _).mono ?_
  rintro e wd ⟨rfl, hbd⟩
  go_wp2_with fail
  go_ret
  exact ⟨rfl, g4.trans (hbd.mono g4.size)⟩
end Go.Proofs.Ytckbijkgibjjjaa.key
