/- AskAsks, walked. -/
import Derived.Test.YtolohhjepjefiaaAskLaw
import Derived.Test.YtolohhjepjefiaaKeyKey
import Derived.Deep.QuietTactic
import Derived.Lib.QuietBelow
namespace Go.Proofs.Ytolohhjepjefiaa.ask
open Go.RowKit
open Go.Sort (grow)
open Go.Proofs.Ytolohhjepjefiaa.aid

set_option maxHeartbeats 800000 in
theorem askAsks_big (w : World) (l0 : List UInt8) (A0 : Option Addr) (c0 : Nat) (a1 : ByteArray) (a2 : Int) (l3 : List UInt8) (A3 : Option Addr) (c3 : Nat) (a4 a5 a6 : Int) (a7 : ByteArray)
    (z0 : (l0.length : Int) ≤ 140737488351232) (z1 : (a1.size : Int) ≤ 140737488351232) (z7 : (a7.size : Int) ≤ 140737488351232) (hbig : (600 : Int) < (l0.length : Int) + a1.size + a7.size) :
    Calls Try.prog 5 #[.slice A0 l0.length c0, .string a1, .int .u64 a2, .slice A3 l3.length c3, .int .u8 a4, .int .u8 a5, .int .u8 a6, .string a7] w fun e w' => e = .returned (.bool true) ∧ Below w.heap.size w w' := by
  go_enter Try.func5, Try.ntmps5
  go_wp2_with fail
  refine (known_any _).mono ?_
  rintro e wk ⟨rfl, hbk⟩
  go_wp2_with fail
  go_ret
  exact ⟨rfl, hbk⟩

theorem row_string_at {w w' : World} {A : Option Addr} {l : List UInt8} {c : Nat} (h : Row w w.heap.size A (u8s l)) (hb : Below w.heap.size w w') :
    (convert 22 9 (.slice A l.length c)).run Try.prog w' = .ok (.string ⟨l.toArray⟩) w' := row_string ((h.below hb).more hb.size)

set_option maxHeartbeats 4000000 in
set_option maxRecDepth 100000 in
theorem askAsks_walk (w : World) (l0 : List UInt8) (A0 : Option Addr) (c0 : Nat) (a1 : ByteArray) (a2 : Int) (l3 : List UInt8) (A3 : Option Addr) (c3 : Nat) (a4 a5 a6 : Int) (a7 : ByteArray)
    (h0 : l0.length ≤ 140737488351232) (r0 : Row w w.heap.size A0 (u8s l0)) (z1 : a1.size ≤ 140737488351232) (w2 : 0 ≤ a2 ∧ a2 ≤ 18446744073709551615) (h3 : l3.length ≤ 140737488351232) (r3 : Row w w.heap.size A3 (u8s l3))
    (w4 : 0 ≤ a4 ∧ a4 ≤ 255) (w5 : 0 ≤ a5 ∧ a5 ≤ 255) (w6 : 0 ≤ a6 ∧ a6 ≤ 255) (z7 : a7.size ≤ 140737488351232) :
    Calls Try.prog 5 #[.slice A0 l0.length c0, .string a1, .int .u64 a2, .slice A3 l3.length c3, .int .u8 a4, .int .u8 a5, .int .u8 a6, .string a7] w fun e w' => e = .returned (.bool true) ∧ Below w.heap.size w w' := by
  by_cases hbig : 600 < l0.length + a1.size + a7.size
  · exact askAsks_big w l0 A0 c0 a1 a2 l3 A3 c3 a4 a5 a6 a7 (by omega) (by omega) (by omega) (by omega)
  have hs : (l0.length : Int) + a1.size + a7.size ≤ 600 := by omega
  have hs0 : (l0.length : Int) + a1.size ≤ 600 := by omega
  have hl0 : (l0.length : Int) ≤ 600 := by omega
  have hl1 : (a1.size : Int) ≤ 600 := by omega
  have hl7 : (a7.size : Int) ≤ 600 := by omega
  clear hbig h0 z1 z7
  obtain ⟨w2, w2'⟩ := w2
  obtain ⟨w4, w4'⟩ := w4
  obtain ⟨w5, w5'⟩ := w5
  obtain ⟨w6, w6'⟩ := w6
  have R0 := Lib.hid r0
  have R3 := Lib.hid r3
  clear r0 r3
  go_enter Try.func5, Try.ntmps5
  go_wp2_with fail
  refine (known_any _).mono ?_
  rintro e wk ⟨rfl, hbk⟩
  go_wp2_with fail
  refine (key.key_any l3 A3 c3 (by omega) _ ((R3.out.below hbk).more hbk.size)).mono ?_
  rintro e x1 ⟨rfl, hb1⟩
  have g1 := hbk.trans (hb1.mono hbk.size)
  obtain ⟨hk, hk1, -, -⟩ := key.keyOf_right l3
  clear hk
  generalize key.keyOf l3 = keyl at *
  go_wp2_with fail
  have hsh := dig.shr_in a2 (a6 % 64).toNat w2 w2'
  refine (dig.refprint_int _ hsh.1 hsh.2 _).mono ?_
  rintro e x2 ⟨rfl, rfl⟩
  have hlo := dig.digs_len (a2 / 2 ^ (a6 % 64).toNat).toNat
  clear hsh
  generalize dig.digs (a2 / 2 ^ (a6 % 64).toNat).toNat = dg at *
  obtain ⟨own, hown⟩ : ∃ own, own = verb ++ (keyl ++ 32 :: dg) := ⟨_, rfl⟩
  have hSr : ByteArray.mk #[67, 72, 69, 67, 75, 32] ++ ByteArray.mk keyl.toArray ++ ByteArray.mk #[32] ++ ByteArray.mk dg.toArray = ByteArray.mk own.toArray := by rw [asked, hown]
  have hol : own.length ≤ 100 := by rw [hown]; simp [verb]; omega
  clear hown
  go_wp2_with fail
  have hx0 : 0 ≤ a4 % ((own.length : Int) + 1) := Int.emod_nonneg _ (by omega)
  have hx1 : a4 % ((own.length : Int) + 1) ≤ own.length := by have := Int.emod_lt_of_pos a4 (show 0 < (own.length : Int) + 1 by omega); omega
  generalize a4 % ((own.length : Int) + 1) = x at *
  obtain ⟨i, rfl⟩ := Int.eq_ofNat_of_zero_le hx0
  clear hx0
  have hcv := one_byte_drew x1 a5 w5 w5'
  go_region
  clear hcv
  have g2 := (g1.alloc g1.size (.cells #[.int .u8 a5] 5)).drew
  go_wp2_with fail
  obtain ⟨j, hj⟩ : ∃ j : Nat, j = min (i + 1) own.length := ⟨_, rfl⟩
  have hj0 : min ((i : Int) + 1) own.length = j := by omega
  have hj1 : (j : Int) ≤ own.length := by omega
  go_region
  go_wp2_with fail
  obtain ⟨n, rfl⟩ := Int.eq_ofNat_of_zero_le w2
  refine (print_any a1 n (by omega) (by omega) _).mono ?_
  rintro e x3 ⟨A4, c4, rfl, hc4, hrow4, hb4⟩
  have g3 := g2.drew.trans (hb4.mono g2.drew.size)
  have hpl : (print a1.data.toList n).length ≤ 1000 := by
    have h1 := dig.digs_len n
    have h2 : a1.data.toList.length = a1.size := rfl
    unfold print
    split
    · simp [verb]; omega
    · simp
  have HRP := Lib.hid (fun W => refprint_any a1 n (by omega) (by omega) W)
  have H4 := Lib.hid hrow4
  obtain ⟨er, her0, her1, her2⟩ : ∃ er : Nat, er ≤ 12 ∧ (if key.right a1.data.toList = true then (0 : Int) else 12) = er ∧ ((if key.right a1.data.toList = true then (0 : Nat) else 12 : Nat) : Int) = er := by
    cases key.right a1.data.toList
    · exact ⟨12, by omega, rfl, rfl⟩
    · exact ⟨0, by omega, rfl, rfl⟩
  rw [her1]
  rw [her2] at HRP
  generalize print a1.data.toList n = out at *
  clear hrow4 her1 her2 g1 g2 hb4 hb1 hbk hSr hk1 hlo R3
  go_wp2_with fail
  refine (HRP.out _).mono ?_
  rintro e x4 ⟨A5, c5, rfl, hc5, hrow5, hb5⟩
  have g4 := g3.trans (hb5.mono g3.size)
  have H4' := Lib.hid ((H4.out.below hb5).more hb5.size)
  have H5 := Lib.hid hrow5
  have hr0 : ∀ d os, (convert 22 9 (.slice A0 l0.length c0)).run Try.prog (grow (redrawn x4 d) os) = .ok (.string ⟨l0.toArray⟩) (grow (redrawn x4 d) os) := fun d os => row_string_at R0.out (g4.trans ((below_regrown x4 d os).mono g4.size))
  have hr4 : ∀ d os, (convert 22 9 (.slice A4 out.length c4)).run Try.prog (grow (redrawn x4 d) os) = .ok (.string ⟨out.toArray⟩) (grow (redrawn x4 d) os) := fun d os => row_string_at H4'.out (below_regrown x4 d os)
  have hr5 : ∀ d os, (convert 22 9 (.slice A5 out.length c5)).run Try.prog (grow (redrawn x4 d) os) = .ok (.string ⟨out.toArray⟩) (grow (redrawn x4 d) os) := fun d os => row_string_at H5.out (below_regrown x4 d os)
  have hPA : ∀ s : ByteArray, s.size ≤ 100000 → ∀ d os, Calls Try.prog 14 #[.string s] (grow (redrawn x4 d) os) fun e w'' => e = .returned (.bool true) ∧ ∃ p : Regrown, w'' = grow (redrawn x4 p.d) p.os := fun s hs d os => Calls.regrown_of (parses_any s hs _)
  have PA := Lib.hid hPA
  have G4 := Lib.hid g4
  clear hPA H4 hrow5 HRP hb5 g3 g4
  go_wp2_with fail
  refine wp_region_quiet_below (by kernel_rfl) (by kernel_rfl) ?_
  repeat (first | go_big_quiet_step (exact PA.out _ (by simp [ByteArray.size_append, dig.size_mk]; omega) _ _) | quiet_step (exact PA.out _ (by simp [ByteArray.size_append, dig.size_mk]; omega) _ _))
  refine wpQuiet_nil ?_
  intro _ hw'
  obtain ⟨⟨dq, osq⟩, hw''⟩ := hw'
  subst hw''
  go_wp2
  go_ret
  exact ⟨rfl, G4.out.trans ((below_regrown x4 dq osq).mono G4.out.size)⟩
end Go.Proofs.Ytolohhjepjefiaa.ask
