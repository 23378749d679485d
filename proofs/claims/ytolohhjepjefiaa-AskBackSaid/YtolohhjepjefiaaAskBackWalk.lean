/- AskBack, walked. -/
import Derived.Test.YtolohhjepjefiaaAskLaw
import Derived.Test.YtolohhjepjefiaaKeyKey
namespace Go.Proofs.Ytolohhjepjefiaa.ask
open Go.RowKit
open Go.Proofs.Ytolohhjepjefiaa.aid

theorem ask_print {k : List UInt8} (hk : key.right k = true) {n : Nat} (hn : n ≤ 18446744073709551615) : ask (print k n) = (k, n, 0) := by
  unfold print
  rw [hk, if_pos rfl, ask_of (right_blank hk) (digs_blank hn)]
  unfold fin
  rw [hk, dig.parse_digs n hn]
  rfl
theorem ask_back (l : List UInt8) : ((ask l).2.2 = 0 → print (ask l).1 (ask l).2.1 = l) ∧ ((ask l).2.2 ≠ 0 → (ask l).1 = [] ∧ (ask l).2.1 = 0) := by
  rcases ask_cases l with h | ⟨k, d, e, hk, hd, h⟩
  · rw [h]
    exact ⟨fun h => by simp at h, fun _ => ⟨rfl, rfl⟩⟩
  · rw [h]
    unfold fin
    cases hr : key.right k
    · exact ⟨fun h => by simp at h, fun _ => ⟨rfl, rfl⟩⟩
    · rw [if_pos rfl]
      by_cases hp : (dig.parse d).2 = 0
      · rw [if_pos hp]
        refine ⟨fun _ => ?_, fun h => absurd rfl h⟩
        show print k (dig.parse d).1 = l
        unfold print
        rw [hr, if_pos rfl, dig.digs_parse d hp, e]
      · rw [if_neg hp]
        exact ⟨fun h => absurd h hp, fun _ => ⟨rfl, rfl⟩⟩
theorem print_len (k : List UInt8) (n : Nat) : (print k n).length ≤ k.length + 27 := by
  have h1 := dig.digs_len n
  unfold print
  cases key.right k
  · rw [if_neg (by simp)]
    simp
  · rw [if_pos rfl]
    simp [verb]
    omega
theorem fin_short (k d : List UInt8) : (fin k d).1.length ≤ k.length := by
  unfold fin
  split
  · split <;> simp
  · simp
theorem ask_short (l : List UInt8) : (ask l).1.length ≤ l.length := by
  rcases ask_cases l with h | ⟨k, d, e, hk, hd, h⟩
  · rw [h]; simp
  · rw [h, e]
    have := fin_short k d
    simp
    omega
theorem print_list (k : List UInt8) (n : Nat) (hk : k.length ≤ 140737488351232) (hn : (n : Int) ≤ 18446744073709551615) (w : World) :
    Calls Try.prog 12 #[str k, .int .u64 n] w fun e w' => ∃ A c, e = .returned (.tuple #[.slice A (print k n).length c, .int .u16 (if key.right k then 0 else 12)]) ∧ (print k n).length ≤ c ∧ Row w' w'.heap.size A (u8s (print k n)) ∧ Below w.heap.size w w' :=
  print_any ⟨k.toArray⟩ n (by rw [dig.size_mk]; exact hk) hn w

set_option maxHeartbeats 800000 in
theorem askBack_big (w : World) (l0 : List UInt8) (A0 : Option Addr) (c0 : Nat) (a1 a2 : Int) (l3 : List UInt8) (A3 : Option Addr) (c3 : Nat) (a4 : ByteArray)
    (z3 : (l3.length : Int) ≤ 140737488351232) (z4 : (a4.size : Int) ≤ 140737488351232) (hbig : (400 : Int) < (l3.length : Int) + a4.size) :
    Calls Try.prog 6 #[.slice A0 l0.length c0, .int .u64 a1, .int .u8 a2, .slice A3 l3.length c3, .string a4] w fun e w' => e = .returned (.bool true) ∧ Below w.heap.size w w' := by
  go_enter Try.func6, Try.ntmps6
  go_wp2_with fail
  refine (known_any _).mono ?_
  rintro e wk ⟨rfl, hbk⟩
  go_wp2_with fail
  go_ret
  exact ⟨rfl, hbk⟩

set_option maxHeartbeats 4000000 in
set_option maxRecDepth 100000 in
theorem askBack_walk (w : World) (l0 : List UInt8) (A0 : Option Addr) (c0 : Nat) (a1 a2 : Int) (l3 : List UInt8) (A3 : Option Addr) (c3 : Nat) (a4 : ByteArray)
    (h0 : l0.length ≤ 140737488351232) (r0 : Row w w.heap.size A0 (u8s l0)) (w1 : 0 ≤ a1 ∧ a1 ≤ 18446744073709551615) (w2 : 0 ≤ a2 ∧ a2 ≤ 255) (h3 : l3.length ≤ 140737488351232) (r3 : Row w w.heap.size A3 (u8s l3)) (z4 : a4.size ≤ 140737488351232) :
    Calls Try.prog 6 #[.slice A0 l0.length c0, .int .u64 a1, .int .u8 a2, .slice A3 l3.length c3, .string a4] w fun e w' => e = .returned (.bool true) ∧ Below w.heap.size w w' := by
  by_cases hbig : 400 < l3.length + a4.size
  · exact askBack_big w l0 A0 c0 a1 a2 l3 A3 c3 a4 (by omega) (by omega) (by omega)
  have hs : (l3.length : Int) + a4.size ≤ 400 := by omega
  have hl3 : (l3.length : Int) ≤ 400 := by omega
  have hl4 : (a4.size : Int) ≤ 400 := by omega
  clear hbig h3 z4
  obtain ⟨w11, w12⟩ := w1
  obtain ⟨w21, w22⟩ := w2
  obtain ⟨n, rfl⟩ := Int.eq_ofNat_of_zero_le w11
  have hn : n ≤ 18446744073709551615 := by omega
  have R3 := Lib.hid r3
  have HK := Lib.hid (key.key_any l0 A0 c0 (by omega) w r0)
  obtain ⟨hk, hk1, -, -⟩ := key.keyOf_right l0
  have HPK := Lib.hid (fun N (hN : N ≤ 18446744073709551615) W => print_list (key.keyOf l0) N (by omega) (by omega) W)
  rw [hk] at HPK
  have HAP := Lib.hid (fun N (hN : N ≤ 18446744073709551615) => ask_print hk hN)
  have HPl : Hid (∀ N, (print (key.keyOf l0) N).length ≤ 100) := Lib.hid (fun N => by
    have h1 := print_len (key.keyOf l0) N
    omega)
  generalize key.keyOf l0 = keyl at *
  clear hk r0 r3 h0
  go_enter Try.func6, Try.ntmps6
  go_wp2_with fail
  refine HK.out.mono ?_
  rintro e x1 ⟨rfl, g1⟩
  have hsh := dig.shr_in n (a2 % 64).toNat w11 w12
  obtain ⟨N, hN⟩ : ∃ N : Nat, (n : Int) / 2 ^ (a2 % 64).toNat = N := Int.eq_ofNat_of_zero_le hsh.1
  have hN2 : N ≤ 18446744073709551615 := by have := hsh.2; omega
  have hap := HAP.out N hN2
  have hpl := HPl.out N
  have HP := Lib.hid (fun W => HPK.out N hN2 W)
  clear hsh HAP HPK HPl HK w11
  go_wp2_with fail
  refine (HP.out _).mono ?_
  rintro e x2 ⟨A2, c2, rfl, hc2, hrow2, hb2⟩
  have g2 := g1.trans (hb2.mono g1.size)
  have HR := Lib.hid (parse_any A2 (print keyl N) c2 (by omega) x2 hrow2)
  rw [hap] at HR
  generalize print keyl N = out at *
  clear HP hb2 g1 hrow2 hap
  go_wp2_with fail
  refine HR.out.mono ?_
  rintro e x3 ⟨rfl, hb3⟩
  have g3 := g2.trans (hb3.mono g2.size)
  clear HR hb3 g2
  go_wp2_with fail
  refine (parse_any A3 l3 c3 (by omega) _ ((R3.out.below g3).more g3.size)).mono ?_
  rintro e x4 ⟨rfl, hb4⟩
  have g4 := g3.trans (hb4.mono g3.size)
  have hle := ask_le l3
  have hae := ask_err l3
  have hsh2 := ask_short l3
  have hbk := Lib.hid (ask_back l3)
  generalize ask l3 = r at *
  obtain ⟨y, j, g⟩ := r
  simp only at hle hae hsh2
  have HB : Hid ((g = 0 → print y j = l3) ∧ (g ≠ 0 → y = [] ∧ j = 0)) := hbk
  clear hb4 g3 hbk
  go_wp2_with fail
  refine (print_list y j (by omega) (by omega) _).mono ?_
  rintro e x5 ⟨A5, c5, rfl, hc5, hrow5, hb5⟩
  have g5 := g4.trans (hb5.mono g4.size)
  have H5 := Lib.hid hrow5
  have hpy : (print y j).length ≤ 1000 := by
    have h1 := print_len y j
    omega
  obtain ⟨ey, hey⟩ : ∃ ey : Int, (if key.right y = true then (0 : Int) else 12) = ey := ⟨_, rfl⟩
  rw [hey]
  generalize print y j = out2 at *
  clear hb5 g4 hrow5 hey
  go_wp2_with fail
  refine (print_any a4 n (by omega) (by omega) _).mono ?_
  rintro e x6 ⟨A6, c6, rfl, hc6, hrow6, hb6⟩
  have g6 := g5.trans (hb6.mono g5.size)
  have H5' := Lib.hid ((H5.out.below hb6).more hb6.size)
  clear H5 hrow6 hc6
  generalize (print a4.data.toList n).length = pl at *
  have HRR := Lib.hid (fun W => key.refright_any a4 (by omega) W)
  generalize key.right a4.data.toList = rt at *
  obtain ⟨er, her⟩ : ∃ er : Int, (if rt = true then (0 : Int) else 12) = er := ⟨_, rfl⟩
  rw [her]
  have HER := Lib.hid her
  clear her
  go_wp2_with fail
  refine (known_any _).mono ?_
  rintro e x7 ⟨rfl, hb7⟩
  have g7 := g6.trans (hb7.mono g6.size)
  have hrq := row_string (c := c5) ((H5'.out.below hb7).more hb7.size)
  have hrb := row_string (c := c3) ((R3.out.below g7).more g7.size)
  by_cases hg : g = 0
  · have ho := HB.out.1 hg
    subst hg
    subst ho
    clear HB hae
    cases rt
    · obtain rfl : 12 = er := HER.out
      go_wp2_with fail
      refine (HRR.out _).mono ?_
      rintro e x8 ⟨rfl, rfl⟩
      go_wp2_with fail
      go_ret
      exact ⟨rfl, g7⟩
    · obtain rfl : 0 = er := HER.out
      go_wp2_with fail
      refine (HRR.out _).mono ?_
      rintro e x8 ⟨rfl, rfl⟩
      go_wp2_with fail
      go_ret
      exact ⟨rfl, g7⟩
  · obtain ⟨rfl, rfl⟩ := HB.out.2 hg
    have hg' : ((g : Int) != 0) = true := bne_iff_ne.2 (by omega)
    have hg2 : ((g : Int) == 0) = false := beq_eq_false_iff_ne.2 (by omega)
    clear HB hg
    cases rt
    · obtain rfl : 12 = er := HER.out
      go_wp2_with fail
      refine (HRR.out _).mono ?_
      rintro e x8 ⟨rfl, rfl⟩
      go_wp2_with fail
      go_ret
      exact ⟨rfl, g7⟩
    · obtain rfl : 0 = er := HER.out
      go_wp2_with fail
      refine (HRR.out _).mono ?_
      rintro e x8 ⟨rfl, rfl⟩
      go_wp2_with fail
      go_ret
      exact ⟨rfl, g7⟩
end Go.Proofs.Ytolohhjepjefiaa.ask
