/- DigitBack, walked. -/
import Derived.Test.YteeckdfgpijapaaDigLawA
import Derived.Test.YteeckdfgpijapaaDigMore
namespace Go.Proofs.Yteeckdfgpijapaa.dig
open Go.RowKit
open Go.Proofs.Yteeckdfgpijapaa.aid

set_option maxHeartbeats 400000 in
set_option maxRecDepth 100000 in
theorem digitBack_walk (a0 a1 : Int) (a2 : ByteArray) (w0 : 0 ≤ a0 ∧ a0 ≤ 18446744073709551615) (w1 : 0 ≤ a1 ∧ a1 ≤ 255) (w2 : a2.size ≤ 140737488351232) (w : World) :
    Calls Try.prog 4 #[.int .u64 a0, .int .u8 a1, .string a2] w fun e w' => e = .returned (.bool true) ∧ Below w.heap.size w w' := by
  obtain ⟨w0, w0'⟩ := w0
  obtain ⟨w1, w1'⟩ := w1
  go_enter Try.func4, Try.ntmps4
  go_wp2_with fail
  have hsh := shr_in a0 (a1 % 64).toNat w0 w0'
  refine (print_int _ hsh.1 hsh.2 _).mono ?_
  rintro e wa ⟨rfl, hba⟩
  obtain ⟨m, hm⟩ := Int.eq_ofNat_of_zero_le hsh.1
  have hm2 := hsh.2
  rw [hm] at hm2 ⊢
  clear hsh hm
  rw [Int.toNat_natCast]
  have hlo := digs_len m
  go_wp2_with fail
  refine (parse_list _ (by omega) _).mono ?_
  rintro e w' ⟨rfl, rfl⟩
  rw [parse_digs m (by omega)]
  go_wp2_with fail
  refine (parse_any a2 (by omega) _).mono ?_
  rintro e w' ⟨rfl, rfl⟩
  have hp := parse_err a2.data.toList
  have hq := digs_parse a2.data.toList
  have hr := parse_le a2.data.toList
  generalize (parse a2.data.toList).1 = y at *
  generalize (parse a2.data.toList).2 = z at *
  by_cases hz : z = 0
  · have hq2 := hq hz
    subst hz
    have ha2 : a2 = ⟨(digs y).toArray⟩ := by
      rw [hq2]
    have hd : (digs y == digs y) = true := by simp
    clear hq hp
    subst ha2
    clear hq2 w2
    have hly := digs_len y
    go_wp2_with fail
    refine (known_any _).mono ?_
    rintro e wk ⟨rfl, hbk⟩
    go_wp2_with fail
    refine (print_any y (by omega) _).mono ?_
    rintro e w1 ⟨rfl, hb1⟩
    go_wp2_with fail
    refine (width_any m (by omega) _).mono ?_
    rintro e w2 ⟨rfl, hb2⟩
    go_wp2_with fail
    refine (print_any m (by omega) _).mono ?_
    rintro e w3 ⟨rfl, hb3⟩
    go_wp2_with fail
    go_ret
    have g1 := hba.trans (hbk.mono hba.size)
    have g2 := g1.trans (hb1.mono g1.size)
    have g3 := g2.trans (hb2.mono g2.size)
    exact ⟨rfl, g3.trans (hb3.mono g3.size)⟩
  · have hz2 : ((z : Int) != 0) = true := by rw [bne_iff_ne]; omega
    clear hq hp hz
    go_wp2_with fail
    refine (known_any _).mono ?_
    rintro e wk ⟨rfl, hbk⟩
    go_wp2_with fail
    refine (width_any m (by omega) _).mono ?_
    rintro e w2 ⟨rfl, hb2⟩
    go_wp2_with fail
    refine (print_any m (by omega) _).mono ?_
    rintro e w3 ⟨rfl, hb3⟩
    go_wp2_with fail
    go_ret
    have g1 := hba.trans (hbk.mono hba.size)
    have g3 := g1.trans (hb2.mono g1.size)
    exact ⟨rfl, g3.trans (hb3.mono g3.size)⟩
end Go.Proofs.Yteeckdfgpijapaa.dig
