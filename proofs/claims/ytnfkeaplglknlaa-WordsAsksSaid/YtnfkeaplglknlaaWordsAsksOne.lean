/- the laws' asks for words, walked. -/
import Derived.Test.YtnfkeaplglknlaaWordsRefSplit
import Derived.Test.YtnfkeaplglknlaaWordsRefJoin
import Derived.Test.YtnfkeaplglknlaaWordsSame
import Derived.Test.YtnfkeaplglknlaaWordsLongWalk
namespace Go.Proofs.Ytnfkeaplglknlaa.words
open Go.RowKit
open Go.Proofs.Ytnfkeaplglknlaa.aid

set_option maxHeartbeats 4000000 in
theorem asks_any (l : List UInt8) (A : Option Addr) (c : Nat) (hc : l.length ≤ c) (hl : l.length ≤ 1900) (w : World) (hr : Row w w.heap.size A (u8s l)) :
    Calls Try.prog 13 #[.slice A l.length c] w fun e w' => e = .returned (.bool true) ∧ Below w.heap.size w w' := by
  have HS := Lib.hid (split_any l A c hc w hr)
  have HRS := Lib.hid (fun W (h : Below w.heap.size w W) => rsplit_any l A c hc (by omega) W ((hr.below h).more h.size))
  unfold SplitPost at HS
  unfold RSplitPost at HRS
  have hle := split_le (l := l) (by omega)
  have hfew : ∀ R ∈ (split l).out, R.length ≤ 2000 := fun R hR => Nat.le_trans (split_few (by omega) hR) (by omega)
  have hxs : (split l).out.length ≤ 2000 := by
    by_cases he : (split l).err = 0
    · rw [split_rows (by omega) (split_good (by omega) he)]
      have := all_len l 1
      omega
    · rw [(split_bad (by omega) he).1]
      simp
  obtain ⟨E1, hE1⟩ : ∃ E1, E1 = (split l).err := ⟨_, rfl⟩
  obtain ⟨L1, hL1⟩ : ∃ L1, L1 = (split l).line := ⟨_, rfl⟩
  obtain ⟨C1, hC1⟩ : ∃ C1, C1 = (split l).col := ⟨_, rfl⟩
  obtain ⟨X, hX⟩ : ∃ X, X = (split l).out := ⟨_, rfl⟩
  rw [← hE1, ← hL1, ← hC1, ← hX] at HS HRS
  rw [← hE1] at hle
  rw [← hX] at hfew hxs
  have hE20 : (E1 : Int) ≤ 20 := by omega
  have HF := Lib.hid hfew
  clear hle hfew hE1 hL1 hC1 hX hr
  go_enter Try.func13, Try.ntmps13
  go_wp2_with fail
  refine HS.out.mono ?_
  rintro e w1 ⟨v1, rfl, hx1, hb1⟩
  obtain ⟨W1, hW1⟩ : ∃ W1, W1 = w1.alloc (.cells #[.int .i64 L1, .int .i64 C1] 31) := ⟨_, rfl⟩
  have hbw : Below w1.heap.size w1 W1 := by rw [hW1]; exact (Below.refl _ _).alloc (Nat.le_refl _) _
  have HP1 := Lib.hid (show Blk W1 w1.heap.size 31 #[.int .i64 L1, .int .i64 C1] from by rw [hW1]; exact Blk.new w1 _ _)
  have HX1 := Lib.hid (hx1.below hbw)
  have HB1 := Lib.hid (hb1.trans (hbw.mono hb1.size))
  have HW1 := Lib.hid hW1
  clear hx1 hb1 hbw hW1 HS
  go_wp2_with fail
  rw [← HW1.out]
  refine (HRS.out W1 HB1.out).mono ?_
  rintro e w2 ⟨v2, rfl, hx2, hb2⟩
  obtain ⟨W2, hW2⟩ : ∃ W2, W2 = w2.alloc (.cells #[.int .i64 L1, .int .i64 C1] 31) := ⟨_, rfl⟩
  have hbw : Below w2.heap.size w2 W2 := by rw [hW2]; exact (Below.refl _ _).alloc (Nat.le_refl _) _
  have hq := hb2.trans (hbw.mono hb2.size)
  have HP2 := Lib.hid (show Blk W2 w2.heap.size 31 #[.int .i64 L1, .int .i64 C1] from by rw [hW2]; exact Blk.new w2 _ _)
  have HP12 := Lib.hid (HP1.out.below hq HP1.out.lt)
  have HSA := Lib.hid (same_any X v1 v2 W2 (HX1.out.below hq) (hx2.below hbw) (by omega) HF.out)
  have HB2 := Lib.hid (HB1.out.trans (hq.mono HB1.out.size))
  have HW2 := Lib.hid hW2
  clear hx2 hb2 hbw hq hW2 HRS HX1 HP1 HB1
  go_wp2_with fail
  rw [← HW2.out]
  refine HSA.out.mono ?_
  rintro e w3 ⟨rfl, hb3⟩
  have hp1 := HP12.out.below hb3 HP12.out.lt
  have hp2 := HP2.out.below hb3 HP2.out.lt
  have a0 : w3.cell? ⟨w1.heap.size, 0, none⟩ = some (.int .i64 L1) := hp1.cell 0
  have a1 : w3.cell? ⟨w1.heap.size, 1, none⟩ = some (.int .i64 C1) := hp1.cell 1
  have b0 : w3.cell? ⟨w2.heap.size, 0, none⟩ = some (.int .i64 L1) := hp2.cell 0
  have b1 : w3.cell? ⟨w2.heap.size, 1, none⟩ = some (.int .i64 C1) := hp2.cell 1
  have HB3 := Lib.hid (HB2.out.trans (hb3.mono HB2.out.size))
  clear hp1 hp2 hb3 HSA
  go_wp2_with fail
  go_ret
  exact ⟨rfl, HB3.out⟩
end Go.Proofs.Ytnfkeaplglknlaa.words
