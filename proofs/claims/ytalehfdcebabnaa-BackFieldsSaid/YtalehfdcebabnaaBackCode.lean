/- back.code: a status line's code. -/
import Derived.Test.YtalehfdcebabnaaBackLines
import Derived.Test.YtalehfdcebabnaaHeadStatus
namespace Go.Proofs.Ytalehfdcebabnaa.back
open Go.RowKit Go.Shelf
open Go.Proofs.Ytalehfdcebabnaa.head
open Go.Proofs.Ytalehfdcebabnaa.aid

theorem codeOf_hit {c : Int} (h : isCode c) : codeOf (http ++ status c) = c.toNat := by
  rcases h with rfl | rfl | rfl | rfl | rfl | rfl | rfl | rfl <;> decide +kernel
theorem codeOf_none {s : List UInt8} (h : ∀ j : Int, 1 ≤ j → j < 9 → s ≠ http ++ status j) : codeOf s = 0 := by
  have h1 : s ≠ http ++ st1 := h 1 (by omega) (by omega)
  have h2 : s ≠ http ++ st2 := h 2 (by omega) (by omega)
  have h3 : s ≠ http ++ st3 := h 3 (by omega) (by omega)
  have h4 : s ≠ http ++ st4 := h 4 (by omega) (by omega)
  have h5 : s ≠ http ++ st5 := h 5 (by omega) (by omega)
  have h6 : s ≠ http ++ st6 := h 6 (by omega) (by omega)
  have h7 : s ≠ http ++ st7 := h 7 (by omega) (by omega)
  have h8 : s ≠ http ++ st8 := h 8 (by omega) (by omega)
  unfold codeOf
  rw [if_neg h1, if_neg h2, if_neg h3, if_neg h4, if_neg h5, if_neg h6, if_neg h7, if_neg h8]
theorem is_code {c : Int} (h0 : 1 ≤ c) (h1 : c ≤ 8) : isCode c := by
  unfold isCode
  omega
theorem status_short (c : Int) : (status c).length ≤ 23 := by
  rcases code_cases c with h | h
  · rcases h with rfl | rfl | rfl | rfl | rfl | rfl | rfl | rfl <;> decide +kernel
  · rw [status_none h]
    simp

theorem code_any (s : List UInt8) (w : World) :
    Calls Try.prog 17 #[.string ⟨s.toArray⟩] w fun e w' => e = .returned (.int .u8 (codeOf s)) ∧ Below w.heap.size w w' := by
  go_enter Try.func17, Try.ntmps17
  go_wp2
  go_loopw [3] (fun q wr => ∃ k : Int, q = .int .u8 k ∧ 1 ≤ k ∧ k ≤ 9 ∧ (∀ j : Int, 1 ≤ j → j < k → s ≠ http ++ status j) ∧ Below w.heap.size w wr) (fun q _ => 9 - (intOf q).toNat)
  case atStart => exact ⟨1, rfl, by omega, by omega, fun j h1 h2 => by omega, Below.refl _ _⟩
  case round =>
    obtain ⟨k, rfl, hk1, hk9, hno, hb⟩ := hrel
    by_cases hk : k ≤ 8
    · have HN := Lib.hid hno
      have HB := Lib.hid hb
      clear hno hb
      obtain ⟨t, ht⟩ : ∃ t : ByteArray, t = ⟨(status k).toArray⟩ := ⟨_, rfl⟩
      have HS := Lib.hid (fun W => status_any k W)
      have hz : t.size ≤ 23 := by rw [ht]; simpa [ByteArray.size] using status_short k
      have hsum : ByteArray.mk #[72, 84, 84, 80, 47, 49, 46, 49, 32] ++ t = ⟨(http ++ status k).toArray⟩ := by
        rw [ht, show ByteArray.mk #[72, 84, 84, 80, 47, 49, 46, 49, 32] = ⟨http.toArray⟩ from rfl, ByteArray.mk_append_mk]
      rw [show str (status k) = .string t from by rw [ht]] at HS
      have hn1 : ¬ 9223372036854775807 < 9 + t.size := by omega
      by_cases he : s = http ++ status k
      · have heq : (s == (ByteArray.mk #[72, 84, 84, 80, 47, 49, 46, 49, 32] ++ t).toList) = true := by rw [hsum, ByteArray.toList_eq, beq_iff_eq]; exact he
        have hc : Hid (codeOf s = k.toNat) := Lib.hid (by rw [he]; exact codeOf_hit (is_code hk1 hk))
        clear ht hsum he
        go_wp2_with fail
        refine (HS.out _).mono ?_
        rintro e w1 ⟨rfl, hb1⟩
        have HB1 := Lib.hid (HB.out.trans (hb1.mono HB.out.size))
        clear hb1
        go_wp2_with fail
        go_ret
        rw [hc.out]
        exact ⟨ret_int (by omega), HB1.out⟩
      · have heq : (s == (ByteArray.mk #[72, 84, 84, 80, 47, 49, 46, 49, 32] ++ t).toList) = false := by
          rw [hsum, ByteArray.toList_eq]
          exact beq_eq_false_iff_ne.2 he
        have HE := Lib.hid he
        clear ht hsum he
        go_wp2_with fail
        refine (HS.out _).mono ?_
        rintro e w1 ⟨rfl, hb1⟩
        have HB1 := Lib.hid (HB.out.trans (hb1.mono HB.out.size))
        clear hb1
        go_wp2_with fail
        go_roundw
        case rel =>
          refine ⟨k + 1, ?_, by omega, by omega, fun j h1 h2 => ?_, HB1.out⟩
          · rfl
          · by_cases hj : j = k
            · rw [hj]; exact HE.out
            · exact HN.out j h1 (by omega)
        case measure => simp [intOf]; omega
    · obtain rfl : k = 9 := by omega
      have hc : Hid (codeOf s = 0) := Lib.hid (codeOf_none hno)
      have HB := Lib.hid hb
      clear hno hb
      go_wp2
      go_ret
      rw [hc.out]
      exact ⟨rfl, HB.out⟩
end Go.Proofs.Ytalehfdcebabnaa.back
