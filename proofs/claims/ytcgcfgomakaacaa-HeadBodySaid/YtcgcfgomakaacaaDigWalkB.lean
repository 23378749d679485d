/- digit.Print walks. -/
import Derived.Test.YtcgcfgomakaacaaDigWalkA
namespace Go.Proofs.Ytcgcfgomakaacaa.dig
open Go.RowKit
open Go.Proofs.Ytcgcfgomakaacaa.aid

set_option maxHeartbeats 400000 in
theorem print_any (n : Nat) (hn : (n : Int) ≤ 18446744073709551615) (w : World) :
    Calls Try.prog 27 #[.int .u64 n] w fun e w' => e = .returned (.string ⟨(digs n).toArray⟩) ∧ Below w.heap.size w w' := by
  go_enter Try.func27, Try.ntmps27
  go_wp2
  refine wp_scope_once 0 (fun a' w' => PJ n w.heap.size w a' w') (fun a' _ => (intOf (a'.tmps.getD 4 undef)).toNat) rfl ?_ ?_
  · rintro a' w' ⟨p, m, acc, u5, u6, u7, u8, u9, u10, u11, u12, u13, u14, u15, u16, u17, u18, u19, rfl, hl, hd, hfit, hm, hmn, hp, hb⟩
    rcases p with _ | q
    · omega
    have HD := Lib.hid hd
    clear hd
    obtain ⟨v, hc⟩ := hl.at_ q (by omega)
    have hf := hl.free q
    have hl2 := hl.more (m := m) rfl
    have hcv := hl2.string
    have hsl := slice_from q w.heap.size (by omega)
    have hb2 : Below w.heap.size w (w'.setCell ⟨w.heap.size, q, none⟩ (.int .u8 (48 + (m : Int) % 10))) := hb.setCell (Nat.le_refl _) _
    by_cases hz : m / 10 = 0
    · have hz' : (m : Int) / 10 ≤ 0 := by omega
      have hfin : dg m :: acc = digs n := by rw [← HD.out, digsF, if_pos hz]
      have HF := Lib.hid hfin
      clear hfin hz
      go_wp2
      rw [jump_ret]
      go_ret
      exact ⟨ret_str HF.out, hb2⟩
    · have hz' : 0 < (m : Int) / 10 := by omega
      have hfin : digsF q (m / 10) (dg m :: acc) = digs n := by rw [← HD.out, digsF, if_neg hz]
      have HF := Lib.hid hfin
      have h1 : 1 ≤ q := by
        rcases q with _ | q
        · have := hfit.div.zero; omega
        · omega
      clear hfin hz
      go_wp2
      go_step3
      refine ⟨rfl, ⟨q, m / 10, dg m :: acc, _, _, _, _, _, _, _, _, _, _, _, _, _, _, _, rfl, hl2, HF.out, hfit.div, h1, by omega, by omega, hb2⟩, ?_⟩
      simp [intOf]
  · intro HR
    go_wp2
    refine wp_label ?_
    rename_i K hK
    refine hK _ _ (HR.out _ _ ?_)
    exact ⟨20, n, [], _, _, _, _, _, _, _, _, _, _, _, _, _, _, _, rfl, ⟨_, Blk.new _ _ _, rfl, rfl, fun j h => by simp at h⟩, rfl, Fit.top (by omega), by omega, Nat.le_refl _, Nat.le_refl _, (Below.refl _ _).alloc (Nat.le_refl _) _⟩
end Go.Proofs.Ytcgcfgomakaacaa.dig
