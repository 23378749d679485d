/- the reference's Common and Has, walked. -/
import Derived.Test.YtdjhjgimlpdckaaKeyIter
import Derived.Deep.QuietTactic
namespace Go.Proofs.Ytdjhjgimlpdckaa.key
open Go.RowKit
open Go.Proofs.Ytdjhjgimlpdckaa.aid

set_option maxHeartbeats 800000 in
theorem refcommon_any (a b : ByteArray) (ha : a.size ≤ 9223372036854775807) (hb : b.size ≤ 9223372036854775807) (w : World) :
    Calls Try.prog 24 #[.string a, .string b] w fun e w' => e = .returned (.int .i64 (common a.data.toList b.data.toList)) ∧ Below w.heap.size w w' := by
  have hla : a.data.toList.length = a.size := rfl
  have hlb : b.data.toList.length = b.size := rfl
  go_enter Try.func24, Try.ntmps24
  go_wp2
  go_loopw [5] (fun i wr => ∃ k : Nat, k ≤ a.size ∧ k ≤ b.size ∧ i = .int .i64 k ∧ alike ((pairs a.data.toList b.data.toList).take k) ∧ Below w.heap.size w wr) (fun i _ => a.size - (intOf i).toNat)
  case atStart => exact ⟨0, by omega, by omega, rfl, alike_nil, Below.refl _ _⟩
  case round =>
    obtain ⟨k, hka, hkb, rfl, hal, hB⟩ := hrel
    by_cases h1 : k < a.size
    · have h1' : decide ((k : Int) < a.size) = true := by simp; omega
      by_cases h2 : k < b.size
      · have h2' : decide ((k : Int) < b.size) = true := by simp; omega
        by_cases hx : a[k] = b[k]
        · have hx' : ((a[k].toNat : Int) == b[k].toNat) = true := by rw [hx]; simp
          have hnew : alike ((pairs a.data.toList b.data.toList).take (k + 1)) := by
            rw [pairs_take a b k h1 h2]
            exact alike_snoc hal hx
          clear hal hx hla hlb
          go_wp2
          go_quiet (fail)
          go_wp2
          go_roundw
          case rel => exact ⟨k + 1, by omega, by omega, by go_num, hnew, below_drewN hB _⟩
          case measure => simp [intOf]; omega
        · have hx' : ((a[k].toNat : Int) == b[k].toNat) = false := by
            rw [beq_eq_false_iff_ne]
            intro h
            exact hx (UInt8.toNat_inj.1 (by omega))
          have hpre : (pairs a.data.toList b.data.toList).take k ++ [(a[k], b[k])] <+: pairs a.data.toList b.data.toList := by
            rw [← pairs_take a b k h1 h2]
            exact List.take_prefix _ _
          have hfin := unlike_common _ _ _ (a[k], b[k]) hpre hal hx
          rw [List.length_take, pairs_len, show min k (min a.data.toList.length b.data.toList.length) = k from by omega] at hfin
          have HF := Lib.hid hfin
          clear hfin hal hx hla hlb hpre
          go_wp2
          go_quiet (fail)
          go_wp2
          go_ret
          exact ⟨by rw [HF.out]; rfl, below_drewN hB _⟩
      · have h2' : decide ((k : Int) < b.size) = false := by simp; omega
        have hkb2 : k = b.size := by omega
        rw [pairs_all a b k (by omega)] at hal
        have hfin := alike_all_common _ _ hal
        rw [show min a.data.toList.length b.data.toList.length = k from by omega] at hfin
        have HF := Lib.hid hfin
        clear hfin hal hla hlb hkb2
        go_wp2
        go_quiet (fail)
        go_wp2
        go_ret
        exact ⟨by rw [HF.out]; rfl, below_drewN hB _⟩
    · have h1' : decide ((k : Int) < a.size) = false := by simp; omega
      rw [pairs_all a b k (by omega)] at hal
      have hfin := alike_all_common _ _ hal
      rw [show min a.data.toList.length b.data.toList.length = k from by omega] at hfin
      have HF := Lib.hid hfin
      clear hfin hal hla hlb
      go_wp2
      go_quiet (fail)
      go_wp2
      go_ret
      exact ⟨by rw [HF.out]; rfl, below_drewN hB _⟩

theorem has_common : ∀ (k p : List UInt8), has k p = decide (common k p = p.length)
  | _, [] => by simp [has, common]
  | [], _ :: _ => by simp [has, common]
  | x :: k, y :: p => by
    have ih := has_common k p
    unfold has at ih ⊢
    by_cases hxy : x = y
    · subst hxy
      simp [common, ih]
    · have : ¬ y = x := fun h => hxy h.symm
      simp [common, hxy, this, List.isPrefixOf]

theorem refhas_any (a b : ByteArray) (ha : a.size ≤ 9223372036854775807) (hb : b.size ≤ 9223372036854775807) (w : World) :
    Calls Try.prog 19 #[.string a, .string b] w fun e w' => e = .returned (.bool (has a.data.toList b.data.toList)) ∧ Below w.heap.size w w' := by
  have hlb : b.data.toList.length = b.size := rfl
  have HF := Lib.hid (has_common a.data.toList b.data.toList)
  have HC := Lib.hid (refcommon_any a b ha hb w)
  go_enter Try.func19, Try.ntmps19
  go_wp2_with fail
  refine HC.out.mono ?_
  rintro e w1 ⟨rfl, hB⟩
  go_wp2
  go_ret
  refine ⟨?_, hB⟩
  rw [HF.out, hlb]
  refine ret_bool ?_
  rw [Bool.eq_iff_iff, beq_iff_eq, decide_eq_true_iff]
  omega
end Go.Proofs.Ytdjhjgimlpdckaa.key
