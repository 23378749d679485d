/- the reference's Print, walked. -/
import Derived.Test.YtcgcfgomakaacaaAid
import Derived.Test.YtcgcfgomakaacaaDigPlain
namespace Go.Proofs.Ytcgcfgomakaacaa.dig
open Go.RowKit
open Go.Proofs.Ytcgcfgomakaacaa.aid

theorem dg_extract (n : Nat) : (ByteArray.mk #[48, 49, 50, 51, 52, 53, 54, 55, 56, 57]).extract (n % 10) (n % 10 + 1) = ⟨[dg n].toArray⟩ := by
  have h : n % 10 < 10 := Nat.mod_lt _ (by omega)
  unfold dg
  generalize n % 10 = k at *
  have : k = 0 ∨ k = 1 ∨ k = 2 ∨ k = 3 ∨ k = 4 ∨ k = 5 ∨ k = 6 ∨ k = 7 ∨ k = 8 ∨ k = 9 := by omega
  rcases this with rfl | rfl | rfl | rfl | rfl | rfl | rfl | rfl | rfl | rfl <;> decide +kernel

theorem dg_slice (m : Nat) (W : World) :
    (Instr.slice 9 (.string ⟨#[48, 49, 50, 51, 52, 53, 54, 55, 56, 57]⟩) (some (.int .u64 ((m : Int) % 10))) (some (.int .u64 ((m : Int) % 10 + 1))) none).run Try.prog W = .ok (.string ⟨[dg m].toArray⟩) W := by
  rw [run_slice_string W 9 _ .u64 .u64 _ _ rfl (by omega) (by omega) (by show (m : Int) % 10 + 1 ≤ ((10 : Nat) : Int); omega),
    show ((m : Int) % 10).toNat = m % 10 from by omega, show ((m : Int) % 10 + 1).toNat = m % 10 + 1 from by omega, dg_extract]

/-- what is still to be laid ahead of acc -/
def Rest (f m : Nat) (acc : List UInt8) (n : Nat) : Prop := Fit f m ∧ acc.length + f ≤ 20 ∧ ((m = 0 ∧ acc = digs n) ∨ (0 < m ∧ digsF f m acc = digs n))
theorem Rest.start (n : Nat) (hn : n ≤ 18446744073709551615) : Rest 19 (n / 10) [dg n] n := by
  refine ⟨(Fit.top hn).div, by simp, ?_⟩
  by_cases h : n / 10 = 0
  · exact .inl ⟨h, by simp [digs, digsF, h]⟩
  · refine .inr ⟨by omega, ?_⟩
    have e : digsF 20 n [] = if n / 10 = 0 then dg n :: [] else digsF 19 (n / 10) (dg n :: []) := rfl
    unfold digs
    rw [e, if_neg h]
theorem Rest.step {f m n : Nat} {acc : List UInt8} (h : Rest f m acc n) (hm : 0 < m) : ∃ g, f = g + 1 ∧ Rest g (m / 10) (dg m :: acc) n := by
  obtain ⟨h1, h2, h3⟩ := h
  rcases f with _ | g
  · have := h1.zero; omega
  refine ⟨g, rfl, h1.div, by simp; omega, ?_⟩
  rcases h3 with ⟨h3, -⟩ | ⟨-, h3⟩
  · omega
  rw [digsF] at h3
  by_cases h : m / 10 = 0
  · rw [if_pos h] at h3
    exact .inl ⟨h, h3⟩
  · rw [if_neg h] at h3
    exact .inr ⟨by omega, h3⟩
theorem Rest.stop {f n : Nat} {acc : List UInt8} (h : Rest f 0 acc n) : acc = digs n := by
  obtain ⟨-, -, h3⟩ := h
  rcases h3 with ⟨-, h3⟩ | ⟨h3, -⟩
  · exact h3
  · omega

set_option maxHeartbeats 400000 in
theorem refprint_any (n : Nat) (hn : (n : Int) ≤ 18446744073709551615) (w : World) :
    Calls Try.prog 28 #[.int .u64 n] w fun e w' => e = .returned (.string ⟨(digs n).toArray⟩) ∧ w = w' := by
  go_enter Try.func28, Try.ntmps28
  go_wp2
  go_loop [0, 3] (fun q s => ∃ (f m : Nat) (acc : List UInt8), q = .int .u64 m ∧ m ≤ n ∧ s = .string ⟨acc.toArray⟩ ∧ Rest f m acc n) (fun q _ => (intOf q).toNat)
  case atStart => exact ⟨19, n / 10, [dg n], rfl, by omega, congrArg Value.string (dg_extract n), Rest.start n (by omega)⟩
  case round =>
    obtain ⟨f, m, acc, rfl, hmn, rfl, hr⟩ := hrel
    by_cases hm : 0 < m
    · obtain ⟨g, -, hr2⟩ := hr.step hm
      have hlen : acc.length ≤ 20 := by have := hr.2.1; omega
      have hm' : (0 : Int) < m := by omega
      have hsl := dg_slice m
      have HR := Lib.hid hr2
      have HS := Lib.hid hr
      clear hr2 hr
      go_wp2
      go_round
      case rel => exact ⟨g, m / 10, dg m :: acc, rfl, by omega, congrArg Value.string (ByteArray.mk_append_mk [dg m] acc), HR.out⟩
      case measure => simp [intOf]; omega
    · obtain rfl : m = 0 := by omega
      have HR := Lib.hid hr.stop
      clear hr
      go_wp2
      go_ret
      exact ⟨ret_str HR.out, rfl⟩
end Go.Proofs.Ytcgcfgomakaacaa.dig
