/- digit.Print walks. -/
import Derived.Test.YtcgcfgomakaacaaAid
import Derived.Test.YtcgcfgomakaacaaDigPlain
namespace Go.Proofs.Ytcgcfgomakaacaa.dig
open Go.RowKit
open Go.Proofs.Ytcgcfgomakaacaa.aid

/-- the block holds digits from place p on -/
def Laid (w : World) (B p : Nat) (acc : List UInt8) : Prop :=
  ∃ cs, Blk w B 63 cs ∧ cs.size = 20 ∧ acc.length + p = 20 ∧ ∀ j (h : j < acc.length), cs[p + j]? = some (.int .u8 (acc[j].toNat : Int))
theorem Laid.at_ {w : World} {B p : Nat} {acc : List UInt8} (h : Laid w B p acc) (i : Nat) (hi : i < 20) : ∃ v, w.cell? ⟨B, i, none⟩ = some v := by
  obtain ⟨cs, hb, hs, -, -⟩ := h
  exact ⟨cs[i], by rw [hb.cell]; exact Array.getElem?_eq_getElem (by omega)⟩
theorem Laid.free {w : World} {B p : Nat} {acc : List UInt8} (h : Laid w B p acc) (i : Nat) : w.frozen? ⟨B, i, none⟩ = false := by
  obtain ⟨cs, hb, -⟩ := h
  exact hb.frozen i
theorem Laid.more {w : World} {B p m : Nat} {acc : List UInt8} (h : Laid w B (p + 1) acc) {z : Int} (hz : z = 48 + (m : Int) % 10) :
    Laid (w.setCell ⟨B, p, none⟩ (.int .u8 z)) B p (dg m :: acc) := by
  obtain ⟨cs, hb, hs, hl, hc⟩ := h
  refine ⟨cs.setIfInBounds p (.int .u8 z), hb.set_ p _, by simpa using hs, by simp; omega, ?_⟩
  intro j hj
  rcases j with _ | j
  · simp only [Nat.add_zero, List.getElem_cons_zero]
    rw [Array.getElem?_setIfInBounds_self_of_lt (by omega), dg_toNat, hz]
    congr 2
  · simp only [List.getElem_cons_succ]
    rw [Array.getElem?_setIfInBounds_ne (by omega)]
    have := hc j (by simpa using hj)
    rw [← this]
    congr 1
    omega
theorem Laid.string {w : World} {B p : Nat} {acc : List UInt8} (h : Laid w B p acc) :
    (convert 25 9 (.slice (some ⟨B, p, none⟩) (20 - p) (20 - p))).run Try.prog w = .ok (.string ⟨acc.toArray⟩) w := by
  obtain ⟨cs, hb, hs, hl, hc⟩ := h
  have e : 20 - p = acc.length := by omega
  rw [e]
  refine run_convert_bytes_back w 25 9 5 ⟨B, p, none⟩ acc.length acc rfl rfl rfl ?_
  intro j hj
  have hp : (⟨B, p, none⟩ : Addr).add j = ⟨B, p + j, none⟩ := by unfold Addr.add; split <;> simp_all
  rw [hp, hb.cell, hc j hj]

theorem slice_from (q B : Nat) (hq : q < 20) (w : World) :
    (Instr.sliceAt 63 (.pointer (some ⟨B, 0, none⟩)) (some (.int .i64 q)) none none).run Try.prog w = .ok (.slice (some ⟨B, q, none⟩) (20 - q) (20 - q)) w := by
  have hl : Try.prog.arrayLen 63 = 20 := by kernel_rfl
  have h1 : (sizeOf (Try.prog.elem 63)).run Try.prog w = .ok 1 w := by kernel_rfl
  rw [run_sliceAt_array_l w 63 ⟨B, 0, none⟩ (by kernel_rfl) .i64 q (by omega) (by rw [hl]; omega), h1, hl]
  simp only [Result.andThen, slicedAt, Int.toNat_natCast, Nat.mul_one]
  have e : (⟨B, 0, none⟩ : Addr).add q = ⟨B, q, none⟩ := by unfold Addr.add; split <;> simp_all
  simp only [e]
  split
  · omega
  · rfl

/-- at the label: digits that are laid, and those that are left -/
def PJ (n B : Nat) (w0 : World) (a : Act) (w : World) : Prop :=
  ∃ (p m : Nat) (acc : List UInt8) (u5 u6 u7 u8 u9 u10 u11 u12 u13 u14 u15 u16 u17 u18 u19 : Value),
    a = { tmps := #[.int .u64 m, undef, .string ⟨#[]⟩, .pointer (some ⟨B, 0, none⟩), .int .i64 p, u5, u6, u7, u8, u9, u10, u11, u12, u13, u14, u15, u16, u17, u18, u19], defers := [] } ∧
    Laid w B p acc ∧ digsF p m acc = digs n ∧ Fit p m ∧ 1 ≤ p ∧ m ≤ n ∧ p ≤ 20 ∧ Below B w0 w
end Go.Proofs.Ytcgcfgomakaacaa.dig
