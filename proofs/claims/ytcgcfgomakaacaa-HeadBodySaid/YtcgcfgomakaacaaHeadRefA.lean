/- the reference's line and bodied, walked. -/
import Derived.Test.YtcgcfgomakaacaaHeadRenderA
import Derived.Test.YtcgcfgomakaacaaDigPrint
namespace Go.Proofs.Ytcgcfgomakaacaa.head
open Go.RowKit
open Go.Proofs.Ytcgcfgomakaacaa.aid

set_option maxHeartbeats 400000 in
theorem refline_any (nm : List UInt8) (n : Int) (hnm : nm.length ≤ 1000) (hn : 0 ≤ n ∧ n ≤ 18446744073709551615) (S : ByteArray) (hS : S = ⟨nm.toArray⟩) (w : World) :
    Calls Try.prog 24 #[.string S, .int .u64 n] w fun e w' => e = .returned (.string ⟨(line nm n).toArray⟩) ∧ w' = w := by
  have hs : S.size ≤ 1000 := by rw [hS]; simpa [ByteArray.size] using hnm
  have HE : Hid (S ++ ByteArray.mk #[58, 32] ++ ByteArray.mk (dig.digs n.toNat).toArray ++ ByteArray.mk #[13, 10] = ByteArray.mk (line nm n).toArray) := Lib.hid (by rw [hS]; exact line_str nm n)
  have HP := Lib.hid (fun W => dig.refprint_int n hn.1 hn.2 W)
  have hdl := dig.digs_len n.toNat
  clear hS hnm
  go_enter Try.func24, Try.ntmps24
  go_wp2_with fail
  refine (HP.out _).mono ?_
  rintro e w1 ⟨rfl, rfl⟩
  go_wp2_with fail
  go_ret
  rw [HE.out]
  exact ⟨rfl, rfl⟩

set_option maxHeartbeats 400000 in
theorem bodied_8 (err limit left reset after nanos many : Int) (retry : Bool) (n c : Nat) (A : Option Addr) (w : World) :
    Calls Try.prog 25 #[.agg #[.int .u8 8, .int .u16 err, .int .u64 limit, .int .u64 left, .int .u64 reset, .int .u64 after, .int .u64 nanos, .bool retry, .int .i64 many, .slice A n c]] w fun e w' => e = .returned (.int .i64 n) ∧ Below w.heap.size w w' := by
  go_enter Try.func25, Try.ntmps25
  go_wp2
  go_ret
  exact ⟨rfl, (Below.refl _ _).alloc (Nat.le_refl _) _⟩
set_option maxHeartbeats 400000 in
theorem bodied_not (code err limit left reset after nanos many : Int) (retry : Bool) (n c : Nat) (A : Option Addr) (w : World) (h : (code == 8) = false) :
    Calls Try.prog 25 #[.agg #[.int .u8 code, .int .u16 err, .int .u64 limit, .int .u64 left, .int .u64 reset, .int .u64 after, .int .u64 nanos, .bool retry, .int .i64 many, .slice A n c]] w fun e w' => e = .returned (.int .i64 0) ∧ Below w.heap.size w w' := by
  go_enter Try.func25, Try.ntmps25
  go_wp2
  go_ret
  exact ⟨rfl, (Below.refl _ _).alloc (Nat.le_refl _) _⟩
theorem bytes_str {l : List UInt8} {w W : World} (S : ByteArray) (hS : S = ⟨l.toArray⟩) (hb : Below w.heap.size w W) : ∃ m c w', (convert 9 25 (.string S)).run Try.prog W = .ok (.slice (some ⟨W.heap.size, 0, none⟩) m c) w' ∧ Below W.heap.size W w' ∧ Hid (m = l.length ∧ m ≤ c ∧ Row w' w'.heap.size (some ⟨W.heap.size, 0, none⟩) (u8s l) ∧ Below w.heap.size w w') := by
  subst hS
  obtain ⟨c, w', hrun, hc, hlie, hbw, hsz, -⟩ := to_bytes W ⟨l.toArray⟩
  have hs : (ByteArray.mk l.toArray).size = l.length := by simp [ByteArray.size]
  rw [hs] at hrun hc
  exact ⟨l.length, c, w', hrun, hbw, Lib.hid ⟨rfl, hc, lie_row hlie (by omega), hb.trans (hbw.mono hb.size)⟩⟩
theorem nil_row (A : Option Addr) (c : Nat) (W : World) : (convert 25 9 (.slice A 0 c)).run Try.prog W = .ok (.string ⟨#[]⟩) W := row_string (l := []) (B := 0) Row.nil_
theorem bytes_end {l : List UInt8} {w W w' : World} {m c : Nat} (h : Hid (m = l.length ∧ m ≤ c ∧ Row w' w'.heap.size (some ⟨W.heap.size, 0, none⟩) (u8s l) ∧ Below w.heap.size w w')) : Bytes l w (.returned (.slice (some ⟨W.heap.size, 0, none⟩) m c)) w' := by
  obtain ⟨rfl, h1, h2, h3⟩ := h.out
  exact ⟨_, _, rfl, h1, h2, h3⟩
end Go.Proofs.Ytcgcfgomakaacaa.head
