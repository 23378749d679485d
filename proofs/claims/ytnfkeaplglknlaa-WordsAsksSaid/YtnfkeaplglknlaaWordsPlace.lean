/- words: place, kind, walked. -/
import Derived.Test.YtnfkeaplglknlaaBytes
import Derived.Test.YtnfkeaplglknlaaWordsFloat
import Derived.Test.YtnfkeaplglknlaaWordsPlain
import Derived.Laws.Cover2
import Derived.Laws.FloatArith
namespace Go.Proofs.Ytnfkeaplglknlaa.words
open Go.RowKit
open Go.Proofs.Ytnfkeaplglknlaa.aid

theorem conv_fl {n : Nat} (h : n < 2 ^ 53) (W : World) : (convert 47 3 (.float .f64 (fl n))).run Try.prog W = .ok (.int .i64 (n : Int)) W :=
  run_convert_float_int W _ _ _ _ _ _ (by kernel_rfl) (by kernel_rfl) (int_fl h)
theorem add_at {n m : Nat} (hn : n < 2 ^ 53) (h : m + 1 < 2 ^ 53) (W : World) : (binOp .add 45 (.complex .f64 (fl n) (fl m)) (.complex .f64 0 4607182418800017408)).run Try.prog W = .ok (.complex .f64 (fl n) (fl (m + 1))) W := by
  refine run_complex_sum W .add (.inl rfl) _ _ _ _ _ _ _ _ ?_
  have h1 := add_fl (n := n) (m := 0) (by omega)
  have h2 := add_fl (n := m) (m := 1) h
  rw [fl_zero] at h1
  rw [fl_one] at h2
  unfold cSumBits
  rw [h1, h2]
  rfl
theorem sub_at {n m k : Nat} (hn : n < 2 ^ 53) (hk : k ≤ m) (h : m < 2 ^ 53) (W : World) : (binOp .sub 45 (.complex .f64 (fl n) (fl m)) (.complex .f64 0 (fl k))).run Try.prog W = .ok (.complex .f64 (fl n) (fl (m - k))) W := by
  refine run_complex_sum W .sub (.inr rfl) _ _ _ _ _ _ _ _ ?_
  have h1 := sub_fl (n := n) (m := 0) (by omega) hn
  have h2 := sub_fl (n := m) (m := k) hk h
  rw [fl_zero] at h1
  unfold cSumBits
  rw [h1, h2]
  rfl
theorem inc_fl {n : Nat} (h : n + 1 < 2 ^ 53) (W : World) : (binOp .add 47 (.float .f64 (fl n)) (.float .f64 4607182418800017408)).run Try.prog W = .ok (.float .f64 (fl (n + 1))) W := by
  have h2 := add_fl (n := n) (m := 1) h
  rw [fl_one] at h2
  exact run_float_arith W .add _ _ _ _ _ h2

set_option maxHeartbeats 1000000 in
theorem place_any (n m : Nat) (hn : n < 2 ^ 53) (hm : m < 2 ^ 53) (w : World) :
    Calls Try.prog 19 #[.complex .f64 (fl n) (fl m)] w fun e w' => e = .returned (.agg #[.int .i64 n, .int .i64 m]) ∧ Below w.heap.size w w' := by
  have h1 := conv_fl hn
  have h2 := conv_fl hm
  obtain ⟨x, hx⟩ : ∃ x, x = fl n := ⟨_, rfl⟩
  obtain ⟨y, hy⟩ : ∃ y, y = fl m := ⟨_, rfl⟩
  rw [← hx] at h1 ⊢
  rw [← hy] at h2 ⊢
  clear hx hy hn hm
  go_enter Try.func19, Try.ntmps19
  go_wp2
  have c0 : (w.alloc (.cells #[.int .i64 n, .int .i64 m] 31)).cell? ⟨w.heap.size, 0, none⟩ = some (.int .i64 n) := (Blk.new w _ _).cell 0
  have c1 : (w.alloc (.cells #[.int .i64 n, .int .i64 m] 31)).cell? ⟨w.heap.size, 1, none⟩ = some (.int .i64 m) := (Blk.new w _ _).cell 1
  refine bodyPost_ret (v := .agg #[.int .i64 n, .int .i64 m]) (by simp [results, Try.results19, go_sem, c0, c1]) rfl ?_
  exact ⟨rfl, (Below.refl _ _).alloc (Nat.le_refl _) _⟩

/-- the kinds of bytes, as numbers -/
def kindOf (b : UInt8) : Nat := if isEnd b then 2 else if isBlank b then 1 else if isVis b then 0 else 3
set_option maxHeartbeats 1000000 in
theorem kind_any (b : UInt8) (w : World) :
    Calls Try.prog 21 #[.int .u8 (b.toNat : Int)] w fun e w' => e = .returned (.int .i64 (kindOf b : Nat)) ∧ w = w' := by
  have hb := b.toNat_lt
  obtain ⟨n, hn⟩ : ∃ n, n = b.toNat := ⟨_, rfl⟩
  unfold kindOf isEnd isBlank isVis
  rw [← hn] at hb ⊢
  clear hn
  rcases (show n = 10 ∨ n = 32 ∨ n = 9 ∨ (n ≠ 10 ∧ n ≠ 32 ∧ n ≠ 9 ∧ 33 ≤ n ∧ n ≤ 126) ∨ (n ≠ 10 ∧ n ≠ 32 ∧ n ≠ 9 ∧ n < 33) ∨ (n ≠ 10 ∧ n ≠ 32 ∧ n ≠ 9 ∧ 126 < n) from by omega) with rfl | rfl | rfl | ⟨h1, h2, h3, h4, h5⟩ | ⟨h1, h2, h3, h4⟩ | ⟨h1, h2, h3, h4⟩
  all_goals (try have e1 : ((n : Int) == 10) = false := beq_eq_false_iff_ne.2 (by omega))
  all_goals (try have e2 : ((n : Int) == 32) = false := beq_eq_false_iff_ne.2 (by omega))
  all_goals (try have e3 : ((n : Int) == 9) = false := beq_eq_false_iff_ne.2 (by omega))
  all_goals (try have e4 : (n == 10) = false := beq_eq_false_iff_ne.2 (by omega))
  all_goals (try have e5 : (n == 32) = false := beq_eq_false_iff_ne.2 (by omega))
  all_goals (try have e6 : (n == 9) = false := beq_eq_false_iff_ne.2 (by omega))
  all_goals (try have f1 : (32 : Int) < n := by omega)
  all_goals (try have f2 : (n : Int) ≤ 126 := by omega)
  all_goals (try have f3 : (n : Int) ≤ 32 := by omega)
  all_goals (try have f4 : (126 : Int) < n := by omega)
  all_goals go_enter Try.func21, Try.ntmps21
  all_goals go_wp2
  all_goals go_ret
  all_goals refine ⟨?_, rfl⟩
  · rfl
  · rfl
  · rfl
  · simp [e4, e5, e6, h4, h5]
  · simp [e4, e5, e6] <;> omega
  · simp [e4, e5, e6] <;> omega
end Go.Proofs.Ytnfkeaplglknlaa.words
