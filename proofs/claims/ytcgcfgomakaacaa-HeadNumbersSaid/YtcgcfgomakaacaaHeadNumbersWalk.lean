/- HeadNumbers, walked. -/
import Derived.Test.YtcgcfgomakaacaaHeadNumB
import Derived.Test.YtcgcfgomakaacaaHeadNumC
namespace Go.Proofs.Ytcgcfgomakaacaa.head
open Go.RowKit
open Go.Proofs.Ytcgcfgomakaacaa.aid

theorem headNumbers_walk (w : World) (a : Ans) (A : Option Addr) (c : Nat) (v n : Int) (hFa : Fine a) (hca : a.body.length ≤ c) (hra : Row w w.heap.size A (u8s a.body)) (hv : 0 ≤ v ∧ v ≤ 255) (hn : 0 ≤ n ∧ n ≤ 18446744073709551615) :
    Calls Try.prog 7 #[ansV a A c, .int .u8 v, .int .u64 n] w fun e w' => e = .returned (.bool true) ∧ Below w.heap.size w w' := by
  obtain ⟨a0, a1, a2, a3, a4, a5, a6, a7, a8, la⟩ := a
  have hF : Fine ⟨2, a1, a2, a3, a4, a5, a6, true, a8, la⟩ := ⟨by simp, hFa.2⟩
  have h5 : v % 5 = 0 ∨ v % 5 = 1 ∨ v % 5 = 2 ∨ v % 5 = 3 ∨ v % 5 = 4 := by omega
  rcases h5 with h | h | h | h | h
  · by_cases he : a2 = n
    · subst he
      exact numbers_0e w a0 a1 a2 a3 a4 a5 a6 a8 a7 la A c v h hv.1 hF hra
    · exact numbers_0n w a0 a1 a2 a3 a4 a5 a6 a8 a7 la A c v n h hv.1 hF hra hn he
  · by_cases he : a3 = n
    · subst he
      exact numbers_1e w a0 a1 a2 a3 a4 a5 a6 a8 a7 la A c v h hv.1 hF hra
    · exact numbers_1n w a0 a1 a2 a3 a4 a5 a6 a8 a7 la A c v n h hv.1 hF hra hn he
  · by_cases he : a4 = n
    · subst he
      exact numbers_2e w a0 a1 a2 a3 a4 a5 a6 a8 a7 la A c v h hv.1 hF hra
    · exact numbers_2n w a0 a1 a2 a3 a4 a5 a6 a8 a7 la A c v n h hv.1 hF hra hn he
  · by_cases he : a5 = n
    · subst he
      exact numbers_3e w a0 a1 a2 a3 a4 a5 a6 a8 a7 la A c v h hv.1 hF hra
    · exact numbers_3n w a0 a1 a2 a3 a4 a5 a6 a8 a7 la A c v n h hv.1 hF hra hn he
  · by_cases he : a6 = n
    · subst he
      exact numbers_4e w a0 a1 a2 a3 a4 a5 a6 a8 a7 la A c v h hv.1 hF hra
    · exact numbers_4n w a0 a1 a2 a3 a4 a5 a6 a8 a7 la A c v n h hv.1 hF hra hn he
end Go.Proofs.Ytcgcfgomakaacaa.head
