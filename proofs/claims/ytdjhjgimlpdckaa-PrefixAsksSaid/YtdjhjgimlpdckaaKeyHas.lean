/- key.Has and key.Right, walked. -/
import Derived.Test.YtdjhjgimlpdckaaAid
import Derived.Test.YtdjhjgimlpdckaaKeyPlain
namespace Go.Proofs.Ytdjhjgimlpdckaa.key
open Go.RowKit
open Go.Proofs.Ytdjhjgimlpdckaa.aid

theorem has_take (k p : ByteArray) (h : p.size ≤ k.size) : ((k.extract 0 p.size).toList == p.toList) = has k.data.toList p.data.toList := by
  rw [ByteArray.toList_eq, ByteArray.toList_eq, ByteArray.data_extract]
  have e : (k.data.extract 0 p.size).toList = k.data.toList.take p.data.toList.length := by
    simp
  rw [e]
  unfold has
  rw [Bool.eq_iff_iff, beq_iff_eq, List.isPrefixOf_iff_prefix, List.prefix_iff_eq_take]
  exact eq_comm
theorem has_long (k p : ByteArray) (h : k.size < p.size) : has k.data.toList p.data.toList = false := by
  unfold has
  rw [Bool.eq_false_iff]
  intro hc
  rw [List.isPrefixOf_iff_prefix] at hc
  have := hc.length_le
  have h1 : k.data.toList.length = k.size := rfl
  have h2 : p.data.toList.length = p.size := rfl
  omega

set_option maxHeartbeats 400000 in
theorem has_any (k p : ByteArray) (hk : k.size ≤ 9223372036854775807) (hp : p.size ≤ 9223372036854775807) (w : World) :
    Calls Try.prog 23 #[.string k, .string p] w fun e w' => e = .returned (.bool (has k.data.toList p.data.toList)) ∧ w = w' := by
  by_cases h : p.size ≤ k.size
  · have ht := has_take k p h
    have h' : (p.size : Int) ≤ k.size := by omega
    have HT := Lib.hid ht
    clear ht h
    go_enter Try.func23, Try.ntmps23
    go_wp2
    go_ret
    exact ⟨ret_bool HT.out, rfl⟩
  · have ht := has_long k p (by omega)
    have h' : (k.size : Int) < p.size := by omega
    have HT := Lib.hid ht
    clear ht h
    go_enter Try.func23, Try.ntmps23
    go_wp2
    go_ret
    exact ⟨ret_bool HT.out.symm, rfl⟩
end Go.Proofs.Ytdjhjgimlpdckaa.key
