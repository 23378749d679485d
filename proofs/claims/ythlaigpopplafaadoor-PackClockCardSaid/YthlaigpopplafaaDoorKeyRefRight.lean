/- the reference's Right, walked. -/
import Derived.Test.YthlaigpopplafaaDoorKeyRight
namespace Go.Proofs.YthlaigpopplafaaDoor.key
open Go.RowKit
open Go.Proofs.YthlaigpopplafaaDoor.aid

set_option maxHeartbeats 400000 in
theorem refright_any (k : ByteArray) (hk : k.size ≤ 9223372036854775807) (w : World) :
    Calls Tryd.prog 23 #[.string k] w fun e w' => e = .returned (.bool (right k.data.toList)) ∧ w = w' := by
  have hlen : k.data.toList.length = k.size := rfl
  by_cases h1 : 1 ≤ k.size
  · by_cases h2 : k.size ≤ 128
    · have hr : right k.data.toList = k.data.toList.all vis := by simp [right, h1, h2]
      have HR := Lib.hid hr
      have h1' : (1 : Int) ≤ k.size := by omega
      have h2' : (k.size : Int) ≤ 128 := by omega
      clear hr h1 h2
      go_enter Tryd.func23, Tryd.ntmps23
      go_wp2
      go_loop [3] (fun i => ∃ j : Nat, j ≤ k.size ∧ i = .int .i64 j ∧ Vis (k.data.toList.take j)) (fun i => k.size - (intOf i).toNat)
      case atStart => exact ⟨0, Nat.zero_le _, rfl, rfl⟩
      case round =>
        obtain ⟨j, hj, rfl, hv⟩ := hrel
        by_cases hlt : j < k.size
        · have hb8 : (k[j].toNat : Int) ≤ 255 := by have := k[j].toNat_lt; omega
          have hat : k.data.toList[j]'(by rw [hlen]; exact hlt) = k[j] := rfl
          rcases Bool.eq_false_or_eq_true (vis k[j]) with hvk | hvk
          · have hnew := all_snoc k.data.toList j (by rw [hlen]; exact hlt) hv (by rw [hat]; exact hvk)
            obtain ⟨h3, h4⟩ := vis_yes hvk
            clear hvk hv hat
            go_wp2
            go_round
            case rel => exact ⟨j + 1, by omega, by go_num, hnew⟩
            case measure => simp [intOf]; omega
          · have HA := Lib.hid (all_not k.data.toList j (by rw [hlen]; exact hlt) (by rw [hat]; exact hvk))
            rcases vis_no hvk with h3 | ⟨h3, h4⟩
            all_goals
              clear hvk hv hat
              go_wp2
              go_ret
              exact ⟨by rw [HR.out, HA.out]; rfl, rfl⟩
        · obtain rfl : j = k.size := by omega
          rw [List.take_of_length_le (by rw [hlen]; exact Nat.le_refl _)] at hv
          have HV := Lib.hid hv
          clear hv hlt
          go_wp2
          go_ret
          exact ⟨by rw [HR.out, show k.data.toList.all vis = true from HV.out]; rfl, rfl⟩
    · have hr : right k.data.toList = false := by simp [right]; omega
      have HR := Lib.hid hr
      have h1' : (1 : Int) ≤ k.size := by omega
      have h2' : (128 : Int) < k.size := by omega
      clear hr hlen h1 h2
      go_enter Tryd.func23, Tryd.ntmps23
      go_wp2
      go_ret
      exact ⟨by rw [HR.out]; rfl, rfl⟩
  · have hr : right k.data.toList = false := by simp [right]; omega
    have HR := Lib.hid hr
    have h1' : (k.size : Int) < 1 := by omega
    clear hr hlen h1
    go_enter Tryd.func23, Tryd.ntmps23
    go_wp2
    go_ret
    exact ⟨by rw [HR.out]; rfl, rfl⟩

end Go.Proofs.YthlaigpopplafaaDoor.key
