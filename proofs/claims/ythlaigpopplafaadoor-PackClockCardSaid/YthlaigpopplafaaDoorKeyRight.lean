/- key.Right, walked. -/
import Derived.Test.YthlaigpopplafaaDoorAid
import Derived.Test.YthlaigpopplafaaDoorKeyPlain
namespace Go.Proofs.YthlaigpopplafaaDoor.key
open Go.RowKit
open Go.Proofs.YthlaigpopplafaaDoor.aid

theorem vis_yes {c : UInt8} (h : vis c = true) : (33 : Int) ≤ c.toNat ∧ (c.toNat : Int) ≤ 126 := by
  simp [vis] at h
  omega
theorem vis_no {c : UInt8} (h : vis c = false) : (c.toNat : Int) < 33 ∨ (33 : Int) ≤ c.toNat ∧ (126 : Int) < c.toNat := by
  simp [vis] at h
  omega

theorem bad_any (c : UInt8) (w : World) :
    Calls Tryd.prog 40 #[.int .u8 (c.toNat : Int)] w fun e w' => e = .returned (.bool (!vis c)) ∧ w = w' := by
  rcases Bool.eq_false_or_eq_true (vis c) with h | h
  · obtain ⟨h1, h2⟩ := vis_yes h
    have hd : decide ((c.toNat : Int) < 33) = false := by simp; omega
    have hd2 : decide ((126 : Int) < c.toNat) = false := by simp; omega
    have H := Lib.hid h
    clear h
    go_enter Tryd.func40, Tryd.ntmps40
    go_wp2
    go_ret
    exact ⟨by rw [H.out]; rfl, rfl⟩
  · have H := Lib.hid h
    rcases vis_no h with h1 | ⟨h1, h2⟩
    all_goals
      clear h
      go_enter Tryd.func40, Tryd.ntmps40
      go_wp2
      go_ret
      exact ⟨by rw [H.out]; rfl, rfl⟩

/-- where the first byte stands that is none of those that may be -/
def Found (l : List UInt8) (x : Int) : Prop := (l.all vis = true ∧ x = -1) ∨ (l.all vis = false ∧ 0 ≤ x)
theorem all_snoc (l : List UInt8) (k : Nat) (h : k < l.length) (ha : (l.take k).all vis = true) (hv : vis l[k] = true) : (l.take (k + 1)).all vis = true := by
  rw [List.take_succ_eq_append_getElem h, List.all_append, ha]
  simp [hv]
theorem all_not (l : List UInt8) (k : Nat) (h : k < l.length) (hv : vis l[k] = false) : l.all vis = false := by
  rw [List.all_eq_false]
  exact ⟨l[k], List.getElem_mem h, by simp [hv]⟩
def Vis (l : List UInt8) : Prop := l.all vis = true

set_option maxHeartbeats 400000 in
theorem index_any (l : List UInt8) (b c : Nat) (hl : (l.length : Int) ≤ 9223372036854775807) (w : World) (hc : Lie w b l) :
    Calls Tryd.prog 45 #[.slice (some ⟨b, 0, none⟩) l.length c, .func (.func 40) #[] #[]] w fun e w' => (∃ x, e = .returned (.int .i64 x) ∧ Found l x) ∧ w = w' := by
  have HC := Lib.hid hc
  clear hc
  go_enter Tryd.func45, Tryd.ntmps45
  go_wp2
  go_loop [8] (fun i => ∃ k : Nat, k ≤ l.length ∧ i = .int .i64 k ∧ Vis (l.take k)) (fun i => l.length - (intOf i).toNat)
  case atStart => exact ⟨0, Nat.zero_le _, rfl, rfl⟩
  case round =>
    obtain ⟨k, hk, rfl, hv⟩ := hrel
    by_cases hlt : k < l.length
    · have hcell := HC.out k hlt
      rcases Bool.eq_false_or_eq_true (vis l[k]) with hvk | hvk
      · have hnew := all_snoc l k hlt hv hvk
        have H := Lib.hid hvk
        clear hvk hv
        go_wp2_with fail
        refine (bad_any _ _).mono ?_
        rintro e w' ⟨rfl, rfl⟩
        rw [H.out]
        go_wp2_with fail
        go_round
        case rel => exact ⟨k + 1, by omega, by go_num, hnew⟩
        case measure => simp [intOf]; omega
      · have HA := Lib.hid (all_not l k hlt hvk)
        have H := Lib.hid hvk
        clear hvk hv
        go_wp2_with fail
        refine (bad_any _ _).mono ?_
        rintro e w' ⟨rfl, rfl⟩
        rw [H.out]
        go_wp2_with fail
        go_ret
        exact ⟨⟨_, rfl, .inr ⟨HA.out, by omega⟩⟩, rfl⟩
    · obtain rfl : k = l.length := by omega
      rw [List.take_length] at hv
      have HV := Lib.hid hv
      clear hv hlt
      go_wp2_with fail
      go_ret
      exact ⟨⟨_, rfl, .inl ⟨HV.out, rfl⟩⟩, rfl⟩

set_option maxHeartbeats 400000 in
theorem contains_any (l : List UInt8) (b c : Nat) (hl : (l.length : Int) ≤ 9223372036854775807) (w : World) (hc : Lie w b l) :
    Calls Tryd.prog 41 #[.slice (some ⟨b, 0, none⟩) l.length c, .func (.func 40) #[] #[]] w fun e w' => e = .returned (.bool (!l.all vis)) ∧ w = w' := by
  have HC := Lib.hid hc
  clear hc
  go_enter Tryd.func41, Tryd.ntmps41
  go_wp2_with fail
  refine (index_any l b c hl w HC.out).mono ?_
  rintro e w' ⟨⟨x, rfl, hx⟩, rfl⟩
  rcases hx with ⟨ha, rfl⟩ | ⟨ha, hx⟩
  · have HA := Lib.hid ha
    clear ha
    go_wp2_with fail
    go_ret
    exact ⟨by rw [HA.out]; rfl, rfl⟩
  · have HA := Lib.hid ha
    have hx' : decide (0 ≤ x) = true := by simp; omega
    clear ha
    go_wp2_with fail
    go_ret
    exact ⟨by rw [HA.out]; rfl, rfl⟩

set_option maxRecDepth 100000 in
set_option maxHeartbeats 400000 in
theorem right_any (k : ByteArray) (hk : k.size ≤ 9223372036854775807) (w : World) :
    Calls Tryd.prog 27 #[.string k] w fun e w' => e = .returned (.bool (right k.data.toList)) ∧ Below w.heap.size w w' := by
  have hlen : k.data.toList.length = k.size := rfl
  by_cases h1 : 1 ≤ k.size
  · by_cases h2 : k.size ≤ 128
    · obtain ⟨c, W1, hrun, -, hlie, hb, -, -⟩ := to_bytes w k
      have hr : right k.data.toList = k.data.toList.all vis := by simp [right, h1, h2]
      have HR := Lib.hid hr
      have hc := contains_any k.data.toList w.heap.size c (by omega) W1 hlie
      have HC := Lib.hid hc
      have h1' : (1 : Int) ≤ k.size := by omega
      have h2' : (k.size : Int) ≤ 128 := by omega
      clear hr hc hlen hlie h1 h2
      go_enter Tryd.func27, Tryd.ntmps27
      go_wp2_with fail
      refine HC.out.mono ?_
      rintro e w' ⟨rfl, rfl⟩
      go_wp2_with fail
      go_ret
      exact ⟨by rw [HR.out]; simp, hb⟩
    · have hr : right k.data.toList = false := by simp [right]; omega
      have HR := Lib.hid hr
      have h1' : (1 : Int) ≤ k.size := by omega
      have h2' : (128 : Int) < k.size := by omega
      clear hr hlen h1 h2
      go_enter Tryd.func27, Tryd.ntmps27
      go_wp2_with fail
      go_ret
      exact ⟨by rw [HR.out]; simp, Below.refl _ _⟩
  · have hr : right k.data.toList = false := by simp [right]; omega
    have HR := Lib.hid hr
    have h1' : (k.size : Int) ≤ 0 := by omega
    clear hr hlen h1
    go_enter Tryd.func27, Tryd.ntmps27
    go_wp2_with fail
    go_ret
    exact ⟨by rw [HR.out]; simp, Below.refl _ _⟩
end Go.Proofs.YthlaigpopplafaaDoor.key
