/- the reference's keys, walked. -/
import Derived.Test.YthlaigpopplafaaDoorKeyIter
import Derived.Test.YthlaigpopplafaaDoorKeyRefRight
import Derived.Deep.QuietTactic
namespace Go.Proofs.YthlaigpopplafaaDoor.key
open Go.RowKit
open Go.Proofs.YthlaigpopplafaaDoor.aid

set_option maxHeartbeats 800000 in
theorem refcommon_any (a b : ByteArray) (ha : a.size ≤ 9223372036854775807) (hb : b.size ≤ 9223372036854775807) (w : World) :
    Calls Tryd.prog 38 #[.string a, .string b] w fun e w' => e = .returned (.int .i64 (common a.data.toList b.data.toList)) ∧ Below w.heap.size w w' := by
  have hla : a.data.toList.length = a.size := rfl
  have hlb : b.data.toList.length = b.size := rfl
  go_enter Tryd.func38, Tryd.ntmps38
  go_wp2
  go_loopw [5] (fun i wr => ∃ k : Nat, k ≤ a.size ∧ k ≤ b.size ∧ i = .int .i64 k ∧ alike ((pairs a.data.toList b.data.toList).take k) ∧ Below w.heap.size w wr) (fun i _ => a.size - (intOf i).toNat)
  case atStart => exact ⟨0, by omega, by omega, rfl, alike_nil, Below.refl _ _⟩
  case round =>
    obtain ⟨k, hka, hkb, rfl, hal, hB⟩ := hrel
    by_cases h1 : k < a.size
    · have h1' : decide ((k : Int) < a.size) = true := by simp; omega
      by_cases h2 : k < b.size
      · have h2' : decide ((k : Int) < b.size) = true := by simp; omega
        by_cases hx : a[k] = b[k]
        · have hx' : ((a[k].toNat : Int) == b[k].toNat) = true := by rw [hx]; simp
          have hnew : alike ((pairs a.data.toList b.data.toList).take (k + 1)) := by
            rw [pairs_take a b k h1 h2]
            exact alike_snoc hal hx
          clear hal hx hla hlb
          go_wp2
          go_quiet (fail)
          go_wp2
          go_roundw
          case rel => exact ⟨k + 1, by omega, by omega, by go_num, hnew, below_drewN hB _⟩
          case measure => simp [intOf]; omega
        · have hx' : ((a[k].toNat : Int) == b[k].toNat) = false := by
            rw [beq_eq_false_iff_ne]
            intro h
            exact hx (UInt8.toNat_inj.1 (by omega))
          have hpre : (pairs a.data.toList b.data.toList).take k ++ [(a[k], b[k])] <+: pairs a.data.toList b.data.toList := by
            rw [← pairs_take a b k h1 h2]
            exact List.take_prefix _ _
          have hfin := unlike_common _ _ _ (a[k], b[k]) hpre hal hx
          rw [List.length_take, pairs_len, show min k (min a.data.toList.length b.data.toList.length) = k from by omega] at hfin
          have HF := Lib.hid hfin
          clear hfin hal hx hla hlb hpre
          go_wp2
          go_quiet (fail)
          go_wp2
          go_ret
          exact ⟨by rw [HF.out]; rfl, below_drewN hB _⟩
      · have h2' : decide ((k : Int) < b.size) = false := by simp; omega
        have hkb2 : k = b.size := by omega
        rw [pairs_all a b k (by omega)] at hal
        have hfin := alike_all_common _ _ hal
        rw [show min a.data.toList.length b.data.toList.length = k from by omega] at hfin
        have HF := Lib.hid hfin
        clear hfin hal hla hlb hkb2
        go_wp2
        go_quiet (fail)
        go_wp2
        go_ret
        exact ⟨by rw [HF.out]; rfl, below_drewN hB _⟩
    · have h1' : decide ((k : Int) < a.size) = false := by simp; omega
      rw [pairs_all a b k (by omega)] at hal
      have hfin := alike_all_common _ _ hal
      rw [show min a.data.toList.length b.data.toList.length = k from by omega] at hfin
      have HF := Lib.hid hfin
      clear hfin hal hla hlb
      go_wp2
      go_quiet (fail)
      go_wp2
      go_ret
      exact ⟨by rw [HF.out]; rfl, below_drewN hB _⟩

/-- what is common, and what is less -/
theorem less_of_common (a b : List UInt8) : (common a b = a.length ∨ common a b = b.length → less a b = decide (a.length < b.length)) ∧
    ((h : common a b < a.length) → (g : common a b < b.length) → less a b = decide (a[common a b] < b[common a b])) := by
  induction a generalizing b with
  | nil =>
    refine ⟨fun _ => ?_, fun h => by simp [common] at h⟩
    cases b <;> simp [less, Op.bytesLess]
  | cons x a ih =>
    cases b with
    | nil => exact ⟨fun _ => by simp [less, Op.bytesLess], fun _ g => by simp [common] at g⟩
    | cons y b =>
      by_cases hxy : x = y
      · subst hxy
        have e : common (x :: a) (x :: b) = common a b + 1 := by simp [common]
        have el : less (x :: a) (x :: b) = less a b := by simp [less, Op.bytesLess]
        obtain ⟨h1, h2⟩ := ih b
        refine ⟨fun h => ?_, fun h g => ?_⟩
        · rw [el, h1 (by simp [e] at h; exact h)]
          simp
        · rw [el, h2 (by simp [e] at h; exact h) (by simp [e] at g; exact g)]
          simp [e]
      · have e : common (x :: a) (y :: b) = 0 := by simp [common, hxy]
        refine ⟨fun h => by simp [e] at h, fun _ _ => ?_⟩
        simp only [e]
        simp [less, Op.bytesLess, hxy]
theorem has_common : ∀ (k p : List UInt8), has k p = decide (common k p = p.length)
  | _, [] => by simp [has, common]
  | [], _ :: _ => by simp [has, common]
  | x :: k, y :: p => by
    have ih := has_common k p
    unfold has at ih ⊢
    by_cases hxy : x = y
    · subst hxy
      simp [common, ih]
    · have : ¬ y = x := fun h => hxy h.symm
      simp [common, hxy, this, List.isPrefixOf]

set_option maxHeartbeats 800000 in
theorem refless_any (a b : ByteArray) (ha : a.size ≤ 9223372036854775807) (hb : b.size ≤ 9223372036854775807) (w : World) :
    Calls Tryd.prog 22 #[.string a, .string b] w fun e w' => e = .returned (.bool (less a.data.toList b.data.toList)) ∧ Below w.heap.size w w' := by
  have hla : a.data.toList.length = a.size := rfl
  have hlb : b.data.toList.length = b.size := rfl
  obtain ⟨hca, hcb⟩ := common_le a.data.toList b.data.toList
  obtain ⟨hl1, hl2⟩ := less_of_common a.data.toList b.data.toList
  have hc := refcommon_any a b ha hb w
  rw [hla] at hca
  rw [hlb] at hcb
  rw [hla, hlb] at hl1
  generalize hk : common a.data.toList b.data.toList = k at *
  have HC := Lib.hid hc
  clear hc hk
  by_cases h1 : k = a.size
  · have HF := Lib.hid (hl1 (.inl h1))
    have h1' : ((k : Int) == a.size) = true := beq_iff_eq.2 (by omega)
    clear hl1 hl2 h1 hla hlb
    go_enter Tryd.func22, Tryd.ntmps22
    go_wp2_with fail
    refine HC.out.mono ?_
    rintro e w1 ⟨rfl, hB⟩
    go_wp2
    go_ret
    exact ⟨by rw [HF.out]; simp, hB⟩
  · have h1' : ((k : Int) == a.size) = false := beq_eq_false_iff_ne.2 (by omega)
    by_cases h2 : k = b.size
    · have HF := Lib.hid (hl1 (.inr h2))
      have h2' : ((k : Int) == b.size) = true := beq_iff_eq.2 (by omega)
      clear hl1 hl2 h1 h2 hla hlb
      go_enter Tryd.func22, Tryd.ntmps22
      go_wp2_with fail
      refine HC.out.mono ?_
      rintro e w1 ⟨rfl, hB⟩
      go_wp2
      go_ret
      exact ⟨by rw [HF.out]; simp, hB⟩
    · have h2' : ((k : Int) == b.size) = false := beq_eq_false_iff_ne.2 (by omega)
      have hlt1 : k < a.size := by omega
      have hlt2 : k < b.size := by omega
      have hfin := hl2 (by omega) (by omega)
      have hat1 : a.data.toList[k]'(by omega) = a[k] := rfl
      have hat2 : b.data.toList[k]'(by omega) = b[k] := rfl
      rw [hat1, hat2] at hfin
      have HF := Lib.hid hfin
      clear hl1 hl2 h1 h2 hla hlb hfin hat1 hat2
      go_enter Tryd.func22, Tryd.ntmps22
      go_wp2_with fail
      refine HC.out.mono ?_
      rintro e w1 ⟨rfl, hB⟩
      go_wp2
      go_quiet (fail)
      go_wp2
      go_ret
      exact ⟨by rw [HF.out]; exact ret_bool (decide_eq_decide.2 (by rw [UInt8.lt_iff_toNat_lt])), below_drewN hB _⟩
end Go.Proofs.YthlaigpopplafaaDoor.key
