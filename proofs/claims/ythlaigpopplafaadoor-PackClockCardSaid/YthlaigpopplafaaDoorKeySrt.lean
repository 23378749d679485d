/- key.Sorted, walked. -/
import Derived.Test.YthlaigpopplafaaDoorRow
import Derived.Test.YthlaigpopplafaaDoorKeyLs
namespace Go.Proofs.YthlaigpopplafaaDoor.key
open Go.RowKit
open Go.Proofs.YthlaigpopplafaaDoor.aid

abbrev dl (s : ByteArray) : List UInt8 := s.data.toList
/-- texts rise, as far as the first k -/
def Rise (ss : List ByteArray) (k : Nat) : Prop := ∀ j, j + 1 < k → ∀ h : j + 1 < ss.length, less (dl ss[j]) (dl ss[j + 1]) = true
/-- texts rise -/
def rise (ss : List ByteArray) : Bool := rises (ss.map dl)
theorem rise_iff (ss : List ByteArray) : rise ss = true ↔ Rise ss ss.length := by
  induction ss with
  | nil => exact ⟨fun _ j h => by simp at h, fun _ => rfl⟩
  | cons a r ih =>
    cases r with
    | nil => exact ⟨fun _ j h => by simp at h, fun _ => rfl⟩
    | cons b r =>
      have e : rise (a :: b :: r) = (less (dl a) (dl b) && rise (b :: r)) := rfl
      rw [e, Bool.and_eq_true, ih]
      constructor
      · rintro ⟨h1, h2⟩ j hj h
        cases j with
        | zero => exact h1
        | succ j => exact h2 j (by simp at hj ⊢; omega) (by simp at h ⊢; omega)
      · intro h
        refine ⟨h 0 (by simp) (by simp), fun j hj h2 => ?_⟩
        exact h (j + 1) (by simp at hj ⊢; omega) (by simp at h2 ⊢; omega)
theorem rise_not (ss : List ByteArray) (j : Nat) (h : j + 1 < ss.length) (hl : less (dl ss[j]) (dl ss[j + 1]) = false) : rise ss = false := by
  rw [Bool.eq_false_iff]
  intro hc
  have := (rise_iff ss).1 hc j h h
  rw [hl] at this
  cases this
theorem Rise.step {ss : List ByteArray} {k : Nat} (h : Rise ss (k + 1)) (hk : k + 1 < ss.length) (hl : less (dl ss[k]) (dl ss[k + 1]) = true) : Rise ss (k + 1 + 1) := by
  intro j hj h2
  by_cases e : j = k
  · subst e; exact hl
  · exact h j (by omega) h2

set_option maxRecDepth 100000 in
set_option maxHeartbeats 800000 in
theorem sorted_any (ss : List ByteArray) (A : Option Addr) (c : Nat) (hn : ss.length ≤ 9223372036854775807) (hs : ∀ s ∈ ss, s.size ≤ 9223372036854775807) (w : World) (hr : Row w w.heap.size A (ss.map .string)) :
    Calls Tryd.prog 28 #[.slice A ss.length c] w fun e w' => e = .returned (.bool (rise ss)) ∧ Below w.heap.size w w' := by
  have HR := Lib.hid hr
  have HS := Lib.hid hs
  clear hr hs
  go_enter Tryd.func28, Tryd.ntmps28
  go_wp2
  go_loopw [3] (fun i wr => ∃ k : Nat, (k + 1 ≤ ss.length ∨ k = 0) ∧ i = .int .i64 ((k : Int) + 1) ∧ Rise ss (k + 1) ∧ Below w.heap.size w wr) (fun i _ => ss.length - (intOf i).toNat)
  case atStart => exact ⟨0, .inr rfl, rfl, fun j h => by omega, Below.refl _ _⟩
  case round =>
    obtain ⟨k, hk, rfl, hrise, hB⟩ := hrel
    by_cases hlt : k + 1 < ss.length
    · obtain ⟨b, off, rfl, hb, hc⟩ := HR.out.at_ (k := k) (by simp; omega)
      have hc0 := (hB.cell (p := ⟨b, off + k, none⟩) hb).trans (hc k (.string ss[k]) (by simp))
      have hc1 := (hB.cell (p := ⟨b, off + (k + 1), none⟩) hb).trans (hc (k + 1) (.string ss[k + 1]) (by simp))
      have HLH := Lib.hid (fun W => less_any ss[k] ss[k + 1] (HS.out _ (by simp)) (HS.out _ (by simp)) W)
      clear hc
      have hi0 : (k : Int) < ss.length := by omega
      have hi1 : (k : Int) + 1 < ss.length := by omega
      have hi2 : (0 : Int) ≤ (k : Int) + 1 := by omega
      rcases Bool.eq_false_or_eq_true (less (dl ss[k]) (dl ss[k + 1])) with hless | hless
      · have hnew := hrise.step hlt hless
        have HLE := Lib.hid hless
        clear hless hrise
        go_wp2
        refine wp_region_still_tail 9 (by kernel_rfl) (by kernel_rfl) ?_
        simp only [List.take_succ_cons, List.take_zero, List.drop_succ_cons, List.drop_zero]
        change wpStill _ _ (World.drew _) _ _ _
        repeat (refine wpStill_step (fun K hK => ?_); go_simp; (try go_bits); refine hK _ ?_; clear hK K)
        refine wpStill_nil ?_
        go_wp2_with fail
        refine (HLH.out _).mono ?_
        rintro e w2 ⟨rfl, hb2⟩
        rw [show less ss[k].data.toList ss[k + 1].data.toList = _ from HLE.out]
        have hB2 := hB.drew.trans (hb2.mono hB.size)
        go_wp2
        go_roundw
        case rel => exact ⟨k + 1, .inl (by omega), by go_num, hnew, hB2⟩
        case measure => simp [intOf]; omega
      · have HF := Lib.hid (rise_not ss k hlt hless)
        have HLE := Lib.hid hless
        clear hless hrise
        go_wp2
        refine wp_region_still_tail 9 (by kernel_rfl) (by kernel_rfl) ?_
        simp only [List.take_succ_cons, List.take_zero, List.drop_succ_cons, List.drop_zero]
        change wpStill _ _ (World.drew _) _ _ _
        repeat (refine wpStill_step (fun K hK => ?_); go_simp; (try go_bits); refine hK _ ?_; clear hK K)
        refine wpStill_nil ?_
        go_wp2_with fail
        refine (HLH.out _).mono ?_
        rintro e w2 ⟨rfl, hb2⟩
        rw [show less ss[k].data.toList ss[k + 1].data.toList = _ from HLE.out]
        have hB2 := hB.drew.trans (hb2.mono hB.size)
        go_wp2
        go_ret
        exact ⟨by rw [HF.out]; rfl, hB2⟩
    · have HF := Lib.hid ((rise_iff ss).2 (fun j _ h => hrise j (by omega) h))
      have hlt' : (ss.length : Int) ≤ (k : Int) + 1 := by omega
      clear hlt hrise
      go_wp2
      go_ret
      exact ⟨by rw [HF.out]; rfl, hB⟩
end Go.Proofs.YthlaigpopplafaaDoor.key
