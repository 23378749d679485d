/- the laws' own helpers about keys, walked. -/
import Derived.Test.YtckbijkgibjjjaaKeyHas
import Derived.Test.YtckbijkgibjjjaaKeySorted
import Derived.Test.YtckbijkgibjjjaaKeyKey
namespace Go.Proofs.Ytckbijkgibjjjaa.key
open Go.RowKit
open Go.Proofs.Ytckbijkgibjjjaa.aid

set_option maxHeartbeats 800000 in
theorem known_any (w : World) :
    Calls Try.prog 9 #[] w fun e w' => e = .returned (.bool true) ∧ Below w.heap.size w w' := by
  go_enter Try.func9, Try.ntmps9
  go_wp2_with fail
  refine (common_any _ _ (by decide) (by decide) _).mono ?_
  rintro e w1 ⟨rfl, hb1⟩
  rw [show common _ _ = 4 from by decide +kernel]
  go_wp2_with fail
  refine (less_any _ _ (by decide) (by decide) _).mono ?_
  rintro e w2 ⟨rfl, hb2⟩
  rw [show less _ _ = true from by decide +kernel]
  go_wp2_with fail
  refine (right_any _ (by decide) _).mono ?_
  rintro e w3 ⟨rfl, hb3⟩
  rw [show right _ = true from by decide +kernel]
  go_wp2_with fail
  refine (right_any _ (by decide) _).mono ?_
  rintro e w4 ⟨rfl, hb4⟩
  rw [show right _ = false from by decide +kernel]
  go_wp2_with fail
  refine (right_any _ (by decide) _).mono ?_
  rintro e w5 ⟨rfl, hb5⟩
  rw [show right _ = false from by decide +kernel]
  go_wp2_with fail
  refine (has_any _ _ (by decide) (by decide) _).mono ?_
  rintro e w' ⟨rfl, rfl⟩
  rw [show has _ _ = true from by decide +kernel]
  go_wp2_with fail
  refine (sorted_any [⟨#[97]⟩, ⟨#[98]⟩] _ _ (by decide) (by decide) _ (Row.new w5 9 #[.string ⟨#[97]⟩, .string ⟨#[98]⟩])).mono ?_
  rintro e w6 ⟨rfl, hb6⟩
  rw [show rise _ = true from by decide +kernel]
  go_wp2_with fail
  go_ret
  have g2 := hb1.trans (hb2.mono hb1.size)
  have g3 := g2.trans (hb3.mono g2.size)
  have g4 := g3.trans (hb4.mono g3.size)
  have g5 := g4.trans (hb5.mono g4.size)
  have g6 := g5.alloc g5.size (.cells #[.string ⟨#[97]⟩, .string ⟨#[98]⟩] 9)
  exact ⟨rfl, g6.trans (hb6.mono g6.size)⟩

set_option maxHeartbeats 800000 in
theorem asks_any (a b : ByteArray) (ha : a.size ≤ 9223372036854775807) (hb : b.size ≤ 9223372036854775807) (w : World) :
    Calls Try.prog 11 #[.string a, .string b] w fun e w' => e = .returned (.bool true) ∧ Below w.heap.size w w' := by
  go_enter Try.func11, Try.ntmps11
  go_wp2_with fail
  refine (right_any a ha _).mono ?_
  rintro e w1 ⟨rfl, hb1⟩
  go_wp2_with fail
  refine (refright_any a ha _).mono ?_
  rintro e w' ⟨rfl, rfl⟩
  go_wp2_with fail
  refine (less_any a b ha hb _).mono ?_
  rintro e w2 ⟨rfl, hb2⟩
  go_wp2_with fail
  refine (refless_any a b ha hb _).mono ?_
  rintro e w3 ⟨rfl, hb3⟩
  go_wp2_with fail
  refine (common_any a b ha hb _).mono ?_
  rintro e w4 ⟨rfl, hb4⟩
  go_wp2_with fail
  refine (refcommon_any a b ha hb _).mono ?_
  rintro e w5 ⟨rfl, hb5⟩
  go_wp2_with fail
  refine (has_any a b ha hb _).mono ?_
  rintro e w' ⟨rfl, rfl⟩
  go_wp2_with fail
  refine (refhas_any a b ha hb _).mono ?_
  rintro e w6 ⟨rfl, hb6⟩
  go_wp2_with fail
  go_ret
  have g2 := hb1.trans (hb2.mono hb1.size)
  have g3 := g2.trans (hb3.mono g2.size)
  have g4 := g3.trans (hb4.mono g3.size)
  have g5 := g4.trans (hb5.mono g4.size)
  exact ⟨rfl, g5.trans (hb6.mono g5.size)⟩

theorem less_total (a b : List UInt8) : (less a b || less b a) = !(a == b) ∧ (less a b && less b a) = false := by
  induction a generalizing b with
  | nil => cases b <;> simp [less, Op.bytesLess]
  | cons x a ih =>
    cases b with
    | nil => simp [less, Op.bytesLess]
    | cons y b =>
      have e1 : less (x :: a) (y :: b) = (decide (x < y) || (x == y && less a b)) := rfl
      have e2 : less (y :: b) (x :: a) = (decide (y < x) || (y == x && less b a)) := rfl
      rw [e1, e2]
      obtain ⟨h1, h2⟩ := ih b
      by_cases hxy : x = y
      · subst hxy
        have hn : decide (x < x) = false := by simp
        rw [hn]
        simp only [beq_self_eq_true, Bool.true_and, Bool.false_or]
        refine ⟨by rw [h1]; simp, h2⟩
      · have hn : (x == y) = false := by simpa using hxy
        have hn2 : (y == x) = false := by simpa using fun h => hxy h.symm
        rw [hn, hn2]
        have hlt : x < y ∨ y < x := by
          rw [UInt8.lt_iff_toNat_lt, UInt8.lt_iff_toNat_lt]
          have : x.toNat ≠ y.toNat := fun h => hxy (UInt8.toNat_inj.1 h)
          omega
        have hno : ¬ (x < y ∧ y < x) := by
          rw [UInt8.lt_iff_toNat_lt, UInt8.lt_iff_toNat_lt]
          omega
        simp only [Bool.false_and, Bool.or_false]
        refine ⟨?_, ?_⟩
        · rw [show ((x :: a) == (y :: b)) = false from by simp [hxy]]
          simpa using hlt
        · simp
          intro h
          exact UInt8.not_lt.1 fun h3 => hno ⟨h, h3⟩
theorem less_trans : ∀ (a b c : List UInt8), less a b = true → less b c = true → less a c = true
  | _, [], _, h, _ => by cases ‹List UInt8› <;> simp [less, Op.bytesLess] at h
  | [], _ :: _, [], _, h => by simp [less, Op.bytesLess] at h
  | [], _ :: _, _ :: _, _, _ => by simp [less, Op.bytesLess]
  | _ :: _, _ :: _, [], _, h => by simp [less, Op.bytesLess] at h
  | x :: a, y :: b, z :: c, h1, h2 => by
    have ih := less_trans a b c
    unfold less at ih h1 h2 ⊢
    simp only [Op.bytesLess, Bool.or_eq_true, Bool.and_eq_true, decide_eq_true_eq, beq_iff_eq] at h1 h2 ⊢
    rw [UInt8.lt_iff_toNat_lt] at h1 h2 ⊢
    rcases h1 with h1 | ⟨rfl, h1⟩
    · rcases h2 with h2 | ⟨rfl, h2⟩
      · left; omega
      · left; exact h1
    · rcases h2 with h2 | ⟨rfl, h2⟩
      · left; exact h2
      · right; exact ⟨rfl, ih h1 h2⟩

theorem bytes_ne (a b : ByteArray) : (a.toList == b.toList) = (dl a == dl b) := by
  rw [ByteArray.toList_eq, ByteArray.toList_eq]

set_option maxHeartbeats 1000000 in
theorem order_any (a b c : ByteArray) (ha : a.size ≤ 9223372036854775807) (hb : b.size ≤ 9223372036854775807) (hc : c.size ≤ 9223372036854775807) (w : World) :
    Calls Try.prog 14 #[.string a, .string b, .string c] w fun e w' => e = .returned (.bool true) ∧ Below w.heap.size w w' := by
  obtain ⟨h1, h2⟩ := less_total (dl a) (dl b)
  have h3 := less_trans (dl a) (dl b) (dl c)
  have h4 : Op.bytesLess a.toList b.toList = less (dl a) (dl b) := by rw [ByteArray.toList_eq, ByteArray.toList_eq]; rfl
  have h5 : (a.toList == b.toList) = (dl a == dl b) := bytes_ne a b
  have HLab := Lib.hid (fun W => less_any a b ha hb W)
  have HLba := Lib.hid (fun W => less_any b a hb ha W)
  have HLbc := Lib.hid (fun W => less_any b c hb hc W)
  have HLac := Lib.hid (fun W => less_any a c ha hc W)
  change Hid (∀ W, Calls Try.prog 20 #[.string a, .string b] W fun e W' => e = .returned (.bool (less (dl a) (dl b))) ∧ Below W.heap.size W W') at HLab
  change Hid (∀ W, Calls Try.prog 20 #[.string b, .string a] W fun e W' => e = .returned (.bool (less (dl b) (dl a))) ∧ Below W.heap.size W W') at HLba
  change Hid (∀ W, Calls Try.prog 20 #[.string b, .string c] W fun e W' => e = .returned (.bool (less (dl b) (dl c))) ∧ Below W.heap.size W W') at HLbc
  change Hid (∀ W, Calls Try.prog 20 #[.string a, .string c] W fun e W' => e = .returned (.bool (less (dl a) (dl c))) ∧ Below W.heap.size W W') at HLac
  generalize less (dl a) (dl b) = ab at *
  generalize less (dl b) (dl a) = ba at *
  generalize less (dl b) (dl c) = bc at *
  generalize less (dl a) (dl c) = ac at *
  generalize (dl a == dl b) = eq at *
  have hne : (a.toList != b.toList) = !eq := by rw [bne, h5]
  have HA := Lib.hid h4
  have HN := Lib.hid h5
  have HM := Lib.hid hne
  clear h4 h5 hne
  go_enter Try.func14, Try.ntmps14
  go_wp2_with fail
  refine (HLab.out _).mono ?_
  rintro e w1 ⟨rfl, hb1⟩
  go_wp2_with fail
  refine (HLba.out _).mono ?_
  rintro e w2 ⟨rfl, hb2⟩
  have g2 := hb1.trans (hb2.mono hb1.size)
  cases ab
  · cases ba
    · have heq : eq = true := by simpa using h1.symm
      subst heq
      have hA := HA.out
      have hN := HN.out
      have hM := HM.out
      simp only [Bool.not_true] at hM
      go_wp2_with fail
      go_ret
      exact ⟨rfl, g2⟩
    · have heq : eq = false := by simpa using h1.symm
      subst heq
      have hA := HA.out
      have hN := HN.out
      have hM := HM.out
      simp only [Bool.not_false] at hM
      go_wp2_with fail
      go_ret
      exact ⟨rfl, g2⟩
  · have hba : ba = false := by simpa using h2
    subst hba
    have heq : eq = false := by simpa using h1.symm
    subst heq
    have hA := HA.out
    have hN := HN.out
    have hM := HM.out
    simp only [Bool.not_false] at hM
    go_wp2_with fail
    refine (HLbc.out _).mono ?_
    rintro e w3 ⟨rfl, hb3⟩
    have g3 := g2.trans (hb3.mono g2.size)
    cases bc
    · go_wp2_with fail
      go_ret
      exact ⟨rfl, g3⟩
    · have hac : ac = true := by simpa using h3
      subst hac
      go_wp2_with fail
      refine (HLac.out _).mono ?_
      rintro e w4 ⟨rfl, hb4⟩
      go_wp2_with fail
      go_ret
      exact ⟨rfl, g3.trans (hb4.mono g3.size)⟩
end Go.Proofs.Ytckbijkgibjjjaa.key
