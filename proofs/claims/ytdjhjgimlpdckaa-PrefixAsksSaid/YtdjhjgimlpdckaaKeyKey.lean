/- the laws' keys of choices, walked. -/
import Derived.Test.YtdjhjgimlpdckaaRow
import Derived.Test.YtdjhjgimlpdckaaKeyPlain
namespace Go.Proofs.Ytdjhjgimlpdckaa.key
open Go.RowKit
open Go.Proofs.Ytdjhjgimlpdckaa.aid

/-- one choice's text -/
def word (x : Nat) : List UInt8 :=
  if x = 0 then [97] else if x = 1 then [98] else if x = 2 then [97, 47] else if x = 3 then [98, 47] else if x = 4 then [99] else if x = 5 then [122] else if x = 6 then [126] else [33]
def words (l : List UInt8) : List UInt8 := (l.take 6).flatMap fun c => word (c.toNat % 8)
/-- a key of choices -/
def keyOf (l : List UInt8) : List UInt8 := if l = [] then [107] else words l
/-- so far -/
def wordsTo (l : List UInt8) (k : Nat) : List UInt8 := (l.take k).flatMap fun c => word (c.toNat % 8)
theorem wordsTo_succ (l : List UInt8) (k : Nat) (h : k < l.length) : wordsTo l (k + 1) = wordsTo l k ++ word (l[k].toNat % 8) := by
  unfold wordsTo
  rw [List.take_succ_eq_append_getElem h, List.flatMap_append]
  simp
theorem word_len (x : Nat) : 1 ≤ (word x).length ∧ (word x).length ≤ 2 := by
  unfold word
  repeat' split
  all_goals simp
theorem wordsTo_len (l : List UInt8) (k : Nat) : (wordsTo l k).length ≤ 2 * k := by
  induction k with
  | zero => simp [wordsTo]
  | succ k ih =>
    by_cases h : k < l.length
    · rw [wordsTo_succ l k h, List.length_append]
      have := (word_len (l[k].toNat % 8)).2
      omega
    · have e : wordsTo l (k + 1) = wordsTo l k := by
        unfold wordsTo
        rw [List.take_of_length_le (by omega), List.take_of_length_le (by omega)]
      rw [e]
      omega
theorem word_vis (x : Nat) : (word x).all vis = true := by
  unfold word
  repeat' split
  all_goals decide
theorem wordsTo_vis (l : List UInt8) (k : Nat) : (wordsTo l k).all vis = true := by
  unfold wordsTo
  rw [List.all_flatMap, List.all_eq_true]
  intro c _
  exact word_vis _
theorem keyOf_right (l : List UInt8) : right (keyOf l) = true ∧ (keyOf l).length ≤ 12 ∧ 1 ≤ (keyOf l).length ∧ (keyOf l).all vis = true := by
  unfold keyOf
  by_cases h : l = []
  · rw [if_pos h]
    decide
  · rw [if_neg h]
    have hl : (words l).length ≤ 12 := wordsTo_len l 6
    have hv : (words l).all vis = true := wordsTo_vis l 6
    have h1 : 1 ≤ (words l).length := by
      cases l with
      | nil => exact absurd rfl h
      | cons c r =>
        have := (word_len (c.toNat % 8)).1
        simp [words]
        omega
    refine ⟨?_, hl, h1, hv⟩
    unfold right
    rw [hv]
    simp
    omega

theorem keyOf_at (l : List UInt8) (k : Nat) (h1 : k ≤ l.length) (h2 : k ≤ 6) (h3 : l.length ≤ k ∨ 6 ≤ k) : (if l = [] then [107] else wordsTo l k) = keyOf l := by
  unfold keyOf
  by_cases h : l = []
  · rw [if_pos h, if_pos h]
  · rw [if_neg h, if_neg h]
    unfold wordsTo words
    congr 1
    rcases h3 with h3 | h3
    · rw [List.take_of_length_le h3, List.take_of_length_le (by omega)]
    · rw [show k = 6 from by omega]
theorem wordsTo_ne (l : List UInt8) (k : Nat) (hk : k ≠ 0) (hl : l ≠ []) : wordsTo l k ≠ [] := by
  cases l with
  | nil => exact absurd rfl hl
  | cons c r =>
    cases k with
    | zero => exact absurd rfl hk
    | succ k =>
      intro e
      have h1 := (word_len (c.toNat % 8)).1
      simp [wordsTo] at e
      rw [e.1] at h1
      simp at h1


theorem word_at (x : Nat) (h : x < 8) : (#[.string ⟨#[97]⟩, .string ⟨#[98]⟩, .string ⟨#[97, 47]⟩, .string ⟨#[98, 47]⟩, .string ⟨#[99]⟩, .string ⟨#[122]⟩, .string ⟨#[126]⟩, .string ⟨#[33]⟩] : Array Value)[x]? = some (.string ⟨(word x).toArray⟩) := by
  have : x = 0 ∨ x = 1 ∨ x = 2 ∨ x = 3 ∨ x = 4 ∨ x = 5 ∨ x = 6 ∨ x = 7 := by omega
  rcases this with rfl | rfl | rfl | rfl | rfl | rfl | rfl | rfl <;> rfl
theorem word_cell (W : World) (x : Nat) (h : x < 8) : (W.alloc (.cells #[.string ⟨#[97]⟩, .string ⟨#[98]⟩, .string ⟨#[97, 47]⟩, .string ⟨#[98, 47]⟩, .string ⟨#[99]⟩, .string ⟨#[122]⟩, .string ⟨#[126]⟩, .string ⟨#[33]⟩] 9)).cell? ⟨W.heap.size, x, none⟩ = some (.string ⟨(word x).toArray⟩) :=
  ((Blk.new W 9 _).cell x).trans (word_at x h)

set_option maxHeartbeats 800000 in
theorem key_any (l : List UInt8) (A : Option Addr) (c : Nat) (hn : l.length ≤ 9223372036854775807) (w : World) (hr : Row w w.heap.size A (u8s l)) :
    Calls Try.prog 10 #[.slice A l.length c] w fun e w' => e = .returned (.string ⟨(keyOf l).toArray⟩) ∧ Below w.heap.size w w' := by
  have HR := Lib.hid hr
  clear hr
  go_enter Try.func10, Try.ntmps10
  go_wp2
  go_loopw [3, 4] (fun s i wr => ∃ k : Nat, k ≤ l.length ∧ k ≤ 6 ∧ i = .int .i64 (k : Int) ∧ s = .string ⟨(wordsTo l k).toArray⟩ ∧ Below w.heap.size w wr) (fun _ i _ => 6 - (intOf i).toNat)
  case atStart => exact ⟨0, by omega, by omega, rfl, rfl, Below.refl _ _⟩
  case round =>
    obtain ⟨k, hk, hk6, rfl, rfl, hB⟩ := hrel
    have hwl := wordsTo_len l k
    by_cases hlt : k < l.length
    · by_cases hlt6 : k < 6
      · obtain ⟨b, off, rfl, hb, hc⟩ := HR.out.at_ (k := k) (by simp; omega)
        have hc0 := (hB.cell (p := ⟨b, off + k, none⟩) hb).trans (hc k (.int .u8 (l[k].toNat : Int)) (u8s_at l k hlt))
        have hbl : b < wr.heap.size := Nat.lt_of_lt_of_le hb hB.size
        have hb8 : (l[k].toNat : Int) ≤ 255 := by have := l[k].toNat_lt; omega
        have hcw := word_cell wr (l[k].toNat % 8) (by omega)
        have hwo := wordsTo_succ l k hlt
        have hwl2 := (word_len (l[k].toNat % 8)).2
        have HW := Lib.hid hwo
        clear hc hwo
        go_wp2
        go_roundw
        case rel => exact ⟨k + 1, hlt, by omega, by go_num, by rw [HW.out, ByteArray.mk_append_mk], hB.alloc hB.size _⟩
        case measure => simp [intOf]; omega
      · have hfin := keyOf_at l k hk hk6 (by omega)
        have hl6 : l ≠ [] := by intro e; rw [e] at hlt; simp at hlt
        rw [if_neg hl6] at hfin
        have hne := wordsTo_ne l k (by omega) hl6
        have hne' : (wordsTo l k).isEmpty = false := by simpa using hne
        have HF := Lib.hid hfin
        clear hfin hl6
        go_wp2
        go_ret
        exact ⟨ret_str HF.out, hB⟩
    · have hlt' : (l.length : Int) ≤ k := by omega
      have hfin := keyOf_at l k hk hk6 (by omega)
      by_cases hl0 : l = []
      · rw [if_pos hl0] at hfin
        have he : wordsTo l k = [] := by rw [hl0]; simp [wordsTo]
        have HF := Lib.hid hfin
        clear hfin hlt hl0
        go_wp2
        go_ret
        exact ⟨ret_str HF.out, hB⟩
      · rw [if_neg hl0] at hfin
        have hk0 : k ≠ 0 := by
          intro e
          have : l.length = 0 := by omega
          exact hl0 (List.eq_nil_of_length_eq_zero this)
        have hne := wordsTo_ne l k hk0 hl0
        have hne' : (wordsTo l k).isEmpty = false := by simpa using hne
        have HF := Lib.hid hfin
        clear hfin hlt hl0 hk0
        go_wp2
        go_ret
        exact ⟨ret_str HF.out, hB⟩
end Go.Proofs.Ytdjhjgimlpdckaa.key
