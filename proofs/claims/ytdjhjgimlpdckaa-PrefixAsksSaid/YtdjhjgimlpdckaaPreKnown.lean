/- Find and Len of no tree, Len, and the chapter's example. -/
import Derived.Test.YtdjhjgimlpdckaaPreFind
import Derived.Test.YtdjhjgimlpdckaaPreNew
import Derived.Deep.QuietTactic
namespace Go.Proofs.Ytdjhjgimlpdckaa.pre
open Go.RowKit Go.Shelf
open Go.Proofs.Ytdjhjgimlpdckaa.aid

theorem find_any (w : World) (base root : Nat) (L : List Rul) (h : Tr w base root L) (k : ByteArray) (hk : k.size ≤ big) :
    Calls Try.prog 13 #[.pointer (some ⟨root, 0, none⟩), .string k] w fun e w' => ∃ o, e = .returned (found o) ∧ IsFind L k.data.toList o ∧ Below w.heap.size w w' := by
  have := callsIn_wide.1 (find_in 3 (Nat.le_refl _) w base root L h k.data.toList hk)
  simpa using this

section
attribute [local go_sem] Oper.semAt_some
set_option maxRecDepth 100000 in
set_option maxHeartbeats 2000000 in
theorem findnil_in (n : Nat) (w : World) (k : ByteArray) :
    CallsIn Fence.wide n Try.prog 13 #[.pointer none, .string k] w fun e w' => e = .returned (found none) ∧ Below w.heap.size w w' := by
  refine callsIn_of_wp_marks Try.func13 rfl trivial ?_ rfl
  simp only [Try.ntmps13, List.size_toArray, List.length_cons, List.length_nil, Nat.reduceAdd, Nat.reduceSub, Array.replicate_succ, Array.replicate_zero, List.push_toArray, List.append_toArray, List.nil_append, List.cons_append]
  gi_wp2
  have q : Blk ((w.alloc (.cells #[.string ⟨#[]⟩, .int .u64 0, .int .u64 0, .int .u8 0] 28)).alloc (.cells #[.pointer none] 52)) w.heap.size 28 zeroRul.cells := (Blk.new w 28 zeroRul.cells).alloc _
  have r0 := q.cell 0
  have r1 := q.cell 1
  have r2 := q.cell 2
  have r3 := q.cell 3
  simp only [zeroRul, Rul.cells, List.getElem?_toArray, List.getElem?_cons_zero, List.getElem?_cons_succ] at r0 r1 r2 r3
  refine ⟨found none, ?_, rfl, ((Below.refl _ w).alloc (Nat.le_refl _) _).alloc (by simp) _⟩
  simp [results, Try.f13, go_sem, r0, r1, r2, r3, found, zeroRul, Rul.cells]
end
theorem findnil_any (w : World) (k : ByteArray) :
    Calls Try.prog 13 #[.pointer none, .string k] w fun e w' => e = .returned (found none) ∧ Below w.heap.size w w' := callsIn_wide.1 (findnil_in 3 w k)
theorem len_any (w : World) (base root : Nat) (L : List Rul) (h : Tr w base root L) :
    Calls Try.prog 14 #[.pointer (some ⟨root, 0, none⟩)] w fun e w' => e = .returned (.int .i64 (firsts L L.length : Nat)) ∧ Below w.heap.size w w' := by
  obtain ⟨G, T, R, M⟩ := h
  have m3 := M.cell
  clear T R M
  go_enter Try.func14, Try.ntmps14
  go_wp2
  go_ret
  exact ⟨rfl, Below.refl _ _⟩
theorem lennil_any (w : World) :
    Calls Try.prog 14 #[.pointer none] w fun e w' => e = .returned (.int .i64 0) ∧ Below w.heap.size w w' := by
  go_enter Try.func14, Try.ntmps14
  go_wp2
  go_ret
  exact ⟨rfl, Below.refl _ _⟩

def knownL : List Rul := [⟨[], 1, 0, 0⟩, ⟨[97], 2, 0, 0⟩, ⟨[97, 98], 3, 0, 0⟩]
theorem known_abc : IsFind knownL [97, 98, 99] (some ⟨[97, 98], 3, 0, 0⟩) := by
  refine ⟨⟨2, rfl, ?_⟩, by decide, ?_⟩
  · intro k y hk hy
    rcases (by omega : k = 0 ∨ k = 1) with rfl | rfl
    · cases hy
      decide
    · cases hy
      decide
  · intro y hy _
    simp [knownL] at hy
    rcases hy with rfl | rfl | rfl <;> simp
theorem known_b : IsFind knownL [98] (some ⟨[], 1, 0, 0⟩) := by
  refine ⟨⟨0, rfl, fun k y hk => by omega⟩, by decide, ?_⟩
  intro y hy hp
  simp [knownL] at hy
  rcases hy with rfl | rfl | rfl
  · simp
  · exact absurd hp (by decide)
  · exact absurd hp (by decide)

set_option maxHeartbeats 1600000 in
theorem known_any (w : World) : Calls Try.prog 8 #[] w fun e w' => e = .returned (.bool true) ∧ Below w.heap.size w w' := by
  go_enter Try.func8, Try.ntmps8
  go_wp2_with fail
  refine (new_any knownL (some ⟨w.heap.size, 0, none⟩) 3 (by decide) (by intro x hx; simp [knownL] at hx; rcases hx with rfl | rfl | rfl <;> simp [big]) _ (Row.new w 28 (rcells knownL).toArray)).mono ?_
  rintro e w1 ⟨root, rfl, hT, hB1⟩
  have HT := Lib.hid hT
  have HB := Lib.hid (((Below.refl w.heap.size w).alloc (Nat.le_refl _) (.cells (rcells knownL).toArray 28)).trans (hB1.mono (by simp)))
  clear hT hB1
  go_wp2_with fail
  refine (find_any _ _ root knownL HT.out ⟨#[97, 98, 99]⟩ (by decide)).mono ?_
  rintro e w2 ⟨o, rfl, ho, hB2⟩
  cases isFind_uni ho known_abc
  have HB2 := Lib.hid hB2
  clear ho hB2
  have eF : found (some ⟨[97, 98], 3, 0, 0⟩) = .tuple #[.agg #[.string ⟨#[97, 98]⟩, .int .u64 3, .int .u64 0, .int .u8 0], .bool true] := rfl
  rw [eF]
  clear eF
  go_wp2_with fail
  generalize hW2 : w2.alloc (.cells #[.string ⟨#[97, 98]⟩, .int .u64 3, .int .u64 0, .int .u8 0] 28) = W2
  have b2 : Blk W2 w2.heap.size 28 #[.string ⟨#[97, 98]⟩, .int .u64 3, .int .u64 0, .int .u8 0] := by rw [← hW2]; exact Blk.new _ _ _
  have B2 : Below w.heap.size w W2 := by
    rw [← hW2]
    exact (HB.out.trans (HB2.out.mono HB.out.size)).alloc (Nat.le_trans HB.out.size HB2.out.size) _
  have T2 : Tr W2 _ root knownL := (HT.out.below HB2.out).below (by rw [← hW2]; exact (Below.refl _ w2).alloc (Nat.le_refl _) _)
  have HT2 := Lib.hid T2
  have HBB := Lib.hid B2
  have HK2 := Lib.hid b2
  have lt2 := b2.lt
  clear T2 B2 b2 hW2 HT HB HB2
  refine (find_any _ _ root knownL HT2.out ⟨#[98]⟩ (by decide)).mono ?_
  rintro e w3 ⟨o, rfl, ho, hB3⟩
  cases isFind_uni ho known_b
  have eF : found (some ⟨[], 1, 0, 0⟩) = .tuple #[.agg #[.string ⟨#[]⟩, .int .u64 1, .int .u64 0, .int .u8 0], .bool true] := rfl
  rw [eF]
  have c2 : w3.cell? ⟨w2.heap.size, 1, none⟩ = some (.int .u64 3) := (hB3.cell (p := ⟨w2.heap.size, 1, none⟩) lt2).trans (HK2.out.cell 1)
  have lt3 : w2.heap.size < w3.heap.size := Nat.lt_of_lt_of_le lt2 hB3.size
  have HB3 := Lib.hid hB3
  have HT3 := Lib.hid ((HT2.out.below hB3).below ((Below.refl _ w3).alloc (Nat.le_refl _) (.cells #[.string ⟨#[]⟩, .int .u64 1, .int .u64 0, .int .u8 0] 28)))
  clear eF ho hB3
  go_wp2_with fail
  refine (len_any _ _ root knownL HT3.out).mono ?_
  rintro e w4 ⟨rfl, hB4⟩
  rw [show ((firsts knownL knownL.length : Nat) : Int) = 3 from rfl]
  go_wp2
  go_ret
  have h3 : Below w.heap.size w w3 := HBB.out.trans (HB3.out.mono HBB.out.size)
  have h4 := h3.alloc h3.size (.cells #[.string ⟨#[]⟩, .int .u64 1, .int .u64 0, .int .u8 0] 28)
  exact ⟨rfl, h4.trans (hB4.mono h4.size)⟩
end Go.Proofs.Ytdjhjgimlpdckaa.pre
