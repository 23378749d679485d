/- What a law's arguments read as: slices of texts. -/
import Derived.Test.YtnfkeaplglknlaaOpen
import Derived.SliceStrings
namespace Go.Proofs.Ytnfkeaplglknlaa.frame
open Go.ChangeShapes Go.WideShapes Go.ChangeAt Go.RowKit
open Go.Proofs.Ytnfkeaplglknlaa.aid

section
variable {H : Type} {enc : TypeId × Value → H} {W : World} {base : Nat} {sp : Nat → Bool} {hd : Bool} {fuel : Nat}
theorem weights_all (l : List ByteArray) (s : ByteArray) (h : s ∈ l) : s.size ∈ DataW.weightsAll (H := H) Try.prog 9 (strs l) := by
  induction l with
  | nil => cases h
  | cons a r ih =>
    simp only [strs, List.map_cons, DataW.weightsAll, List.mem_append]
    rcases List.mem_cons.1 h with rfl | h
    · left
      simp [DataW.weights]
    · right
      exact ih h
theorem weights_strs (l r : List ByteArray) (s : ByteArray) (h : s ∈ l) : s.size ∈ DataW.weights (H := H) Try.prog 40 (.slice (strs l) (strs r)) := by
  have hu : Try.prog.underlying 40 = some (.slice 9) := by kernel_rfl
  simp only [DataW.weights, hu, List.mem_cons, List.mem_append]
  exact .inr (.inl (weights_all l s h))
theorem open_strs {A : Option Addr} {len cap : Nat} {x : DataW H × List MemPlace} (hf : DataW.trod enc Try.prog W base (fun _ => true) hd fuel 40 (Value.slice A len cap).cells.toList = some x) :
    ∃ ss : List ByteArray, len = ss.length ∧ len ≤ 9223372036854775807 ∧ len ≤ cap ∧ Row W W.heap.size A (ss.map .string) ∧ (Small 40 x.1 → ∀ s ∈ ss, s.size ≤ 140737488351232) := by
  rcases open_strings (e := 9) (by kernel_rfl) (by kernel_rfl) (by kernel_rfl) hf with ⟨hcs, hx⟩ | ⟨a, l, c, ss, hcs, _, hl, hm, hz, hx, hcell, hwz⟩
  · simp [Value.cells] at hcs
    obtain ⟨rfl, rfl, rfl⟩ := hcs
    exact ⟨[], rfl, by omega, by omega, Row.nil_, fun _ s hs => by cases hs⟩
  · simp [Value.cells] at hcs
    obtain ⟨rfl, rfl, rfl⟩ := hcs
    have hz' : ss.length = cap := by simpa using hz
    unfold maxLen at hm
    refine ⟨ss.take len, by simp; omega, by omega, hl, ?_, ?_⟩
    rotate_left
    · intro hs s hmem
      refine hs _ ?_
      rw [hx]
      exact weights_strs _ _ _ hmem
    refine row_of hcell _ (by simp; omega) ?_
    intro i v hv
    simp only [List.getElem?_map, Option.map_eq_some_iff] at hv
    obtain ⟨n, hn, rfl⟩ := hv
    have hn2 : ss[i]? = some n := by
      rw [List.getElem?_take] at hn
      split at hn
      · exact hn
      · cases hn
    simp [List.getD, hn2]
end
end Go.Proofs.Ytnfkeaplglknlaa.frame
