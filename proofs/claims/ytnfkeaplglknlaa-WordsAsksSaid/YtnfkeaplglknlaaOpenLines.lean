/- What a law's arguments read as: lines of words, as strings. -/
import Derived.Test.YtnfkeaplglknlaaOpen
import Derived.Test.YtnfkeaplglknlaaWordsJoin
import Derived.SliceStrings
import Derived.Deep.Slices
namespace Go.Proofs.Ytnfkeaplglknlaa.frame
open Go.ChangeShapes Go.WideShapes Go.ChangeAt Go.RowKit Go.Deep
open Go.Proofs.Ytnfkeaplglknlaa.aid

theorem list_choose {α : Type} (p : Nat → α → Prop) : ∀ n, (∀ i, i < n → ∃ x, p i x) → ∃ l : List α, l.length = n ∧ ∀ i (h : i < l.length), p i l[i]
  | 0, _ => ⟨[], rfl, fun i h => by simp at h⟩
  | n + 1, h => by
    obtain ⟨l, hl, hp⟩ := list_choose p n fun i hi => h i (by omega)
    obtain ⟨x, hx⟩ := h n (by omega)
    refine ⟨l ++ [x], by simp [hl], fun i hi => ?_⟩
    by_cases hlt : i < l.length
    · rw [List.getElem_append_left hlt]
      exact hp i hlt
    · have : i = l.length := by simp at hi; omega
      subst this
      rw [List.getElem_append_right (Nat.le_refl _)]
      simp only [Nat.sub_self, List.getElem_cons_zero]
      rw [hl]
      exact hx
section
variable {H : Type} {enc : TypeId × Value → H} {W : World} {base : Nat} {hd : Bool} {fuel : Nat}
theorem open_words {cs : List Value} {x : DataW H × List MemPlace} (hf : DataW.trod enc Try.prog W base (fun _ => true) hd fuel 40 cs = some x) :
    ∃ (A : Option Addr) (c : Nat) (l : List (List UInt8)), cs = [.slice A l.length c] ∧ l.length ≤ c ∧ Row W W.heap.size A (l.map fun x => .string ⟨x.toArray⟩) := by
  rcases open_strings (e := 9) (by kernel_rfl) (by kernel_rfl) (by kernel_rfl) hf with ⟨hcs, hx⟩ | ⟨a, l, c, ss, hcs, _, hl, hm, hz, hx, hcell, hwz⟩
  · exact ⟨none, 0, [], hcs, Nat.le_refl _, Row.nil_⟩
  · have hz' : ss.length = c := by simpa using hz
    unfold maxLen at hm
    have hlen : ((ss.take l).map fun s => s.data.toList).length = l := by simp; omega
    refine ⟨some a, c, (ss.take l).map fun s => s.data.toList, by rw [hlen]; exact hcs, by rw [hlen]; exact hl, ?_⟩
    refine row_of hcell _ (by simp; omega) ?_
    intro i v hv
    simp only [List.getElem?_map, Option.map_eq_some_iff] at hv
    obtain ⟨n, ⟨s, hs, rfl⟩, rfl⟩ := hv
    have hn2 : ss[i]? = some s := by
      rw [List.getElem?_take] at hs
      split at hs
      · exact hs
      · cases hs
    simp [List.getD, hn2]
theorem open_lines {A : Option Addr} {len cap : Nat} {x : DataW H × List MemPlace} (hf : DataW.trod enc Try.prog W base (fun _ => true) hd fuel 39 (Value.slice A len cap).cells.toList = some x) :
    ∃ ls : List (List (List UInt8)), words.Lns W (.slice A len cap) ls := by
  rcases open_slice1 (e := 40) (by kernel_rfl) (by kernel_rfl) hf with ⟨hcs, _⟩ | ⟨a, l, c, m, n, V, D, Pl, hcs, _, hl, hm, hmm, _, hx⟩
  · simp [Value.cells] at hcs
    obtain ⟨rfl, rfl, rfl⟩ := hcs
    exact ⟨[], none, 0, [], rfl, Nat.le_refl _, Row.nil_, rfl, fun j h => by simp at h⟩
  · simp [Value.cells] at hcs
    obtain ⟨rfl, rfl, rfl⟩ := hcs
    simp only [if_true] at hmm
    subst hmm
    unfold maxLen at hm
    obtain ⟨ls, hls, hp⟩ := list_choose (fun i (l : List (List UInt8)) => ∃ Aj cj, V i = .slice Aj l.length cj ∧ l.length ≤ cj ∧ Row W W.heap.size Aj (l.map fun x => .string ⟨x.toArray⟩)) len (fun i hi => by
      obtain ⟨Aj, cj, l, e, h1, h2⟩ := open_words (hx i (by omega)).2
      exact ⟨l, Aj, cj, by simpa using e, h1, h2⟩)
    refine ⟨ls, some a, m, (List.range len).map V, by rw [hls], by omega, ?_, by simp [hls], ?_⟩
    · refine row_of (fun i hi => (hx i hi).1) _ (by simp; omega) ?_
      intro i v hv
      simp only [List.getElem?_map, Option.map_eq_some_iff] at hv
      obtain ⟨k, hk, rfl⟩ := hv
      have := List.getElem?_range (n := len) (i := i)
      have hlt : i < len := by
        rcases Nat.lt_or_ge i len with h | h
        · exact h
        · rw [List.getElem?_eq_none (by simpa using h)] at hk; cases hk
      rw [List.getElem?_range hlt] at hk
      injection hk with hk
      rw [hk]
    · intro j h
      obtain ⟨Aj, cj, e, h1, h2⟩ := hp j h
      exact ⟨Aj, cj, by rw [List.getElem?_map, List.getElem?_range (by omega)]; simp [e], h1, h2⟩
end
end Go.Proofs.Ytnfkeaplglknlaa.frame
