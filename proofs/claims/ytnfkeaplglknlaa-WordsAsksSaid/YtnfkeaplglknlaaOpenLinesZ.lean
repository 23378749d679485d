/- What a law's arguments read as: lines of words, as strings; and how long they are at most. -/
import Derived.Test.YtnfkeaplglknlaaOpenLines
import Derived.Test.YtnfkeaplglknlaaOpenStrs
namespace Go.Proofs.Ytnfkeaplglknlaa.frame
open Go.ChangeShapes Go.WideShapes Go.ChangeAt Go.RowKit Go.Deep
open Go.Proofs.Ytnfkeaplglknlaa.aid
section
variable {H : Type} {enc : TypeId × Value → H} {W : World} {base : Nat} {hd : Bool} {fuel : Nat}
theorem open_words_z {cs : List Value} {x : DataW H × List MemPlace} (hf : DataW.trod enc Try.prog W base (fun _ => true) hd fuel 40 cs = some x) :
    ∃ (A : Option Addr) (c : Nat) (l : List (List UInt8)), cs = [.slice A l.length c] ∧ l.length ≤ c ∧ Row W W.heap.size A (l.map fun x => .string ⟨x.toArray⟩) ∧ (Small 40 x.1 → l.length ≤ 140737488351232 ∧ ∀ y ∈ l, y.length ≤ 140737488351232) := by
  rcases open_strings (e := 9) (by kernel_rfl) (by kernel_rfl) (by kernel_rfl) hf with ⟨hcs, hx⟩ | ⟨a, l, c, ss, hcs, _, hl, hm, hz, hx, hcell, hwz⟩
  · exact ⟨none, 0, [], hcs, Nat.le_refl _, Row.nil_, fun _ => ⟨by simp, fun y hy => by cases hy⟩⟩
  · have hz' : ss.length = c := by simpa using hz
    unfold maxLen at hm
    have hlen : ((ss.take l).map fun s => s.data.toList).length = l := by simp; omega
    refine ⟨some a, c, (ss.take l).map fun s => s.data.toList, by rw [hlen]; exact hcs, by rw [hlen]; exact hl, ?_, fun hs => ⟨?_, fun y hy => ?_⟩⟩
    · refine row_of hcell _ (by simp; omega) ?_
      intro i v hv
      simp only [List.getElem?_map, Option.map_eq_some_iff] at hv
      obtain ⟨n, ⟨s, hs, rfl⟩, rfl⟩ := hv
      have hn2 : ss[i]? = some s := by
        rw [List.getElem?_take] at hs
        split at hs
        · exact hs
        · cases hs
      simp [List.getD, hn2]
    · rw [hlen]
      rw [hx] at hs
      have hu : Try.prog.underlying 40 = some (.slice 9) := by kernel_rfl
      have hb : Try.prog.bytesOf 9 = 16 := by kernel_rfl
      have h := hs _ (by simp only [DataW.weights, hu]; exact List.mem_cons_self ..)
      rw [hb] at h
      simp [strs] at h
      omega
    · obtain ⟨s, hsm, rfl⟩ := List.mem_map.1 hy
      refine hs _ ?_
      rw [hx]
      exact weights_strs _ _ s hsm
theorem weights_in (l : List (DataW H)) (d : DataW H) (h : d ∈ l) (n : Nat) (hn : n ∈ DataW.weights Try.prog 40 d) : n ∈ DataW.weightsAll Try.prog 40 l := by
  induction l with
  | nil => cases h
  | cons a r ih =>
    simp only [DataW.weightsAll, List.mem_append]
    rcases List.mem_cons.1 h with rfl | h
    · exact .inl hn
    · exact .inr (ih h)
theorem open_lines_z {A : Option Addr} {len cap : Nat} {x : DataW H × List MemPlace} (hf : DataW.trod enc Try.prog W base (fun _ => true) hd fuel 39 (Value.slice A len cap).cells.toList = some x) :
    ∃ ls : List (List (List UInt8)), words.Lns W (.slice A len cap) ls ∧ ls.length ≤ 9223372036854775807 ∧ (Small 39 x.1 → ∀ l ∈ ls, l.length ≤ 140737488351232 ∧ ∀ y ∈ l, y.length ≤ 140737488351232) := by
  rcases open_slice1 (e := 40) (by kernel_rfl) (by kernel_rfl) hf with ⟨hcs, _⟩ | ⟨a, l, c, m, n, V, D, Pl, hcs, _, hl, hm, hmm, hxx, hx⟩
  · simp [Value.cells] at hcs
    obtain ⟨rfl, rfl, rfl⟩ := hcs
    exact ⟨[], ⟨none, 0, [], rfl, Nat.le_refl _, Row.nil_, rfl, fun j h => by simp at h⟩, by simp, fun _ l h => by cases h⟩
  · simp [Value.cells] at hcs
    obtain ⟨rfl, rfl, rfl⟩ := hcs
    simp only [if_true] at hmm
    subst hmm
    unfold maxLen at hm
    obtain ⟨ls, hls, hp⟩ := list_choose (fun i (l : List (List UInt8)) => ∃ Aj cj, V i = .slice Aj l.length cj ∧ l.length ≤ cj ∧ Row W W.heap.size Aj (l.map fun x => .string ⟨x.toArray⟩) ∧ (Small 40 (D i) → l.length ≤ 140737488351232 ∧ ∀ y ∈ l, y.length ≤ 140737488351232)) len (fun i hi => by
      obtain ⟨Aj, cj, l, e, h1, h2, h3⟩ := open_words_z (hx i (by omega)).2
      exact ⟨l, Aj, cj, by simpa using e, h1, h2, h3⟩)
    refine ⟨ls, ⟨some a, m, (List.range len).map V, by rw [hls], by omega, ?_, by simp [hls], ?_⟩, by omega, fun hs q hq => ?_⟩
    · refine row_of (fun i hi => (hx i hi).1) _ (by simp; omega) ?_
      intro i v hv
      simp only [List.getElem?_map, Option.map_eq_some_iff] at hv
      obtain ⟨k, hk, rfl⟩ := hv
      have := List.getElem?_range (n := len) (i := i)
      have hlt : i < len := by
        rcases Nat.lt_or_ge i len with h | h
        · exact h
        · rw [List.getElem?_eq_none (by simpa using h)] at hk; cases hk
      rw [List.getElem?_range hlt] at hk
      injection hk with hk
      rw [hk]
    · intro j h
      obtain ⟨Aj, cj, e, h1, h2, -⟩ := hp j h
      exact ⟨Aj, cj, by rw [List.getElem?_map, List.getElem?_range (by omega)]; simp [e], h1, h2⟩
    · obtain ⟨j, hj, rfl⟩ := List.mem_iff_getElem.1 hq
      obtain ⟨Aj, cj, e, h1, h2, h3⟩ := hp j hj
      refine h3 (fun n hn => hs n ?_)
      have hu : Try.prog.underlying 39 = some (.slice 40) := by kernel_rfl
      rw [hxx]
      simp only [DataW.weights, hu, List.mem_cons, List.mem_append]
      exact .inr (.inl (weights_in _ (D j) (List.mem_map.2 ⟨j, List.mem_range.2 (by omega), rfl⟩) n hn))
end
end Go.Proofs.Ytnfkeaplglknlaa.frame
