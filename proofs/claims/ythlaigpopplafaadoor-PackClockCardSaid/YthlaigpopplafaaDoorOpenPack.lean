/- What a law's arguments read as: slices of slices of bytes, and slices of numbers, no longer than the form's reach. -/
import Derived.Test.YthlaigpopplafaaDoorOpenRows
import Derived.Test.YthlaigpopplafaaDoorOpenLen
namespace Go.Proofs.YthlaigpopplafaaDoor.frame
open Go.ChangeShapes Go.WideShapes Go.ChangeAt Go.RowKit Go.Deep
open Go.Proofs.YthlaigpopplafaaDoor.aid

section
variable {H : Type} {enc : TypeId × Value → H} {W : World} {base : Nat} {hd : Bool} {fuel : Nat}
theorem weights_part {e : TypeId} {l : List (DataW H)} {d : DataW H} (h : d ∈ l) {n : Nat} (hn : n ∈ d.weights Tryd.prog e) : n ∈ DataW.weightsAll Tryd.prog e l := by
  induction l with
  | nil => cases h
  | cons a r ih =>
    simp only [DataW.weightsAll, List.mem_append]
    rcases List.mem_cons.1 h with rfl | h
    · exact .inl hn
    · exact .inr (ih h)
theorem open_rows_s {A : Option Addr} {len cap : Nat} {x : DataW H × List MemPlace} (hs : Small 27 x.1) (hf : DataW.trod enc Tryd.prog W base (fun _ => true) hd fuel 27 (Value.slice A len cap).cells.toList = some x) :
    ∃ ls : List (List UInt8), len = ls.length ∧ len ≤ 140737488351232 ∧ (∀ l ∈ ls, l.length ≤ 140737488351232) ∧ Rows W W.heap.size A ls := by
  have hu : Tryd.prog.underlying 27 = some (.slice 26) := by kernel_rfl
  have hb : Tryd.prog.bytesOf 26 = 24 := by kernel_rfl
  rcases open_slice1 (e := 26) (by kernel_rfl) (by kernel_rfl) hf with ⟨hcs, _⟩ | ⟨a, l, c, m, n, V, D, Pl, hcs, _, hl, hm, hmm, hxx, hx⟩
  · simp [Value.cells] at hcs
    obtain ⟨rfl, rfl, rfl⟩ := hcs
    exact ⟨[], rfl, by omega, (fun l h => by cases h), [], Row.nil_, rfl, fun j h => by simp at h⟩
  · simp [Value.cells] at hcs
    obtain ⟨rfl, rfl, rfl⟩ := hcs
    simp only [if_true] at hmm
    subst hmm
    unfold maxLen at hm
    rw [hxx] at hs
    have hw : len ≤ 140737488351232 := by
      have h := hs _ (by simp only [DataW.weights, hu]; exact List.mem_cons_self ..)
      rw [hb] at h
      simp at h
      omega
    obtain ⟨ls, hls, hp⟩ := list_choose (fun i l => ∃ Aj cj, V i = .slice Aj l.length cj ∧ l.length ≤ 140737488351232 ∧ Row W W.heap.size Aj (u8s l)) len (fun i hi => by
      obtain ⟨Aj, cj, l, e, h1, h2⟩ := open_u8s' (hx i (by omega)).2
      have e' : V i = .slice Aj l.length cj := by simpa using e
      refine ⟨l, Aj, cj, e', ?_, h2⟩
      have hsm : Small 26 (D i) := fun n hn => hs n (by
        simp only [DataW.weights, hu]
        exact List.mem_cons_of_mem _ (List.mem_append_left _ (weights_part (d := D i) (List.mem_map.2 ⟨i, by simpa using hi, rfl⟩) hn)))
      have hf2 := (hx i (by omega)).2
      rw [e'] at hf2
      exact small_u8s hsm hf2)
    refine ⟨ls, hls.symm, hw, ?_, (List.range len).map V, ?_, by simp [hls], ?_⟩
    · intro l hl2
      obtain ⟨j, hj, rfl⟩ := List.getElem_of_mem hl2
      obtain ⟨_, _, _, h1, _⟩ := hp j hj
      exact h1
    · refine row_of (fun i hi => (hx i hi).1) _ (by simp; omega) ?_
      intro i v hv
      simp only [List.getElem?_map, Option.map_eq_some_iff] at hv
      obtain ⟨k, hk, rfl⟩ := hv
      have hlt : i < len := by
        rcases Nat.lt_or_ge i len with h | h
        · exact h
        · rw [List.getElem?_eq_none (by simpa using h)] at hk; cases hk
      rw [List.getElem?_range hlt] at hk
      injection hk with hk
      rw [hk]
    · intro j h
      obtain ⟨Aj, cj, e, h1, h2⟩ := hp j h
      exact ⟨Aj, cj, by rw [List.getElem?_map, List.getElem?_range (by omega)]; simp [e], by omega, h2⟩
theorem open_u16s {A : Option Addr} {len cap : Nat} {x : DataW H × List MemPlace} (hs : Small 28 x.1) (hf : DataW.trod enc Tryd.prog W base (fun _ => true) hd fuel 28 (Value.slice A len cap).cells.toList = some x) :
    ∃ l : List Nat, len = l.length ∧ len ≤ 140737488351232 ∧ (∀ n ∈ l, n < 65536) ∧ Row W W.heap.size A (l.map fun (n : Nat) => Value.int .u16 ((n : Nat) : Int)) := by
  have hu : Tryd.prog.underlying 28 = some (.slice 29) := by kernel_rfl
  have hb : Tryd.prog.bytesOf 29 = 2 := by kernel_rfl
  rcases open_ints (e := 29) (k := .u16) (by kernel_rfl) (by kernel_rfl) (by kernel_rfl) hf with ⟨hcs, _⟩ | ⟨a, l, c, zs, hcs, _, hl, hm, hz, hx, hcell, hwz⟩
  · simp [Value.cells] at hcs
    obtain ⟨rfl, rfl, rfl⟩ := hcs
    exact ⟨[], rfl, by omega, (fun l h => by cases h), Row.nil_⟩
  · simp [Value.cells] at hcs
    obtain ⟨rfl, rfl, rfl⟩ := hcs
    have hz' : zs.length = cap := by simpa using hz
    unfold maxLen at hm
    have hw : len ≤ 140737488351232 := by
      rw [hx] at hs
      have h := hs _ (by simp only [DataW.weights, hu]; exact List.mem_cons_self ..)
      rw [hb] at h
      simp [lits] at h
      omega
    have hin : ∀ n ∈ zs, 0 ≤ n ∧ n ≤ 65535 := fun n hn => in_u16 (hwz n hn)
    refine ⟨(zs.take len).map fun n => n.toNat, by simp; omega, hw, ?_, ?_⟩
    · intro n hn
      obtain ⟨z, hz2, rfl⟩ := List.mem_map.1 hn
      have := hin z (List.mem_of_mem_take hz2)
      omega
    · refine row_of hcell _ (by simp; omega) ?_
      intro i v hv
      simp only [List.map_map, List.getElem?_map, Option.map_eq_some_iff, Function.comp] at hv
      obtain ⟨n, hn, rfl⟩ := hv
      have hn2 : zs[i]? = some n := by
        rw [List.getElem?_take] at hn
        split at hn
        · exact hn
        · cases hn
      have := hin n (List.mem_of_getElem? hn2)
      have hnn : ((n.toNat : Nat) : Int) = n := by omega
      rw [hnn]
      simp [List.getD, hn2]
end
end Go.Proofs.YthlaigpopplafaaDoor.frame
