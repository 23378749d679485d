/- What a law's arguments read as: slices of slices of bytes. -/
import Derived.Test.YthlaigpopplafaaDoorOpen
import Derived.Deep.Slices
namespace Go.Proofs.YthlaigpopplafaaDoor.frame
open Go.ChangeShapes Go.WideShapes Go.ChangeAt Go.RowKit Go.Deep
open Go.Proofs.YthlaigpopplafaaDoor.aid

/-- the slice's elements are slices whose bytes are ls -/
def Rows (w : World) (B : Nat) (A : Option Addr) (ls : List (List UInt8)) : Prop :=
  ∃ vs, Row w B A vs ∧ vs.length = ls.length ∧ ∀ j (h : j < ls.length), ∃ Aj cj, vs[j]? = some (.slice Aj ls[j].length cj) ∧ ls[j].length ≤ 9223372036854775807 ∧ Row w B Aj (u8s ls[j])
theorem Rows.at_ {w w' : World} {B : Nat} {A : Option Addr} {ls : List (List UInt8)} (h : Rows w B A ls) (hb : Below B w w') {k : Nat} (hk : k < ls.length) :
    ∃ b off Aj cj, A = some ⟨b, off, none⟩ ∧ b < B ∧ w'.cell? ⟨b, off + k, none⟩ = some (.slice Aj ls[k].length cj) ∧ ls[k].length ≤ 9223372036854775807 ∧ Row w' B Aj (u8s ls[k]) := by
  obtain ⟨vs, hr, hl, he⟩ := h
  obtain ⟨Aj, cj, hv, hlen, hrow⟩ := he k hk
  obtain ⟨b, off, e, hlt, hc⟩ := hr.at_ (k := k) (by omega)
  exact ⟨b, off, Aj, cj, e, hlt, (hb.cell (p := ⟨b, off + k, none⟩) hlt).trans (hc k _ hv), hlen, hrow.below hb⟩

theorem list_choose {α : Type} (p : Nat → α → Prop) : ∀ n, (∀ i, i < n → ∃ x, p i x) → ∃ l : List α, l.length = n ∧ ∀ i (h : i < l.length), p i l[i]
  | 0, _ => ⟨[], rfl, fun i h => by simp at h⟩
  | n + 1, h => by
    obtain ⟨l, hl, hp⟩ := list_choose p n fun i hi => h i (by omega)
    obtain ⟨x, hx⟩ := h n (by omega)
    refine ⟨l ++ [x], by simp [hl], fun i hi => ?_⟩
    by_cases hlt : i < l.length
    · rw [List.getElem_append_left hlt]
      exact hp i hlt
    · have : i = l.length := by simp at hi; omega
      subst this
      rw [List.getElem_append_right (Nat.le_refl _)]
      simp only [Nat.sub_self, List.getElem_cons_zero]
      rw [hl]
      exact hx

section
variable {H : Type} {enc : TypeId × Value → H} {W : World} {base : Nat} {sp : Nat → Bool} {hd : Bool} {fuel : Nat}
theorem open_u8s' {cs : List Value} {x : DataW H × List MemPlace} (hf : DataW.trod enc Tryd.prog W base (fun _ => true) hd fuel 26 cs = some x) :
    ∃ (A : Option Addr) (c : Nat) (l : List UInt8), cs = [.slice A l.length c] ∧ l.length ≤ 9223372036854775807 ∧ Row W W.heap.size A (u8s l) := by
  have hform : ∃ A len c, cs = [.slice A len c] := by
    rcases open_ints (k := .u8) (e := 5) (by kernel_rfl) (by kernel_rfl) (by kernel_rfl) hf with ⟨hcs, _⟩ | ⟨a, len, cap, zs, hcs, _⟩
    · exact ⟨none, 0, 0, hcs⟩
    · exact ⟨some a, len, cap, hcs⟩
  obtain ⟨A, len, c, rfl⟩ := hform
  obtain ⟨l, rfl, hl, hr⟩ := open_u8s (A := A) (len := len) (cap := c) hf
  exact ⟨A, c, l, rfl, hl, hr⟩
theorem open_rows {A : Option Addr} {len cap : Nat} {x : DataW H × List MemPlace} (hf : DataW.trod enc Tryd.prog W base (fun _ => true) hd fuel 27 (Value.slice A len cap).cells.toList = some x) :
    ∃ ls : List (List UInt8), len = ls.length ∧ len ≤ 9223372036854775807 ∧ Rows W W.heap.size A ls := by
  rcases open_slice1 (e := 26) (by kernel_rfl) (by kernel_rfl) hf with ⟨hcs, _⟩ | ⟨a, l, c, m, n, V, D, Pl, hcs, _, hl, hm, hmm, _, hx⟩
  · simp [Value.cells] at hcs
    obtain ⟨rfl, rfl, rfl⟩ := hcs
    exact ⟨[], rfl, by omega, [], Row.nil_, rfl, fun j h => by simp at h⟩
  · simp [Value.cells] at hcs
    obtain ⟨rfl, rfl, rfl⟩ := hcs
    simp only [if_true] at hmm
    subst hmm
    unfold maxLen at hm
    obtain ⟨ls, hls, hp⟩ := list_choose (fun i l => ∃ Aj cj, V i = .slice Aj l.length cj ∧ l.length ≤ 9223372036854775807 ∧ Row W W.heap.size Aj (u8s l)) len (fun i hi => by
      obtain ⟨Aj, cj, l, e, h1, h2⟩ := open_u8s' (hx i (by omega)).2
      exact ⟨l, Aj, cj, by simpa using e, h1, h2⟩)
    refine ⟨ls, hls.symm, by omega, (List.range len).map V, ?_, by simp [hls], ?_⟩
    · refine row_of (fun i hi => (hx i hi).1) _ (by simp; omega) ?_
      intro i v hv
      simp only [List.getElem?_map, Option.map_eq_some_iff] at hv
      obtain ⟨k, hk, rfl⟩ := hv
      have := List.getElem?_range (n := len) (i := i)
      have hlt : i < len := by
        rcases Nat.lt_or_ge i len with h | h
        · exact h
        · rw [List.getElem?_eq_none (by simpa using h)] at hk; cases hk
      rw [List.getElem?_range hlt] at hk
      injection hk with hk
      rw [hk]
    · intro j h
      obtain ⟨Aj, cj, e, h1, h2⟩ := hp j h
      exact ⟨Aj, cj, by rw [List.getElem?_map, List.getElem?_range (by omega)]; simp [e], h1, h2⟩
end
end Go.Proofs.YthlaigpopplafaaDoor.frame
