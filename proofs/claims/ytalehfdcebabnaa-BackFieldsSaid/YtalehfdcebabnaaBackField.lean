/- back.Field: a number by its name. -/
import Derived.Test.YtalehfdcebabnaaBackBody
import Derived.Test.YtalehfdcebabnaaDigRead
import Derived.Test.YtalehfdcebabnaaHeadRenderA
namespace Go.Proofs.Ytalehfdcebabnaa.back
open Go.RowKit Go.Shelf
open Go.Proofs.Ytalehfdcebabnaa.head
open Go.Proofs.Ytalehfdcebabnaa.aid

attribute [local go_sem] Oper.semAt_some

/-- the boxes of Field: the name, the results, 'first' -/
abbrev fieldW (w : World) (name : ByteArray) : World := (((w.alloc (.cells #[.string name] 9)).alloc (.cells #[.int .u64 0] 24)).alloc (.cells #[.bool false] 4)).alloc (.cells #[.bool true] 4)
/-- what these boxes hold -/
def FBox (b : Nat) (name : ByteArray) (f : Bool) (W : World) : Prop :=
  Boxed W b 9 (.string name) ∧ Boxed W (b + 1) 24 (.int .u64 0) ∧ Boxed W (b + 1 + 1) 4 (.bool false) ∧ Boxed W (b + 1 + 1 + 1) 4 (.bool f)
theorem boxed_kept {A B : World} {row : Option Nat} {b : Nat} {t : TypeId} {v : Value} (h : Boxed A b t v) (hg : A.grownBy B row) (hr : ∀ r, row = some r → ∃ o : Obj, A.heap[r]? = some o ∧ o.isCells = false) : Boxed B b t v := by
  refine (hg.block b h.lt ?_).trans h
  intro e
  obtain ⟨o, ho, hc⟩ := hr b e.symm
  have hh : A.heap[b]? = some (.cells #[v] t (0, 0)) := h
  rw [hh] at ho
  cases ho
  cases hc
theorem boxed_far {W : World} {b g : Nat} {t : TypeId} {v : Value} (h : Boxed W b t v) (hne : b ≠ g) (u : Value) : Boxed (W.setCell ⟨g, 0, none⟩ u) b t v := (Below.heap_setCell _ _ _ _ hne).trans h
theorem FBox.kept {A B : World} {row : Option Nat} {b : Nat} {name : ByteArray} {f : Bool} (h : FBox b name f A) (hg : A.grownBy B row) (hr : ∀ r, row = some r → ∃ o : Obj, A.heap[r]? = some o ∧ o.isCells = false) : FBox b name f B :=
  ⟨boxed_kept h.1 hg hr, boxed_kept h.2.1 hg hr, boxed_kept h.2.2.1 hg hr, boxed_kept h.2.2.2 hg hr⟩
theorem FBox.far {W : World} {b g : Nat} {name : ByteArray} {f : Bool} (h : FBox b name f W) (hne : b + 1 + 1 + 1 < g) (u : Value) : FBox b name f (W.setCell ⟨g, 0, none⟩ u) :=
  ⟨boxed_far h.1 (by omega) u, boxed_far h.2.1 (by omega) u, boxed_far h.2.2.1 (by omega) u, boxed_far h.2.2.2 (by omega) u⟩

/-- no number among the lines behind the first -/
def Miss (nm : List UInt8) (pre : List (List UInt8 × List UInt8)) : Prop := (pre.drop 1).findSome? (fun x => hit nm x.1) = none
theorem Miss.snoc {nm : List UInt8} {pre : List (List UInt8 × List UInt8)} {x : List UInt8 × List UInt8} (h : Miss nm pre) (hx : pre = [] ∨ hit nm x.1 = none) : Miss nm (pre ++ [x]) := by
  unfold Miss at h ⊢
  cases pre with
  | nil => rfl
  | cons p ps =>
    simp only [List.cons_append, List.drop_succ_cons, List.drop_zero] at h ⊢
    rw [List.findSome?_append, h]
    rcases hx with hx | hx
    · cases hx
    · simp [hx]
theorem lines_last : ∀ (f : Nat) (l : List UInt8) (pre : List (List UInt8 × List UInt8)) (x : List UInt8 × List UInt8), pre ++ [x] <+: linesF f l → x.1 = [] → linesF f l = pre ++ [x]
  | 0, l, pre, x, h, _ => by
    have := h.length_le
    simp [linesF] at this
  | f + 1, l, pre, x, h, hx => by
    unfold linesF at h ⊢
    by_cases hc : (Lib.cut l crlf).2.2 = true
    · rw [if_pos hc] at h ⊢
      cases pre with
      | nil =>
        obtain ⟨t, ht⟩ := h
        simp only [List.nil_append, List.singleton_append, List.cons.injEq] at ht
        obtain ⟨rfl, ht⟩ := ht
        rw [if_pos hx]
        rfl
      | cons p ps =>
        rw [List.cons_append, List.cons_prefix_cons] at h
        obtain ⟨rfl, h⟩ := h
        by_cases he : (Lib.cut l crlf).1 = []
        · rw [if_pos he] at h
          have := h.length_le
          simp at this
        · rw [if_neg he] at h ⊢
          rw [lines_last f _ ps x h hx]
          rfl
    · rw [if_neg hc] at h
      have := h.length_le
      simp at this
theorem field_all {s nm : List UInt8} (h : Miss nm (lines s)) : field s nm = none := h
theorem field_end {s nm : List UInt8} {pre : List (List UInt8 × List UInt8)} {x : List UInt8 × List UInt8} (hp : pre ++ [x] <+: lines s) (hm : Miss nm pre) (hx : x.1 = []) : field s nm = none := by
  have h := lines_last _ _ _ _ hp hx
  refine field_all ?_
  rw [show lines s = pre ++ [x] from h]
  exact hm.snoc (.inr (by rw [hx]; exact hit_nil nm))
theorem field_hit {s nm : List UInt8} {pre : List (List UInt8 × List UInt8)} {x : List UInt8 × List UInt8} {k : Nat} (hp : pre ++ [x] <+: lines s) (hne : pre ≠ []) (hm : Miss nm pre) (hx : hit nm x.1 = some k) : field s nm = some k := by
  obtain ⟨t, ht⟩ := hp
  unfold field
  rw [← ht]
  unfold Miss at hm
  cases pre with
  | nil => exact absurd rfl hne
  | cons p ps =>
    simp only [List.cons_append, List.drop_succ_cons, List.drop_zero, List.append_assoc] at hm ⊢
    rw [List.findSome?_append, hm]
    simp [hx]
theorem line_short {s : List UInt8} {pre : List (List UInt8 × List UInt8)} {x : List UInt8 × List UInt8} (hp : pre ++ [x] <+: lines s) : x.1.length ≤ s.length := by
  have : ∀ (f : Nat) (l : List UInt8), ∀ y ∈ linesF f l, y.1.length ≤ l.length := by
    intro f
    induction f with
    | zero => intro l y h; simp [linesF] at h
    | succ f ih =>
      intro l y h
      unfold linesF at h
      split at h
      · rename_i hc
        have hs := (cut_short (by simp [crlf]) hc)
        rcases List.mem_cons.1 h with rfl | h
        · exact hs.2
        · split at h
          · cases h
          · have := ih _ _ h
            omega
      · cases h
  refine this _ s x (hp.subset (by simp))
theorem trim_short (l p : List UInt8) : (Lib.trimPrefix l p).length ≤ l.length := by
  unfold Lib.trimPrefix
  split <;> simp
theorem cutp_calls (x : List UInt8) (name : ByteArray) (W : World) :
    Calls Try.prog 15 #[.string ⟨x.toArray⟩, .string (name ++ ByteArray.mk #[58, 32])] W fun e w' => e = .returned (.tuple #[.string ⟨(Lib.trimPrefix x (name.data.toList ++ colon)).toArray⟩, .bool (Lib.hasPrefix x (name.data.toList ++ colon))]) ∧ w' = W := by
  have h := Try.strings_CutPrefix ⟨x.toArray⟩ (name ++ ByteArray.mk #[58, 32]) W
  have e : (name ++ ByteArray.mk #[58, 32]).data.toList = name.data.toList ++ colon := by simp [colon]
  rw [e] at h
  simpa using h
end Go.Proofs.Ytalehfdcebabnaa.back
