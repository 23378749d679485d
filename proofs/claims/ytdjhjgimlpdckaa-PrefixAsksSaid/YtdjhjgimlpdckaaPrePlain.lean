/- the plain laws of found rules, and of the rules of a policy. -/
import Derived.Test.YtdjhjgimlpdckaaPrePolicy
import Derived.Test.YtdjhjgimlpdckaaPreKnown
namespace Go.Proofs.Ytdjhjgimlpdckaa.pre
open Go.RowKit
open Go.Proofs.Ytdjhjgimlpdckaa.aid

theorem find_self {L : List Rul} {k : List UInt8} {x : Rul} (h : IsFind L k (some x)) : IsFind L x.pre (some x) :=
  ⟨h.1, List.prefix_refl _, fun _ _ hp => hp.length_le⟩
theorem find_some {L : List Rul} {k : List UInt8} {o : Option Rul} (h : IsFind L k o) {x : Rul} (hx : x ∈ L) (hp : x.pre <+: k) : ∃ y, o = some y ∧ x.pre.length ≤ y.pre.length := by
  cases o with
  | none => exact absurd hp (h x hx)
  | some y => exact ⟨y, rfl, h.2.2 x hx hp⟩
theorem first_mem {L : List Rul} {j : Nat} {x : Rul} (h : First L j x) : x ∈ L := List.mem_iff_getElem?.2 ⟨j, h.1⟩
theorem find_mem {L : List Rul} {k : List UInt8} {x : Rul} (h : IsFind L k (some x)) : x ∈ L := by
  obtain ⟨⟨j, hj⟩, _⟩ := h
  exact first_mem hj

/-- every text finds one, where the empty prefix is there -/
theorem find_all {L : List Rul} {z : Rul} (hz : z ∈ L) (he : z.pre = []) {k : List UInt8} {o : Option Rul} (h : IsFind L k o) : ∃ y, o = some y := by
  obtain ⟨y, hy, _⟩ := find_some h hz (by rw [he]; exact List.nil_prefix)
  exact ⟨y, hy⟩

theorem behind {L : List Rul} {k more : List UInt8} {a b : Rul} (ha : IsFind L k (some a)) (hb : IsFind L (k ++ more) (some b)) : a.pre.length ≤ b.pre.length ∧ (k.length < b.pre.length ∨ b = a) := by
  have h1 := hb.2.2 a (find_mem ha) (ha.2.1.trans (List.prefix_append _ _))
  refine ⟨h1, ?_⟩
  rcases Nat.lt_or_ge k.length b.pre.length with hl | hl
  · exact .inl hl
  · right
    have hp : b.pre <+: k := List.prefix_of_prefix_length_le hb.2.1 (List.prefix_append _ _) hl
    have hb' : IsFind L k (some b) := ⟨hb.1, hp, fun y hy hyp => hb.2.2 y hy (hyp.trans (List.prefix_append _ _))⟩
    have := isFind_uni hb' ha
    exact Option.some.inj this

/-- each prefix stands there once -/
def Once (L : List Rul) : Prop := ∀ (i j : Nat) x y, L[i]? = some x → L[j]? = some y → x.pre = y.pre → i = j
theorem once_first {L : List Rul} (h : Once L) {j : Nat} {x : Rul} (hj : L[j]? = some x) : First L j x :=
  ⟨hj, fun k y hk hy he => by have := h _ _ _ _ hy hj he; omega⟩

theorem polTo_head (most : Nat) (ns : List Num) : ∀ k, ∃ l, polTo most ns k = rule0 most :: l
  | 0 => ⟨[], rfl⟩
  | k + 1 => by
    obtain ⟨l, h⟩ := polTo_head most ns k
    unfold polTo
    split
    · split
      · rw [h]
        exact ⟨l ++ [_], rfl⟩
      · exact ⟨l, h⟩
    · exact ⟨l, h⟩
theorem ruleOf_pre (x : Num) : (ruleOf x).pre = key.keyOf x.pre := by unfold ruleOf; split <;> rfl
theorem polTo_short (most : Nat) (ns : List Num) : ∀ k, ∀ x ∈ polTo most ns k, x.pre.length ≤ 12
  | 0, x, hx => by
    simp [polTo] at hx
    subst hx
    simp [rule0]
  | k + 1, x, hx => by
    have ih := polTo_short most ns k
    unfold polTo at hx
    split at hx
    · next y _ =>
      split at hx
      · rcases List.mem_append.1 hx with hx | hx
        · exact ih x hx
        · simp at hx
          subst hx
          rw [ruleOf_pre]
          exact (key.keyOf_right y.pre).2.1
      · exact ih x hx
    · exact ih x hx
theorem newIn_iff {L : List Rul} {p : List UInt8} : newIn L p = true ↔ ∀ y ∈ L, y.pre ≠ p := by
  unfold newIn
  simp
theorem once_snoc {L : List Rul} {r : Rul} (h : Once L) (hn : ∀ y ∈ L, y.pre ≠ r.pre) : Once (L ++ [r]) := by
  intro i j x y hi hj he
  have key : ∀ {i : Nat} {x : Rul}, (L ++ [r])[i]? = some x → (i < L.length ∧ L[i]? = some x) ∨ (i = L.length ∧ x = r) := fun {i x} h => by
    rcases Nat.lt_or_ge i L.length with hl | hl
    · rw [List.getElem?_append_left hl] at h
      exact .inl ⟨hl, h⟩
    · rw [List.getElem?_append_right hl] at h
      have : i - L.length = 0 := by
        rcases Nat.eq_zero_or_pos (i - L.length) with h0 | h0
        · exact h0
        · rw [List.getElem?_eq_none (by simp; omega)] at h; cases h
      rw [this] at h
      simp at h
      exact .inr ⟨by omega, h.symm⟩
  rcases key hi with ⟨_, h1⟩ | ⟨e1, h1⟩ <;> rcases key hj with ⟨_, h2⟩ | ⟨e2, h2⟩
  · exact h _ _ _ _ h1 h2 he
  · exact absurd (he.trans (by rw [h2])) (hn x (List.mem_iff_getElem?.2 ⟨i, h1⟩))
  · exact absurd (he.symm.trans (by rw [h1])) (hn y (List.mem_iff_getElem?.2 ⟨j, h2⟩))
  · omega
theorem polTo_once (most : Nat) (ns : List Num) : ∀ k, Once (polTo most ns k)
  | 0 => by
    intro i j x y hi hj _
    have h1 := (List.getElem?_eq_some_iff.1 hi).1
    have h2 := (List.getElem?_eq_some_iff.1 hj).1
    simp [polTo] at h1 h2
    omega
  | k + 1 => by
    have ih := polTo_once most ns k
    unfold polTo
    split
    · split
      · next h => exact once_snoc ih (newIn_iff.1 h)
      · exact ih
    · exact ih
/-- all that the laws want of a policy's rules -/
theorem pol_facts (most : Nat) (ns : List Num) : ∃ l, polRules most ns = rule0 most :: l ∧ (polRules most ns).length ≤ 13 ∧ (∀ x ∈ polRules most ns, x.pre.length ≤ 12) ∧ Once (polRules most ns) := by
  obtain ⟨l, h⟩ := polTo_head most ns (min ns.length 12)
  exact ⟨l, h, by have := (polTo_len most ns (min ns.length 12)).2; unfold polRules; omega, polTo_short most ns _, polTo_once most ns _⟩
end Go.Proofs.Ytdjhjgimlpdckaa.pre
