/- Keys, in plain Lean: which bytes, which is less, how much is common. No program here. -/
import Derived.RowKit
namespace Go.Proofs.Ytdjhjgimlpdckaa.key

/-- how much two begin with alike -/
def common : List UInt8 → List UInt8 → Nat
  | a :: x, b :: y => if a = b then common x y + 1 else 0
  | _, _ => 0
def vis (c : UInt8) : Bool := decide (33 ≤ c.toNat) && decide (c.toNat ≤ 126)
/-- a key that may be -/
def right (l : List UInt8) : Bool := decide (1 ≤ l.length) && decide (l.length ≤ 128) && l.all vis
def has (k p : List UInt8) : Bool := p.isPrefixOf k
def less (a b : List UInt8) : Bool := Op.bytesLess a b
/-- keys that rise -/
def rises : List (List UInt8) → Bool
  | a :: b :: r => less a b && rises (b :: r)
  | _ => true

theorem common_le : ∀ (a b : List UInt8), common a b ≤ a.length ∧ common a b ≤ b.length
  | [], _ => by simp [common]
  | _ :: _, [] => by simp [common]
  | a :: x, b :: y => by
    have := common_le x y
    unfold common
    split <;> simp <;> omega

/-- pairs, place by place -/
def pairs (a b : List UInt8) : List (UInt8 × UInt8) := a.zip b
theorem pairs_len (a b : List UInt8) : (pairs a b).length = min a.length b.length := by simp [pairs]
/-- the pairs that came are alike -/
def alike (l : List (UInt8 × UInt8)) : Prop := ∀ p ∈ l, p.1 = p.2
theorem alike_nil : alike [] := fun _ h => by cases h
theorem alike_snoc {l : List (UInt8 × UInt8)} {p : UInt8 × UInt8} (h : alike l) (hp : p.1 = p.2) : alike (l ++ [p]) := by
  intro q hq
  rcases List.mem_append.1 hq with hq | hq
  · exact h q hq
  · simp at hq; subst hq; exact hp
theorem alike_all_common : ∀ (a b : List UInt8), alike (pairs a b) → common a b = min a.length b.length
  | [], _, _ => by simp [common]
  | _ :: _, [], _ => by simp [common]
  | a :: x, b :: y, h => by
    have h1 : a = b := h (a, b) (by simp [pairs])
    have h2 := alike_all_common x y (fun p hp => h p (by simp [pairs] at hp ⊢; exact .inr hp))
    unfold common
    rw [if_pos h1, h2]
    simp
theorem alike_all_less : ∀ (a b : List UInt8), alike (pairs a b) → less a b = decide (a.length < b.length)
  | [], [], _ => by simp [less, Op.bytesLess]
  | [], _ :: _, _ => by simp [less, Op.bytesLess]
  | _ :: _, [], _ => by simp [less, Op.bytesLess]
  | a :: x, b :: y, h => by
    have h1 : a = b := h (a, b) (by simp [pairs])
    have h2 := alike_all_less x y (fun p hp => h p (by simp [pairs] at hp ⊢; exact .inr hp))
    subst h1
    unfold less at h2 ⊢
    simp [Op.bytesLess, h2]
/-- a pair that is unlike, behind alike ones -/
theorem unlike_common : ∀ (a b : List UInt8) (l : List (UInt8 × UInt8)) (p : UInt8 × UInt8), (l ++ [p]) <+: pairs a b → alike l → p.1 ≠ p.2 → common a b = l.length
  | [], _, l, p, h, _, _ => by simp [pairs] at h
  | _ :: _, [], l, p, h, _, _ => by simp [pairs] at h
  | a :: x, b :: y, [], p, h, _, hp => by
    simp [pairs] at h
    subst h
    simp [common, hp]
  | a :: x, b :: y, q :: l, p, h, hl, hp => by
    simp [pairs] at h
    obtain ⟨rfl, h⟩ := h
    have h1 : a = b := hl (a, b) (by simp)
    have h2 := unlike_common x y l p h (fun r hr => hl r (by simp [hr])) hp
    simp [common, h1, h2]
theorem unlike_less : ∀ (a b : List UInt8) (l : List (UInt8 × UInt8)) (p : UInt8 × UInt8), (l ++ [p]) <+: pairs a b → alike l → p.1 ≠ p.2 → less a b = decide (p.1 < p.2)
  | [], _, l, p, h, _, _ => by simp [pairs] at h
  | _ :: _, [], l, p, h, _, _ => by simp [pairs] at h
  | a :: x, b :: y, [], p, h, _, hp => by
    simp [pairs] at h
    subst h
    simp [less, Op.bytesLess]
    intro h1 h2
    exact absurd h1 hp
  | a :: x, b :: y, q :: l, p, h, hl, hp => by
    simp [pairs] at h
    obtain ⟨rfl, h⟩ := h
    have h1 : a = b := hl (a, b) (by simp)
    have h2 := unlike_less x y l p h (fun r hr => hl r (by simp [hr])) hp
    subst h1
    unfold less at h2 ⊢
    simp [Op.bytesLess, h2]
end Go.Proofs.Ytdjhjgimlpdckaa.key
