/- a scope with two labels: to one the run jumps back, to the other on. No program here. -/
import Derived.Test.YtnfkeaplglknlaaAid
import Derived.ScopeJumps
namespace Go.Proofs.Ytnfkeaplglknlaa.aid
open Go.RowKit

/-- As Q; by a goto: what is asked there. -/
def Jumps (J : Nat → Act → World → Prop) (Q : Exit → Act → World → Prop) (e : Exit) (a : Act) (w : World) : Prop :=
  match e with
  | .goto l => J l a w
  | e => Q e a w

theorem jumps_ret {J : Nat → Act → World → Prop} {Q : Exit → Act → World → Prop} {a : Act} {w : World} : Jumps J Q .ret a w = Q .ret a w := rfl
section
variable {P : Program} {Q : Exit → Act → World → Prop} {c : Code}
theorem Jumps.imp {J J' : Nat → Act → World → Prop} (h : ∀ l a w, J l a w → J' l a w) : ∀ e a w, Jumps J Q e a w → Jumps J' Q e a w := by
  intro e a w hq
  cases e <;> first | exact h _ _ _ hq | exact hq

theorem settle {J : Nat → Act → World → Prop} {m : Nat → Act → World → Nat} {rest : Nat → Code} (hf : ∀ l a w, J l a w → findLabel c l = some (rest l))
    (pass : ∀ l a w, J l a w → (rest l).wp P (Jumps (fun l' a' w' => J l' a' w' ∧ m l' a' w' < m l a w) Q) a w) (b : Frame) (k : List Item) (cs : List Frame) :
    ∀ (n : Nat) (M : Machine) (e : Exit) (a : Act) (w : World), Jumps (fun l a w => J l a w ∧ m l a w < n) Q e a w → Arrives P M b (.inScope c :: k) cs e a w → ∃ e' a' w', Q e' a' w' ∧ Arrives P M b k cs e' a' w' := by
  intro n
  induction n using Nat.strongRecOn with
  | _ n ih =>
    intro M e a w hq harr
    match e, hq, harr with
    | .goto l, hq, harr =>
      obtain ⟨hJ, hlt⟩ := hq
      have hs := harr _ (show gotoIn l (.inScope c :: k) = some (.code (rest l) :: .inScope c :: k) by simp [gotoIn, hf l a w hJ])
      obtain ⟨e2, a2, w2, hq2, harr2⟩ := pass l a w hJ b (.inScope c :: k) cs
      obtain ⟨e3, a3, w3, hq3, harr3⟩ := ih _ hlt _ e2 a2 w2 hq2 harr2
      exact ⟨e3, a3, w3, hq3, .of_steps hs harr3⟩
    | .normal, hq, harr => exact ⟨.normal, a, w, hq, Steps.trans harr (.one step_inScope)⟩
    | .exit id, hq, harr => exact ⟨.exit id, a, w, hq, fun k' hk => harr k' (by simp [exitTo, hk])⟩
    | .ret, hq, harr => exact ⟨_, a, w, hq, harr⟩
    | .panic ch, hq, harr => exact ⟨_, a, w, hq, harr⟩
    | .outgrown, hq, harr => exact ⟨_, a, w, hq, harr⟩

theorem wp_scope_labels {J : Nat → Act → World → Prop} {m : Nat → Act → World → Nat} {rest : Nat → Code} (hf : ∀ l a w, J l a w → findLabel c l = some (rest l))
    (pass : ∀ l a w, J l a w → (rest l).wp P (Jumps (fun l' a' w' => J l' a' w' ∧ m l' a' w' < m l a w) Q) a w) {a : Act} {w : World} (first : c.wp P (Jumps J Q) a w) : (Code.scope c).wp P Q a w := by
  intro b k cs
  obtain ⟨e, a1, w1, hq, harr⟩ := first b (.inScope c :: k) cs
  have hx : ∃ n, Jumps (fun l a w => J l a w ∧ m l a w < n) Q e a1 w1 := by
    match e, hq with
    | .goto l, hq => exact ⟨m l a1 w1 + 1, hq, Nat.lt_succ_self _⟩
    | .normal, hq => exact ⟨0, hq⟩
    | .exit id, hq => exact ⟨0, hq⟩
    | .ret, hq => exact ⟨0, hq⟩
    | .panic ch, hq => exact ⟨0, hq⟩
    | .outgrown, hq => exact ⟨0, hq⟩
  obtain ⟨n, hn⟩ := hx
  obtain ⟨e3, a3, w3, hq3, harr3⟩ := settle hf pass b k cs n _ e a1 w1 hn harr
  exact ⟨e3, a3, w3, hq3, .of_steps (.one step_scope) harr3⟩

/-- label 1 is jumped back to, label 0 is where it ends; what stands behind label 1 is walked once -/
theorem wp_scope_two {r0 r1 : Code} (J0 J1 : Act → World → Prop) (m : Act → World → Nat) (h0 : findLabel c 0 = some (.seq .skip r0)) (h1 : findLabel c 1 = some (.seq .skip r1))
    (p0 : ∀ a w, J0 a w → r0.wp P (Jumps (fun _ _ _ => False) Q) a w)
    (p1 : ∀ a w, J1 a w → r1.wp P (Jumps (fun l a' w' => (l = 0 ∧ J0 a' w') ∨ (l = 1 ∧ J1 a' w' ∧ m a' w' < m a w)) Q) a w)
    {a : Act} {w : World} (first : Hid (∀ a w, J1 a w → r1.wp P (Jumps (fun l a' w' => (l = 0 ∧ J0 a' w') ∨ (l = 1 ∧ J1 a' w')) Q) a w) → c.wp P (Jumps (fun l a' w' => (l = 0 ∧ J0 a' w') ∨ (l = 1 ∧ J1 a' w')) Q) a w) :
    (Code.scope c).wp P Q a w := by
  refine wp_scope_labels (J := fun l a' w' => (l = 0 ∧ J0 a' w') ∨ (l = 1 ∧ J1 a' w')) (m := fun l a w => if l = 0 then 0 else m a w + 1) (rest := fun l => if l = 0 then .seq .skip r0 else .seq .skip r1) ?_ ?_ (first ?_)
  · rintro l a w (⟨rfl, -⟩ | ⟨rfl, -⟩)
    · exact h0
    · exact h1
  · rintro l a w (⟨rfl, h⟩ | ⟨rfl, h⟩)
    · exact wp_seq (wp_skip (Code.wp_mono (Jumps.imp fun _ _ _ h => h.elim) (p0 a w h)))
    · refine wp_seq (wp_skip (Code.wp_mono (Jumps.imp fun l' a' w' h' => ?_) (p1 a w h)))
      rcases h' with ⟨rfl, h'⟩ | ⟨rfl, h', hlt⟩
      · exact ⟨.inl ⟨rfl, h'⟩, by simp⟩
      · exact ⟨.inr ⟨rfl, h'⟩, by simp; omega⟩
  · refine Lib.hid fun a w h => Code.wp_mono (Jumps.imp fun l' a' w' h' => ?_) (p1 a w h)
    rcases h' with ⟨rfl, h'⟩ | ⟨rfl, h', -⟩
    · exact .inl ⟨rfl, h'⟩
    · exact .inr ⟨rfl, h'⟩
end
end Go.Proofs.Ytnfkeaplglknlaa.aid
