/- rules, and what a tree of rules is. -/
import Derived.Test.YtdjhjgimlpdckaaPreGrow
import Derived.Test.YtdjhjgimlpdckaaRow
namespace Go.Proofs.Ytdjhjgimlpdckaa.pre
open Go.RowKit
open Go.Proofs.Ytdjhjgimlpdckaa.aid

structure Rul where
  pre : List UInt8
  every : Int
  burst : Int
  kind : Int
  deriving DecidableEq

def Rul.cells (x : Rul) : Array Value := #[.string ⟨x.pre.toArray⟩, .int .u64 x.every, .int .u64 x.burst, .int .u8 x.kind]
def rcells (L : List Rul) : List Value := L.flatMap fun x => x.cells.toList

theorem rcells_len : ∀ L : List Rul, (rcells L).length = 4 * L.length
  | [] => rfl
  | x :: r => by
    have := rcells_len r
    have e1 : rcells (x :: r) = .string ⟨x.pre.toArray⟩ :: .int .u64 x.every :: .int .u64 x.burst :: .int .u8 x.kind :: rcells r := rfl
    rw [e1]
    simp only [List.length_cons]
    omega
theorem rcells_at : ∀ (L : List Rul) (k : Nat) (x : Rul), L[k]? = some x → (rcells L)[4 * k]? = some (.string ⟨x.pre.toArray⟩) ∧ (rcells L)[4 * k + 1]? = some (.int .u64 x.every) ∧ (rcells L)[4 * k + 2]? = some (.int .u64 x.burst) ∧ (rcells L)[4 * k + 3]? = some (.int .u8 x.kind)
  | [], _, _, h => by simp at h
  | y :: r, 0, x, h => by
    simp at h
    subst h
    exact ⟨rfl, rfl, rfl, rfl⟩
  | y :: r, k + 1, x, h => by
    obtain ⟨h1, h2, h3, h4⟩ := rcells_at r k x (by simpa using h)
    have e1 : rcells (y :: r) = .string ⟨y.pre.toArray⟩ :: .int .u64 y.every :: .int .u64 y.burst :: .int .u8 y.kind :: rcells r := rfl
    rw [e1, show 4 * (k + 1) = 4 * k + 1 + 1 + 1 + 1 from by omega, show 4 * k + 1 + 1 + 1 + 1 + 1 = (4 * k + 1) + 1 + 1 + 1 + 1 from by omega, show 4 * k + 1 + 1 + 1 + 1 + 2 = (4 * k + 2) + 1 + 1 + 1 + 1 from by omega, show 4 * k + 1 + 1 + 1 + 1 + 3 = (4 * k + 3) + 1 + 1 + 1 + 1 from by omega]
    simp only [List.getElem?_cons_succ]
    exact ⟨h1, h2, h3, h4⟩
theorem rul_at {w : World} {B : Nat} {A : Option Addr} {L : List Rul} (h : Row w B A (rcells L)) {k : Nat} {x : Rul} (hk : L[k]? = some x) : ∃ b off, A = some ⟨b, off, none⟩ ∧ b < B ∧ w.cell? ⟨b, off + k * 4, none⟩ = some (.string ⟨x.pre.toArray⟩) ∧
    w.cell? ⟨b, off + k * 4 + 1, none⟩ = some (.int .u64 x.every) ∧ w.cell? ⟨b, off + k * 4 + 2, none⟩ = some (.int .u64 x.burst) ∧ w.cell? ⟨b, off + k * 4 + 3, none⟩ = some (.int .u8 x.kind) := by
  have hl : k < L.length := (List.getElem?_eq_some_iff.1 hk).1
  obtain ⟨b, off, e, hlt, hc⟩ := h.at_ (k := 4 * k) (by rw [rcells_len]; omega)
  obtain ⟨h1, h2, h3, h4⟩ := rcells_at L k x hk
  rw [Nat.mul_comm k 4]
  exact ⟨b, off, e, hlt, hc _ _ h1, by rw [Nat.add_assoc]; exact hc _ _ h2, by rw [Nat.add_assoc]; exact hc _ _ h3, by rw [Nat.add_assoc]; exact hc _ _ h4⟩
theorem rcells_one (L : List Rul) : ∀ u ∈ rcells L, u.oneCell' = true := by
  intro u hu
  obtain ⟨x, _, hx⟩ := List.mem_flatMap.1 hu
  simp [Rul.cells] at hx
  rcases hx with rfl | rfl | rfl | rfl <;> rfl
theorem rcells_append (L M : List Rul) : rcells (L ++ M) = rcells L ++ rcells M := by simp [rcells]

def First (L : List Rul) (j : Nat) (x : Rul) : Prop := L[j]? = some x ∧ ∀ k y, k < j → L[k]? = some y → y.pre ≠ x.pre
def isFirst (L : List Rul) (j : Nat) : Bool :=
  match L[j]? with
  | none => false
  | some x => (L.take j).all fun y => decide (y.pre ≠ x.pre)
theorem isFirst_iff {L : List Rul} {j : Nat} {x : Rul} (h : L[j]? = some x) : isFirst L j = true ↔ First L j x := by
  unfold isFirst First
  rw [h]
  simp only [List.all_eq_true, decide_eq_true_eq, true_and]
  constructor
  · intro hall k y hk hy
    refine hall y (List.mem_iff_getElem?.2 ⟨k, ?_⟩)
    rw [List.getElem?_take]
    simp [hk, hy]
  · intro hall y hy
    obtain ⟨k, hk⟩ := List.mem_iff_getElem?.1 hy
    rw [List.getElem?_take] at hk
    split at hk
    · next hlt => exact hall k y hlt hk
    · cases hk
def firsts (L : List Rul) : Nat → Nat
  | 0 => 0
  | i + 1 => firsts L i + if isFirst L i then 1 else 0
theorem firsts_le (L : List Rul) : ∀ i, firsts L i ≤ i
  | 0 => Nat.le_refl _
  | i + 1 => by
    have := firsts_le L i
    unfold firsts
    split <;> omega

structure RulesW (w : World) (G : Gr) (L : List Rul) (i : Nat) : Prop where
  has : ∀ j x, j < i → L[j]? = some x → ∃ b r, G b = some r ∧ r.path = x.pre ∧ r.rule ≠ none
  is : ∀ b r ρ, G b = some r → r.rule = some ρ → ∃ j x, j < i ∧ First L j x ∧ r.path = x.pre ∧ Blk w ρ 28 x.cells
def Many (w : World) (root n : Nat) : Prop := ∃ cs t, Blk w root t cs ∧ cs[3]? = some (.int .i64 (n : Int))

theorem Many.cell {w : World} {root n : Nat} (h : Many w root n) : w.cell? ⟨root, 3, none⟩ = some (.int .i64 (n : Int)) := by
  obtain ⟨cs, t, hb, h3⟩ := h
  exact (hb.cell 3).trans h3
theorem Many.same {w w' : World} {root n : Nat} (h : Many w root n) (he : w'.heap[root]? = w.heap[root]?) : Many w' root n := by
  obtain ⟨cs, t, hb, h3⟩ := h
  exact ⟨cs, t, he.trans hb, h3⟩
theorem Many.set_ {w : World} {root n : Nat} (h : Many w root n) (m : Nat) : Many (w.setCell ⟨root, 3, none⟩ (.int .i64 (m : Int))) root m := by
  obtain ⟨cs, t, hb, h3⟩ := h
  have hl : 3 < cs.size := by
    rcases Nat.lt_or_ge 3 cs.size with h | h
    · exact h
    · rw [Array.getElem?_eq_none h] at h3; cases h3
  exact ⟨_, t, hb.set_ 3 _, by simp [hl]⟩
theorem Many.rule_ {w : World} {root n b : Nat} (h : Many w root n) (v : Value) : Many (w.setCell ⟨b, 1, none⟩ v) root n := by
  obtain ⟨cs, t, hb, h3⟩ := h
  by_cases e : root = b
  · subst e
    exact ⟨_, t, hb.set_ 1 _, by simpa using h3⟩
  · exact ⟨cs, t, hb.far e _, h3⟩

theorem NodeW.far {w : World} {b : Nat} {r : Rec} (h : NodeW w b r) (g i : Nat) (v : Value) (hi : g ≠ b ∨ 3 ≤ i) : NodeW (w.setCell ⟨g, i, none⟩ v) b r := by
  obtain ⟨cs, t, hb, ht, h0, h1, h2⟩ := h
  by_cases e : b = g
  · subst e
    have hi : 3 ≤ i := hi.resolve_left (fun h => h rfl)
    exact ⟨_, t, hb.set_ i _, ht, by rw [Array.getElem?_setIfInBounds_ne (by omega)]; exact h0, by rw [Array.getElem?_setIfInBounds_ne (by omega)]; exact h1, by rw [Array.getElem?_setIfInBounds_ne (by omega)]; exact h2⟩
  · exact ⟨cs, t, hb.far e _, ht, h0, h1, h2⟩
theorem KidW.far {w : World} {m : Nat} {f : UInt8 → Option Nat} (h : KidW w m f) (p : Addr) (hp : m ≠ p.block) (v : Value) : KidW (w.setCell p v) m f := h.same (Below.heap_setCell w p v m hp)

theorem blk_ne_node {w : World} {ρ b : Nat} {cs : Array Value} {r : Rec} (h : Blk w ρ 28 cs) (n : NodeW w b r) : ρ ≠ b := by
  rintro rfl
  obtain ⟨cs', t, hb, ht, _⟩ := n
  have : some (Obj.cells cs 28 (0, 0)) = some (.cells cs' t (0, 0)) := h.symm.trans hb
  injection this with this
  injection this with _ this
  exact ht this.symm
theorem blk_ne_map {w : World} {ρ m : Nat} {t : TypeId} {cs : Array Value} {f : UInt8 → Option Nat} (h : Blk w ρ t cs) (k : KidW w m f) : ρ ≠ m := by
  rintro rfl
  obtain ⟨es, clock, hm⟩ := k.map
  have : some (Obj.cells cs t (0, 0)) = some (.map es clock) := h.symm.trans hm
  cases this
theorem blk_step {w w' : World} {base root ρ : Nat} {G G' : Gr} {cs : Array Value} (h : Blk w ρ 28 cs) (T : TreeW w base root G) (X : Step w root G w' G') : Blk w' ρ 28 cs :=
  (X.frame ρ h.lt (.inr fun b r hb => ⟨blk_ne_node h (T.node b r hb), blk_ne_map h (T.kids b r hb)⟩)).trans h

def setRule (G : Gr) (b : Nat) (r : Rec) (ρ : Nat) : Gr := fun i => if i = b then some { r with rule := some ρ } else G i

theorem setRule_at {G : Gr} {b : Nat} {r : Rec} {ρ : Nat} (hb : G b = some r) {i : Nat} {q : Rec} (h : setRule G b r ρ i = some q) : ∃ q0, G i = some q0 ∧ q.path = q0.path ∧ q.part = q0.part ∧ q.map = q0.map ∧ q.kid = q0.kid ∧ ((i ≠ b ∧ q.rule = q0.rule) ∨ (i = b ∧ q.rule = some ρ)) := by
  unfold setRule at h
  split at h
  · next e =>
    subst e
    cases h
    exact ⟨r, hb, rfl, rfl, rfl, rfl, .inr ⟨rfl, rfl⟩⟩
  · next e => exact ⟨q, h, rfl, rfl, rfl, rfl, .inl ⟨e, rfl⟩⟩
theorem setRule_of {G : Gr} {b : Nat} {r : Rec} {ρ : Nat} (hb : G b = some r) {i : Nat} {q0 : Rec} (h : G i = some q0) : ∃ q, setRule G b r ρ i = some q ∧ q.path = q0.path ∧ q.part = q0.part ∧ q.map = q0.map ∧ q.kid = q0.kid ∧ (q0.rule ≠ none → q.rule ≠ none) := by
  unfold setRule
  split
  · next e =>
    subst e
    rw [hb] at h
    cases h
    exact ⟨_, rfl, rfl, rfl, rfl, rfl, fun _ => by simp⟩
  · exact ⟨q0, h, rfl, rfl, rfl, rfl, fun h => h⟩

theorem tree_rule {w : World} {base root : Nat} {G : Gr} (T : TreeW w base root G) {b : Nat} {r : Rec} (hb : G b = some r) (ρ : Nat) : TreeW (w.setCell ⟨b, 1, none⟩ (.pointer (some ⟨ρ, 0, none⟩))) base root (setRule G b r ρ) := by
  have H := T.shape
  refine ⟨⟨?_, ?_, ?_, ?_, ?_⟩, ?_, ?_, ?_, ?_⟩
  · obtain ⟨r0, h0, p0, q0⟩ := H.top
    obtain ⟨q, f1, f2, f3, _⟩ := setRule_of (ρ := ρ) hb h0
    exact ⟨q, f1, f2.trans p0, f3.trans q0⟩
  · intro i q c b' hi hc
    obtain ⟨q0, h0, e1, e2, e3, e4, _⟩ := setRule_at hb hi
    rw [e4] at hc
    obtain ⟨r', t, g1, g2, g3⟩ := H.kid _ _ _ _ h0 hc
    obtain ⟨q', f1, f2, f3, _⟩ := setRule_of (ρ := ρ) hb g1
    exact ⟨q', t, f1, f3.trans g2, by rw [f2, f3, e1, g3]⟩
  · intro i q j q' hi hj he
    obtain ⟨q0, h0, e1, _⟩ := setRule_at hb hi
    obtain ⟨q1, h1, e2, _⟩ := setRule_at hb hj
    exact H.inj _ _ _ _ h0 h1 (by rw [← e1, ← e2, he])
  · intro i q j q' c t hi hj he
    obtain ⟨q0, h0, e1, _, _, e4, _⟩ := setRule_at hb hi
    obtain ⟨q1, h1, e2, _⟩ := setRule_at hb hj
    obtain ⟨b2, r2, g1, g2, g3⟩ := H.full _ _ _ _ c t h0 h1 (by rw [← e1, ← e2, he])
    obtain ⟨q2, f1, f2, _⟩ := setRule_of (ρ := ρ) hb g2
    exact ⟨b2, q2, by rw [e4]; exact g1, f1, by rw [f2, e2]; exact g3⟩
  · intro i q hi
    obtain ⟨q0, h0, e1, e2, _⟩ := setRule_at hb hi
    rw [e1, e2]
    exact H.fit _ _ h0
  · intro i q hi
    obtain ⟨q0, h0, _, _, e3, _⟩ := setRule_at hb hi
    rw [e3]
    exact T.low _ _ h0
  · intro i q hi
    obtain ⟨q0, h0, e1, e2, e3, e4, e5⟩ := setRule_at hb hi
    rcases e5 with ⟨hne, e5⟩ | ⟨rfl, e5⟩
    · have := (T.node _ _ h0).far b 1 (.pointer (some ⟨ρ, 0, none⟩)) (.inl (Ne.symm hne))
      unfold NodeW at this ⊢
      rw [e2, e3, e5]
      exact this
    · rw [hb] at h0
      cases h0
      have := (T.node _ _ hb).rule_ ρ
      unfold NodeW at this ⊢
      rw [e2, e3, e5]
      exact this
  · intro i q hi
    obtain ⟨q0, h0, e1, e2, e3, e4, e5⟩ := setRule_at hb hi
    rw [e3, e4]
    exact (T.kids _ _ h0).far _ (fun e => (T.node _ _ hb).ne_map (T.kids _ _ h0) e.symm) _
  · intro i q j q' hi hj he
    obtain ⟨q0, h0, _, _, e3, _⟩ := setRule_at hb hi
    obtain ⟨q1, h1, _, _, e4, _⟩ := setRule_at hb hj
    exact T.apart _ _ _ _ h0 h1 (by rw [← e3, ← e4, he])
theorem tree_many {w : World} {base root : Nat} {G : Gr} (T : TreeW w base root G) (v : Value) : TreeW (w.setCell ⟨root, 3, none⟩ v) base root G := by
  obtain ⟨r0, h0, _⟩ := T.shape.top
  exact ⟨T.shape, T.low, fun b r hb => (T.node b r hb).far root 3 v (.inr (Nat.le_refl _)), fun b r hb => (T.kids b r hb).far _ (fun e => (T.node _ _ h0).ne_map (T.kids _ _ hb) e.symm) _, T.apart⟩
theorem step_below {w w' : World} {base root : Nat} {G G' : Gr} (T : TreeW w base root G) (X : Step w root G w' G') (hb : base ≤ w.heap.size) : Below base w w' :=
  ⟨X.os, X.tape, X.output, X.size, fun i hi => X.frame i (by omega) (.inr fun b r h => by have := T.low b r h; omega)⟩

/-- the tree of the rules L -/
def Tr (w : World) (base root : Nat) (L : List Rul) : Prop := ∃ G, TreeW w base root G ∧ RulesW w G L L.length ∧ Many w root (firsts L L.length)
theorem Tr.below {w w' : World} {base root : Nat} {L : List Rul} (h : Tr w base root L) (hb : Below w.heap.size w w') : Tr w' base root L := by
  obtain ⟨G, T, R, M⟩ := h
  obtain ⟨r0, h0, _⟩ := T.shape.top
  refine ⟨G, T.below hb, ⟨R.has, fun b r ρ h1 h2 => ?_⟩, M.same (hb.block _ (T.node _ _ h0).lt)⟩
  obtain ⟨j, x, e1, e2, e3, e4⟩ := R.is b r ρ h1 h2
  exact ⟨j, x, e1, e2, e3, e4.below hb e4.lt⟩
end Go.Proofs.Ytdjhjgimlpdckaa.pre
