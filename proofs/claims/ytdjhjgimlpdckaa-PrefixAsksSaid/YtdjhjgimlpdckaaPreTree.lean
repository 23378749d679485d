/- the tree of prefixes: what a tree is, by the paths of its nodes; a leaf more, and a node parted, keep it. -/
import Derived.Test.YtdjhjgimlpdckaaKeyHas
import Derived.Maps.Own
import Derived.Maps.Views
namespace Go.Proofs.Ytdjhjgimlpdckaa.pre
open Go.RowKit
open Go.Proofs.Ytdjhjgimlpdckaa.aid

structure Rec where
  path : List UInt8
  part : List UInt8
  rule : Option Nat
  map : Nat
  kid : UInt8 → Option Nat

abbrev Gr := Nat → Option Rec

def big : Nat := 9223372036854775807

structure Shape (root : Nat) (G : Gr) : Prop where
  top : ∃ r, G root = some r ∧ r.path = [] ∧ r.part = []
  kid : ∀ b r c b', G b = some r → r.kid c = some b' → ∃ r' t, G b' = some r' ∧ r'.part = c :: t ∧ r'.path = r.path ++ r'.part
  inj : ∀ b r b' r', G b = some r → G b' = some r' → r.path = r'.path → b = b'
  full : ∀ b r b' r' c t, G b = some r → G b' = some r' → r'.path = r.path ++ c :: t → ∃ b'' r'', r.kid c = some b'' ∧ G b'' = some r'' ∧ r''.path <+: r'.path
  fit : ∀ b r, G b = some r → (∃ q, r.path = q ++ r.part) ∧ r.path.length ≤ big

def kidSet (f : UInt8 → Option Nat) (c : UInt8) (b : Nat) : UInt8 → Option Nat := fun x => if x = c then some b else f x

def leaf (G : Gr) (b : Nat) (r : Rec) (c : UInt8) (s : List UInt8) (nb nm : Nat) : Gr := fun i =>
  if i = nb then some ⟨r.path ++ s, s, none, nm, fun _ => none⟩ else if i = b then some { r with kid := kidSet r.kid c nb } else G i

/-- two ways to go on from one front -/
theorem front_cases {α : Type} {p q : List α} {c : α} {t s : List α} (h : p ++ c :: t = q ++ s) : (∃ t', q = p ++ c :: t') ∨ (q = p ∧ s = c :: t) ∨ (∃ d t', p = q ++ d :: t') := by
  rcases List.append_eq_append_iff.1 h with ⟨a, e1, e2⟩ | ⟨a, e1, e2⟩
  · cases a with
    | nil => exact .inr (.inl ⟨by simpa using e1, by simpa using e2.symm⟩)
    | cons x a =>
      simp only [List.cons_append, List.cons.injEq] at e2
      obtain ⟨rfl, e2⟩ := e2
      exact .inl ⟨a, e1⟩
  · cases a with
    | nil => exact .inr (.inl ⟨by simpa using e1.symm, by simpa using e2⟩)
    | cons x a => exact .inr (.inr ⟨x, a, e1⟩)

theorem leaf_at {G : Gr} {b : Nat} {r : Rec} {c : UInt8} {s : List UInt8} {nb nm : Nat} (hb : G b = some r) {i : Nat} {q : Rec} (hi : i ≠ nb) (h : leaf G b r c s nb nm i = some q) :
    ∃ q0, G i = some q0 ∧ q.path = q0.path ∧ q.part = q0.part ∧ q.rule = q0.rule ∧ q.map = q0.map ∧ ((i ≠ b ∧ q.kid = q0.kid) ∨ (i = b ∧ q0 = r ∧ q.kid = kidSet r.kid c nb)) := by
  unfold leaf at h
  rw [if_neg hi] at h
  split at h
  · next e =>
    subst e
    cases h
    exact ⟨r, hb, rfl, rfl, rfl, rfl, .inr ⟨rfl, rfl, rfl⟩⟩
  · next e => exact ⟨q, h, rfl, rfl, rfl, rfl, .inl ⟨e, rfl⟩⟩
theorem leaf_of {G : Gr} {b : Nat} {r : Rec} {c : UInt8} {s : List UInt8} {nb nm : Nat} (hb : G b = some r) {i : Nat} {q0 : Rec} (hi : i ≠ nb) (h : G i = some q0) :
    ∃ q, leaf G b r c s nb nm i = some q ∧ q.path = q0.path ∧ q.part = q0.part ∧ q.rule = q0.rule ∧ q.map = q0.map := by
  unfold leaf
  rw [if_neg hi]
  split
  · next e =>
    subst e
    rw [hb] at h
    cases h
    exact ⟨_, rfl, rfl, rfl, rfl, rfl⟩
  · exact ⟨q0, h, rfl, rfl, rfl, rfl⟩

theorem shape_leaf {root : Nat} {G : Gr} (H : Shape root G) {b : Nat} {r : Rec} {c : UInt8} {t : List UInt8} {nb nm : Nat} (hb : G b = some r) (hk : r.kid c = none) (hn : G nb = none)
    (hlen : (r.path ++ c :: t).length ≤ big) : Shape root (leaf G b r c (c :: t) nb nm) := by
  have hnew : leaf G b r c (c :: t) nb nm nb = some ⟨r.path ++ c :: t, c :: t, none, nm, fun _ => none⟩ := by simp [leaf]
  have ne : ∀ {i : Nat} {q : Rec}, G i = some q → i ≠ nb := fun h e => by rw [e, hn] at h; cases h
  have nopath : ∀ {j : Nat} {q : Rec} {u : List UInt8}, G j = some q → q.path ≠ r.path ++ c :: u := fun h e => by
    obtain ⟨b'', r'', h1, _⟩ := H.full _ _ _ _ _ _ hb h e
    rw [hk] at h1
    cases h1
  constructor
  · obtain ⟨r0, h0, p0, q0⟩ := H.top
    obtain ⟨q, e, e1, e2, _⟩ := leaf_of (c := c) (s := c :: t) (nm := nm) hb (ne h0) h0
    exact ⟨q, e, e1.trans p0, e2.trans q0⟩
  · intro i q x b' hi hx
    by_cases e : i = nb
    · subst e
      rw [hnew] at hi
      cases hi
      cases hx
    · obtain ⟨q0, h0, p1, p2, p3, p4, hkk⟩ := leaf_at hb e hi
      rcases hkk with ⟨eb, ek⟩ | ⟨rfl, rfl, ek⟩
      · rw [ek] at hx
        obtain ⟨r', t', g1, g2, g3⟩ := H.kid _ _ _ _ h0 hx
        obtain ⟨q', f1, f2, f3, _⟩ := leaf_of (c := c) (s := c :: t) (nm := nm) hb (ne g1) g1
        exact ⟨q', t', f1, f3.trans g2, by rw [f2, f3, p1, g3]⟩
      · rw [ek] at hx
        unfold kidSet at hx
        split at hx
        · next ex =>
          cases hx
          exact ⟨_, t, hnew, by rw [ex], by rw [p1]⟩
        · obtain ⟨r', t', g1, g2, g3⟩ := H.kid _ _ _ _ h0 hx
          obtain ⟨q', f1, f2, f3, _⟩ := leaf_of (c := c) (s := c :: t) (nm := nm) hb (ne g1) g1
          exact ⟨q', t', f1, f3.trans g2, by rw [f2, f3, p1, g3]⟩
  · intro i q j q' hi hj he
    by_cases ei : i = nb
    · by_cases ej : j = nb
      · rw [ei, ej]
      · subst ei
        rw [hnew] at hi
        cases hi
        obtain ⟨q0, h0, p1, _⟩ := leaf_at hb ej hj
        exact (nopath h0 (p1.symm.trans he.symm)).elim
    · obtain ⟨q0, h0, p1, _⟩ := leaf_at hb ei hi
      by_cases ej : j = nb
      · subst ej
        rw [hnew] at hj
        cases hj
        exact (nopath h0 (p1.symm.trans he)).elim
      · obtain ⟨q1, h1, p2, _⟩ := leaf_at hb ej hj
        exact H.inj _ _ _ _ h0 h1 (by rw [← p1, ← p2, he])
  · intro i q j q' x u hi hj he
    by_cases ei : i = nb
    · subst ei
      rw [hnew] at hi
      cases hi
      by_cases ej : j = i
      · subst ej
        rw [hnew] at hj
        cases hj
        have := congrArg List.length he
        simp at this
      · obtain ⟨q0, h0, p1, _⟩ := leaf_at hb ej hj
        exact (nopath (u := t ++ x :: u) h0 (by rw [← p1, he]; simp)).elim
    · obtain ⟨q0, h0, p1, _, _, _, hkk⟩ := leaf_at hb ei hi
      by_cases ej : j = nb
      · subst ej
        rw [hnew] at hj
        cases hj
        rw [p1] at he
        rcases front_cases he with ⟨u', e1⟩ | ⟨e1, e2⟩ | ⟨d, u', e1⟩
        · -- the old one is longer than r's: it lies beyond
          exact (nopath h0 e1).elim
        · have eb : i = b := H.inj _ _ _ _ h0 hb e1
          subst eb
          cases e2
          rcases hkk with ⟨eb, _⟩ | ⟨_, _, ek⟩
          · exact (eb rfl).elim
          · exact ⟨j, _, by rw [ek]; simp [kidSet], hnew, List.prefix_refl _⟩
        · have hx : d = x := by
            rw [e1] at he
            simp only [List.append_assoc, List.append_cancel_left_eq, List.cons_append, List.cons.injEq] at he
            exact he.1
          subst hx
          obtain ⟨b2, r2, g1, g2, g3⟩ := H.full _ _ _ _ _ _ h0 hb e1
          obtain ⟨q2, f1, f2, _⟩ := leaf_of (c := c) (s := c :: t) (nm := nm) hb (ne g2) g2
          rcases hkk with ⟨_, ek⟩ | ⟨eb, er, _⟩
          · exact ⟨b2, q2, by rw [ek]; exact g1, f1, by rw [f2]; exact g3.trans (List.prefix_append _ _)⟩
          · rw [er] at e1
            have := congrArg List.length e1
            simp at this
      · obtain ⟨q1, h1, p2, _⟩ := leaf_at hb ej hj
        obtain ⟨b2, r2, g1, g2, g3⟩ := H.full _ _ _ _ x u h0 h1 (by rw [← p1, ← p2, he])
        obtain ⟨q2, f1, f2, _⟩ := leaf_of (c := c) (s := c :: t) (nm := nm) hb (ne g2) g2
        refine ⟨b2, q2, ?_, f1, by rw [f2, p2]; exact g3⟩
        rcases hkk with ⟨_, ek⟩ | ⟨eb, er, ek⟩
        · rw [ek]; exact g1
        · rw [ek]
          subst er
          unfold kidSet
          rw [if_neg]
          · exact g1
          · intro e
            rw [e, hk] at g1
            cases g1
  · intro i q hi
    by_cases ei : i = nb
    · subst ei
      rw [hnew] at hi
      cases hi
      exact ⟨⟨r.path, rfl⟩, hlen⟩
    · obtain ⟨q0, h0, p1, p2, _⟩ := leaf_at hb ei hi
      rw [p1, p2]
      exact H.fit _ _ h0

def split (G : Gr) (b : Nat) (r : Rec) (c : UInt8) (ob : Nat) (ro : Rec) (p1 p2 : List UInt8) (d : UInt8) (nb nm : Nat) : Gr := fun i =>
  if i = nb then some ⟨r.path ++ p1, p1, none, nm, kidSet (fun _ => none) d ob⟩ else if i = ob then some { ro with part := p2 } else if i = b then some { r with kid := kidSet r.kid c nb } else G i

theorem split_at {G : Gr} {b : Nat} {r : Rec} {c : UInt8} {ob : Nat} {ro : Rec} {p1 p2 : List UInt8} {d : UInt8} {nb nm : Nat} (hb : G b = some r) (ho : G ob = some ro) (hne : ob ≠ b) {i : Nat} {q : Rec} (hi : i ≠ nb)
    (h : split G b r c ob ro p1 p2 d nb nm i = some q) :
    ∃ q0, G i = some q0 ∧ q.path = q0.path ∧ q.rule = q0.rule ∧ q.map = q0.map ∧ ((i ≠ ob ∧ q.part = q0.part) ∨ (i = ob ∧ q0 = ro ∧ q.part = p2)) ∧ ((i ≠ b ∧ q.kid = q0.kid) ∨ (i = b ∧ q0 = r ∧ q.kid = kidSet r.kid c nb)) := by
  unfold split at h
  rw [if_neg hi] at h
  split at h
  · next e =>
    subst e
    cases h
    exact ⟨ro, ho, rfl, rfl, rfl, .inr ⟨rfl, rfl, rfl⟩, .inl ⟨hne, rfl⟩⟩
  · next e1 =>
    split at h
    · next e =>
      subst e
      cases h
      exact ⟨r, hb, rfl, rfl, rfl, .inl ⟨e1, rfl⟩, .inr ⟨rfl, rfl, rfl⟩⟩
    · next e => exact ⟨q, h, rfl, rfl, rfl, .inl ⟨e1, rfl⟩, .inl ⟨e, rfl⟩⟩
theorem split_of {G : Gr} {b : Nat} {r : Rec} {c : UInt8} {ob : Nat} {ro : Rec} {p1 p2 : List UInt8} {d : UInt8} {nb nm : Nat} (hb : G b = some r) (ho : G ob = some ro) {i : Nat} {q0 : Rec} (hi : i ≠ nb) (h : G i = some q0) :
    ∃ q, split G b r c ob ro p1 p2 d nb nm i = some q ∧ q.path = q0.path ∧ q.rule = q0.rule ∧ q.map = q0.map ∧ (i ≠ ob → q.part = q0.part) := by
  unfold split
  rw [if_neg hi]
  split
  · next e =>
    subst e
    rw [ho] at h
    cases h
    exact ⟨_, rfl, rfl, rfl, rfl, fun h => (h rfl).elim⟩
  · split
    · next e =>
      subst e
      rw [hb] at h
      cases h
      exact ⟨_, rfl, rfl, rfl, rfl, fun _ => rfl⟩
    · exact ⟨q0, h, rfl, rfl, rfl, fun _ => rfl⟩

theorem shape_split {root : Nat} {G : Gr} (H : Shape root G) {b : Nat} {r : Rec} {c : UInt8} {ob : Nat} {ro : Rec} {p1 p2 : List UInt8} {d : UInt8} {nb nm : Nat} (hb : G b = some r) (hk : r.kid c = some ob) (ho : G ob = some ro)
    (hp : ro.part = (c :: p1) ++ (d :: p2)) (hn : G nb = none) : ob ≠ b ∧ ro.path = r.path ++ ro.part ∧ Shape root (split G b r c ob ro (c :: p1) (d :: p2) d nb nm) := by
  have hpath : ro.path = r.path ++ ro.part := by
    obtain ⟨r', t', g1, g2, g3⟩ := H.kid _ _ _ _ hb hk
    rw [ho] at g1
    cases g1
    exact g3
  have hob : ob ≠ b := by
    rintro rfl
    rw [hb] at ho
    cases ho
    have := congrArg List.length hpath
    rw [hp] at this
    simp at this
  refine ⟨hob, hpath, ?_⟩
  have hnew : split G b r c ob ro (c :: p1) (d :: p2) d nb nm nb = some ⟨r.path ++ c :: p1, c :: p1, none, nm, kidSet (fun _ => none) d ob⟩ := by simp [split]
  have ne : ∀ {i : Nat} {q : Rec}, G i = some q → i ≠ nb := fun h e => by rw [e, hn] at h; cases h
  have hobn := ne ho
  have hwo : split G b r c ob ro (c :: p1) (d :: p2) d nb nm ob = some { ro with part := d :: p2 } := by simp [split, hobn]
  -- who lies beyond r's c lies beyond ro
  have beyond : ∀ {j : Nat} {q : Rec} {u : List UInt8}, G j = some q → q.path = r.path ++ c :: u → ro.path <+: q.path := fun h e => by
    obtain ⟨b'', r'', g1, g2, g3⟩ := H.full _ _ _ _ _ _ hb h e
    rw [hk] at g1
    cases g1
    rw [ho] at g2
    cases g2
    exact g3
  have nohalf : ∀ {j : Nat} {q : Rec}, G j = some q → q.path ≠ r.path ++ c :: p1 := fun h e => by
    have := (beyond h e).length_le
    rw [e, hpath, hp] at this
    simp at this
    omega
  have nokid : ∀ {j : Nat} {q : Rec} {x : UInt8}, G j = some q → q.kid x = some ob → j = b ∧ x = c := fun h e => by
    obtain ⟨r', t', g1, g2, g3⟩ := H.kid _ _ _ _ h e
    rw [ho] at g1
    cases g1
    rw [hpath] at g3
    refine ⟨H.inj _ _ _ _ h hb (List.append_cancel_right g3).symm, ?_⟩
    rw [hp] at g2
    simp at g2
    exact g2.1.symm
  have oldkid : ∀ {j : Nat} {q0 q : Rec} {x : UInt8} {b' : Nat}, G j = some q0 → q.path = q0.path → q0.kid x = some b' → b' ≠ ob →
      ∃ r' t', split G b r c ob ro (c :: p1) (d :: p2) d nb nm b' = some r' ∧ r'.part = x :: t' ∧ r'.path = q.path ++ r'.part := fun h e g hne => by
    obtain ⟨r', t', g1, g2, g3⟩ := H.kid _ _ _ _ h g
    obtain ⟨q', f1, f2, _, _, f3⟩ := split_of (c := c) (p1 := c :: p1) (p2 := d :: p2) (d := d) (nm := nm) hb ho (ne g1) g1
    exact ⟨q', t', f1, (f3 hne).trans g2, by rw [f2, f3 hne, e, g3]⟩
  constructor
  · obtain ⟨r0, h0, q0, p0⟩ := H.top
    have : root ≠ ob := by
      rintro rfl
      rw [ho] at h0
      cases h0
      rw [hp] at p0
      cases p0
    obtain ⟨q, e, e1, _, _, e2⟩ := split_of (c := c) (p1 := c :: p1) (p2 := d :: p2) (d := d) (nm := nm) hb ho (ne h0) h0
    exact ⟨q, e, e1.trans q0, (e2 this).trans p0⟩
  · intro i q x b' hi hx
    by_cases e : i = nb
    · subst e
      rw [hnew] at hi
      cases hi
      simp only [kidSet] at hx
      split at hx
      · next ex =>
        cases hx
        subst ex
        exact ⟨_, p2, hwo, rfl, by show ro.path = _; rw [hpath, hp]; simp⟩
      · cases hx
    · obtain ⟨q0, h0, e1, e2, e3, hpp, hkk⟩ := split_at hb ho hob e hi
      rcases hkk with ⟨eb, ek⟩ | ⟨rfl, rfl, ek⟩
      · rw [ek] at hx
        exact oldkid h0 e1 hx (fun hh => by subst hh; exact eb (nokid h0 hx).1)
      · rw [ek] at hx
        unfold kidSet at hx
        split at hx
        · next ex =>
          cases hx
          subst ex
          exact ⟨_, p1, hnew, rfl, by rw [e1]⟩
        · next ex => exact oldkid h0 e1 hx (fun hh => by subst hh; exact ex (nokid h0 hx).2)
  · intro i q j q' hi hj he
    by_cases ei : i = nb
    · by_cases ej : j = nb
      · rw [ei, ej]
      · subst ei
        rw [hnew] at hi
        cases hi
        obtain ⟨q0, h0, e1, _⟩ := split_at hb ho hob ej hj
        exact (nohalf h0 (e1.symm.trans he.symm)).elim
    · obtain ⟨q0, h0, e1, _⟩ := split_at hb ho hob ei hi
      by_cases ej : j = nb
      · subst ej
        rw [hnew] at hj
        cases hj
        exact (nohalf h0 (e1.symm.trans he)).elim
      · obtain ⟨q1, h1, e2, _⟩ := split_at hb ho hob ej hj
        exact H.inj _ _ _ _ h0 h1 (by rw [← e1, ← e2, he])
  · intro i q j q' x u hi hj he
    by_cases ei : i = nb
    · subst ei
      rw [hnew] at hi
      cases hi
      by_cases ej : j = i
      · subst ej
        rw [hnew] at hj
        cases hj
        have := congrArg List.length he
        simp at this
      · obtain ⟨q1, h1, e2, _⟩ := split_at hb ho hob ej hj
        have hbe := beyond (u := p1 ++ x :: u) h1 (by rw [← e2, he]; simp)
        have hxd : x = d := by
          obtain ⟨v, hv⟩ := hbe
          rw [← e2, he, hpath, hp] at hv
          simp at hv
          exact hv.1.symm
        subst hxd
        exact ⟨ob, _, by simp [kidSet], hwo, by rw [e2]; exact hbe⟩
    · obtain ⟨q0, h0, e1, _, _, _, hkk⟩ := split_at hb ho hob ei hi
      by_cases ej : j = nb
      · subst ej
        rw [hnew] at hj
        cases hj
        rw [e1] at he
        have he' : r.path ++ c :: p1 = q0.path ++ x :: u := he
        rcases front_cases he' with ⟨u', f1⟩ | ⟨f1, f2⟩ | ⟨d', u', f1⟩
        · have h2 := (beyond h0 f1).length_le
          have h3 := congrArg List.length he'
          rw [hpath, hp] at h2
          simp at h2 h3
          omega
        · have eb : i = b := H.inj _ _ _ _ h0 hb f1
          subst eb
          cases f2
          rcases hkk with ⟨eb, _⟩ | ⟨_, _, ek⟩
          · exact (eb rfl).elim
          · exact ⟨j, _, by rw [ek]; simp [kidSet], hnew, List.prefix_refl _⟩
        · have hx : d' = x := by
            rw [f1] at he'
            simp only [List.append_assoc, List.append_cancel_left_eq, List.cons_append, List.cons.injEq] at he'
            exact he'.1
          subst hx
          obtain ⟨b2, r2, g1, g2, g3⟩ := H.full _ _ _ _ _ _ h0 hb f1
          obtain ⟨q2, k1, k2, _⟩ := split_of (c := c) (p1 := c :: p1) (p2 := d :: p2) (d := d) (nm := nm) hb ho (ne g2) g2
          rcases hkk with ⟨_, ek⟩ | ⟨eb, er, _⟩
          · exact ⟨b2, q2, by rw [ek]; exact g1, k1, by rw [k2]; exact g3.trans (List.prefix_append _ _)⟩
          · rw [er] at f1
            have := congrArg List.length f1
            simp at this
      · obtain ⟨q1, h1, e2, _⟩ := split_at hb ho hob ej hj
        have he' : q1.path = q0.path ++ x :: u := by rw [← e1, ← e2, he]
        obtain ⟨b2, r2, g1, g2, g3⟩ := H.full _ _ _ _ x u h0 h1 he'
        obtain ⟨q2, k1, k2, _⟩ := split_of (c := c) (p1 := c :: p1) (p2 := d :: p2) (d := d) (nm := nm) hb ho (ne g2) g2
        rcases hkk with ⟨_, ek⟩ | ⟨eb, er, ek⟩
        · exact ⟨b2, q2, by rw [ek]; exact g1, k1, by rw [k2, e2]; exact g3⟩
        · subst er
          by_cases hxc : x = c
          · subst hxc
            refine ⟨nb, _, by rw [ek]; simp [kidSet], hnew, ?_⟩
            rw [e2]
            have hbe := beyond h1 he'
            refine List.IsPrefix.trans ?_ hbe
            rw [hpath, hp]
            exact ⟨d :: p2, by simp⟩
          · exact ⟨b2, q2, by rw [ek]; simp [kidSet, hxc]; exact g1, k1, by rw [k2, e2]; exact g3⟩
  · intro i q hi
    by_cases ei : i = nb
    · subst ei
      rw [hnew] at hi
      cases hi
      refine ⟨⟨r.path, rfl⟩, ?_⟩
      have := (H.fit _ _ ho).2
      rw [hpath, hp] at this
      simp at this ⊢
      omega
    · obtain ⟨q0, h0, e1, _, _, hpp, _⟩ := split_at hb ho hob ei hi
      rw [e1]
      refine ⟨?_, (H.fit _ _ h0).2⟩
      rcases hpp with ⟨_, e2⟩ | ⟨_, er, e2⟩
      · rw [e2]
        exact (H.fit _ _ h0).1
      · rw [e2, er]
        exact ⟨r.path ++ c :: p1, by rw [hpath, hp]; simp⟩
end Go.Proofs.Ytdjhjgimlpdckaa.pre
