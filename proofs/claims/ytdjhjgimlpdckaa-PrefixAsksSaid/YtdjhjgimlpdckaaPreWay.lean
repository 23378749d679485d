/- the way of a key through a tree of prefixes; the rule that is found. -/
import Derived.Test.YtdjhjgimlpdckaaPreRules
namespace Go.Proofs.Ytdjhjgimlpdckaa.pre
open Go.RowKit
open Go.Proofs.Ytdjhjgimlpdckaa.aid

/-- the nodes that a key leads along -/
inductive Way (G : Gr) : Option Nat → List UInt8 → List Nat → Prop
  | none (k : List UInt8) : Way G none k []
  | off (b : Nat) (r : Rec) (k : List UInt8) : G b = some r → key.has k r.part = false → Way G (some b) k []
  | last (b : Nat) (r : Rec) : G b = some r → Way G (some b) r.part [b]
  | on (b : Nat) (r : Rec) (c : UInt8) (t : List UInt8) (vs : List Nat) : G b = some r → Way G (r.kid c) (c :: t) vs → Way G (some b) (r.part ++ c :: t) (b :: vs)

theorem way_kid {root : Nat} {G : Gr} (H : Shape root G) : ∀ (n : Nat) (k : List UInt8), k.length ≤ n → ∀ b r, G b = some r → r.part ≠ [] → ∃ vs, Way G (some b) k vs
  | n, k, hn, b, r, hb, hp => by
    by_cases hh : key.has k r.part = true
    · obtain ⟨u, hu⟩ := List.isPrefixOf_iff_prefix.1 hh
      subst hu
      cases u with
      | nil => exact ⟨[b], by rw [List.append_nil]; exact .last b r hb⟩
      | cons c t =>
        cases hk : r.kid c with
        | none => exact ⟨[b], .on b r c t [] hb (by rw [hk]; exact .none _)⟩
        | some b' =>
          obtain ⟨r', t', g1, g2, _⟩ := H.kid _ _ _ _ hb hk
          have hl : 0 < r.part.length := List.length_pos_iff.2 hp
          cases n with
          | zero => simp at hn
          | succ n =>
            obtain ⟨vs, hv⟩ := way_kid H n (c :: t) (by simp at hn ⊢; omega) b' r' g1 (by rw [g2]; simp)
            exact ⟨b :: vs, .on b r c t vs hb (by rw [hk]; exact hv)⟩
    · exact ⟨[], .off b r k hb (by simpa using hh)⟩

theorem way_ex {root : Nat} {G : Gr} (H : Shape root G) (k : List UInt8) : ∃ vs, Way G (some root) k vs := by
  obtain ⟨r, hr, _, hp⟩ := H.top
  cases k with
  | nil => exact ⟨[root], by have := Way.last (G := G) root r hr; rw [hp] at this; exact this⟩
  | cons c t =>
    have on := fun vs h => Way.on (G := G) root r c t vs hr h
    rw [hp] at on
    cases hk : r.kid c with
    | none => exact ⟨[root], on [] (by rw [hk]; exact .none _)⟩
    | some b' =>
      obtain ⟨r', t', g1, g2, _⟩ := H.kid _ _ _ _ hr hk
      obtain ⟨vs, hv⟩ := way_kid H _ (c :: t) (Nat.le_refl _) b' r' g1 (by rw [g2]; simp)
      exact ⟨_, on vs (by rw [hk]; exact hv)⟩

/-- what lies along the way: just the nodes whose paths the key begins with, the longer the later -/
def Along (G : Gr) (K : List UInt8) (p : Nat) (vs : List Nat) : Prop :=
  (∀ j r, G j = some r → (j ∈ vs ↔ r.path <+: K ∧ p ≤ r.path.length)) ∧ (∀ j ∈ vs, ∃ r, G j = some r) ∧ vs.Pairwise (fun a b => ∀ ra rb, G a = some ra → G b = some rb → ra.path.length < rb.path.length)

theorem along_kid {root : Nat} {G : Gr} (H : Shape root G) {o : Option Nat} {k : List UInt8} {vs : List Nat} (h : Way G o k vs) : ∀ (b0 : Nat) (r0 : Rec) (c : UInt8) (t : List UInt8), G b0 = some r0 → k = c :: t → r0.kid c = o → Along G (r0.path ++ k) (r0.path.length + 1) vs := by
  induction h with
  | none k =>
    rintro b0 r0 c t h0 rfl hk
    refine ⟨fun j r hj => ⟨fun h => by simp at h, fun ⟨h1, h2⟩ => ?_⟩, by simp, by simp⟩
    exfalso
    obtain ⟨u, hu⟩ := h1
    rcases front_cases (c := c) (t := t) (q := r.path) (s := u) hu.symm with ⟨t', e⟩ | ⟨e, _⟩ | ⟨d, t', e⟩
    · obtain ⟨b'', r'', g1, _⟩ := H.full _ _ _ _ _ _ h0 hj e
      rw [hk] at g1
      cases g1
    · rw [e] at h2; omega
    · rw [e] at h2; simp at h2; omega
  | off b r k hb hh =>
    rintro b0 r0 c t h0 rfl hk
    refine ⟨fun j q hj => ⟨fun h => by simp at h, fun ⟨h1, h2⟩ => ?_⟩, by simp, by simp⟩
    exfalso
    obtain ⟨u, hu⟩ := h1
    rcases front_cases (c := c) (t := t) (q := q.path) (s := u) hu.symm with ⟨t', e⟩ | ⟨e, _⟩ | ⟨d, t', e⟩
    · obtain ⟨b'', r'', g1, g2, g3⟩ := H.full _ _ _ _ _ _ h0 hj e
      rw [hk] at g1
      cases g1
      rw [hb] at g2
      cases g2
      obtain ⟨r1, t1, k1, k2, k3⟩ := H.kid _ _ _ _ h0 hk
      rw [hb] at k1
      cases k1
      have h3 : r.path <+: r0.path ++ c :: t := g3.trans ⟨u, hu⟩
      rw [k3] at h3
      have h4 := (List.prefix_append_right_inj _).1 h3
      rw [← List.isPrefixOf_iff_prefix] at h4
      unfold key.has at hh
      rw [h4] at hh
      cases hh
    · rw [e] at h2; omega
    · rw [e] at h2; simp at h2; omega
  | last b r hb =>
    rintro b0 r0 c t h0 hkt hk
    obtain ⟨r1, t1, k1, k2, k3⟩ := H.kid _ _ _ _ h0 hk
    rw [hb] at k1
    cases k1
    refine ⟨fun j q hj => ⟨fun h => ?_, fun ⟨h1, h2⟩ => ?_⟩, ?_, by simp⟩
    · simp at h
      subst h
      rw [hb] at hj
      cases hj
      rw [k3]
      exact ⟨List.prefix_refl _, by rw [hkt]; simp⟩
    · obtain ⟨u, hu⟩ := h1
      rw [hkt] at hu
      rcases front_cases (c := c) (t := t) (q := q.path) (s := u) hu.symm with ⟨t', e⟩ | ⟨e, _⟩ | ⟨d, t', e⟩
      · obtain ⟨b'', r'', g1, g2, g3⟩ := H.full _ _ _ _ _ _ h0 hj e
        rw [hk] at g1
        cases g1
        rw [hb] at g2
        cases g2
        have h3 : q.path <+: r.path := ⟨u, by rw [hu, ← hkt, k3]⟩
        have h5 : r.path = q.path := g3.eq_of_length_le h3.length_le
        simp
        exact H.inj _ _ _ _ hj hb h5.symm
      · rw [e] at h2; omega
      · rw [e] at h2; simp at h2; omega
    · intro j hj
      simp at hj
      subst hj
      exact ⟨r, hb⟩
  | on b r c1 t1 vs hb hw ih =>
    rintro b0 r0 c t h0 hkt hk
    obtain ⟨r1, t2, k1, k2, k3⟩ := H.kid _ _ _ _ h0 hk
    rw [hb] at k1
    cases k1
    obtain ⟨i1, i2, i3⟩ := ih b r c1 t1 hb rfl rfl
    have eK : r.path ++ c1 :: t1 = r0.path ++ (r.part ++ c1 :: t1) := by rw [k3]; simp
    rw [eK] at i1
    refine ⟨fun j q hj => ⟨fun h => ?_, fun ⟨h1, h2⟩ => ?_⟩, ?_, ?_⟩
    · rcases List.mem_cons.1 h with rfl | h
      · rw [hb] at hj
        cases hj
        rw [k3]
        exact ⟨⟨c1 :: t1, by simp⟩, by rw [k2]; simp⟩
      · obtain ⟨h1, h2⟩ := (i1 j q hj).1 h
        refine ⟨h1, ?_⟩
        have := congrArg List.length k3
        rw [k2] at this
        simp at this
        omega
    · have h1' := h1
      obtain ⟨u, hu⟩ := h1
      rw [hkt] at hu
      rcases front_cases (c := c) (t := t) (q := q.path) (s := u) hu.symm with ⟨t', e⟩ | ⟨e, _⟩ | ⟨d, t', e⟩
      · obtain ⟨b'', r'', g1, g2, g3⟩ := H.full _ _ _ _ _ _ h0 hj e
        rw [hk] at g1
        cases g1
        rw [hb] at g2
        cases g2
        rcases Nat.lt_or_ge r.path.length q.path.length with hl | hl
        · exact List.mem_cons_of_mem _ ((i1 j q hj).2 ⟨h1', hl⟩)
        · have h5 : r.path = q.path := g3.eq_of_length_le hl
          rw [H.inj _ _ _ _ hj hb h5.symm]
          exact List.mem_cons_self ..
      · rw [e] at h2; omega
      · rw [e] at h2; simp at h2; omega
    · intro j hj
      rcases List.mem_cons.1 hj with rfl | hj
      · exact ⟨r, hb⟩
      · exact i2 j hj
    · refine List.pairwise_cons.2 ⟨fun j hj ra rb ha hb' => ?_, i3⟩
      rw [hb] at ha
      cases ha
      have := ((i1 j rb hb').1 hj).2
      omega

theorem way_along {root : Nat} {G : Gr} (H : Shape root G) {k : List UInt8} {vs : List Nat} (h : Way G (some root) k vs) : Along G k 0 vs := by
  obtain ⟨r0, h0, p0, q0⟩ := H.top
  cases h with
  | off b r k hb hh =>
    rw [h0] at hb
    cases hb
    rw [q0] at hh
    simp [key.has] at hh
  | last b r hb =>
    rw [h0] at hb
    cases hb
    refine ⟨fun j q hj => ⟨fun h => ?_, fun ⟨h1, _⟩ => ?_⟩, ?_, by simp⟩
    · simp at h
      subst h
      rw [h0] at hj
      cases hj
      rw [p0]
      exact ⟨List.nil_prefix, Nat.zero_le _⟩
    · rw [q0] at h1
      have := List.prefix_nil.1 h1
      simp
      exact H.inj _ _ _ _ hj h0 (by rw [this, p0])
    · intro j hj
      simp at hj
      subst hj
      exact ⟨_, h0⟩
  | on b r c t vs hb hw =>
    rw [h0] at hb
    cases hb
    obtain ⟨i1, i2, i3⟩ := along_kid H hw root r0 c t h0 rfl rfl
    rw [p0, List.nil_append] at i1
    rw [q0, List.nil_append]
    refine ⟨fun j q hj => ⟨fun h => ?_, fun ⟨h1, _⟩ => ?_⟩, ?_, ?_⟩
    · rcases List.mem_cons.1 h with rfl | h
      · rw [h0] at hj
        cases hj
        rw [p0]
        exact ⟨List.nil_prefix, Nat.zero_le _⟩
      · exact ⟨((i1 j q hj).1 h).1, Nat.zero_le _⟩
    · rcases Nat.eq_zero_or_pos q.path.length with hl | hl
      · rw [H.inj _ _ _ _ hj h0 (by rw [p0]; exact List.length_eq_zero_iff.1 hl)]
        exact List.mem_cons_self ..
      · exact List.mem_cons_of_mem _ ((i1 j q hj).2 ⟨h1, hl⟩)
    · intro j hj
      rcases List.mem_cons.1 hj with rfl | hj
      · exact ⟨_, h0⟩
      · exact i2 j hj
    · refine List.pairwise_cons.2 ⟨fun j hj ra rb ha hb' => ?_, i3⟩
      rw [h0] at ha
      cases ha
      have := ((i1 j rb hb').1 hj).2
      rw [p0]
      simp at this ⊢
      exact this

/-- the last rule along the way -/
def lastRule (G : Gr) (vs : List Nat) : Option Nat := vs.foldl (fun a b => match (G b).bind (·.rule) with | some ρ => some ρ | none => a) none
theorem lastRule_snoc (G : Gr) (vs : List Nat) (b : Nat) : lastRule G (vs ++ [b]) = match (G b).bind (·.rule) with | some ρ => some ρ | none => lastRule G vs := by
  unfold lastRule
  rw [List.foldl_append]
  rfl
theorem snoc_ind {P : List Nat → Prop} (h0 : P []) (h1 : ∀ l b, P l → P (l ++ [b])) (l : List Nat) : P l := by
  rw [← l.reverse_reverse]
  induction l.reverse with
  | nil => exact h0
  | cons b l ih => rw [List.reverse_cons]; exact h1 _ _ ih
theorem lastRule_is (G : Gr) : ∀ vs : List Nat, vs.Pairwise (fun a b => ∀ ra rb, G a = some ra → G b = some rb → ra.path.length < rb.path.length) → (∀ j ∈ vs, ∃ r, G j = some r) →
    (lastRule G vs = none → ∀ j ∈ vs, ∀ r, G j = some r → r.rule = none) ∧
    (∀ ρ, lastRule G vs = some ρ → ∃ j r, j ∈ vs ∧ G j = some r ∧ r.rule = some ρ ∧ ∀ i ∈ vs, ∀ q, G i = some q → q.rule ≠ none → q.path.length ≤ r.path.length) := by
  refine snoc_ind ?_ ?_
  · intro _ _
    exact ⟨fun _ j hj => by simp at hj, fun ρ h => by simp [lastRule] at h⟩
  · intro l b ih hp hex
    obtain ⟨hp1, _, hp2⟩ := List.pairwise_append.1 hp
    obtain ⟨ih1, ih2⟩ := ih hp1 (fun j hj => hex j (by simp [hj]))
    obtain ⟨r, hr⟩ := hex b (by simp)
    rw [lastRule_snoc, hr]
    simp only [Option.bind_some]
    cases hrr : r.rule with
    | none =>
      simp only
      refine ⟨fun h j hj q hq => ?_, fun ρ h => ?_⟩
      · rcases List.mem_append.1 hj with hj | hj
        · exact ih1 h j hj q hq
        · simp at hj
          subst hj
          rw [hr] at hq
          cases hq
          exact hrr
      · obtain ⟨j, q, f1, f2, f3, f4⟩ := ih2 ρ h
        refine ⟨j, q, by simp [f1], f2, f3, fun i hi q' hq' hne => ?_⟩
        rcases List.mem_append.1 hi with hi | hi
        · exact f4 i hi q' hq' hne
        · simp at hi
          subst hi
          rw [hr] at hq'
          cases hq'
          exact absurd hrr hne
    | some ρ' =>
      simp only
      refine ⟨fun h => by simp at h, fun ρ h => ?_⟩
      cases h
      refine ⟨b, r, by simp, hr, hrr, fun i hi q hq hne => ?_⟩
      rcases List.mem_append.1 hi with hi | hi
      · exact Nat.le_of_lt (hp2 i hi b (by simp) q r hq hr)
      · simp at hi
        subst hi
        rw [hr] at hq
        cases hq
        exact Nat.le_refl _

/-- what is found: the rule with the longest prefix that the key begins with, the first one of its prefix -/
def IsFind (L : List Rul) (k : List UInt8) (o : Option Rul) : Prop :=
  match o with
  | none => ∀ x ∈ L, ¬ x.pre <+: k
  | some x => (∃ j, First L j x) ∧ x.pre <+: k ∧ ∀ y ∈ L, y.pre <+: k → y.pre.length ≤ x.pre.length

theorem first_uni {L : List Rul} {i j : Nat} {x y : Rul} (h : First L i x) (g : First L j y) (e : x.pre = y.pre) : x = y := by
  have : i = j := by
    rcases Nat.lt_trichotomy i j with hl | hl | hl
    · exact absurd e (g.2 i x hl h.1)
    · exact hl
    · exact absurd e.symm (h.2 j y hl g.1)
  subst this
  have := h.1
  rw [g.1] at this
  exact (Option.some.inj this).symm
theorem isFind_uni {L : List Rul} {k : List UInt8} {o o' : Option Rul} (h : IsFind L k o) (g : IsFind L k o') : o = o' := by
  cases o with
  | none =>
    cases o' with
    | none => rfl
    | some y =>
      obtain ⟨⟨j, hj⟩, h1, _⟩ := g
      exact absurd h1 (h y (List.mem_iff_getElem?.2 ⟨j, hj.1⟩))
  | some x =>
    obtain ⟨⟨i, hi⟩, h1, h2⟩ := h
    cases o' with
    | none => exact absurd h1 (g x (List.mem_iff_getElem?.2 ⟨i, hi.1⟩))
    | some y =>
      obtain ⟨⟨j, hj⟩, g1, g2⟩ := g
      have l1 := h2 y (List.mem_iff_getElem?.2 ⟨j, hj.1⟩) g1
      have l2 := g2 x (List.mem_iff_getElem?.2 ⟨i, hi.1⟩) h1
      have e : x.pre = y.pre := by
        rw [List.prefix_iff_eq_take.1 h1, List.prefix_iff_eq_take.1 g1]
        congr 1
        omega
      rw [first_uni hi hj e]

/-- what the tree finds -/
theorem tree_find {w : World} {base root : Nat} {G : Gr} {L : List Rul} (T : TreeW w base root G) (R : RulesW w G L L.length) {k : List UInt8} {vs : List Nat} (h : Way G (some root) k vs) :
    (lastRule G vs = none → IsFind L k none) ∧ (∀ ρ, lastRule G vs = some ρ → ∃ x, IsFind L k (some x) ∧ Blk w ρ 28 x.cells) := by
  obtain ⟨a1, a2, a3⟩ := way_along T.shape h
  obtain ⟨h1, h2⟩ := lastRule_is G vs a3 a2
  refine ⟨fun hn x hx hp => ?_, fun ρ hρ => ?_⟩
  · obtain ⟨j, hj⟩ := List.mem_iff_getElem?.1 hx
    obtain ⟨b, r, e1, e2, e3⟩ := R.has j x (List.getElem?_eq_some_iff.1 hj).1 hj
    exact e3 (h1 hn b ((a1 b r e1).2 ⟨by rw [e2]; exact hp, Nat.zero_le _⟩) r e1)
  · obtain ⟨b, r, f1, f2, f3, f4⟩ := h2 ρ hρ
    obtain ⟨j, x, g1, g2, g3, g4⟩ := R.is b r ρ f2 f3
    have hpre := ((a1 b r f2).1 f1).1
    refine ⟨x, ⟨⟨j, g2⟩, by rw [← g3]; exact hpre, fun y hy hp => ?_⟩, g4⟩
    obtain ⟨i, hi⟩ := List.mem_iff_getElem?.1 hy
    obtain ⟨b', r', e1, e2, e3⟩ := R.has i y (List.getElem?_eq_some_iff.1 hi).1 hi
    have := f4 b' ((a1 b' r' e1).2 ⟨by rw [e2]; exact hp, Nat.zero_le _⟩) r' e1 e3
    rw [e2, g3] at this
    exact this
end Go.Proofs.Ytdjhjgimlpdckaa.pre
