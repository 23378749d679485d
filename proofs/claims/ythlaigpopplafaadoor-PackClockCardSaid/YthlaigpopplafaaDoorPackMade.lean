/- Snapshots made of choices, in plain Lean: entries laid in their places; bytes that are bent. No program here. -/
import Derived.Test.YthlaigpopplafaaDoorPackPlain
import Derived.Test.YthlaigpopplafaaDoorKeyKey
namespace Go.Proofs.YthlaigpopplafaaDoor.key
theorem less_total (a b : List UInt8) : (less a b || less b a) = !(a == b) ∧ (less a b && less b a) = false := by
  induction a generalizing b with
  | nil => cases b <;> simp [less, Op.bytesLess]
  | cons x a ih =>
    cases b with
    | nil => simp [less, Op.bytesLess]
    | cons y b =>
      have e1 : less (x :: a) (y :: b) = (decide (x < y) || (x == y && less a b)) := rfl
      have e2 : less (y :: b) (x :: a) = (decide (y < x) || (y == x && less b a)) := rfl
      rw [e1, e2]
      obtain ⟨h1, h2⟩ := ih b
      by_cases hxy : x = y
      · subst hxy
        have hn : decide (x < x) = false := by simp
        rw [hn]
        simp only [beq_self_eq_true, Bool.true_and, Bool.false_or]
        refine ⟨by rw [h1]; simp, h2⟩
      · have hn : (x == y) = false := by simpa using hxy
        have hn2 : (y == x) = false := by simpa using fun h => hxy h.symm
        rw [hn, hn2]
        have hlt : x < y ∨ y < x := by
          rw [UInt8.lt_iff_toNat_lt, UInt8.lt_iff_toNat_lt]
          have : x.toNat ≠ y.toNat := fun h => hxy (UInt8.toNat_inj.1 h)
          omega
        have hno : ¬ (x < y ∧ y < x) := by
          rw [UInt8.lt_iff_toNat_lt, UInt8.lt_iff_toNat_lt]
          omega
        simp only [Bool.false_and, Bool.or_false]
        refine ⟨?_, ?_⟩
        · rw [show ((x :: a) == (y :: b)) = false from by simp [hxy]]
          simpa using hlt
        · simp
          intro h
          exact UInt8.not_lt.1 fun h3 => hno ⟨h, h3⟩
theorem less_trans : ∀ (a b c : List UInt8), less a b = true → less b c = true → less a c = true
  | _, [], _, h, _ => by cases ‹List UInt8› <;> simp [less, Op.bytesLess] at h
  | [], _ :: _, [], _, h => by simp [less, Op.bytesLess] at h
  | [], _ :: _, _ :: _, _, _ => by simp [less, Op.bytesLess]
  | _ :: _, _ :: _, [], _, h => by simp [less, Op.bytesLess] at h
  | x :: a, y :: b, z :: c, h1, h2 => by
    have ih := less_trans a b c
    unfold less at ih h1 h2 ⊢
    simp only [Op.bytesLess, Bool.or_eq_true, Bool.and_eq_true, decide_eq_true_eq, beq_iff_eq] at h1 h2 ⊢
    rw [UInt8.lt_iff_toNat_lt] at h1 h2 ⊢
    rcases h1 with h1 | ⟨rfl, h1⟩
    · rcases h2 with h2 | ⟨rfl, h2⟩
      · left; omega
      · left; exact h1
    · rcases h2 with h2 | ⟨rfl, h2⟩
      · left; exact h2
      · right; exact ⟨rfl, ih h1 h2⟩
theorem less_self (a : List UInt8) : less a a = false := by
  have := (less_total a a).2
  simpa using this
theorem less_else {a b : List UInt8} (h : less a b = false) (hn : a ≠ b) : less b a = true := by
  have h1 := (less_total a b).1
  rw [h, Bool.false_or] at h1
  rw [h1]
  simpa using hn
end Go.Proofs.YthlaigpopplafaaDoor.key
namespace Go.Proofs.YthlaigpopplafaaDoor.pack
open Go.Proofs.YthlaigpopplafaaDoor.key

/-- how many keys at the front are less -/
def spot (k : List UInt8) : List Ent → Nat
  | [] => 0
  | x :: r => if less x.key k = true then spot k r + 1 else 0
/-- laid in its place, once -/
def lay (e : Ent) : List Ent → List Ent
  | [] => [e]
  | x :: r => if less x.key e.key = true then x :: lay e r else if x.key = e.key then x :: r else e :: x :: r
theorem spot_le (k : List UInt8) : ∀ es : List Ent, spot k es ≤ es.length
  | [] => Nat.le_refl _
  | x :: r => by
    have := spot_le k r
    unfold spot
    split <;> simp <;> omega
theorem spot_is {k : List UInt8} : ∀ {es : List Ent} {n : Nat} (_ : n ≤ es.length) (_ : ∀ j (hj : j < n) (hl : j < es.length), less es[j].key k = true) (_ : ∀ hl : n < es.length, less es[n].key k = false), spot k es = n
  | [], n, hn, _, _ => by simp at hn; simp [spot, hn]
  | x :: r, 0, _, _, he => by
    have := he (by simp)
    simp only [List.getElem_cons_zero] at this
    simp [spot, this]
  | x :: r, n + 1, hn, h, he => by
    have h0 := h 0 (by omega) (by simp)
    simp only [List.getElem_cons_zero] at h0
    have ih := spot_is (k := k) (es := r) (n := n) (by simpa using hn) (fun j hj hl => by
      have := h (j + 1) (by omega) (by simpa using hl)
      simpa using this) (fun hl => by
      have := he (by simpa using hl)
      simpa using this)
    simp [spot, h0, ih]
theorem lay_there (e : Ent) : ∀ (es : List Ent) (h : spot e.key es < es.length), es[spot e.key es].key = e.key → lay e es = es
  | [], h, _ => by simp [spot] at h
  | x :: r, h, he => by
    unfold lay
    by_cases hx : less x.key e.key = true
    · rw [if_pos hx]
      have hs : spot e.key (x :: r) = spot e.key r + 1 := by simp [spot, hx]
      simp only [hs, List.getElem_cons_succ] at he
      rw [hs] at h
      rw [lay_there e r (by simpa using h) he]
    · have hs : spot e.key (x :: r) = 0 := by simp [spot, hx]
      simp only [hs, List.getElem_cons_zero] at he
      rw [if_neg hx, if_pos he]
theorem lay_new (e : Ent) : ∀ (es : List Ent), (∀ h : spot e.key es < es.length, es[spot e.key es].key ≠ e.key) → lay e es = es.take (spot e.key es) ++ e :: es.drop (spot e.key es)
  | [], _ => rfl
  | x :: r, hn => by
    unfold lay
    by_cases hx : less x.key e.key = true
    · have hs : spot e.key (x :: r) = spot e.key r + 1 := by simp [spot, hx]
      have ih := lay_new e r (fun h he => by
        refine hn (by rw [hs]; simpa using h) ?_
        simp only [hs, List.getElem_cons_succ]
        exact he)
      rw [if_pos hx, ih, hs]
      rfl
    · have hs : spot e.key (x :: r) = 0 := by simp [spot, hx]
      have hne : ¬ x.key = e.key := fun he => hn (by rw [hs]; simp) (by simp only [hs, List.getElem_cons_zero]; exact he)
      rw [if_neg hx, if_neg hne, hs]
      rfl
theorem lay_mem {e y : Ent} : ∀ {es : List Ent}, y ∈ lay e es → y = e ∨ y ∈ es
  | [], h => by simp [lay] at h; exact .inl h
  | x :: r, h => by
    unfold lay at h
    split at h
    · rcases List.mem_cons.1 h with rfl | h
      · exact .inr (by simp)
      · rcases lay_mem h with h | h
        · exact .inl h
        · exact .inr (by simp [h])
    · split at h
      · exact .inr h
      · rcases List.mem_cons.1 h with rfl | h
        · exact .inl rfl
        · exact .inr h
theorem lay_len (e : Ent) : ∀ es : List Ent, (lay e es).length ≤ es.length + 1
  | [] => by simp [lay]
  | x :: r => by
    have := lay_len e r
    unfold lay
    split
    · simp; omega
    · split <;> simp
theorem lay_rises {e : Ent} : ∀ {es : List Ent} {last : List UInt8}, risesFrom last (keys es) = true → less last e.key = true → risesFrom last (keys (lay e es)) = true
  | [], last, _, h => by simp [lay, keys, risesFrom, h]
  | x :: r, last, hr, h => by
    simp only [keys, List.map_cons, risesFrom, Bool.and_eq_true] at hr
    unfold lay
    by_cases hx : less x.key e.key = true
    · rw [if_pos hx]
      have ih := lay_rises (e := e) (es := r) (last := x.key) hr.2 hx
      simp only [keys] at ih
      simp only [keys, List.map_cons, risesFrom, Bool.and_eq_true]
      exact ⟨hr.1, ih⟩
    · rw [if_neg hx]
      by_cases he : x.key = e.key
      · rw [if_pos he]
        simp only [keys, List.map_cons, risesFrom, Bool.and_eq_true]
        exact hr
      · rw [if_neg he]
        simp only [keys, List.map_cons, risesFrom, Bool.and_eq_true]
        exact ⟨h, less_else (by simpa using hx) he, hr.2⟩

/-- until when -/
def till (clock : Nat) (far : List Nat) (k : Nat) : Nat := if k < far.length then (clock + far.getD k 0) % 18446744073709551616 else (clock + 1) % 18446744073709551616
def entAt (clock : Nat) (c : List (List UInt8)) (far : List Nat) (k : Nat) : Ent := ⟨key.keyOf (c.getD k []), till clock far k⟩
/-- entries of so many choices -/
def made (clock : Nat) (c : List (List UInt8)) (far : List Nat) : Nat → List Ent
  | 0 => []
  | k + 1 => lay (entAt clock c far k) (made clock c far k)
def snapOf (clock : Nat) (c : List (List UInt8)) (far : List Nat) : Snap := ⟨clock, made clock c far (min c.length 10)⟩
theorem entAt_fits (clock : Nat) (c : List (List UInt8)) (far : List Nat) (k : Nat) : Fits (entAt clock c far k) ∧ (entAt clock c far k).key.length ≤ 12 := by
  obtain ⟨h1, h2, -⟩ := keyOf_right (c.getD k [])
  refine ⟨⟨h1, ?_⟩, h2⟩
  show till clock far k < _
  unfold till
  split <;> omega
theorem made_fits (clock : Nat) (c : List (List UInt8)) (far : List Nat) : ∀ k, ∀ e ∈ made clock c far k, Fits e ∧ e.key.length ≤ 12
  | 0, e, h => by simp [made] at h
  | k + 1, e, h => by
    rcases lay_mem h with rfl | h
    · exact entAt_fits clock c far k
    · exact made_fits clock c far k e h
theorem made_len (clock : Nat) (c : List (List UInt8)) (far : List Nat) : ∀ k, (made clock c far k).length ≤ k
  | 0 => by simp [made]
  | k + 1 => by
    have := made_len clock c far k
    have := lay_len (entAt clock c far k) (made clock c far k)
    simp only [made]
    omega
theorem made_rises (clock : Nat) (c : List (List UInt8)) (far : List Nat) : ∀ k, risesFrom [] (keys (made clock c far k)) = true
  | 0 => by simp [made, keys, risesFrom]
  | k + 1 => lay_rises (made_rises clock c far k) (less_nil (entAt_fits clock c far k).1.1)
theorem keys_right {es : List Ent} (h : ∀ e ∈ es, Fits e) : (keys es).all right = true := by
  rw [List.all_eq_true]
  intro k hk
  obtain ⟨e, he, rfl⟩ := List.mem_map.1 hk
  exact (h e he).1
theorem snapOf_may {clock : Nat} (hc : clock < 18446744073709551616) (c : List (List UInt8)) (far : List Nat) : May (snapOf clock c far) := by
  have hf : ∀ e ∈ (snapOf clock c far).es, Fits e := fun e he => (made_fits clock c far _ e he).1
  refine ⟨hc, hf, ?_, ?_⟩
  · rw [rises_from_nil (keys_right hf)]
    exact made_rises clock c far _
  · have := made_len clock c far (min c.length 10)
    show (made clock c far _).length < _
    omega
theorem snapOf_len (clock : Nat) (c : List (List UInt8)) (far : List Nat) : (snapOf clock c far).es.length ≤ 10 := by
  have := made_len clock c far (min c.length 10)
  show (made clock c far _).length ≤ _
  omega
theorem encs_short : ∀ {es : List Ent}, (∀ e ∈ es, e.key.length ≤ 128) → (encs es).length ≤ 137 * es.length
  | [], _ => by simp [encs]
  | e :: r, h => by
    have ih := encs_short (es := r) (fun x hx => h x (by simp [hx]))
    have h1 := h e (by simp)
    have h2 := encE_len e
    have h3 : encs (e :: r) = encE e ++ encs r := by simp [encs]
    rw [h3, List.length_append, List.length_cons]
    omega
/-- bytes with one of them another one, or gone, or one more -/
def bent (b : List UInt8) (i x how : Nat) : List UInt8 :=
  if b = [] then [UInt8.ofNat x] else
  if how % 4 = 0 then b.set (i % b.length) (b.getD (i % b.length) 0 ^^^ UInt8.ofNat x) else
  if how % 4 = 1 then b.take (i % b.length) else
  if how % 4 = 2 then b ++ [UInt8.ofNat x] else b.take (i % b.length) ++ b.drop (i % b.length + 1)
theorem bent_len (b : List UInt8) (i x how : Nat) : (bent b i x how).length ≤ b.length + 1 := by
  unfold bent
  split
  · simp
  split
  · simp
  split
  · simp; omega
  split
  · simp
  · simp; omega
/-- one twice -/
theorem rises_twice (es : List Ent) (h : (keys es).all right = true) (i : Nat) (hi : i < es.length) : rises (keys (es.take (i + 1) ++ es.drop i)) = false := by
  have hall : (keys (es.take (i + 1) ++ es.drop i)).all right = true := by
    rw [List.all_eq_true] at h ⊢
    intro k hk
    obtain ⟨e, he, rfl⟩ := List.mem_map.1 hk
    refine h _ (List.mem_map.2 ⟨e, ?_, rfl⟩)
    rcases List.mem_append.1 he with he | he
    · exact List.mem_of_mem_take he
    · exact List.mem_of_mem_drop he
  rw [rises_from_nil hall]
  have : ∀ (es : List Ent) (i : Nat) (last : List UInt8), i < es.length → risesFrom last (keys (es.take (i + 1) ++ es.drop i)) = false := by
    intro es
    induction es with
    | nil => intro i last h; simp at h
    | cons e r ih =>
      intro i last h
      cases i with
      | zero => simp [keys, risesFrom, less_self]
      | succ i =>
        have := ih i e.key (by simpa using h)
        simp only [List.take_succ_cons, List.drop_succ_cons, List.cons_append, keys, List.map_cons, risesFrom] at this ⊢
        rw [this, Bool.and_false]
  exact this es i [] hi
theorem encode_twice {s : Snap} (h : May s) (i : Nat) (hi : i < s.es.length) (c : Nat) : encode ⟨c, s.es.take (i + 1) ++ s.es.drop i⟩ = ([], 42) := by
  have hall : (keys (s.es.take (i + 1) ++ s.es.drop i)).all right = true := keys_right fun e he => by
    rcases List.mem_append.1 he with he | he
    · exact h.fits e (List.mem_of_mem_take he)
    · exact h.fits e (List.mem_of_mem_drop he)
  unfold encode
  simp only
  rw [hall, rises_twice s.es h.right i hi]
  simp
theorem right_blank (k : List UInt8) : right (k ++ [32]) = false := by
  simp [right, vis]
theorem encode_bad (c : Nat) (es : List Ent) (i : Nat) (hi : i < es.length) (k : List UInt8) (t : Nat) : encode ⟨c, es.set i ⟨k ++ [32], t⟩⟩ = ([], 12) := by
  have hall : (keys (es.set i ⟨k ++ [32], t⟩)).all right = false := by
    rw [List.all_eq_false]
    refine ⟨k ++ [32], List.mem_map.2 ⟨⟨k ++ [32], t⟩, List.mem_set hi _, rfl⟩, ?_⟩
    rw [right_blank]
    simp
  unfold encode
  simp only
  rw [hall]
  simp
end Go.Proofs.YthlaigpopplafaaDoor.pack
