/- Snapshots as bytes, in plain Lean: a number's bytes, entries, there and back. No program here. -/
import Derived.Test.YthlaigpopplafaaDoorKeyPlain
namespace Go.Proofs.YthlaigpopplafaaDoor.pack
open Go.Proofs.YthlaigpopplafaaDoor.key

/-- a number's last bytes, so many, the greatest first -/
def be (n : Nat) : Nat → List UInt8
  | 0 => []
  | k + 1 => UInt8.ofNat (n / 256 ^ k) :: be n k
/-- the way back -/
def num (l : List UInt8) : Nat := l.foldl (fun n b => n * 256 + b.toNat) 0

theorem be_len (n : Nat) : ∀ k, (be n k).length = k
  | 0 => rfl
  | k + 1 => by simp [be, be_len n k]
theorem be_drop (n : Nat) : ∀ (k j : Nat), (be n (k + j)).drop j = be n k
  | k, 0 => rfl
  | k, j + 1 => by rw [← Nat.add_assoc]; exact be_drop n k j
theorem foldl_num (l : List UInt8) : ∀ a, l.foldl (fun n b => n * 256 + b.toNat) a = a * 256 ^ l.length + num l := by
  induction l with
  | nil => intro a; simp [num]
  | cons b r ih =>
    intro a
    simp only [List.foldl_cons, num, List.length_cons, Nat.zero_mul, Nat.zero_add]
    rw [ih, ih b.toNat, Nat.pow_succ, Nat.add_mul, Nat.mul_assoc, Nat.mul_comm 256, Nat.add_assoc]
theorem num_nil : num [] = 0 := rfl
theorem num_cons (b : UInt8) (r : List UInt8) : num (b :: r) = b.toNat * 256 ^ r.length + num r := by
  show (b :: r).foldl _ 0 = _
  rw [List.foldl_cons, foldl_num]
  simp
theorem num_snoc (l : List UInt8) (b : UInt8) : num (l ++ [b]) = num l * 256 + b.toNat := by
  unfold num
  rw [List.foldl_append]
  rfl
theorem num_one (b : UInt8) : num [b] = b.toNat := by simp [num]
theorem num_lt : ∀ l : List UInt8, num l < 256 ^ l.length
  | [] => by simp [num]
  | b :: r => by
    have h := num_lt r
    have hb := b.toNat_lt
    rw [num_cons, List.length_cons, Nat.pow_succ]
    have : (b.toNat + 1) * 256 ^ r.length ≤ 256 * 256 ^ r.length := Nat.mul_le_mul_right _ (by omega)
    rw [Nat.add_mul, Nat.one_mul] at this
    rw [Nat.mul_comm _ 256]
    omega
theorem num_be (n : Nat) : ∀ k, num (be n k) = n % 256 ^ k
  | 0 => by simp [be, num, Nat.mod_one]
  | k + 1 => by
    rw [be, num_cons, be_len, num_be n k, Nat.mod_pow_succ]
    rw [show (UInt8.ofNat (n / 256 ^ k)).toNat = n / 256 ^ k % 256 from by simp, Nat.mul_comm]
    omega
theorem num_be_lt {n k : Nat} (h : n < 256 ^ k) : num (be n k) = n := by rw [num_be, Nat.mod_eq_of_lt h]
theorem u8_of_mod (n m : Nat) (h : n % 256 = m % 256) : UInt8.ofNat n = UInt8.ofNat m := by
  apply UInt8.toNat_inj.1
  simpa using h
theorem be_add (a d n : Nat) : ∀ k, be (a * 256 ^ (k + d) + n) k = be n k
  | 0 => rfl
  | k + 1 => by
    rw [be, be]
    have h2 := be_add (a * 256 ^ 0) (d + 1) n k
    rw [Nat.pow_zero, Nat.mul_one, show k + (d + 1) = k + 1 + d from by omega] at h2
    rw [h2]
    congr 1
    apply u8_of_mod
    have e : a * 256 ^ (k + 1 + d) = 256 ^ k * (256 * (a * 256 ^ d)) := by
      rw [show k + 1 + d = k + (1 + d) from by omega, Nat.pow_add, Nat.pow_add, Nat.pow_one]
      ac_rfl
    rw [e, Nat.mul_add_div (Nat.pow_pos (by omega))]
    omega
theorem be_num : ∀ l : List UInt8, be (num l) l.length = l
  | [] => rfl
  | b :: r => by
    have h := num_lt r
    have hp : 0 < 256 ^ r.length := Nat.pow_pos (by omega)
    rw [List.length_cons, be]
    have h1 : be (num (b :: r)) r.length = r := by
      rw [num_cons]
      have := be_add b.toNat 0 (num r) r.length
      rw [Nat.add_zero] at this
      rw [this, be_num r]
    rw [h1]
    congr 1
    rw [num_cons, Nat.mul_comm, Nat.mul_add_div hp, Nat.div_eq_of_lt h]
    simp
theorem be_inj {k : Nat} {a b : Nat} (ha : a < 256 ^ k) (hb : b < 256 ^ k) (h : be a k = be b k) : a = b := by
  rw [← num_be_lt ha, ← num_be_lt hb, h]
theorem less_num : ∀ (x y : List UInt8), x.length = y.length → less x y = decide (num x < num y)
  | [], [], _ => by simp [less, Op.bytesLess, num]
  | [], _ :: _, h => by simp at h
  | _ :: _, [], h => by simp at h
  | c :: x, d :: y, h => by
    have hl : x.length = y.length := by simpa using h
    have ih := less_num x y hl
    have hx := num_lt x
    have hy := num_lt y
    have e : less (c :: x) (d :: y) = (decide (c < d) || (c == d && less x y)) := rfl
    rw [e, ih, num_cons, num_cons, ← hl] at *
    rw [hl] at hx
    rw [← hl] at hx hy
    generalize 256 ^ x.length = p at *
    rw [Bool.eq_iff_iff]
    simp only [Bool.or_eq_true, decide_eq_true_eq, Bool.and_eq_true, beq_iff_eq]
    rw [UInt8.lt_iff_toNat_lt, ← UInt8.toNat_inj]
    constructor
    · rintro (hlt | ⟨heq, hlt⟩)
      · have : (c.toNat + 1) * p ≤ d.toNat * p := Nat.mul_le_mul_right _ (by omega)
        rw [Nat.add_mul, Nat.one_mul] at this
        omega
      · rw [heq]; omega
    · intro hlt
      rcases Nat.lt_trichotomy c.toNat d.toNat with h1 | h1 | h1
      · exact .inl h1
      · refine .inr ⟨h1, ?_⟩
        rw [h1] at hlt
        omega
      · exfalso
        have : (d.toNat + 1) * p ≤ c.toNat * p := Nat.mul_le_mul_right _ (by omega)
        rw [Nat.add_mul, Nat.one_mul] at this
        omega

/-- an entry -/
structure Ent where
  key : List UInt8
  till : Nat
/-- a snapshot -/
structure Snap where
  clock : Nat
  es : List Ent
def Fits (e : Ent) : Prop := right e.key = true ∧ e.till < 18446744073709551616
def magic : List UInt8 := [84, 76, 82, 49]
def encE (e : Ent) : List UInt8 := UInt8.ofNat e.key.length :: (e.key ++ be e.till 8)
def encs (es : List Ent) : List UInt8 := es.flatMap encE
def bodyOf (s : Snap) : List UInt8 := magic ++ (be s.clock 8 ++ (be s.es.length 4 ++ encs s.es))
def keys (es : List Ent) : List (List UInt8) := es.map (·.key)
def encode (s : Snap) : List UInt8 × Nat :=
  if (keys s.es).all right = false then ([], 12) else if rises (keys s.es) = false then ([], 42) else (bodyOf s, 0)
def sizeOf (es : List Ent) : Nat := es.foldl (fun n e => n + (9 + e.key.length)) 16
/-- entries, so many, behind a key; what is left; the error -/
def dec : Nat → List UInt8 → List UInt8 → List Ent → List Ent × List UInt8 × Nat
  | 0, l, _, acc => (acc, l, 0)
  | _ + 1, [], _, _ => ([], [], 41)
  | k + 1, b :: r, last, acc =>
    if r.length < b.toNat + 8 then ([], [], 41) else
    if right (r.take b.toNat) = false then ([], [], 12) else
    if less last (r.take b.toNat) = false then ([], [], 42) else
    dec k (r.drop (b.toNat + 8)) (r.take b.toNat) (acc ++ [⟨r.take b.toNat, num ((r.drop b.toNat).take 8)⟩])
def nosnap : Snap := ⟨0, []⟩
def decode (l : List UInt8) : Snap × Nat :=
  if l.take 4 ≠ magic then (nosnap, 40) else if l.length < 16 then (nosnap, 41) else
  if (dec (num ((l.drop 12).take 4)) (l.drop 16) [] []).2.2 ≠ 0 then (nosnap, (dec (num ((l.drop 12).take 4)) (l.drop 16) [] []).2.2) else
  if (dec (num ((l.drop 12).take 4)) (l.drop 16) [] []).2.1 ≠ [] then (nosnap, 43) else
  (⟨num ((l.drop 4).take 8), (dec (num ((l.drop 12).take 4)) (l.drop 16) [] []).1⟩, 0)

theorem right_len {k : List UInt8} (h : right k = true) : 1 ≤ k.length ∧ k.length ≤ 128 := by
  simp only [right, Bool.and_eq_true, decide_eq_true_eq] at h
  exact h.1
theorem encE_len (e : Ent) : (encE e).length = 9 + e.key.length := by
  simp [encE, be_len]
  omega
theorem sizeOf_encs (es : List Ent) : sizeOf es = 16 + (encs es).length := by
  have : ∀ (l : List Ent) n, l.foldl (fun n e => n + (9 + e.key.length)) n = n + (encs l).length := by
    intro l
    induction l with
    | nil => intro n; simp [encs]
    | cons e r ih =>
      intro n
      rw [List.foldl_cons, ih]
      simp only [encs, List.flatMap_cons, List.length_append, encE_len]
      omega
  exact this es 16
theorem body_len (s : Snap) : (bodyOf s).length = sizeOf s.es := by
  rw [sizeOf_encs]
  simp [bodyOf, be_len, magic]
  omega
/-- keys that rise behind one -/
def risesFrom (last : List UInt8) : List (List UInt8) → Bool
  | [] => true
  | k :: r => less last k && risesFrom k r
theorem rises_cons (k : List UInt8) (r : List (List UInt8)) : rises (k :: r) = risesFrom k r := by
  induction r generalizing k with
  | nil => simp [rises, risesFrom]
  | cons a r ih => rw [rises, risesFrom, ih]
theorem less_nil {k : List UInt8} (h : right k = true) : less [] k = true := by
  have := (right_len h).1
  cases k with
  | nil => simp at this
  | cons a r => rfl
theorem rises_from_nil {ks : List (List UInt8)} (h : ks.all right = true) : rises ks = risesFrom [] ks := by
  cases ks with
  | nil => rfl
  | cons k r =>
    rw [rises_cons, risesFrom, less_nil (by simp at h; exact h.1), Bool.true_and]

theorem len_u8 {n : Nat} (h : n ≤ 128) : (UInt8.ofNat n).toNat = n := by simp; omega
theorem dec_step {e : Ent} (he : Fits e) (k : Nat) (t last : List UInt8) (acc : List Ent) : dec (k + 1) (encE e ++ t) last acc = if less last e.key = false then ([], [], 42) else dec k t e.key (acc ++ [e]) := by
  obtain ⟨h1, h2⟩ := right_len he.1
  have hb := len_u8 h2
  have e1 : ((e.key ++ be e.till 8) ++ t).take e.key.length = e.key := by rw [List.append_assoc, List.take_left]
  have e2 : ((e.key ++ be e.till 8) ++ t).drop (e.key.length + 8) = t := by
    rw [show e.key.length + 8 = (e.key ++ be e.till 8).length from by simp [be_len], List.drop_left]
  have e3 : (((e.key ++ be e.till 8) ++ t).drop e.key.length).take 8 = be e.till 8 := by
    rw [List.append_assoc, List.drop_left]
    have h := be_len e.till 8
    generalize be e.till 8 = x at h ⊢
    rw [← h, List.take_left]
  show dec (k + 1) (UInt8.ofNat e.key.length :: ((e.key ++ be e.till 8) ++ t)) last acc = _
  rw [dec, hb, e1, e2, e3, he.1, num_be_lt (by have := he.2; omega)]
  rw [if_neg (by simp [be_len] <;> omega), if_neg (by simp)]
theorem dec_encs : ∀ (es : List Ent) (last t : List UInt8) (acc : List Ent), (∀ e ∈ es, Fits e) → risesFrom last (keys es) = true → dec es.length (encs es ++ t) last acc = (acc ++ es, t, 0)
  | [], last, t, acc, _, _ => by simp [dec, encs]
  | e :: r, last, t, acc, hf, hr => by
    simp only [keys, List.map_cons, risesFrom, Bool.and_eq_true] at hr
    have ih := dec_encs r e.key t (acc ++ [e]) (fun x hx => hf x (by simp [hx])) hr.2
    rw [List.length_cons, show encs (e :: r) ++ t = encE e ++ (encs r ++ t) from by simp [encs], dec_step (hf e (by simp)), hr.1, if_neg (by simp), ih]
    simp
/-- what is decoded is encoded to the same bytes -/
theorem encs_dec : ∀ (k : Nat) (l last : List UInt8) (acc es : List Ent) (t : List UInt8), dec k l last acc = (es, t, 0) →
    ∃ xs, es = acc ++ xs ∧ l = encs xs ++ t ∧ xs.length = k ∧ (∀ e ∈ xs, Fits e) ∧ risesFrom last (keys xs) = true
  | 0, l, last, acc, es, t, h => by
    simp only [dec, Prod.mk.injEq, and_true] at h
    obtain ⟨rfl, rfl⟩ := h
    exact ⟨[], by simp, by simp [encs], rfl, by simp, rfl⟩
  | _ + 1, [], _, _, _, _, h => by simp [dec] at h
  | k + 1, b :: r, last, acc, es, t, h => by
    rw [dec] at h
    split at h
    · simp at h
    split at h
    · simp at h
    split at h
    · simp at h
    rename_i h1 h2 h3
    obtain ⟨xs, rfl, hl, hk, hf, hr⟩ := encs_dec k _ _ _ _ _ h
    have hlen : (r.take b.toNat).length = b.toNat := by rw [List.length_take]; omega
    have h8 : ((r.drop b.toNat).take 8).length = 8 := by rw [List.length_take, List.length_drop]; omega
    have hn := num_lt ((r.drop b.toNat).take 8)
    rw [h8] at hn
    have hbe := be_num ((r.drop b.toNat).take 8)
    rw [h8] at hbe
    refine ⟨⟨r.take b.toNat, num ((r.drop b.toNat).take 8)⟩ :: xs, by simp, ?_, by simp [hk], ?_, ?_⟩
    · show b :: r = (encE _ ++ encs xs) ++ t
      rw [List.append_assoc, ← hl]
      show b :: r = UInt8.ofNat (r.take b.toNat).length :: (r.take b.toNat ++ be _ 8) ++ _
      rw [hlen, hbe]
      rw [show UInt8.ofNat b.toNat = b from by simp]
      rw [List.cons_append, List.append_assoc, ← List.drop_drop, List.take_append_drop, List.take_append_drop]
    · intro e he
      rcases List.mem_cons.1 he with rfl | he
      · exact ⟨by simpa using h2, by omega⟩
      · exact hf e he
    · simp only [keys, List.map_cons, risesFrom, Bool.and_eq_true]
      exact ⟨by simpa using h3, hr⟩
/-- a front of what is right is short -/
theorem dec_short : ∀ (es : List Ent) (last : List UInt8) (acc : List Ent) (i : Nat), (∀ e ∈ es, Fits e) → risesFrom last (keys es) = true → i < (encs es).length → dec es.length ((encs es).take i) last acc = ([], [], 41)
  | [], _, _, i, _, _, h => by simp [encs] at h
  | e :: r, last, acc, i, hf, hr, hi => by
    simp only [keys, List.map_cons, risesFrom, Bool.and_eq_true] at hr
    obtain ⟨hk1, hk2⟩ := right_len (hf e (by simp)).1
    have hb := len_u8 hk2
    have hlen := encE_len e
    have he : encs (e :: r) = encE e ++ encs r := by simp [encs]
    rw [he] at hi ⊢
    rw [List.length_append] at hi
    rw [List.length_cons]
    by_cases h : i < (encE e).length
    · rw [List.take_append_of_le_length (by omega)]
      cases i with
      | zero => simp [dec]
      | succ i =>
        show dec (r.length + 1) (UInt8.ofNat e.key.length :: ((e.key ++ be e.till 8).take i)) last acc = _
        rw [dec, hb, if_pos (by rw [List.length_take]; omega)]
    · obtain ⟨j, rfl⟩ : ∃ j, i = (encE e).length + j := ⟨i - (encE e).length, by omega⟩
      rw [List.take_length_add_append, dec_step (hf e (by simp)), hr.1, if_neg (by simp)]
      exact dec_short r e.key (acc ++ [e]) j (fun x hx => hf x (by simp [hx])) hr.2 (by omega)

/-- a snapshot that may be -/
structure May (s : Snap) : Prop where
  clock : s.clock < 18446744073709551616
  fits : ∀ e ∈ s.es, Fits e
  rise : rises (keys s.es) = true
  few : s.es.length < 4294967296
theorem May.right {s : Snap} (h : May s) : (keys s.es).all key.right = true := by
  rw [List.all_eq_true]
  intro k hk
  obtain ⟨e, he, rfl⟩ := List.mem_map.1 hk
  exact (h.fits e he).1
theorem May.from_ {s : Snap} (h : May s) : risesFrom [] (keys s.es) = true := by rw [← rises_from_nil h.right]; exact h.rise
theorem encode_may {s : Snap} (h : May s) : encode s = (bodyOf s, 0) := by
  unfold encode
  rw [h.right, h.rise]
  simp
theorem body_parts (s : Snap) (t : List UInt8) : (bodyOf s ++ t).take 4 = magic ∧ ((bodyOf s ++ t).drop 4).take 8 = be s.clock 8 ∧ ((bodyOf s ++ t).drop 12).take 4 = be s.es.length 4 ∧ (bodyOf s ++ t).drop 16 = encs s.es ++ t := by
  obtain ⟨c, hc, hcl⟩ : ∃ c, c = be s.clock 8 ∧ c.length = 8 := ⟨_, rfl, be_len _ _⟩
  obtain ⟨n, hn, hnl⟩ : ∃ n, n = be s.es.length 4 ∧ n.length = 4 := ⟨_, rfl, be_len _ _⟩
  unfold bodyOf
  rw [← hc, ← hn]
  simp only [List.append_assoc]
  have e4 : (magic ++ (c ++ (n ++ (encs s.es ++ t)))).drop 4 = c ++ (n ++ (encs s.es ++ t)) := rfl
  have e12 : (magic ++ (c ++ (n ++ (encs s.es ++ t)))).drop 12 = n ++ (encs s.es ++ t) := by
    rw [show 12 = 4 + c.length from by omega, ← List.drop_drop, e4, List.drop_left]
  have e16 : (magic ++ (c ++ (n ++ (encs s.es ++ t)))).drop 16 = encs s.es ++ t := by
    rw [show 16 = 12 + n.length from by omega, ← List.drop_drop, e12, List.drop_left]
  refine ⟨rfl, ?_, ?_, e16⟩
  · rw [e4, ← hcl, List.take_left]
  · rw [e12, ← hnl, List.take_left]
theorem body_16 (s : Snap) : 16 ≤ (bodyOf s).length := by
  rw [body_len, sizeOf_encs]
  omega
theorem decode_more {s : Snap} (h : May s) (t : List UInt8) : decode (bodyOf s ++ t) = if t = [] then (s, 0) else (nosnap, 43) := by
  obtain ⟨p1, p2, p3, p4⟩ := body_parts s t
  have h16 := body_16 s
  unfold decode
  rw [p1, p2, p3, p4, num_be_lt (by have := h.few; omega), num_be_lt (by have := h.clock; omega), dec_encs s.es [] t [] h.fits h.from_]
  rw [if_neg (by simp), if_neg (by rw [List.length_append]; omega), if_neg (by simp)]
  by_cases ht : t = []
  · simp [ht]
  · simp [ht]
theorem decode_body {s : Snap} (h : May s) : decode (bodyOf s) = (s, 0) := by
  have := decode_more h []
  simpa using this
theorem decode_front {s : Snap} (h : May s) (i : Nat) (hi : i < (bodyOf s).length) : decode ((bodyOf s).take i) = (nosnap, if i < 4 then 40 else 41) := by
  obtain ⟨p1, p2, p3, p4⟩ := body_parts s []
  simp only [List.append_nil] at p1 p2 p3 p4
  have hl : ((bodyOf s).take i).length = i := by rw [List.length_take]; omega
  by_cases h4 : i < 4
  · rw [if_pos h4]
    unfold decode
    rw [if_pos]
    intro e
    have := congrArg List.length e
    rw [List.length_take, hl] at this
    simp [magic] at this
    omega
  · rw [if_neg h4]
    have e1 : ((bodyOf s).take i).take 4 = magic := by rw [List.take_take, Nat.min_eq_left (by omega), p1]
    unfold decode
    rw [e1, if_neg (by simp)]
    by_cases h16 : i < 16
    · rw [if_pos (by omega)]
    · rw [if_neg (by omega)]
      have e2 : (((bodyOf s).take i).drop 12).take 4 = be s.es.length 4 := by
        rw [List.drop_take, List.take_take, Nat.min_eq_left (by omega), p3]
      have e3 : ((bodyOf s).take i).drop 16 = (encs s.es).take (i - 16) := by rw [List.drop_take, p4]
      have hb := body_len s
      rw [sizeOf_encs] at hb
      rw [e2, e3, num_be_lt (by have := h.few; omega), dec_short s.es [] [] (i - 16) h.fits h.from_ (by omega)]
      simp
theorem decode_again {l : List UInt8} (h : (decode l).2 = 0) : May (decode l).1 ∧ bodyOf (decode l).1 = l := by
  unfold decode at h ⊢
  split at h
  · simp at h
  rename_i h1
  split at h
  · simp at h
  rename_i h2
  split at h
  · rename_i h3
    exact absurd h h3
  rename_i h3
  split at h
  · simp at h
  rename_i h4
  rw [if_neg h1, if_neg h2, if_neg h3, if_neg h4]
  obtain ⟨es, hes⟩ : ∃ x, x = dec (num ((l.drop 12).take 4)) (l.drop 16) [] [] := ⟨_, rfl⟩
  rw [← hes] at h3 h4 ⊢
  obtain ⟨es, t, e⟩ := es
  simp only [ne_eq, Decidable.not_not] at h1 h3 h4
  subst h3 h4
  obtain ⟨xs, hx, hl, hk, hf, hr⟩ := encs_dec _ _ _ _ _ _ hes.symm
  simp only [List.nil_append] at hx
  subst hx
  have l4 : ((l.drop 12).take 4).length = 4 := by rw [List.length_take, List.length_drop]; omega
  have l8 : ((l.drop 4).take 8).length = 8 := by rw [List.length_take, List.length_drop]; omega
  have n4 := num_lt ((l.drop 12).take 4)
  have n8 := num_lt ((l.drop 4).take 8)
  have b4 := be_num ((l.drop 12).take 4)
  have b8 := be_num ((l.drop 4).take 8)
  rw [l4] at n4 b4
  rw [l8] at n8 b8
  simp only [List.append_nil] at hl
  have hall : (keys es).all right = true := by
    rw [List.all_eq_true]
    intro k hk
    obtain ⟨e, he, rfl⟩ := List.mem_map.1 hk
    exact (hf e he).1
  refine ⟨⟨by show num _ < _; omega, hf, by rw [rises_from_nil hall]; exact hr, by show es.length < _; omega⟩, ?_⟩
  show magic ++ (be (num ((l.drop 4).take 8)) 8 ++ (be es.length 4 ++ encs es)) = l
  rw [hk, b4, b8, ← hl, ← h1]
  rw [show l.drop 16 = (l.drop 12).drop 4 from by rw [List.drop_drop], List.take_append_drop]
  rw [show l.drop 12 = (l.drop 4).drop 8 from by rw [List.drop_drop], List.take_append_drop, List.take_append_drop]
end Go.Proofs.YthlaigpopplafaaDoor.pack
