/- Decimal digits, in plain Lean: what is printed, what is read. No program here. -/
import Derived.RowKit
namespace Go.Proofs.Ytcgcfgomakaacaa.dig

/-- the last digit's byte -/
def dg (n : Nat) : UInt8 := UInt8.ofNat (48 + n % 10)
theorem dg_toNat (n : Nat) : (dg n).toNat = 48 + n % 10 := by
  unfold dg
  rw [UInt8.toNat_ofNat']
  omega

/-- digits laid ahead of acc, f of them at the most -/
def digsF : Nat → Nat → List UInt8 → List UInt8
  | 0, _, acc => acc
  | f + 1, n, acc => if n / 10 = 0 then dg n :: acc else digsF f (n / 10) (dg n :: acc)
def digs (n : Nat) : List UInt8 := digsF 20 n []

/-- n has m digits at the most -/
def Fit (m n : Nat) : Prop := n < 10 ^ m
theorem Fit.top {n : Nat} (h : n ≤ 18446744073709551615) : Fit 20 n := by
  unfold Fit
  exact Nat.lt_of_le_of_lt h (by decide)
theorem Fit.div {m n : Nat} (h : Fit (m + 1) n) : Fit m (n / 10) := by
  unfold Fit at h ⊢
  rw [Nat.pow_succ] at h
  exact Nat.div_lt_of_lt_mul (by omega)
theorem Fit.zero {n : Nat} (h : Fit 0 n) : n = 0 := by
  unfold Fit at h
  simpa using h

theorem digsF_acc : ∀ (f n : Nat) (acc : List UInt8), digsF f n acc = digsF f n [] ++ acc
  | 0, n, acc => by simp [digsF]
  | f + 1, n, acc => by
    unfold digsF
    split
    · rfl
    · rw [digsF_acc f (n / 10) (dg n :: acc), digsF_acc f (n / 10) [dg n]]
      simp
theorem digsF_len : ∀ (f n : Nat) (acc : List UInt8), (digsF f n acc).length ≤ f + acc.length
  | 0, n, acc => by simp [digsF]
  | f + 1, n, acc => by
    unfold digsF
    split
    · simp; omega
    · have := digsF_len f (n / 10) (dg n :: acc)
      simp at this
      omega
theorem digs_len (n : Nat) : (digs n).length ≤ 20 := by
  have := digsF_len 20 n []
  simpa [digs] using this
/-- fuel does not matter where the digits fit -/
theorem digsF_fuel : ∀ (f n : Nat) (acc : List UInt8), Fit (f + 1) n → digsF (f + 2) n acc = digsF (f + 1) n acc
  | 0, n, acc, h => by
    have h0 : n / 10 = 0 := h.div.zero
    simp [digsF, h0]
  | f + 1, n, acc, h => by
    have e1 : digsF (f + 1 + 2) n acc = if n / 10 = 0 then dg n :: acc else digsF (f + 2) (n / 10) (dg n :: acc) := rfl
    have e2 : digsF (f + 1 + 1) n acc = if n / 10 = 0 then dg n :: acc else digsF (f + 1) (n / 10) (dg n :: acc) := rfl
    rw [e1, e2, digsF_fuel f (n / 10) _ h.div]

/-- one step: the digits of n are those of n/10, and the last -/
theorem digs_step {n : Nat} (hn : n ≤ 18446744073709551615) (h : 10 ≤ n) : digs n = digs (n / 10) ++ [dg n] := by
  have h1 : Fit 20 n := Fit.top hn
  unfold digs
  rw [digsF, if_neg (by omega), digsF_acc 19 (n / 10) [dg n], digsF_fuel 18 (n / 10) [] h1.div]
theorem digs_small {n : Nat} (h : n < 10) : digs n = [dg n] := by
  unfold digs
  rw [digsF, if_pos (by omega)]
theorem digs_ne_nil (n : Nat) : digs n ≠ [] := by
  unfold digs digsF
  split
  · simp
  · rw [digsF_acc]
    simp

/-- is a byte a digit? -/
def isDig (c : UInt8) : Bool := decide (48 ≤ c.toNat) && decide (c.toNat ≤ 57)
def dv (c : UInt8) : Nat := c.toNat - 48
/-- the value of digits -/
def val (l : List UInt8) : Nat := l.foldl (fun a c => a * 10 + dv c) 0
theorem val_snoc (l : List UInt8) (c : UInt8) : val (l ++ [c]) = val l * 10 + dv c := by simp [val]
theorem isDig_dg (n : Nat) : isDig (dg n) = true := by
  unfold isDig
  rw [dg_toNat]
  simp
  omega
theorem dv_dg (n : Nat) : dv (dg n) = n % 10 := by
  unfold dv
  rw [dg_toNat]
  omega

/-- does it begin with a nought, and go on? -/
def lead (l : List UInt8) : Bool := match l with
  | [] => true
  | c :: r => decide (c.toNat = 48) && !r.isEmpty
/-- what is read: the number, and the error -/
def parse (l : List UInt8) : Nat × Nat :=
  if lead l || !l.all isDig then (0, 10) else if 18446744073709551616 ≤ val l then (0, 11) else (val l, 0)

theorem parse_lead {l : List UInt8} (h : lead l = true) : parse l = (0, 10) := by simp [parse, h]
theorem parse_bad {l : List UInt8} {c : UInt8} (hc : c ∈ l) (h : isDig c = false) : parse l = (0, 10) := by
  have ha : l.all isDig = false := by
    rw [List.all_eq_false]
    exact ⟨c, hc, by simp [h]⟩
  simp [parse, ha]
theorem parse_big {l : List UInt8} (h : lead l = false) (ha : l.all isDig = true) (hv : 18446744073709551616 ≤ val l) : parse l = (0, 11) := by
  simp [parse, h, ha, hv]
theorem parse_ok {l : List UInt8} (h : lead l = false) (ha : l.all isDig = true) (hv : val l < 18446744073709551616) : parse l = (val l, 0) := by
  have : ¬ 18446744073709551616 ≤ val l := by omega
  simp [parse, h, ha, this]
theorem parse_le (l : List UInt8) : (parse l).1 ≤ 18446744073709551615 := by
  unfold parse
  split
  · simp
  · split
    · simp
    · simp only; omega
theorem parse_err (l : List UInt8) : (parse l).2 = 0 ∨ (parse l).2 = 10 ∨ (parse l).2 = 11 := by
  unfold parse
  split
  · simp
  · split <;> simp
theorem lead_size (s : ByteArray) (h : s.size = 0) : lead s.data.toList = true := by
  have : s.data.toList = [] := List.eq_nil_of_length_eq_zero (by simpa using h)
  rw [this]
  rfl
theorem lead_list (l : List UInt8) (h : 0 < l.length) : lead l = (decide (l[0].toNat = 48) && decide (1 < l.length)) := by
  cases l with
  | nil => simp at h
  | cons c r => cases r <;> simp [lead]
theorem lead_of (s : ByteArray) (h : 0 < s.size) : lead s.data.toList = (decide (s[0].toNat = 48) && decide (1 < s.size)) := lead_list s.data.toList h

theorem take_snoc (s : ByteArray) (k : Nat) (h : k < s.size) : s.data.toList.take (k + 1) = s.data.toList.take k ++ [s[k]] := by
  rw [List.take_succ_eq_append_getElem (by simpa using h)]; rfl
theorem mem_at (s : ByteArray) (k : Nat) (h : k < s.size) : s[k] ∈ s.data.toList := List.getElem_mem (l := s.data.toList) (by simpa using h)
theorem take_all (s : ByteArray) (k : Nat) (h : s.size ≤ k) : s.data.toList.take k = s.data.toList := List.take_of_length_le (by simpa using h)

/-- how far a text has been read: n is its value, but for what is lost beyond 64 bits -/
def Read (l : List UInt8) (n : Nat) (big : Bool) : Prop := l.all isDig = true ∧ n = val l % 18446744073709551616 ∧ big = decide (18446744073709551616 ≤ val l)
theorem Read.nil : Read [] 0 false := ⟨rfl, rfl, by simp [val]⟩
theorem Read.le {l : List UInt8} {n : Nat} {big : Bool} (h : Read l n big) : n ≤ 18446744073709551615 := by rw [h.2.1]; omega
theorem isDig_of {c : UInt8} (h1 : 48 ≤ c.toNat) (h2 : c.toNat ≤ 57) : isDig c = true := by simp [isDig, h1, h2]
theorem isDig_not {c : UInt8} (h : c.toNat < 48 ∨ 57 < c.toNat) : isDig c = false := by
  unfold isDig
  rcases h with h | h <;> simp <;> omega
theorem Read.snoc_big {l : List UInt8} {n m : Nat} {c : UInt8} (h : Read l n true) (h1 : 48 ≤ c.toNat) (h2 : c.toNat ≤ 57) (hm : m = (n * 10 + (c.toNat - 48)) % 18446744073709551616) : Read (l ++ [c]) m true := by
  obtain ⟨ha, hn, hb⟩ := h
  have hb' : 18446744073709551616 ≤ val l := by simpa using hb.symm
  refine ⟨by simp [ha, isDig_of h1 h2], ?_, ?_⟩
  · rw [val_snoc, hm, hn, dv]; omega
  · rw [val_snoc]; simp; omega
theorem Read.snoc {l : List UInt8} {n m : Nat} {c : UInt8} {b : Bool} (h : Read l n false) (h1 : 48 ≤ c.toNat) (h2 : c.toNat ≤ 57) (hm : m = (n * 10 + (c.toNat - 48)) % 18446744073709551616)
    (hb : b = decide ((18446744073709551615 - (c.toNat - 48)) / 10 < n)) : Read (l ++ [c]) m b := by
  obtain ⟨ha, hn, hf⟩ := h
  have hf' : val l < 18446744073709551616 := by simpa using hf.symm
  have e : n = val l := by omega
  subst e
  refine ⟨by simp [ha, isDig_of h1 h2], ?_, ?_⟩
  · rw [val_snoc, hm, dv]
  · rw [val_snoc, hb, dv]
    congr 1
    apply propext
    omega
end Go.Proofs.Ytcgcfgomakaacaa.dig
