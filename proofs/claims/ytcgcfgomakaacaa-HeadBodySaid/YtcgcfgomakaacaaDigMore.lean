/- Decimal digits, in plain Lean: what is printed is read, what is read is printed. -/
import Derived.Test.YtcgcfgomakaacaaDigPlain
namespace Go.Proofs.Ytcgcfgomakaacaa.dig

theorem dg_small {n : Nat} (h : n < 10) : dg n = UInt8.ofNat (48 + n) := by
  unfold dg
  rw [Nat.mod_eq_of_lt h]
theorem dg_dv {c : UInt8} (h : isDig c = true) {n : Nat} (hn : n % 10 = dv c) : dg n = c := by
  apply UInt8.toNat_inj.1
  rw [dg_toNat, hn]
  simp [isDig] at h
  unfold dv
  omega
theorem dv_lt {c : UInt8} (h : isDig c = true) : dv c < 10 := by
  simp [isDig] at h
  unfold dv
  omega

/-- the first digit is no nought, but for the nought itself -/
theorem digs_all (n : Nat) (hn : n ≤ 18446744073709551615) : (digs n).all isDig = true ∧ val (digs n) = n ∧ (1 ≤ n → ∃ c r, digs n = c :: r ∧ c.toNat ≠ 48) := by
  induction n using Nat.strongRecOn with
  | _ n ih =>
    by_cases h : n < 10
    · rw [digs_small h]
      refine ⟨by simp [isDig_dg], by simp [val, dv_dg]; omega, fun h1 => ⟨dg n, [], rfl, ?_⟩⟩
      rw [dg_toNat]; omega
    · obtain ⟨h1, h2, h3⟩ := ih (n / 10) (by omega) (by omega)
      rw [digs_step hn (by omega)]
      refine ⟨by simp [h1, isDig_dg], by rw [val_snoc, h2, dv_dg]; omega, fun _ => ?_⟩
      obtain ⟨c, r, e, hc⟩ := h3 (by omega)
      exact ⟨c, r ++ [dg n], by rw [e]; rfl, hc⟩
theorem lead_digs (n : Nat) (hn : n ≤ 18446744073709551615) : lead (digs n) = false := by
  by_cases h : 1 ≤ n
  · obtain ⟨c, r, e, hc⟩ := (digs_all n hn).2.2 h
    rw [e]
    simp [lead, hc]
  · rw [digs_small (by omega)]
    simp [lead]
/-- what is printed is read -/
theorem parse_digs (n : Nat) (hn : n ≤ 18446744073709551615) : parse (digs n) = (n, 0) := by
  obtain ⟨h1, h2, -⟩ := digs_all n hn
  rw [parse_ok (lead_digs n hn) h1 (by omega), h2]

/-- digits that do not begin with a nought are the digits of their value -/
theorem digs_val : ∀ (f : Nat) (l : List UInt8), l.length = f → l.all isDig = true → val l ≤ 18446744073709551615 → (∃ c r, l = c :: r ∧ c.toNat ≠ 48) → 1 ≤ val l ∧ digs (val l) = l := by
  intro f
  induction f with
  | zero =>
    intro l hl _ _ ⟨c, r, e, _⟩
    rw [e] at hl
    simp at hl
  | succ f ih =>
    intro l hl ha hv ⟨c, r, e, hc⟩
    have hne : l ≠ [] := by rw [e]; simp
    have hsplit := (List.dropLast_concat_getLast hne).symm
    generalize l.dropLast = m at *
    generalize l.getLast hne = d at *
    subst hsplit
    have hd : isDig d = true := by
      rw [List.all_append] at ha
      simp at ha
      exact ha.2
    rw [val_snoc] at hv ⊢
    have hlt := dv_lt hd
    cases m with
    | nil =>
      simp at e
      obtain ⟨rfl, -⟩ := e
      have h1 : 1 ≤ dv d := by
        simp [isDig] at hd
        unfold dv
        omega
      refine ⟨by simp [val]; omega, ?_⟩
      rw [digs_small (by simp [val]; omega)]
      rw [dg_dv hd (by simp [val]; omega)]
      rfl
    | cons x m =>
      have hx : x.toNat ≠ 48 := by
        simp at e
        rw [e.1]
        exact hc
      obtain ⟨h1, h2⟩ := ih (x :: m) (by simpa using hl) (by rw [List.all_append] at ha; simp at ha ⊢; exact ha.1) (by omega) ⟨x, m, rfl, hx⟩
      refine ⟨by omega, ?_⟩
      rw [digs_step hv (by omega), dg_dv hd (by omega), show (val (x :: m) * 10 + dv d) / 10 = val (x :: m) from by omega, h2]
/-- what is read is printed as it was -/
theorem digs_parse (l : List UInt8) (h : (parse l).2 = 0) : digs (parse l).1 = l := by
  by_cases hl : lead l = true
  · rw [parse_lead hl] at h; cases h
  by_cases ha : l.all isDig = true
  · by_cases hv : 18446744073709551616 ≤ val l
    · rw [parse_big (by simpa using hl) ha hv] at h; cases h
    · rw [parse_ok (by simpa using hl) ha (by omega)]
      show digs (val l) = l
      cases l with
      | nil => simp [lead] at hl
      | cons c r =>
        by_cases hc : c.toNat = 48
        · cases r with
          | nil =>
            have hd : isDig c = true := by simpa using ha
            have e : val [c] = dv c := by simp [val]
            rw [e, digs_small (dv_lt hd), dg_dv hd (Nat.mod_eq_of_lt (dv_lt hd))]
          | cons d r => simp [lead, hc] at hl
        · exact (digs_val _ (c :: r) rfl ha (by omega) ⟨c, r, rfl, hc⟩).2
  · have : ∃ c ∈ l, isDig c = false := by
      have : l.all isDig = false := by simpa using ha
      rw [List.all_eq_false] at this
      obtain ⟨c, hc, h⟩ := this
      exact ⟨c, hc, by simpa using h⟩
    obtain ⟨c, hc, hcd⟩ := this
    rw [parse_bad hc hcd] at h
    cases h
end Go.Proofs.Ytcgcfgomakaacaa.dig
