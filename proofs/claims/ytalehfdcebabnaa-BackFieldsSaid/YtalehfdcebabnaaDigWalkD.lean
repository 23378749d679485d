/- digit.Parse, walked. -/
import Derived.Test.YtalehfdcebabnaaDigWalkB
import Derived.Test.YtalehfdcebabnaaDigPlain
namespace Go.Proofs.Ytalehfdcebabnaa.dig
open Go.RowKit
open Go.Proofs.Ytalehfdcebabnaa.aid

/-- at the label: k bytes are read -/
def RJ (s : ByteArray) (w0 : World) (a : Act) (w : World) : Prop :=
  ∃ (k n : Nat) (big : Bool) (u7 u8 u9 u10 u11 u12 u13 u14 u15 u16 u17 u18 u19 u20 u21 u22 u23 u24 u25 u26 u27 u28 u29 u30 u31 u32 u33 u34 u35 u36 u37 u38 u39 u40 u41 u42 u43 u44 u45 u46 : Value),
    a = { tmps := #[.string s, undef, .int .u64 0, .int .u16 0, .int .u64 n, .bool big, .int .i64 k, u7, u8, u9, u10, u11, u12, u13, u14, u15, u16, u17, u18, u19, u20, u21, u22, u23, u24, u25, u26, u27, u28, u29, u30, u31, u32, u33, u34, u35, u36, u37, u38, u39, u40, u41, u42, u43, u44, u45, u46], defers := [] } ∧
    k < s.size ∧ Read (s.data.toList.take k) n big ∧ w = w0

theorem str_nil {s : ByteArray} (h : s.size = 0) : s.toList = [] := by
  rw [ByteArray.toList_eq]
  exact List.eq_nil_of_length_eq_zero (by simpa using h)
theorem str_ne {s : ByteArray} (h : 0 < s.size) : ¬ s.toList = [] := by
  rw [ByteArray.toList_eq]
  intro e
  have : s.data.toList.length = 0 := by rw [e]; rfl
  have h2 : s.size = s.data.toList.length := rfl
  omega
theorem str_ne' {s : ByteArray} (h : 0 < s.size) : s.toList.isEmpty = false := by simpa using str_ne h

set_option maxHeartbeats 400000 in
theorem parse_lead_any (s : ByteArray) (hs : s.size ≤ 9223372036854775807) (hl : lead s.data.toList = true) (w : World) :
    Calls Try.prog 16 #[.string s] w fun e w' => e = .returned (.tuple #[.int .u64 0, .int .u16 10]) ∧ w = w' := by
  rcases Nat.eq_zero_or_pos s.size with h0 | h0
  · have hn := str_nil h0
    go_enter Try.func16, Try.ntmps16
    go_wp2
    refine wp_scope_once 0 (fun a' w' => False) (fun a' _ => 0) rfl (fun _ _ h => h.elim) ?_
    intro HR
    go_wp2
    try rw [jump_ret]
    go_ret2
    exact ⟨rfl, rfl⟩
  · have hz := lead_of s h0
    rw [hl] at hz
    have h1 : s[0].toNat = 48 := by
      have : (decide (s[0].toNat = 48) && decide (1 < s.size)) = true := hz.symm
      simp at this
      exact this.1
    have h2 : 1 < s.size := by
      have : (decide (s[0].toNat = 48) && decide (1 < s.size)) = true := hz.symm
      simp at this
      exact this.2
    have h48 : ((s[0].toNat : Int) == 48) = true := by simp; omega
    have hne := str_ne h0
    have hne' := str_ne' h0
    clear hz hl h1
    go_enter Try.func16, Try.ntmps16
    go_wp2
    refine wp_scope_once 0 (fun a' w' => False) (fun a' _ => 0) rfl (fun _ _ h => h.elim) ?_
    intro HR
    go_wp2
    try rw [jump_ret]
    go_ret2
    exact ⟨rfl, rfl⟩

theorem wrap_u64 (x : Int) : IntKind.u64.wrap x = x % 18446744073709551616 := by
  simp [IntKind.wrap, IntKind.bits, IntKind.signed]
theorem wrap_step (n : Nat) (c : UInt8) (h1 : 48 ≤ c.toNat) :
    IntKind.u64.wrap (IntKind.u64.wrap ((n : Int) * 10) + ((c.toNat : Int) - 48)) = (((n * 10 + (c.toNat - 48)) % 18446744073709551616 : Nat) : Int) := by
  rw [wrap_u64, wrap_u64]
  omega
theorem wrap_bad (c : UInt8) (h : c.toNat < 48 ∨ 57 < c.toNat) : 10 ≤ IntKind.u64.wrap ((c.toNat : Int) - 48) := by
  have := c.toNat_lt
  rw [wrap_u64]
  omega

set_option maxHeartbeats 400000 in
theorem parse_go_any (s : ByteArray) (hs : s.size ≤ 9223372036854775807) (hnl : lead s.data.toList = false) (w : World) :
    Calls Try.prog 16 #[.string s] w fun e w' => e = .returned (.tuple #[.int .u64 (parse s.data.toList).1, .int .u16 (parse s.data.toList).2]) ∧ w = w' := by
  have h0 : 0 < s.size := by
    rcases Nat.eq_zero_or_pos s.size with h | h
    · rw [lead_size s h] at hnl; cases hnl
    · exact h
  have hz := lead_of s h0
  rw [hnl] at hz
  have hz2 : ((s[0].toNat : Int) == 48) = false ∨ ((s[0].toNat : Int) == 48) = true ∧ s.size ≤ 1 := by
    by_cases h : s[0].toNat = 48
    · right
      have h1 : (decide (s[0].toNat = 48) && decide (1 < s.size)) = false := hz.symm
      simp [h] at h1
      exact ⟨by simp; omega, h1⟩
    · left; simp; omega
  have HN := Lib.hid hnl
  have hne := str_ne h0
  have hne' := str_ne' h0
  clear hz hnl
  go_enter Try.func16, Try.ntmps16
  go_wp2
  refine wp_scope_once 0 (fun a' w' => RJ s w a' w') (fun a' _ => s.size - (intOf (a'.tmps.getD 6 undef)).toNat) rfl ?_ ?_
  · clear hz2 hne hne'
    rintro a' w' ⟨k, n, big, u7, u8, u9, u10, u11, u12, u13, u14, u15, u16, u17, u18, u19, u20, u21, u22, u23, u24, u25, u26, u27, u28, u29, u30, u31, u32, u33, u34, u35, u36, u37, u38, u39, u40, u41, u42, u43, u44, u45, u46, rfl, hk, hr, rfl⟩
    have hd0 : (s[k].toNat : Int) ≤ 255 := by have := s[k].toNat_lt; omega
    by_cases hd : 48 ≤ s[k].toNat ∧ s[k].toNat ≤ 57
    · obtain ⟨hd1, hd2⟩ := hd
      have hd3 : (48 : Int) ≤ s[k].toNat := by omega
      have hd4 : (s[k].toNat : Int) ≤ 57 := by omega
      obtain ⟨m, hm⟩ : ∃ m, m = (n * 10 + (s[k].toNat - 48)) % 18446744073709551616 := ⟨_, rfl⟩
      have hW := wrap_step n s[k] hd1
      rw [← hm] at hW
      have hts := take_snoc s k hk
      obtain ⟨b2, hr2, hb2⟩ : ∃ b2, Read (s.data.toList.take (k + 1)) m b2 ∧ (big = true ∧ b2 = true ∨ big = false ∧ b2 = decide ((18446744073709551615 - ((s[k].toNat : Int) - 48)) / 10 < n)) := by
        rcases Bool.eq_false_or_eq_true big with rfl | rfl
        · exact ⟨true, by rw [hts]; exact hr.snoc_big hd1 hd2 hm, .inl ⟨rfl, rfl⟩⟩
        · refine ⟨_, by rw [hts]; exact hr.snoc hd1 hd2 hm rfl, .inr ⟨rfl, ?_⟩⟩
          apply decide_eq_decide.2
          omega
      have HR2 := Lib.hid hr2
      clear hr hm hts hr2
      by_cases hk2 : k + 1 < s.size
      · rcases hb2 with ⟨rfl, rfl⟩ | ⟨rfl, hb2⟩
        · go_wp2
          go_step3
          exact ⟨rfl, ⟨k + 1, m, _, _, _, _, _, _, _, _, _, _, _, _, _, _, _, _, _, _, _, _, _, _, _, _, _, _, _, _, _, _, _, _, _, _, _, _, _, _, _, _, _, rfl, hk2, HR2.out, rfl⟩, by simp [intOf]; omega⟩
        · cases b2
          · have hb3 : (n : Int) ≤ (18446744073709551615 - ((s[k].toNat : Int) - 48)) / 10 := by simpa using hb2.symm
            have hb4 := hb2.symm
            have hW2 : (n : Int) * 10 + ((s[k].toNat : Int) - 48) = m := by rw [wrap_u64, wrap_u64] at hW; omega
            clear hb2 hW
            go_wp2
            go_step3
            exact ⟨rfl, ⟨k + 1, m, _, _, _, _, _, _, _, _, _, _, _, _, _, _, _, _, _, _, _, _, _, _, _, _, _, _, _, _, _, _, _, _, _, _, _, _, _, _, _, _, _, rfl, hk2, HR2.out, rfl⟩, by simp [intOf]; omega⟩
          · have hb3 : (18446744073709551615 - ((s[k].toNat : Int) - 48)) / 10 < (n : Int) := by simpa using hb2.symm
            clear hb2
            go_wp2
            go_step3
            exact ⟨rfl, ⟨k + 1, m, _, _, _, _, _, _, _, _, _, _, _, _, _, _, _, _, _, _, _, _, _, _, _, _, _, _, _, _, _, _, _, _, _, _, _, _, _, _, _, _, _, rfl, hk2, HR2.out, rfl⟩, by simp [intOf]; omega⟩
      · have hk3 : s.size ≤ k + 1 := by omega
        have hfin : parse s.data.toList = if b2 then (0, 11) else (m, 0) := by
          have h := HR2.out
          rw [take_all s (k + 1) hk3] at h
          obtain ⟨ha, hm, hb⟩ := h
          cases b2
          · have : val s.data.toList < 18446744073709551616 := by simpa using hb.symm
            rw [parse_ok HN.out ha this]
            simp; omega
          · rw [parse_big HN.out ha (by simpa using hb.symm)]
            rfl
        have HF := Lib.hid hfin
        clear hfin hk2
        rcases hb2 with ⟨rfl, rfl⟩ | ⟨rfl, hb2⟩
        · go_wp2
          try rw [jump_ret]
          go_ret2
          rw [HF.out]
          exact ⟨rfl, rfl⟩
        · cases b2
          · have hb3 : (n : Int) ≤ (18446744073709551615 - ((s[k].toNat : Int) - 48)) / 10 := by simpa using hb2.symm
            have hb4 := hb2.symm
            have hW2 : (n : Int) * 10 + ((s[k].toNat : Int) - 48) = m := by rw [wrap_u64, wrap_u64] at hW; omega
            clear hb2 hW
            go_wp2
            try rw [jump_ret]
            go_ret2
            rw [HF.out]
            exact ⟨rfl, rfl⟩
          · have hb3 : (18446744073709551615 - ((s[k].toNat : Int) - 48)) / 10 < (n : Int) := by simpa using hb2.symm
            clear hb2
            go_wp2
            try rw [jump_ret]
            go_ret2
            rw [HF.out]
            exact ⟨rfl, rfl⟩
    · have hb := wrap_bad s[k] (by omega)
      have hfin := parse_bad (mem_at s k hk) (isDig_not (by omega))
      have HF := Lib.hid hfin
      clear hfin hd
      go_wp2
      try rw [jump_ret]
      go_ret2
      rw [HF.out]
      exact ⟨rfl, rfl⟩
  · intro HR
    rcases hz2 with hz2 | ⟨hz2, hz3⟩
    all_goals
      go_wp2
      refine wp_label ?_
      rename_i K hK
      refine hK _ _ (HR.out _ _ ?_)
      exact ⟨0, 0, false, _, _, _, _, _, _, _, _, _, _, _, _, _, _, _, _, _, _, _, _, _, _, _, _, _, _, _, _, _, _, _, _, _, _, _, _, _, _, _, _, rfl, h0, Read.nil, rfl⟩

theorem parse_any (s : ByteArray) (hs : s.size ≤ 9223372036854775807) (w : World) :
    Calls Try.prog 16 #[.string s] w fun e w' => e = .returned (.tuple #[.int .u64 (parse s.data.toList).1, .int .u16 (parse s.data.toList).2]) ∧ w = w' := by
  rcases Bool.eq_false_or_eq_true (lead s.data.toList) with h | h
  · rw [parse_lead h]
    exact parse_lead_any s hs h w
  · exact parse_go_any s hs h w
end Go.Proofs.Ytalehfdcebabnaa.dig
