/- the reference's Parse, walked. -/
import Derived.Test.YtolohhjepjefiaaDigWalkD
namespace Go.Proofs.Ytolohhjepjefiaa.dig
open Go.RowKit
open Go.Proofs.Ytolohhjepjefiaa.aid

set_option maxHeartbeats 400000 in
theorem refparse_lead_any (s : ByteArray) (hs : s.size ≤ 9223372036854775807) (hl : lead s.data.toList = true) (w : World) :
    Calls Try.prog 29 #[.string s] w fun e w' => e = .returned (.tuple #[.int .u64 0, .int .i64 10]) ∧ w = w' := by
  rcases Nat.eq_zero_or_pos s.size with h0 | h0
  · have hn : ((s.size : Int) == 0) = true := beq_iff_eq.2 (by omega)
    go_enter Try.func29, Try.ntmps29
    go_wp2
    go_ret2
    exact ⟨rfl, rfl⟩
  · have hz := lead_of s h0
    rw [hl] at hz
    have h1 : s[0].toNat = 48 := by
      have : (decide (s[0].toNat = 48) && decide (1 < s.size)) = true := hz.symm
      simp at this
      exact this.1
    have h2 : (1 : Int) < s.size := by
      have : (decide (s[0].toNat = 48) && decide (1 < s.size)) = true := hz.symm
      simp at this
      have := this.2
      omega
    have h48 : ((s[0].toNat : Int) == 48) = true := by simp; omega
    have hne : ((s.size : Int) == 0) = false := beq_eq_false_iff_ne.2 (by omega)
    clear hz hl h1
    go_enter Try.func29, Try.ntmps29
    go_wp2
    go_ret2
    exact ⟨rfl, rfl⟩

theorem all_snoc {l : List UInt8} {c : UInt8} (h : l.all isDig = true) (h1 : 48 ≤ c.toNat) (h2 : c.toNat ≤ 57) : (l ++ [c]).all isDig = true := by simp [h, isDig_of h1 h2]

theorem isDig_le {c : UInt8} (h : isDig c = true) : (48 : Int) ≤ c.toNat ∧ (c.toNat : Int) ≤ 57 := by
  simp [isDig] at h
  omega
/-- n is the value of digits, and is not too great -/
def Got (l : List UInt8) (n : Nat) : Prop := n = val l ∧ val l < 18446744073709551616
theorem Got.nil : Got [] 0 := ⟨rfl, by simp [val]⟩
theorem Got.le {l : List UInt8} {n : Nat} (h : Got l n) : (n : Int) ≤ 18446744073709551615 := by have := h.1; have := h.2; omega
theorem Got.snoc {l : List UInt8} {n : Nat} {c : UInt8} (h : Got l n) (h1 : (48 : Int) ≤ c.toNat) (h2 : (c.toNat : Int) ≤ 57) (hb : n ≤ (18446744073709551615 - (c.toNat - 48)) / 10) :
    Got (l ++ [c]) (10 * n + (c.toNat - 48)) := by
  obtain ⟨h3, h4⟩ := h
  unfold Got
  rw [val_snoc, dv]
  omega
theorem fold_ge : ∀ (r : List UInt8) (a : Nat), a ≤ r.foldl (fun a c => a * 10 + dv c) a
  | [], a => Nat.le_refl _
  | c :: r, a => by
    have := fold_ge r (a * 10 + dv c)
    simp only [List.foldl_cons]
    omega
theorem val_mono (l r : List UInt8) : val l ≤ val (l ++ r) := by
  unfold val
  rw [List.foldl_append]
  exact fold_ge r _
theorem Got.big {s : ByteArray} {k n : Nat} (h : Got (s.data.toList.take k) n) (hl : lead s.data.toList = false) (hd : s.data.toList.all isDig = true) (hk : k < s.size)
    (h1 : (48 : Int) ≤ s[k].toNat) (h2 : (s[k].toNat : Int) ≤ 57) (hb : (18446744073709551615 - (s[k].toNat - 48)) / 10 < n) : parse s.data.toList = (0, 11) := by
  obtain ⟨h3, h4⟩ := h
  refine parse_big hl hd ?_
  have e : val (s.data.toList.take (k + 1)) ≤ val s.data.toList := by
    have := val_mono (s.data.toList.take (k + 1)) (s.data.toList.drop (k + 1))
    rwa [List.take_append_drop] at this
  rw [take_snoc s k hk, val_snoc, dv] at e
  omega

def Dig (l : List UInt8) : Prop := l.all isDig = true

set_option maxHeartbeats 400000 in
theorem refparse_go_any (s : ByteArray) (hs : s.size ≤ 9223372036854775807) (hnl : lead s.data.toList = false) (w : World) :
    Calls Try.prog 29 #[.string s] w fun e w' => e = .returned (.tuple #[.int .u64 (parse s.data.toList).1, .int .i64 (parse s.data.toList).2]) ∧ w = w' := by
  have h0 : 0 < s.size := by
    rcases Nat.eq_zero_or_pos s.size with h | h
    · rw [lead_size s h] at hnl; cases hnl
    · exact h
  have hz := lead_of s h0
  rw [hnl] at hz
  have hz2 : s.size ≤ 1 ∨ (1 : Int) < s.size ∧ ((s[0].toNat : Int) == 48) = false := by
    by_cases h : s.size ≤ 1
    · exact .inl h
    · right
      have h1 : (decide (s[0].toNat = 48) && decide (1 < s.size)) = false := hz.symm
      have h2 : decide (1 < s.size) = true := by simp; omega
      rw [h2] at h1
      simp at h1
      exact ⟨by omega, by simp; omega⟩
  have HN := Lib.hid hnl
  have hne : ((s.size : Int) == 0) = false := beq_eq_false_iff_ne.2 (by omega)
  clear hz hnl
  rcases hz2 with hz2 | ⟨hz2, hz3⟩
  all_goals
    go_enter Try.func29, Try.ntmps29
    go_wp2
    go_loop [4] (fun i => ∃ k : Nat, k ≤ s.size ∧ i = .int .i64 k ∧ Dig (s.data.toList.take k)) (fun i => s.size - (intOf i).toNat)
    case atStart => exact ⟨0, Nat.zero_le _, rfl, rfl⟩
    case round =>
      obtain ⟨k, hk, rfl, hd⟩ := hrel
      by_cases hlt : k < s.size
      · have hb8 : (s[k].toNat : Int) ≤ 255 := by have := s[k].toNat_lt; omega
        have hts := take_snoc s k hlt
        by_cases hdk : 48 ≤ s[k].toNat ∧ s[k].toNat ≤ 57
        · have hd3 : (48 : Int) ≤ s[k].toNat := by omega
          have hd4 : (s[k].toNat : Int) ≤ 57 := by omega
          have hnew : Dig (s.data.toList.take (k + 1)) := by rw [hts]; exact all_snoc hd hdk.1 hdk.2
          clear hts hdk hd
          go_wp2
          go_round
          case rel => exact ⟨k + 1, hlt, by go_num, hnew⟩
          case measure => simp [intOf]; omega
        · have HF := Lib.hid (parse_bad (mem_at s k hlt) (isDig_not (by omega)))
          clear hts hd
          rcases (show s[k].toNat < 48 ∨ 57 < s[k].toNat by omega) with h | h
          · have h' : (s[k].toNat : Int) < 48 := by omega
            clear hdk
            go_wp2
            go_ret2
            rw [HF.out]
            exact ⟨rfl, rfl⟩
          · have h' : (57 : Int) < s[k].toNat := by omega
            have h'' : (48 : Int) ≤ s[k].toNat := by omega
            clear hdk
            go_wp2
            go_ret2
            rw [HF.out]
            exact ⟨rfl, rfl⟩
      · obtain rfl : k = s.size := by omega
        rw [take_all s s.size (Nat.le_refl _)] at hd
        have HD := Lib.hid hd
        clear hd hlt hk
        go_wp2
        go_loop [5, 6] (fun n i => ∃ (k m : Nat), k ≤ s.size ∧ i = .int .i64 k ∧ n = .int .u64 m ∧ Got (s.data.toList.take k) m) (fun _ i => s.size - (intOf i).toNat)
        case atStart => exact ⟨0, 0, Nat.zero_le _, rfl, rfl, Got.nil⟩
        case round =>
          obtain ⟨k, m, hk, rfl, rfl, hg⟩ := hrel
          have hm := hg.le
          by_cases hlt : k < s.size
          · have hts := take_snoc s k hlt
            have hdk := isDig_le (List.all_eq_true.1 HD.out _ (mem_at s k hlt))
            obtain ⟨hd3, hd4⟩ := hdk
            by_cases hbig : (18446744073709551615 - (s[k].toNat - 48)) / 10 < m
            · have HF := Lib.hid (hg.big (s := s) HN.out HD.out hlt hd3 hd4 hbig)
              have hbig' : (18446744073709551615 - ((s[k].toNat : Int) - 48)) / 10 < (m : Int) := by omega
              clear hts hg hbig
              go_wp2
              go_ret2
              rw [HF.out]
              exact ⟨rfl, rfl⟩
            · have hnew : Got (s.data.toList.take (k + 1)) (10 * m + (s[k].toNat - 48)) := by rw [hts]; exact hg.snoc hd3 hd4 (by omega)
              have hbig' : (m : Int) ≤ (18446744073709551615 - ((s[k].toNat : Int) - 48)) / 10 := by omega
              clear hts hg hbig
              go_wp2
              go_round
              case rel => exact ⟨k + 1, _, hlt, by go_num, by congr 1; omega, hnew⟩
              case measure => simp [intOf]; omega
          · obtain rfl : k = s.size := by omega
            rw [take_all s s.size (Nat.le_refl _)] at hg
            have hfin := parse_ok HN.out HD.out hg.2
            rw [← hg.1] at hfin
            have HF := Lib.hid hfin
            clear hfin hg hlt
            go_wp2
            go_ret2
            rw [HF.out]
            exact ⟨rfl, rfl⟩

theorem refparse_any (s : ByteArray) (hs : s.size ≤ 9223372036854775807) (w : World) :
    Calls Try.prog 29 #[.string s] w fun e w' => e = .returned (.tuple #[.int .u64 (parse s.data.toList).1, .int .i64 (parse s.data.toList).2]) ∧ w = w' := by
  rcases Bool.eq_false_or_eq_true (lead s.data.toList) with h | h
  · rw [parse_lead h]
    exact refparse_lead_any s hs h w
  · exact refparse_go_any s hs h w
end Go.Proofs.Ytolohhjepjefiaa.dig
