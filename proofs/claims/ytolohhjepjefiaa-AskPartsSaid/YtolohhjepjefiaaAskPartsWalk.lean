/- AskParts, walked. -/
import Derived.Test.YtolohhjepjefiaaAskLaw
import Derived.Test.YtolohhjepjefiaaKeyKey
import Derived.Deep.RegionWith
namespace Go.Proofs.Ytolohhjepjefiaa.ask
open Go.RowKit
open Go.Proofs.Ytolohhjepjefiaa.aid

theorem none_of_count {l : List UInt8} (h : l.count 32 ≠ 2) : ask l = ([], 0, 13) := ask_count h
theorem count_insert (l : List UInt8) (i : Nat) : (l.take i ++ [32] ++ l.drop i).count 32 = l.count 32 + 1 := by
  have h : l.count 32 = (l.take i).count 32 + (l.drop i).count 32 := by rw [← List.count_append, List.take_append_drop]
  rw [List.count_append, List.count_append, h]
  simp
  omega
/-- the parts without blanks but the first -/
def Less (l m : List UInt8) (k : Nat) : Prop := m.length ≤ k ∧ m.count 32 ≤ if k ≤ 5 then 0 else 1
theorem Less.zero (l : List UInt8) : Less l [] 0 := ⟨Nat.le_refl _, by simp⟩
theorem Less.skip {l m : List UInt8} {k : Nat} (h : Less l m k) (h5 : k ≠ 5) : Less l m (k + 1) := by
  obtain ⟨h1, h2⟩ := h
  refine ⟨by omega, ?_⟩
  by_cases h6 : k ≤ 5
  · rw [if_pos h6] at h2
    rw [if_pos (by omega)]
    exact h2
  · rw [if_neg h6] at h2
    rw [if_neg (by omega)]
    exact h2
theorem Less.take_ {l m : List UInt8} {k : Nat} (h : Less l m k) (c : UInt8) (hc : c ≠ 32 ∨ k = 5) : Less l (m ++ [c]) (k + 1) := by
  obtain ⟨h1, h2⟩ := h
  refine ⟨by simp; omega, ?_⟩
  rw [List.count_append]
  have h3 : [c].count 32 ≤ 1 := by
    have := List.count_le_length (a := (32 : UInt8)) (l := [c])
    simpa using this
  have h4 : c ≠ 32 → [c].count 32 = 0 := fun hn => by
    rw [List.count_eq_zero]
    intro hm
    exact hn (by simpa using (List.mem_singleton.1 hm).symm)
  by_cases h6 : k ≤ 5
  · rw [if_pos h6] at h2
    by_cases h7 : k = 5
    · rw [if_neg (by omega)]
      omega
    · rw [if_pos (by omega), h4 (hc.resolve_right h7)]
      omega
  · rw [if_neg h6] at h2
    rw [if_neg (by omega), h4 (hc.resolve_right (by omega))]
    omega
theorem Less.none {l m : List UInt8} {k : Nat} (h : Less l m k) : ask m = ([], 0, 13) := ask_count (by
  have := h.2
  split at this <;> omega)

set_option maxHeartbeats 2000000 in
theorem askParts_walk (w : World) (l0 : List UInt8) (A0 : Option Addr) (c0 : Nat) (a1 a2 : Int) (h0 : l0.length ≤ 9223372036854775807) (r0 : Row w w.heap.size A0 (u8s l0)) (w1 : 0 ≤ a1 ∧ a1 ≤ 18446744073709551615) (w2 : 0 ≤ a2 ∧ a2 ≤ 255) :
    Calls Try.prog 4 #[.slice A0 l0.length c0, .int .u64 a1, .int .u8 a2] w fun e w' => e = .returned (.bool true) ∧ Below w.heap.size w w' := by
  obtain ⟨w11, w12⟩ := w1
  obtain ⟨w21, w22⟩ := w2
  obtain ⟨n, rfl⟩ := Int.eq_ofNat_of_zero_le w11
  have hn : n ≤ 18446744073709551615 := by omega
  have HK := Lib.hid (key.key_any l0 A0 c0 h0 w r0)
  obtain ⟨hk, hk1, -, -⟩ := key.keyOf_right l0
  have HD := Lib.hid (fun W => dig.refprint_any n (by omega) W)
  have hdl := dig.digs_len n
  have hcnt : (verb ++ (key.keyOf l0 ++ 32 :: dig.digs n)).count 32 = 2 := by
    rw [List.count_append, List.count_append, List.count_cons, count_blank (right_blank hk), count_blank (digs_blank hn)]
    rfl
  generalize hkl : key.keyOf l0 = keyl at *
  generalize hdg : dig.digs n = dg at *
  have hS : ∃ S : ByteArray, S = ByteArray.mk #[67, 72, 69, 67, 75, 32] ++ ByteArray.mk keyl.toArray ++ ByteArray.mk #[32] ++ ByteArray.mk dg.toArray := ⟨_, rfl⟩
  obtain ⟨S, hS⟩ := hS
  have hSl : S.data.toList = verb ++ (keyl ++ 32 :: dg) := by rw [hS]; simp [ByteArray.data_append, verb]
  have hSz : S.size ≤ 100 ∧ 7 ≤ S.size := by
    have : S.size = S.data.toList.length := rfl
    rw [this, hSl]
    simp [verb]
    omega
  rw [← hSl] at hcnt
  obtain ⟨hSz1, hSz2⟩ := hSz
  obtain ⟨i, hi⟩ := Int.eq_ofNat_of_zero_le (Int.emod_nonneg a2 (show (S.size : Int) + 1 ≠ 0 by omega))
  have hile : (i : Int) ≤ S.size := by
    have := Int.emod_lt_of_pos a2 (show (0 : Int) < (S.size : Int) + 1 by omega)
    omega
  have hins : ask (S.data.toList.take i ++ [32] ++ S.data.toList.drop i) = ([], 0, 13) := ask_count (by rw [count_insert, hcnt]; decide)
  have hi' : i ≤ S.size := by omega
  have hx1 : (S.extract 0 i).size = i := by simp; omega
  have hx2 : (S.extract i S.size).size = S.size - i := by simp
  have hx3 : ((S.size - i : Nat) : Int) = S.size - i := by omega
  have T1 := Lib.hid (fun W => ask_str (S.extract 0 i ++ ByteArray.mk #[32] ++ S.extract i S.size) (S.data.toList.take i ++ [32] ++ S.data.toList.drop i) (by
    rw [extract_str, extract_str, List.take_of_length_le (l := S.data.toList) (i := S.size) (Nat.le_refl _)]
    simp [ByteArray.data_append]) (by simp; have : S.data.toList.length = S.size := rfl; simp at this; omega) hins W)
  have hSr := hS.symm
  clear hS hins hSl hkl hdg hk w11 h0 r0 hcnt
  go_enter Try.func4, Try.ntmps4
  go_wp2_with fail
  refine HK.out.mono ?_
  rintro e x1 ⟨rfl, g1⟩
  go_wp2_with fail
  refine (HD.out _).mono ?_
  rintro e x2 ⟨rfl, rfl⟩
  go_wp2_with fail
  obtain ⟨m1, c1, y1, hr1, hb1, hc1⟩ := T1.out x1.drew
  have g2 := (g1.drew).trans (hb1.mono g1.drew.size)
  rw [show x1.drew.heap.size = x1.heap.size from rfl] at hr1 hc1
  clear T1 hb1 g1
  have hq1 : ¬ 9223372036854775807 < i + 1 := by omega
  have hq2 : ¬ 9223372036854775807 < i + 1 + (S.size - i) := by omega
  go_region_with ((with_reducible refine hc1.out.mono ?_); rintro e x4 ⟨rfl, hd1⟩)
  have g4 := Lib.hid (g2.trans (hd1.mono g2.size))
  clear hr1 hc1 g2 hd1
  go_wp2_with fail
  go_loopw [12, 13] (fun v q wr => ∃ (m : List UInt8) (k : Nat), k ≤ S.size ∧ v = .string ⟨m.toArray⟩ ∧ q = .int .i64 k ∧ Less S.data.toList m k ∧ Below w.heap.size w wr) (fun _ q _ => S.size - (intOf q).toNat)
  case atStart => exact ⟨[], 0, by omega, rfl, rfl, Less.zero _, g4.out⟩
  case round =>
    obtain ⟨m, k, hk, rfl, rfl, hm, hB⟩ := hrel
    have hml : (m.length : Int) ≤ k := by have := hm.1; omega
    by_cases hlt : k < S.size
    · have hlt' : (k : Int) < S.size := by omega
      have hb8 : (S[k].toNat : Int) ≤ 255 := by have := S[k].toNat_lt; omega
      have hE : ByteArray.mk m.toArray ++ S.extract k (k + 1) = ⟨(m ++ [S[k]]).toArray⟩ := by
        have h1 : (S.data.toList.take (k + 1)).drop k = [S[k]] := by
          rw [List.take_succ_eq_append_getElem (show k < S.data.toList.length from hlt), List.drop_append_of_le_length (by rw [List.length_take]; exact Nat.le_min.2 ⟨Nat.le_refl _, Nat.le_of_lt hlt⟩), List.drop_eq_nil_of_le (by simp; omega)]
          rfl
        rw [extract_str, h1, ByteArray.mk_append_mk]
      have HE := Lib.hid hE
      clear hE
      by_cases h32 : S[k] = 32
      · have h32' : ((S[k].toNat : Int) != 32) = false := by rw [h32]; rfl
        by_cases h5 : k = 5
        · have HN := Lib.hid (hm.take_ S[k] (.inr h5))
          have h5' : ((k : Int) == 5) = true := beq_iff_eq.2 (by omega)
          clear hm h32 h5
          go_wp2_with fail
          go_roundw
          case rel => exact ⟨m ++ [S[k]], k + 1, by omega, by rw [HE.out], by go_num, HN.out, hB⟩
          case measure => simp [intOf]; omega
        · have HN := Lib.hid (hm.skip h5)
          have h5' : ((k : Int) == 5) = false := beq_eq_false_iff_ne.2 (by omega)
          clear hm h32 h5
          go_wp2_with fail
          go_roundw
          case rel => exact ⟨m, k + 1, by omega, rfl, by go_num, HN.out, hB⟩
          case measure => simp [intOf]; omega
      · have h32' : ((S[k].toNat : Int) != 32) = true := by
          rw [bne_iff_ne]
          intro h
          exact h32 (UInt8.toNat_inj.1 (by have : (32 : UInt8).toNat = 32 := rfl; omega))
        have HN := Lib.hid (hm.take_ S[k] (.inl h32))
        clear hm h32
        go_wp2_with fail
        go_roundw
        case rel => exact ⟨m ++ [S[k]], k + 1, by omega, by rw [HE.out], by go_num, HN.out, hB⟩
        case measure => simp [intOf]; omega
    · have hlt' : (S.size : Int) ≤ k := by omega
      obtain ⟨m2, c2, y2, hr2, hb2, hc2⟩ := ask_str (ByteArray.mk m.toArray) m rfl (by omega) hm.none wr
      have g5 := hB.trans (hb2.mono hB.size)
      clear hm hlt hb2
      go_wp2_with fail
      refine hc2.out.mono ?_
      rintro e x5 ⟨rfl, hd5⟩
      have g6 := Lib.hid (g5.trans (hd5.mono g5.size))
      clear hr2 hc2 g5 hd5
      go_wp2_with fail
      refine (known_any _).mono ?_
      rintro e v ⟨rfl, hbk⟩
      go_wp2_with fail
      go_ret
      exact ⟨rfl, g6.out.trans (hbk.mono g6.out.size)⟩
end Go.Proofs.Ytolohhjepjefiaa.ask
