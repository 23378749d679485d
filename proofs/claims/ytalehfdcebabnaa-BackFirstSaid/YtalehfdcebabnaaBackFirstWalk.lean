/- BackFirst, walked. -/
import Derived.Test.YtalehfdcebabnaaBackKnown
import Derived.Test.YtalehfdcebabnaaBackPlainB
namespace Go.Proofs.Ytalehfdcebabnaa.back
open Go.RowKit Go.Shelf
open Go.Proofs.Ytalehfdcebabnaa.head
open Go.Proofs.Ytalehfdcebabnaa.aid

def low (b : UInt8) : UInt8 := UInt8.ofNat (97 + b.toNat % 26)
theorem low_nat (b : UInt8) : (low b).toNat = 97 + b.toNat % 26 := by
  unfold low
  rw [UInt8.toNat_ofNat']
  omega
/-- the name of choices -/
def nmTo (l : List UInt8) (k : Nat) : List UInt8 := 120 :: (l.take k).map low
theorem nmTo_succ (l : List UInt8) (k : Nat) (h : k < l.length) : nmTo l (k + 1) = nmTo l k ++ [low l[k]] := by
  unfold nmTo
  rw [List.take_succ_eq_append_getElem h, List.map_append]
  rfl
theorem nmTo_len (l : List UInt8) (k : Nat) : (nmTo l k).length ≤ k + 1 := by
  unfold nmTo
  rw [List.length_cons, List.length_map, List.length_take]
  omega
theorem nmTo_plain (l : List UInt8) (k : Nat) : (nmTo l k).all plain = true := by
  unfold nmTo
  rw [List.all_cons, Bool.and_eq_true]
  refine ⟨by decide, ?_⟩
  rw [List.all_map, List.all_eq_true]
  intro b _
  have h := low_nat b
  simp only [Function.comp, plain, Bool.and_eq_true, bne_iff_ne, ne_eq]
  refine ⟨fun e => ?_, fun e => ?_⟩ <;> rw [e] at h <;> simp at h <;> omega
/-- a line with a number -/
def nline (nm : List UInt8) (n : Nat) : List UInt8 := nm ++ (colon ++ dig.digs n)
theorem nline_13 {nm : List UInt8} (h : nm.all plain = true) {n : Nat} (hn : n ≤ 18446744073709551615) : ∀ c ∈ nline nm n, c ≠ 13 := by
  have := ltext_13 (x := (nm, (n : Int))) h ⟨by simp, by simp only; omega⟩
  unfold ltext at this
  simp only [Int.toNat_natCast] at this
  exact this
theorem nline_ne (nm : List UInt8) (n : Nat) : nline nm n ≠ [] := by simp [nline, colon]
def bline (nm : List UInt8) (n : Nat) : List UInt8 := nm ++ (colon ++ (48 :: dig.digs n))
theorem bline_13 {nm : List UInt8} (h : nm.all plain = true) {n : Nat} (hn : n ≤ 18446744073709551615) : ∀ c ∈ bline nm n, c ≠ 13 := by
  intro c hc
  have h2 := nline_13 h hn c
  unfold bline at hc
  unfold nline at h2
  simp only [List.mem_append, List.mem_cons] at hc h2
  rcases hc with hc | hc | rfl | hc
  · exact h2 (.inl hc)
  · exact h2 (.inr (.inl hc))
  · decide
  · exact h2 (.inr (.inr hc))
theorem bline_hit (nm : List UInt8) (n : Nat) : hit nm (bline nm n) = none := by
  refine hit_bad ?_
  rw [dig.parse_lead]
  · decide
  · have hne := dig.digs_ne_nil n
    rw [dig.lead_list _ (by simp)]
    have : 0 < (dig.digs n).length := List.length_pos_iff.2 hne
    simp
    omega
theorem firsts_crlf (r : List UInt8) : firsts (crlf ++ r) = [[]] := by
  unfold firsts
  have := lines_at (a := []) r (by simp)
  rw [List.nil_append] at this
  rw [this]
  rfl
theorem firsts_no {a : List UInt8} (h : ∀ c ∈ a, c ≠ 13) : firsts a = [] := by
  unfold firsts
  rw [lines_no h]
  rfl
theorem first_one {nm : List UInt8} (hp : nm.all plain = true) {m : Nat} (hm : m ≤ 18446744073709551615) (n : Nat) : field ([121] ++ (crlf ++ (nline nm m ++ (crlf ++ (nline nm n ++ (crlf ++ crlf)))))) nm = some m := by
  rw [field_firsts, (firsts_head _ (by decide) (by decide)).1, (firsts_head _ (nline_13 hp hm) (nline_ne nm m)).1]
  rw [List.drop_one, List.tail_cons, List.findSome?_cons, show hit nm (nline nm m) = some m from hit_line nm m hm]
theorem first_two {nm : List UInt8} (hp : nm.all plain = true) {m n : Nat} (hm : m ≤ 18446744073709551615) (hn : n ≤ 18446744073709551615) : field ([121] ++ (crlf ++ (bline nm n ++ (crlf ++ (nline nm m ++ (crlf ++ (crlf ++ (nline nm n ++ crlf)))))))) nm = some m := by
  rw [field_firsts, (firsts_head _ (by decide) (by decide)).1, (firsts_head _ (bline_13 hp hn) (by simp [bline, colon])).1, (firsts_head _ (nline_13 hp hm) (nline_ne nm m)).1]
  rw [List.drop_one, List.tail_cons, List.findSome?_cons, bline_hit, List.findSome?_cons, show hit nm (nline nm m) = some m from hit_line nm m hm]
theorem first_three {nm : List UInt8} (hp : nm.all plain = true) {m : Nat} (hm : m ≤ 18446744073709551615) (n : Nat) : field (nline nm m ++ (crlf ++ (crlf ++ (nline nm n ++ crlf)))) nm = none := by
  rw [field_firsts, (firsts_head _ (nline_13 hp hm) (nline_ne nm m)).1, firsts_crlf]
  rw [List.drop_one, List.tail_cons, List.findSome?_cons, hit_nil]
  rfl
theorem first_four {nm : List UInt8} (hp : nm.all plain = true) {n : Nat} (hn : n ≤ 18446744073709551615) : field ([121] ++ (crlf ++ nline nm n)) nm = none := by
  rw [field_firsts, (firsts_head _ (by decide) (by decide)).1, firsts_no (nline_13 hp hn)]
  rfl

set_option maxHeartbeats 8000000 in
set_option maxRecDepth 100000 in
theorem backFirst_walk (w : World) (a0 a1 : Int) (l2 : List UInt8) (A2 : Option Addr) (c2 : Nat) (h0 : 0 ≤ a0 ∧ a0 ≤ 18446744073709551615) (h1 : 0 ≤ a1 ∧ a1 ≤ 18446744073709551615) (n2 : l2.length ≤ 9223372036854775807) (r2 : Row w w.heap.size A2 (u8s l2))
    (mx : Int) (hmx : w.cell? ⟨0, 0, none⟩ = some (.int .i64 mx)) :
    Calls Try.prog 5 #[.int .u64 a0, .int .u64 a1, .slice A2 l2.length c2] w fun e w' => e = .returned (.bool true) ∧ Below w.heap.size w w' := by
  obtain ⟨m, rfl⟩ : ∃ m : Nat, a0 = (m : Int) := ⟨a0.toNat, by omega⟩
  obtain ⟨n, rfl⟩ : ∃ n : Nat, a1 = (n : Int) := ⟨a1.toNat, by omega⟩
  have hm : m ≤ 18446744073709551615 := by omega
  have hn : n ≤ 18446744073709551615 := by omega
  have HR := Lib.hid r2
  have HM := Lib.hid hmx
  clear r2 hmx
  go_enter Try.func5, Try.ntmps5
  go_wp2_with fail
  go_loopw [7, 8] (fun s i wr => ∃ k : Nat, k ≤ l2.length ∧ k ≤ 9 ∧ i = .int .i64 k ∧ s = .string ⟨(nmTo l2 k).toArray⟩ ∧ Below w.heap.size w wr) (fun _ i _ => 9 - (intOf i).toNat)
  case atStart => exact ⟨0, by omega, by omega, rfl, rfl, Below.refl _ _⟩
  case round =>
    obtain ⟨k, hk, hk9, rfl, rfl, hB⟩ := hrel
    have hnl := nmTo_len l2 k
    by_cases hend : k < l2.length ∧ k < 9
    · obtain ⟨hlt, hlt9⟩ := hend
      obtain ⟨b, off, rfl, hb, hc⟩ := HR.out.at_ (k := k) (by simp; omega)
      have hc0 := (hB.cell (p := ⟨b, off + k, none⟩) hb).trans (hc k (.int .u8 (l2[k].toNat : Int)) (u8s_at l2 k hlt))
      have hb8 : (l2[k].toNat : Int) ≤ 255 := by have := l2[k].toNat_lt; omega
      have hval : (97 + (l2[k].toNat : Int) % 26) = ((low l2[k]).toNat : Int) := by rw [low_nat]; omega
      have hcv : (convert 25 9 (.slice (some ⟨wr.heap.size, 0, none⟩) 1 1)).run Try.prog (wr.alloc (.cells #[.int .u8 (97 + (l2[k].toNat : Int) % 26)] 5)) = .ok (.string ⟨#[low l2[k]]⟩) (wr.alloc (.cells #[.int .u8 (97 + (l2[k].toNat : Int) % 26)] 5)) := by
        have h := Row.new wr 5 #[.int .u8 (97 + (l2[k].toNat : Int) % 26)]
        rw [hval] at h ⊢
        exact row_string (c := 1) (l := [low l2[k]]) h
      have HS := Lib.hid (nmTo_succ l2 k hlt)
      clear hval hc
      go_wp2
      go_roundw
      case rel => exact ⟨k + 1, by omega, by omega, by go_num, congrArg Value.string ((ByteArray.mk_append_mk (nmTo l2 k) [low l2[k]]).trans (by rw [HS.out])), hB.alloc hB.size _⟩
      case measure => simp [intOf]; omega
    · have hpl := nmTo_plain l2 k
      obtain ⟨nm, hnm⟩ : ∃ nm, nm = nmTo l2 k := ⟨_, rfl⟩
      have hnl10 : nm.length ≤ 10 := by rw [hnm]; omega
      rw [← hnm] at hpl ⊢
      have HB := Lib.hid hB
      have HPM := Lib.hid (fun W => dig.refprint_int (m : Int) (by omega) (by omega) W)
      have HPN := Lib.hid (fun W => dig.refprint_int (n : Int) (by omega) (by omega) W)
      simp only [Int.toNat_natCast] at HPM HPN
      have hdm := dig.digs_len m
      have hdn := dig.digs_len n
      obtain ⟨L1, hL1⟩ : ∃ L1, L1 = nline nm m ++ crlf := ⟨_, rfl⟩
      obtain ⟨L2, hL2⟩ : ∃ L2, L2 = nline nm n ++ crlf := ⟨_, rfl⟩
      obtain ⟨L3, hL3⟩ : ∃ L3, L3 = bline nm n ++ crlf := ⟨_, rfl⟩
      obtain ⟨t1, ht1⟩ : ∃ t1, t1 = [121, 13, 10] ++ L1 ++ L2 ++ [13, 10] := ⟨_, rfl⟩
      obtain ⟨t2, ht2⟩ : ∃ t2, t2 = [121, 13, 10] ++ L3 ++ L1 ++ [13, 10] ++ L2 := ⟨_, rfl⟩
      obtain ⟨t3, ht3⟩ : ∃ t3, t3 = L1 ++ [13, 10] ++ L2 := ⟨_, rfl⟩
      obtain ⟨t4, ht4⟩ : ∃ t4, t4 = [121, 13, 10] ++ nm ++ [58, 32] ++ dig.digs n := ⟨_, rfl⟩
      have e1 : (ByteArray.mk nm.toArray ++ ByteArray.mk #[58, 32] ++ ByteArray.mk (dig.digs m).toArray ++ ByteArray.mk #[13, 10]) = ⟨L1.toArray⟩ := by
        rw [show ByteArray.mk #[58, 32] = ⟨colon.toArray⟩ from rfl, show ByteArray.mk #[13, 10] = ⟨crlf.toArray⟩ from rfl, ByteArray.mk_append_mk, ByteArray.mk_append_mk, ByteArray.mk_append_mk, hL1]
        simp [nline]
      have e2 : (ByteArray.mk nm.toArray ++ ByteArray.mk #[58, 32] ++ ByteArray.mk (dig.digs n).toArray ++ ByteArray.mk #[13, 10]) = ⟨L2.toArray⟩ := by
        rw [show ByteArray.mk #[58, 32] = ⟨colon.toArray⟩ from rfl, show ByteArray.mk #[13, 10] = ⟨crlf.toArray⟩ from rfl, ByteArray.mk_append_mk, ByteArray.mk_append_mk, ByteArray.mk_append_mk, hL2]
        simp [nline]
      have e3 : (ByteArray.mk nm.toArray ++ ByteArray.mk #[58, 32, 48] ++ ByteArray.mk (dig.digs n).toArray ++ ByteArray.mk #[13, 10]) = ⟨L3.toArray⟩ := by
        rw [show ByteArray.mk #[58, 32, 48] = ⟨(colon ++ [48]).toArray⟩ from rfl, show ByteArray.mk #[13, 10] = ⟨crlf.toArray⟩ from rfl, ByteArray.mk_append_mk, ByteArray.mk_append_mk, ByteArray.mk_append_mk, hL3]
        simp [bline]
      have e4 : (ByteArray.mk #[121, 13, 10] ++ ByteArray.mk L1.toArray ++ ByteArray.mk L2.toArray ++ ByteArray.mk #[13, 10]) = ⟨t1.toArray⟩ := by
        rw [show ByteArray.mk #[121, 13, 10] = ⟨[121, 13, 10].toArray⟩ from rfl, show ByteArray.mk #[13, 10] = ⟨[13, 10].toArray⟩ from rfl, ByteArray.mk_append_mk, ByteArray.mk_append_mk, ByteArray.mk_append_mk, ht1]
      have e5 : (ByteArray.mk #[121, 13, 10] ++ ByteArray.mk L3.toArray ++ ByteArray.mk L1.toArray ++ ByteArray.mk #[13, 10] ++ ByteArray.mk L2.toArray) = ⟨t2.toArray⟩ := by
        rw [show ByteArray.mk #[121, 13, 10] = ⟨[121, 13, 10].toArray⟩ from rfl, show ByteArray.mk #[13, 10] = ⟨[13, 10].toArray⟩ from rfl, ByteArray.mk_append_mk, ByteArray.mk_append_mk, ByteArray.mk_append_mk, ByteArray.mk_append_mk, ht2]
      have e6 : (ByteArray.mk L1.toArray ++ ByteArray.mk #[13, 10] ++ ByteArray.mk L2.toArray) = ⟨t3.toArray⟩ := by
        rw [show ByteArray.mk #[13, 10] = ⟨[13, 10].toArray⟩ from rfl, ByteArray.mk_append_mk, ByteArray.mk_append_mk, ht3]
      have e7 : (ByteArray.mk #[121, 13, 10] ++ ByteArray.mk nm.toArray ++ ByteArray.mk #[58, 32] ++ ByteArray.mk (dig.digs n).toArray) = ⟨t4.toArray⟩ := by
        rw [show ByteArray.mk #[121, 13, 10] = ⟨[121, 13, 10].toArray⟩ from rfl, show ByteArray.mk #[58, 32] = ⟨[58, 32].toArray⟩ from rfl, ByteArray.mk_append_mk, ByteArray.mk_append_mk, ByteArray.mk_append_mk, ht4]
      have HF1 := Lib.hid (show field t1 nm = some m from by
        rw [ht1, hL1, hL2]
        have h := first_one hpl hm n
        simpa [crlf] using h)
      have HF2 := Lib.hid (show field t2 nm = some m from by
        rw [ht2, hL1, hL2, hL3]
        have h := first_two hpl hm hn
        simpa [crlf] using h)
      have HF3 := Lib.hid (show field t3 nm = none from by
        rw [ht3, hL1, hL2]
        have h := first_three hpl hm n
        simpa [crlf] using h)
      have HF4 := Lib.hid (show field t4 nm = none from by
        rw [ht4]
        have h := first_four hpl hn
        simpa [crlf, nline, colon] using h)
      have l1 : L1.length ≤ 40 := by rw [hL1]; simp [nline, crlf, colon]; omega
      have l2' : L2.length ≤ 40 := by rw [hL2]; simp [nline, crlf, colon]; omega
      have l3 : L3.length ≤ 40 := by rw [hL3]; simp [bline, crlf, colon]; omega
      have k1 : t1.length ≤ 200 := by rw [ht1]; simp; omega
      have k2 : t2.length ≤ 200 := by rw [ht2]; simp; omega
      have k3 : t3.length ≤ 200 := by rw [ht3]; simp; omega
      have k4 : t4.length ≤ 200 := by rw [ht4]; simp; omega
      have hkk : (l2.length : Int) ≤ k ∨ ((k : Int) < l2.length ∧ (9 : Int) ≤ k) := by omega
      clear hB hpl hnm hnl HR hL1 hL2 hL3 ht1 ht2 ht3 ht4
      rcases hkk with hkk | ⟨hkk, hk9'⟩
      all_goals
        go_wp2_with fail
        refine (HPM.out _).mono ?_
        rintro e w1 ⟨rfl, rfl⟩
        go_wp2_with fail
        refine (HPN.out _).mono ?_
        rintro e w1 ⟨rfl, rfl⟩
        go_wp2_with fail
        refine (HPN.out _).mono ?_
        rintro e w1 ⟨rfl, rfl⟩
        obtain ⟨q1, v1, hrun1, hq1, hlie1, hbv1, hsv1, -⟩ := to_bytes wr ⟨t1.toArray⟩
        rw [dig.size_mk] at hrun1 hq1
        have HR1 := Lib.hid (lie_row hlie1 (by omega))
        have HB1 := Lib.hid (HB.out.trans (hbv1.mono HB.out.size))
        clear hlie1 hbv1 hsv1
        go_wp2_with fail
        refine (field_any t1 (by omega) ⟨nm.toArray⟩ (by rw [dig.size_mk]; omega) _ q1 mx v1 (max_below HM.out HB1.out) HR1.out).mono ?_
        rintro e x1 ⟨rfl, hbx1⟩
        rw [show (ByteArray.mk nm.toArray).data.toList = nm from rfl, HF1.out]
        simp only [Option.getD_some, Option.isSome_some, Option.getD_none, Option.isSome_none]
        have HBx1 := Lib.hid (HB1.out.trans (hbx1.mono HB1.out.size))
        clear hrun1 hbx1 HR1 HB1
        obtain ⟨q2, v2, hrun2, hq2, hlie2, hbv2, hsv2, -⟩ := to_bytes x1 ⟨t2.toArray⟩
        rw [dig.size_mk] at hrun2 hq2
        have HR2 := Lib.hid (lie_row hlie2 (by omega))
        have HB2 := Lib.hid (HBx1.out.trans (hbv2.mono HBx1.out.size))
        clear hlie2 hbv2 hsv2
        go_wp2_with fail
        refine (field_any t2 (by omega) ⟨nm.toArray⟩ (by rw [dig.size_mk]; omega) _ q2 mx v2 (max_below HM.out HB2.out) HR2.out).mono ?_
        rintro e x2 ⟨rfl, hbx2⟩
        rw [show (ByteArray.mk nm.toArray).data.toList = nm from rfl, HF2.out]
        simp only [Option.getD_some, Option.isSome_some, Option.getD_none, Option.isSome_none]
        have HBx2 := Lib.hid (HB2.out.trans (hbx2.mono HB2.out.size))
        clear hrun2 hbx2 HR2 HB2
        obtain ⟨q3, v3, hrun3, hq3, hlie3, hbv3, hsv3, -⟩ := to_bytes x2 ⟨t3.toArray⟩
        rw [dig.size_mk] at hrun3 hq3
        have HR3 := Lib.hid (lie_row hlie3 (by omega))
        have HB3 := Lib.hid (HBx2.out.trans (hbv3.mono HBx2.out.size))
        clear hlie3 hbv3 hsv3
        go_wp2_with fail
        refine (field_any t3 (by omega) ⟨nm.toArray⟩ (by rw [dig.size_mk]; omega) _ q3 mx v3 (max_below HM.out HB3.out) HR3.out).mono ?_
        rintro e x3 ⟨rfl, hbx3⟩
        rw [show (ByteArray.mk nm.toArray).data.toList = nm from rfl, HF3.out]
        simp only [Option.getD_some, Option.isSome_some, Option.getD_none, Option.isSome_none]
        have HBx3 := Lib.hid (HB3.out.trans (hbx3.mono HB3.out.size))
        clear hrun3 hbx3 HR3 HB3
        go_wp2_with fail
        refine (HPN.out _).mono ?_
        rintro e w1 ⟨rfl, rfl⟩
        obtain ⟨q4, v4, hrun4, hq4, hlie4, hbv4, hsv4, -⟩ := to_bytes x3 ⟨t4.toArray⟩
        rw [dig.size_mk] at hrun4 hq4
        have HR4 := Lib.hid (lie_row hlie4 (by omega))
        have HB4 := Lib.hid (HBx3.out.trans (hbv4.mono HBx3.out.size))
        clear hlie4 hbv4 hsv4
        go_wp2_with fail
        refine (field_any t4 (by omega) ⟨nm.toArray⟩ (by rw [dig.size_mk]; omega) _ q4 mx v4 (max_below HM.out HB4.out) HR4.out).mono ?_
        rintro e x4 ⟨rfl, hbx4⟩
        rw [show (ByteArray.mk nm.toArray).data.toList = nm from rfl, HF4.out]
        simp only [Option.getD_some, Option.isSome_some, Option.getD_none, Option.isSome_none]
        have HBx4 := Lib.hid (HB4.out.trans (hbx4.mono HB4.out.size))
        clear hrun4 hbx4 HR4 HB4
        go_wp2_with fail
        refine (known_any mx x4 (max_below HM.out HBx4.out)).mono ?_
        rintro e x5 ⟨rfl, hb5⟩
        go_wp2_with fail
        go_ret
        exact ⟨rfl, HBx4.out.trans (hb5.mono HBx4.out.size)⟩
end Go.Proofs.Ytalehfdcebabnaa.back
