/- AskErrors, walked. -/
import Derived.Test.YtolohhjepjefiaaAskLaw
import Derived.Test.YtolohhjepjefiaaKeyKey
namespace Go.Proofs.Ytolohhjepjefiaa.ask
open Go.RowKit
open Go.Proofs.Ytolohhjepjefiaa.aid

abbrev bytesOf (l : List UInt8) : ByteArray := ⟨l.toArray⟩

theorem err_one (k d : List UInt8) : ask ([99, 104, 101, 99, 107, 32] ++ (k ++ (32 :: d))) = ([], 0, 13) := by
  unfold ask
  rfl
theorem err_two {k : List UInt8} (hk : key.right k = true) (b : UInt8) (hb : b.toNat < 32) : ask (verb ++ ((k ++ [b]) ++ 32 :: [120])) = ([], 0, 12) := by
  have hb2 : b ≠ 32 := fun e => by subst e; simp at hb
  have hb3 : ¬ (32 : UInt8) = b := fun e => hb2 e.symm
  rw [ask_of (by rw [blank_app, right_blank hk]; simp [blank, hb3]) rfl]
  unfold fin
  have : key.right (k ++ [b]) = false := by
    have : key.vis b = false := by simp [key.vis]; omega
    simp [key.right, this]
  rw [this]
  rfl
theorem err_three {k : List UInt8} (hk : key.right k = true) {n : Nat} (hn : n ≤ 18446744073709551615) : ask (verb ++ (k ++ 32 :: (48 :: dig.digs n))) = ([], 0, 10) := by
  have h1 : blank (48 :: dig.digs n) = false := by
    have := digs_blank hn
    simpa [blank] using this
  rw [ask_of (right_blank hk) h1]
  unfold fin
  rw [hk]
  have h2 : dig.lead (48 :: dig.digs n) = true := by
    rw [dig.lead_list _ (by simp)]
    have := dig.digs_ne_nil n
    have h3 : 0 < (dig.digs n).length := List.length_pos_iff.2 this
    simp; omega
  rw [dig.parse_lead h2]
  rfl
theorem err_five {k d : List UInt8} (hk : key.right k = true) : ask (verb ++ (k ++ 32 :: (d ++ [32]))) = ([], 0, 13) :=
  ask_more (right_blank hk) (by rw [blank_app]; simp [blank])
theorem err_six {n : Nat} (hn : n ≤ 18446744073709551615) : ask (verb ++ ([] ++ 32 :: dig.digs n)) = ([], 0, 12) := by
  rw [ask_of rfl (digs_blank hn)]
  rfl
theorem err_four {k : List UInt8} (hk : key.right k = true) {n : Nat} (hn : n ≤ 18446744073709551615) : ask (verb ++ (k ++ 32 :: (49 :: (List.replicate 20 48 ++ dig.digs n)))) = ([], 0, 11) := by
  have h0 : blank (49 :: (List.replicate 20 48 ++ dig.digs n)) = false := by
    have := digs_blank hn
    simpa [blank] using this
  rw [ask_of (right_blank hk) h0]
  unfold fin
  rw [hk]
  have h2 : dig.lead (49 :: (List.replicate 20 48 ++ dig.digs n)) = false := by
    rw [dig.lead_list _ (by simp)]
    rfl
  have hv : ∀ (l : List UInt8) (a : Nat), a ≤ l.foldl (fun a c => a * 10 + dig.dv c) a := by
    intro l
    induction l with
    | nil => intro a; exact Nat.le_refl _
    | cons c l ih => intro a; rw [List.foldl_cons]; exact Nat.le_trans (by omega) (ih _)
  have hbig : 18446744073709551616 ≤ dig.val (49 :: (List.replicate 20 48 ++ dig.digs n)) := by
    unfold dig.val
    rw [← List.cons_append, List.foldl_append]
    exact Nat.le_trans (by decide) (hv _ _)
  have hall : (49 :: (List.replicate 20 48 ++ dig.digs n)).all dig.isDig = true := by
    have := (dig.digs_all n hn).1
    rw [List.all_cons, List.all_append, this]
    rfl
  rw [dig.parse_big h2 hall hbig]
  rfl

theorem byte_text (x : Int) (h0 : 0 ≤ x) (h1 : x ≤ 255) (w : World) : ∃ w', (convert 22 9 (.slice (some ⟨w.heap.size, 0, none⟩) 1 1)).run Try.prog (w.alloc (.cells #[.int .u8 x] 5)) = .ok (.string ⟨#[aid.byteOf x]⟩) w' ∧ Below w.heap.size w w' :=
  ⟨_, one_byte_new w x h0 h1, (Below.refl _ w).alloc (Nat.le_refl _) _⟩

set_option maxHeartbeats 2000000 in
theorem askErrors_walk (w : World) (l0 : List UInt8) (A0 : Option Addr) (c0 : Nat) (a1 a2 : Int) (h0 : l0.length ≤ 9223372036854775807) (r0 : Row w w.heap.size A0 (u8s l0)) (w1 : 0 ≤ a1 ∧ a1 ≤ 18446744073709551615) (w2 : 0 ≤ a2 ∧ a2 ≤ 255) :
    Calls Try.prog 3 #[.slice A0 l0.length c0, .int .u64 a1, .int .u8 a2] w fun e w' => e = .returned (.bool true) ∧ Below w.heap.size w w' := by
  obtain ⟨w11, w12⟩ := w1
  obtain ⟨n, rfl⟩ := Int.eq_ofNat_of_zero_le w11
  have hn : n ≤ 18446744073709551615 := by omega
  have HK := Lib.hid (key.key_any l0 A0 c0 h0 w r0)
  obtain ⟨hk, hk1, -, -⟩ := key.keyOf_right l0
  have HD := Lib.hid (fun W => dig.refprint_any n (by omega) W)
  have hdl := dig.digs_len n
  have hb : 0 ≤ a2 % 32 ∧ a2 % 32 < 32 := by omega
  have E1 := err_one (key.keyOf l0) (dig.digs n)
  have hbb : (aid.byteOf (a2 % 32)).toNat < 32 := by have := byteOf_toNat (x := a2 % 32) hb.1 (by omega); omega
  have E2 := err_two hk (aid.byteOf (a2 % 32)) hbb
  have E3 := err_three hk hn
  have E4 := err_four hk hn
  have E5 := err_five (d := dig.digs n) hk
  have E6 := err_six hn
  generalize hkl : key.keyOf l0 = keyl at *
  generalize hdg : dig.digs n = dg at *
  have OB := Lib.hid (fun W => byte_text (a2 % 32) hb.1 (by omega) W)
  clear hbb hk hkl hdg hb w11 h0 r0
  have T1 := Lib.hid (fun W => ask_str (ByteArray.mk #[99, 104, 101, 99, 107, 32] ++ ByteArray.mk keyl.toArray ++ ByteArray.mk #[32] ++ ByteArray.mk dg.toArray) ([99, 104, 101, 99, 107, 32] ++ (keyl ++ (32 :: dg))) (by simp [ByteArray.data_append, verb]) (by simp [verb]; omega) E1 W)
  have T2 := Lib.hid (fun W => ask_str (ByteArray.mk #[67, 72, 69, 67, 75, 32] ++ ByteArray.mk keyl.toArray ++ ByteArray.mk #[aid.byteOf (a2 % 32)] ++ ByteArray.mk #[32, 120]) (verb ++ ((keyl ++ [aid.byteOf (a2 % 32)]) ++ 32 :: [120])) (by simp [ByteArray.data_append, verb]) (by simp [verb]; omega) E2 W)
  have T3 := Lib.hid (fun W => ask_str (ByteArray.mk #[67, 72, 69, 67, 75, 32] ++ ByteArray.mk keyl.toArray ++ ByteArray.mk #[32, 48] ++ ByteArray.mk dg.toArray) (verb ++ (keyl ++ 32 :: (48 :: dg))) (by simp [ByteArray.data_append, verb]) (by simp [verb]; omega) E3 W)
  have T4 := Lib.hid (fun W => ask_str (ByteArray.mk #[67, 72, 69, 67, 75, 32] ++ ByteArray.mk keyl.toArray ++ ByteArray.mk #[32, 49] ++ ByteArray.mk #[48, 48, 48, 48, 48, 48, 48, 48, 48, 48, 48, 48, 48, 48, 48, 48, 48, 48, 48, 48] ++ ByteArray.mk dg.toArray) (verb ++ (keyl ++ 32 :: (49 :: (List.replicate 20 48 ++ dg)))) (by simp [ByteArray.data_append, verb]) (by simp [verb]; omega) E4 W)
  have T5 := Lib.hid (fun W => ask_str (ByteArray.mk #[67, 72, 69, 67, 75, 32] ++ ByteArray.mk keyl.toArray ++ ByteArray.mk #[32] ++ ByteArray.mk dg.toArray ++ ByteArray.mk #[32]) (verb ++ (keyl ++ 32 :: (dg ++ [32]))) (by simp [ByteArray.data_append, verb]) (by simp [verb]; omega) E5 W)
  have T6 := Lib.hid (fun W => ask_str (ByteArray.mk #[67, 72, 69, 67, 75, 32, 32] ++ ByteArray.mk dg.toArray) (verb ++ ([] ++ 32 :: dg)) (by simp [ByteArray.data_append, verb]) (by simp [verb]; omega) E6 W)
  clear E1 E2 E3 E4 E5 E6
  go_enter Try.func3, Try.ntmps3
  go_wp2_with fail
  refine HK.out.mono ?_
  rintro e x1 ⟨rfl, g1⟩
  go_wp2_with fail
  refine (HD.out _).mono ?_
  rintro e x2 ⟨rfl, rfl⟩
  obtain ⟨x3, hcv, hbv⟩ := OB.out x1
  have g2 := g1.trans (hbv.mono g1.size)
  clear OB g1 hbv
  obtain ⟨m1, c1, y1, hr1, hb1, hc1⟩ := T1.out x3
  have h1 := Lib.hid (g2.trans (hb1.mono g2.size))
  clear T1 hb1 g2
  go_wp2_with fail
  refine hc1.out.mono ?_
  rintro e z1 ⟨rfl, hd1⟩
  have q1 := h1.out.trans (hd1.mono h1.out.size)
  clear hr1 hc1 h1 hd1
  obtain ⟨m2, c2, y2, hr2, hb2, hc2⟩ := T2.out z1
  have h2 := Lib.hid (q1.trans (hb2.mono q1.size))
  clear T2 hb2 q1
  go_wp2_with fail
  refine hc2.out.mono ?_
  rintro e z2 ⟨rfl, hd2⟩
  have q2 := h2.out.trans (hd2.mono h2.out.size)
  clear hr2 hc2 h2 hd2
  obtain ⟨m3, c3, y3, hr3, hb3, hc3⟩ := T3.out z2
  have h3 := Lib.hid (q2.trans (hb3.mono q2.size))
  clear T3 hb3 q2
  go_wp2_with fail
  refine hc3.out.mono ?_
  rintro e z3 ⟨rfl, hd3⟩
  have q3 := h3.out.trans (hd3.mono h3.out.size)
  clear hr3 hc3 h3 hd3
  obtain ⟨m4, c4, y4, hr4, hb4, hc4⟩ := T4.out z3
  have h4 := Lib.hid (q3.trans (hb4.mono q3.size))
  clear T4 hb4 q3
  go_wp2_with fail
  refine hc4.out.mono ?_
  rintro e z4 ⟨rfl, hd4⟩
  have q4 := h4.out.trans (hd4.mono h4.out.size)
  clear hr4 hc4 h4 hd4
  obtain ⟨m5, c5, y5, hr5, hb5, hc5⟩ := T5.out z4
  have h5 := Lib.hid (q4.trans (hb5.mono q4.size))
  clear T5 hb5 q4
  go_wp2_with fail
  refine hc5.out.mono ?_
  rintro e z5 ⟨rfl, hd5⟩
  have q5 := h5.out.trans (hd5.mono h5.out.size)
  clear hr5 hc5 h5 hd5
  obtain ⟨m6, c6, y6, hr6, hb6, hc6⟩ := T6.out z5
  have h6 := Lib.hid (q5.trans (hb6.mono q5.size))
  clear T6 hb6 q5
  go_wp2_with fail
  refine hc6.out.mono ?_
  rintro e z6 ⟨rfl, hd6⟩
  have q6 := h6.out.trans (hd6.mono h6.out.size)
  clear hr6 hc6 h6 hd6
  go_wp2_with fail
  refine (known_any _).mono ?_
  rintro e v ⟨rfl, hbk⟩
  go_wp2_with fail
  go_ret
  exact ⟨rfl, q6.trans (hbk.mono q6.size)⟩
end Go.Proofs.Ytolohhjepjefiaa.ask
