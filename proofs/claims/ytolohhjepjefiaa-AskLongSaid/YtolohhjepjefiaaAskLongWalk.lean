/- AskLong, walked. -/
import Derived.Test.YtolohhjepjefiaaAskLaw
namespace Go.Proofs.Ytolohhjepjefiaa.ask
open Go.RowKit
open Go.Proofs.Ytolohhjepjefiaa.aid

theorem byte_text2 (x : Int) (h0 : 0 ≤ x) (h1 : x ≤ 255) (w : World) : ∃ w', (convert 22 9 (.slice (some ⟨w.heap.size, 0, none⟩) 1 1)).run Try.prog (w.alloc (.cells #[.int .u8 x] 5)) = .ok (.string ⟨#[aid.byteOf x]⟩) w' ∧ Below w.heap.size w w' :=
  ⟨_, one_byte_new w x h0 h1, (Below.refl _ w).alloc (Nat.le_refl _) _⟩
theorem rep_succ (m : Nat) (v : UInt8) : ByteArray.mk (List.replicate m v).toArray ++ ByteArray.mk #[v] = ⟨(List.replicate (m + 1) v).toArray⟩ := by
  rw [show ByteArray.mk #[v] = ⟨[v].toArray⟩ from rfl, ByteArray.mk_append_mk, List.replicate_succ']
theorem rep_right (m : Nat) (v : UInt8) (hv : key.vis v = true) : key.right (List.replicate m v) = (decide (1 ≤ m) && decide (m ≤ 128)) := by
  unfold key.right
  rw [List.length_replicate, List.all_eq_true.2 (fun x hx => by rw [List.eq_of_mem_replicate hx]; exact hv)]
  simp
theorem rep_blank (m : Nat) (v : UInt8) (hv : key.vis v = true) : blank (List.replicate m v) = false := by
  rw [Bool.eq_false_iff]
  intro hb
  have hm : (32 : UInt8) ∈ List.replicate m v := by simpa [blank] using hb
  have := List.eq_of_mem_replicate hm
  subst this
  simp [key.vis] at hv

set_option maxHeartbeats 2000000 in
theorem askLong_walk (w : World) (a0 a1 a2 : Int) (w0 : 0 ≤ a0 ∧ a0 ≤ 255) (w1 : 0 ≤ a1 ∧ a1 ≤ 255) (w2 : 0 ≤ a2 ∧ a2 ≤ 18446744073709551615) :
    Calls Try.prog 7 #[.int .u8 a0, .int .u8 a1, .int .u64 a2] w fun e w' => e = .returned (.bool true) ∧ Below w.heap.size w w' := by
  obtain ⟨w01, w02⟩ := w0
  obtain ⟨w11, w12⟩ := w1
  obtain ⟨w21, w22⟩ := w2
  obtain ⟨N, rfl⟩ := Int.eq_ofNat_of_zero_le w01
  obtain ⟨n, rfl⟩ := Int.eq_ofNat_of_zero_le w21
  have hn : n ≤ 18446744073709551615 := by omega
  have hv0 : 0 ≤ 33 + a1 % 94 ∧ 33 + a1 % 94 ≤ 126 := by omega
  have OB := Lib.hid (fun W => byte_text2 (33 + a1 % 94) hv0.1 (by omega) W)
  have hvv : key.vis (aid.byteOf (33 + a1 % 94)) = true := by
    have := byteOf_toNat hv0.1 (by omega)
    simp [key.vis]
    omega
  have HD := Lib.hid (fun W => dig.refprint_any n (by omega) W)
  have hdl := dig.digs_len n
  have HR := Lib.hid (fun m => rep_right m _ hvv)
  have HA := Lib.hid (fun m => ask_of (rep_blank m _ hvv) (digs_blank hn))
  have HS := Lib.hid (fun m => rep_succ m (aid.byteOf (33 + a1 % 94)))
  have HP := Lib.hid (dig.parse_digs n hn)
  have HPR := Lib.hid (fun (k : ByteArray) (hk : k.size ≤ 1000) W => print_any k n (by omega) (by omega) W)
  generalize aid.byteOf (33 + a1 % 94) = v at *
  generalize dig.digs n = dg at *
  clear hvv w01 w21
  go_enter Try.func7, Try.ntmps7
  go_wp2_with fail
  go_loopw [7, 8] (fun kv jv wr => ∃ m : Nat, m ≤ N ∧ kv = .string ⟨(List.replicate m v).toArray⟩ ∧ jv = .int .i64 m ∧ Below w.heap.size w wr) (fun _ jv _ => N - (intOf jv).toNat)
  case atStart => exact ⟨0, by omega, rfl, rfl, Below.refl _ _⟩
  case round =>
    obtain ⟨m, hm, rfl, rfl, hB⟩ := hrel
    by_cases hlt : m < N
    · have hlt' : (m : Int) < N := by omega
      obtain ⟨W, hcv, hbv⟩ := OB.out wr
      have HSm := Lib.hid (HS.out m)
      have hlen : (List.replicate m v).length ≤ 255 := by simp; omega
      clear HS hlt
      generalize List.replicate m v = K at *
      go_wp2_with fail
      go_roundw
      case rel => exact ⟨m + 1, by omega, by rw [HSm.out], by go_num, hB.trans (hbv.mono hB.size)⟩
      case measure => simp [intOf]; omega
    · obtain rfl : m = N := by omega
      have hlt' : (m : Int) ≤ m := by omega
      have hlen : (List.replicate m v).length = m := by simp
      have hfin : ask (verb ++ (List.replicate m v ++ 32 :: dg)) = if (decide (1 ≤ m) && decide (m ≤ 128)) then (List.replicate m v, n, 0) else ([], 0, 12) := by
        rw [HA.out m]
        unfold fin
        rw [HR.out m, HP.out]
        rfl
      have HRm := Lib.hid (HR.out m)
      have hPR := HPR.out ⟨(List.replicate m v).toArray⟩ (by simp [ByteArray.size]; omega)
      simp only [] at hPR
      rw [HRm.out] at hPR
      generalize List.replicate m v = K at *
      clear HR HA HS HP HPR HRm OB hlt
      rcases (show (1 ≤ m ∧ m ≤ 128) ∨ ¬ (1 ≤ m ∧ m ≤ 128) from Classical.em _) with hok | hok
      · have hd : (decide (1 ≤ m) && decide (m ≤ 128)) = true := by simp [hok.1, hok.2]
        have ho1 : (0 : Int) < m := by omega
        have ho2 : (m : Int) ≤ 128 := by omega
        rw [hd] at hfin hPR
        have HPR := Lib.hid hPR
        have T := Lib.hid (fun W => ask_str (ByteArray.mk #[67, 72, 69, 67, 75, 32] ++ ByteArray.mk K.toArray ++ ByteArray.mk #[32] ++ ByteArray.mk dg.toArray) (verb ++ (K ++ 32 :: dg)) (by simp [ByteArray.data_append, verb]) (by simp [verb]; omega) hfin W)
        clear hfin hPR hd hok
        go_wp2_with fail
        refine (HD.out _).mono ?_
        rintro e x1 ⟨rfl, rfl⟩
        obtain ⟨m1, c1, y1, hr1, hb1, hc1⟩ := T.out wr
        have g1 := hB.trans (hb1.mono hB.size)
        go_wp2_with fail
        refine hc1.out.mono ?_
        rintro e x2 ⟨rfl, hb2⟩
        have g2 := g1.trans (hb2.mono g1.size)
        clear hr1 hc1 hb1 T hb2 g1
        go_wp2_with fail
        refine (HPR.out _).mono ?_
        rintro e x3 ⟨A3, c3, rfl, -, -, hb3⟩
        have g3 := g2.trans (hb3.mono g2.size)
        clear HPR hb3 g2
        go_wp2_with fail
        refine (known_any _).mono ?_
        rintro e x4 ⟨rfl, hb4⟩
        go_wp2_with fail
        go_ret
        exact ⟨rfl, g3.trans (hb4.mono g3.size)⟩
      · have hd : (decide (1 ≤ m) && decide (m ≤ 128)) = false := by
          simp
          omega
        have hcase : (m : Int) ≤ 0 ∨ (0 : Int) < m ∧ (128 : Int) < m := by omega
        rw [hd] at hfin hPR
        have HPR := Lib.hid hPR
        have T := Lib.hid (fun W => ask_str (ByteArray.mk #[67, 72, 69, 67, 75, 32] ++ ByteArray.mk K.toArray ++ ByteArray.mk #[32] ++ ByteArray.mk dg.toArray) (verb ++ (K ++ 32 :: dg)) (by simp [ByteArray.data_append, verb]) (by simp [verb]; omega) hfin W)
        clear hfin hPR hd hok
        go_wp2_with fail
        refine (HD.out _).mono ?_
        rintro e x1 ⟨rfl, rfl⟩
        obtain ⟨m1, c1, y1, hr1, hb1, hc1⟩ := T.out wr
        have g1 := hB.trans (hb1.mono hB.size)
        go_wp2_with fail
        refine hc1.out.mono ?_
        rintro e x2 ⟨rfl, hb2⟩
        have g2 := g1.trans (hb2.mono g1.size)
        clear hr1 hc1 hb1 T hb2 g1
        go_wp2_with fail
        refine (HPR.out _).mono ?_
        rintro e x3 ⟨A3, c3, rfl, -, -, hb3⟩
        have g3 := g2.trans (hb3.mono g2.size)
        clear HPR hb3 g2
        rcases hcase with hcase | ⟨hcase, hcase2⟩
        all_goals
          go_wp2_with fail
          refine (known_any _).mono ?_
          rintro e x4 ⟨rfl, hb4⟩
          go_wp2_with fail
          go_ret
          exact ⟨rfl, g3.trans (hb4.mono g3.size)⟩
end Go.Proofs.Ytolohhjepjefiaa.ask
