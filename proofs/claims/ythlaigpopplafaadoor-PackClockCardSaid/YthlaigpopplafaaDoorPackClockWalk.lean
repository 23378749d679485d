/- PackClock, walked. -/
import Derived.Test.YthlaigpopplafaaDoorPackAsksA
namespace Go.Proofs.YthlaigpopplafaaDoor.pack
open Go.RowKit
open Go.Proofs.YthlaigpopplafaaDoor.aid

theorem num_lt256 : ∀ l : List UInt8, num l < 256 ^ l.length
  | [] => by simp [num_nil]
  | b :: r => by
    rw [num_cons, List.length_cons, Nat.pow_succ]
    have h1 := num_lt256 r
    have h2 := b.toNat_lt
    have h3 : b.toNat * 256 ^ r.length + 256 ^ r.length ≤ 256 ^ r.length * 256 := by
      have := Nat.mul_le_mul_right (256 ^ r.length) (show b.toNat + 1 ≤ 256 by omega)
      rw [Nat.add_mul, Nat.one_mul] at this
      rw [Nat.mul_comm _ 256]
      exact this
    omega
theorem bless_num : ∀ (x y : List UInt8), x.length = y.length → Op.bytesLess x y = decide (num x < num y)
  | [], [], _ => by simp [Op.bytesLess, num_nil]
  | a :: x, b :: y, h => by
    have hl : x.length = y.length := by simpa using h
    have ih := bless_num x y hl
    unfold Op.bytesLess
    rw [num_cons, num_cons, ih, ← hl]
    have h1 := num_lt256 x
    have h2 := num_lt256 y
    rw [← hl] at h2
    obtain ⟨P, hP⟩ : ∃ P, P = 256 ^ x.length := ⟨_, rfl⟩
    rw [← hP] at h1 h2 ⊢
    rcases Nat.lt_trichotomy a.toNat b.toNat with hc | hc | hc
    · have e1 : decide (a < b) = true := by simpa [UInt8.lt_iff_toNat_lt] using hc
      have h3 := Nat.mul_le_mul_right P (show a.toNat + 1 ≤ b.toNat by omega)
      rw [Nat.add_mul, Nat.one_mul] at h3
      rw [e1, Bool.true_or, eq_comm, decide_eq_true_eq]
      omega
    · have hab : a = b := UInt8.toNat_inj.1 hc
      subst hab
      have e1 : decide (a < a) = false := by simp
      rw [e1, Bool.false_or, beq_self_eq_true, Bool.true_and]
      congr 1
      rw [eq_iff_iff]
      constructor <;> intro h <;> omega
    · have e1 : decide (a < b) = false := by simp only [decide_eq_false_iff_not, UInt8.lt_iff_toNat_lt]; omega
      have e2 : (a == b) = false := by
        rw [beq_eq_false_iff_ne]
        rintro rfl
        omega
      have h3 := Nat.mul_le_mul_right P (show b.toNat + 1 ≤ a.toNat by omega)
      rw [Nat.add_mul, Nat.one_mul] at h3
      rw [e1, e2, Bool.false_and, Bool.false_or, eq_comm, decide_eq_false_iff_not]
      omega
theorem be_less {a b : Nat} (ha : a < 18446744073709551616) (hb : b < 18446744073709551616) : Op.bytesLess (be a 8) (be b 8) = decide (a < b) := by
  rw [bless_num _ _ (by rw [be_len, be_len]), num_be_lt (by omega), num_be_lt (by omega)]
theorem clock_parts (n : Nat) (es : List Ent) : (bodyOf ⟨n, es⟩).take 4 = magic ∧ ((bodyOf ⟨n, es⟩).drop 4).take 8 = be n 8 ∧ (bodyOf ⟨n, es⟩).drop 12 = be es.length 4 ++ encs es := by
  have e : bodyOf ⟨n, es⟩ = magic ++ (be n 8 ++ (be es.length 4 ++ encs es)) := rfl
  have hm : magic.length = 4 := rfl
  refine ⟨?_, ?_, ?_⟩
  · rw [e, List.take_append_of_le_length (by omega), List.take_of_length_le (by omega)]
  · rw [e, List.drop_append_of_le_length (by omega), List.drop_of_length_le (by omega), List.nil_append, List.take_append_of_le_length (by rw [be_len]; omega), List.take_of_length_le (by rw [be_len]; omega)]
  · rw [e, ← List.append_assoc, List.drop_append_of_le_length (by rw [List.length_append, be_len]; omega), List.drop_of_length_le (by rw [List.length_append, be_len]; omega), List.nil_append]
theorem may_clock {n m : Nat} {es : List Ent} (h : May ⟨n, es⟩) (hm : m < 18446744073709551616) : May ⟨m, es⟩ := by
  cases h
  constructor <;> assumption
theorem sub_str {W : World} {B g off : Nat} {l : List UInt8} (h : Row W B (some ⟨g, off, none⟩) (u8s l)) (i m c : Nat) (hl : i + m ≤ l.length) :
    (convert 26 9 (.slice (some ⟨g, off + i, none⟩) m c)).run Tryd.prog W = .ok (.string ⟨((l.drop i).take m).toArray⟩) W := by
  have hk : ((l.drop i).take m).length = m := by rw [List.length_take, List.length_drop]; omega
  have h2 : Row W B (some ⟨g, off + i, none⟩) (u8s ((l.drop i).take m)) := by
    rw [← u8s_take, ← u8s_drop]
    exact (h.from_ i).take m
  have := row_string (c := c) h2
  rwa [hk] at this

set_option maxHeartbeats 16000000 in
set_option maxRecDepth 100000 in
theorem packClock_walk (w : World) (a0 a1 : Int) (l2 : List (List UInt8)) (A2 : Option Addr) (c2 : Nat) (h0 : 0 ≤ a0 ∧ a0 ≤ 18446744073709551615) (h1 : 0 ≤ a1 ∧ a1 ≤ 18446744073709551615)
    (n2 : l2.length ≤ 140737488351232) (m2 : ∀ l ∈ l2, l.length ≤ 140737488351232) (r2 : frame.Rows w w.heap.size A2 l2) :
    Calls Tryd.prog 8 #[.int .u64 a0, .int .u64 a1, .slice A2 l2.length c2] w fun e w' => e = .returned (.bool true) ∧ Below w.heap.size w w' := by
  obtain ⟨a, rfl⟩ : ∃ k : Nat, a0 = (k : Int) := ⟨a0.toNat, by omega⟩
  obtain ⟨b, rfl⟩ : ∃ k : Nat, a1 = (k : Int) := ⟨a1.toNat, by omega⟩
  have ha : a < 18446744073709551616 := by omega
  have hb : b < 18446744073709551616 := by omega
  have HFW := Lib.hid (few_any l2 A2 c2 n2 m2 w w.heap.size r2)
  have HSN := Lib.hid (snap_any 5 (by decide) l2 A2 c2 [] none 0 n2 (by simp) (by simp) w r2 Row.nil_)
  clear r2 m2 h0 h1
  by_cases hfew : tot l2 ≤ 300
  · have hd : decide (tot l2 ≤ 300) = true := by simpa using hfew
    rw [hd] at HFW
    clear hd
    have hs2 := snap_size (clock := 5) l2 []
    have hmay := snapOf_may (clock := 5) (by decide) l2 []
    obtain ⟨es, hes⟩ : ∃ es, es = (snapOf 5 l2 []).es := ⟨_, rfl⟩
    have hm5 : May ⟨5, es⟩ := by rw [hes]; exact hmay
    rw [← hes] at HSN hs2
    have HMA := Lib.hid (may_clock hm5 ha)
    have HMB := Lib.hid (may_clock hm5 hb)
    clear hes hmay hm5
    go_enter Tryd.func8, Tryd.ntmps8
    go_wp2_with fail
    refine HFW.out.mono ?_
    rintro e w1 ⟨rfl, rfl⟩
    go_wp2_with fail
    refine HSN.out.mono ?_
    rintro e w2 ⟨A, cp, rfl, hcp, hrow, hb2⟩
    have HR2 := Lib.hid hrow
    have HB2 := Lib.hid hb2
    clear hrow hb2 HSN HFW
    obtain ⟨W, hW⟩ : ∃ W, W = (w2.alloc (.cells #[.int .u64 (a : Nat), .slice A es.length cp] 25)).alloc (.cells #[.int .u64 (b : Nat), .slice A es.length cp] 25) := ⟨_, rfl⟩
    have hbw : Below w2.heap.size w2 W := by rw [hW]; exact ((Below.refl _ _).alloc (Nat.le_refl _) _).alloc (by simp) _
    have HBW := Lib.hid hbw
    have HRW := Lib.hid ((HR2.out.below hbw).more hbw.size)
    have hbb : Blk W (w2.heap.size + 1) 25 #[.int .u64 (b : Nat), .slice A es.length cp] := by
      rw [hW]
      have h := Blk.new (w2.alloc (.cells #[.int .u64 (a : Nat), .slice A es.length cp] 25)) 25 #[.int .u64 (b : Nat), .slice A es.length cp]
      simpa using h
    have HBB := Lib.hid hbb
    have HW := Lib.hid hW
    have hzz : 16 ≤ sizeOf es := by rw [sizeOf_encs]; omega
    have HLA : Hid ((bodyOf ⟨a, es⟩).length = sizeOf es) := Lib.hid (body_len _)
    have HLB : Hid ((bodyOf ⟨b, es⟩).length = sizeOf es) := Lib.hid (body_len _)
    obtain ⟨z, hz⟩ : ∃ z, z = sizeOf es := ⟨_, rfl⟩
    rw [← hz] at HLA HLB hzz hs2
    have HZ := Lib.hid hz
    clear hW hbw hbb hz
    go_wp2_with fail
    rw [← HW.out]
    refine (enc_any ⟨a, es⟩ A cp (by have := HZ.out; simp only; omega) ha (fun e he => (HMA.out.fits e he).2) W HRW.out).mono ?_
    rintro e w3 ⟨A3, c3, rfl, hc3, hr3, hb3⟩
    rw [encode_may HMA.out] at hc3 hr3 ⊢
    simp only at hc3 hr3 ⊢
    rw [HLA.out] at hc3 ⊢
    have HR3 := Lib.hid hr3
    have HB3 := Lib.hid (HBW.out.trans (hb3.mono HBW.out.size))
    have HRW3 := Lib.hid ((HRW.out.below hb3).more hb3.size)
    have HBB3 := Lib.hid (HBB.out.below hb3 HBB.out.lt)
    have d0 : w3.cell? ⟨w2.heap.size + 1, 0, none⟩ = some (.int .u64 (b : Nat)) := HBB3.out.cell 0
    have d1 : w3.cell? ⟨w2.heap.size + 1, 1, none⟩ = some (.slice A es.length cp) := HBB3.out.cell 1
    clear hr3 hb3 HBB HRW HBW
    go_wp2_with fail
    refine (enc_any ⟨b, es⟩ A cp (by have := HZ.out; simp only; omega) hb (fun e he => (HMB.out.fits e he).2) w3 HRW3.out).mono ?_
    rintro e w4 ⟨A4, c4, rfl, hc4, hr4, hb4⟩
    rw [encode_may HMB.out] at hc4 hr4 ⊢
    simp only at hc4 hr4 ⊢
    rw [HLB.out] at hc4 ⊢
    have HR3' := Lib.hid ((HR3.out.below hb4).more hb4.size)
    have HR4 := Lib.hid hr4
    have HB4 := Lib.hid (HB2.out.trans ((HB3.out.trans (hb4.mono HB3.out.size)).mono HB2.out.size))
    clear hr4 hb4 HBB3 HRW3 d0 d1 HR3 HB3
    obtain ⟨g3, o3, rfl, -, -⟩ := HR3'.out.at_ (k := 0) (by rw [List.length_map, HLA.out]; omega)
    obtain ⟨g4, o4, rfl, -, -⟩ := HR4.out.at_ (k := 0) (by rw [List.length_map, HLB.out]; omega)
    obtain ⟨T, hT⟩ : ∃ T, T = be es.length 4 ++ encs es := ⟨_, rfl⟩
    obtain ⟨P, hP⟩ : ∃ P, P = be a 8 := ⟨_, rfl⟩
    obtain ⟨Q, hQ⟩ : ∃ Q, Q = be b 8 := ⟨_, rfl⟩
    have HX := Lib.hid (clock_parts a es)
    have HY := Lib.hid (clock_parts b es)
    rw [← hT, ← hP] at HX
    rw [← hT, ← hQ] at HY
    obtain ⟨q, f1, f2⟩ : ∃ q : Bool, (P == Q) = q ∧ ((a : Int) == (b : Int)) = q := by
      refine ⟨_, rfl, ?_⟩
      rw [hP, hQ, Bool.eq_iff_iff, beq_iff_eq, beq_iff_eq]
      constructor
      · intro h
        have : a = b := by omega
        rw [this]
      · intro h
        have := be_inj (k := 8) (by omega) (by omega) h
        omega
    obtain ⟨r, f3, f4, f5⟩ : ∃ r : Bool, Op.bytesLess P Q = r ∧ decide ((a : Int) < (b : Int)) = r ∧ decide (a < b) = r := by
      refine ⟨_, rfl, ?_, ?_⟩
      · rw [hP, hQ, be_less ha hb]
        congr 1
        rw [eq_iff_iff]
        omega
      · rw [hP, hQ, be_less ha hb]
    have HS : Hid (∀ (g o c : Nat) (X : List UInt8) (U : World) (V : List UInt8), Row U U.heap.size (some ⟨g, o, none⟩) (u8s X) → X.length = z → (X.take 4 = magic ∧ (X.drop 4).take 8 = V ∧ X.drop 12 = T) →
        (convert 26 9 (.slice (some ⟨g, o, none⟩) 4 c)).run Tryd.prog U = .ok (.string ⟨#[84, 76, 82, 49]⟩) U ∧
        (convert 26 9 (.slice (some ⟨g, o + 4, none⟩) 8 (c - 4))).run Tryd.prog U = .ok (.string ⟨V.toArray⟩) U ∧
        (convert 26 9 (.slice (some ⟨g, o + 12, none⟩) (z - 12) (c - 12))).run Tryd.prog U = .ok (.string ⟨T.toArray⟩) U) := Lib.hid (by
      rintro g o c X U V hr hl ⟨p1, p2, p3⟩
      have q1 := sub_str hr 0 4 c (by omega)
      have q2 := sub_str hr 4 8 (c - 4) (by omega)
      have q3 := sub_str hr 12 (z - 12) (c - 12) (by omega)
      rw [List.drop_zero, p1] at q1
      rw [p2] at q2
      rw [p3, List.take_of_length_le (by rw [← p3, List.length_drop]; omega)] at q3
      exact ⟨q1, q2, q3⟩)
    have b1 : (16 : Int) ≤ z := by omega
    have b2 : (4 : Int) ≤ c3 := by omega
    have b3 : (4 : Int) ≤ c4 := by omega
    have b4 : (12 : Int) ≤ c3 := by omega
    have b5 : (12 : Int) ≤ c4 := by omega
    have b6 : (12 : Int) ≤ z := by omega
    have b7 : (z : Int) ≤ c3 := by omega
    have b8 : (z : Int) ≤ c4 := by omega
    have b9 : ¬ c3 = 4 := by omega
    have b10 : ¬ c4 = 4 := by omega
    have b11 : ¬ c3 = 12 := by omega
    have b12 : ¬ c4 = 12 := by omega
    clear hT hP hQ
    go_wp2_with fail
    rename_i KC hKC
    have HKC := Lib.hid hKC
    clear hKC
    have D_0 := Lib.hid (Below.refl w4.heap.size w4).drew
    go_region_held (fun w' => True) (first | go_keep | trivial)
      (first
        | ((with_reducible refine (known_any _).mono ?_); rintro e z1 ⟨rfl, hb⟩; have D_1 := Lib.hid (D_0.out.trans (hb.mono D_0.out.size)); have hx := HS.out g3 o3 c3 _ z1 P ((HR3'.out.below D_1.out).more D_1.out.size) HLA.out HX.out; obtain ⟨x1, x2, x3⟩ := hx; have hy := HS.out g4 o4 c4 _ z1 Q ((HR4.out.below D_1.out).more D_1.out.size) HLB.out HY.out; obtain ⟨y1, y2, y3⟩ := hy; clear hb))
    all_goals
      change KC _ _
      refine HKC.out _ _ ?_
      go_wp2_with fail
      go_ret
      exact ⟨by simp [f5], HB4.out.trans (D_1.out.mono HB4.out.size)⟩
  · have hd : decide (tot l2 ≤ 300) = false := by simpa using hfew
    rw [hd] at HFW
    clear hd
    go_enter Tryd.func8, Tryd.ntmps8
    go_wp2_with fail
    refine HFW.out.mono ?_
    rintro e w1 ⟨rfl, rfl⟩
    go_wp2_with fail
    refine (known_any _).mono ?_
    rintro e wk ⟨rfl, hbk⟩
    go_wp2_with fail
    go_ret
    exact ⟨rfl, hbk⟩
end Go.Proofs.YthlaigpopplafaaDoor.pack
