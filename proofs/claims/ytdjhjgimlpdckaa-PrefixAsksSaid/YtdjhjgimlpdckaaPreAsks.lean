/- the reference's Len, and asks, walked. -/
import Derived.Test.YtdjhjgimlpdckaaPreRefFind
import Derived.Test.YtdjhjgimlpdckaaPrePlain
namespace Go.Proofs.Ytdjhjgimlpdckaa.pre
open Go.RowKit
open Go.Proofs.Ytdjhjgimlpdckaa.aid

theorem isFirst_new {L : List Rul} {m : Nat} {y : Rul} (h : L[m]? = some y) : isFirst L m = newIn (L.take m) y.pre := by
  unfold isFirst newIn
  rw [h]

set_option maxRecDepth 100000 in
set_option maxHeartbeats 4000000 in
theorem reflen_any (L : List Rul) (A : Option Addr) (c : Nat) (hL : L.length ≤ 1000000) (w : World) (hr : Row w w.heap.size A (rcells L)) :
    Calls Try.prog 16 #[.slice A L.length c] w fun e w' => e = .returned (.int .i64 (firsts L L.length : Nat)) ∧ Below w.heap.size w w' := by
  have HR := Lib.hid hr
  clear hr
  go_enter Try.func16, Try.ntmps16
  go_wp2
  go_loopw [3, 4] (fun n i wr => ∃ m : Nat, m ≤ L.length ∧ i = .int .i64 (m : Nat) ∧ n = .int .i64 (firsts L m : Nat) ∧ Hid (Below w.heap.size w wr)) (fun _ i _ => L.length - (intOf i).toNat)
  case atStart => exact ⟨0, Nat.zero_le _, rfl, rfl, Lib.hid (Below.refl _ _)⟩
  case round =>
    obtain ⟨m, hm, rfl, rfl, HB⟩ := hrel
    have hfl := firsts_le L m
    by_cases hlt : m < L.length
    · obtain ⟨y, hy⟩ : ∃ y, L[m]? = some y := ⟨_, List.getElem?_eq_getElem hlt⟩
      obtain ⟨b1, off1, rfl, hb1, d0, -⟩ := rul_at (HR.out.below HB.out) hy
      obtain ⟨S1, hS1⟩ : ∃ S1 : ByteArray, S1 = ⟨y.pre.toArray⟩ := ⟨_, rfl⟩
      rw [← hS1] at d0
      have HY := Lib.hid hy
      have HS1 := Lib.hid hS1
      have hwm : IntKind.i64.wrap ((m : Int) + 1) = (m : Int) + 1 := wrap_small _ (by omega) (by omega)
      obtain ⟨n, hn⟩ : ∃ n, n = firsts L m := ⟨_, rfl⟩
      rw [← hn] at hfl ⊢
      have hwn : IntKind.i64.wrap ((n : Int) + 1) = (n : Int) + 1 := wrap_small _ (by omega) (by omega)
      have HNN := Lib.hid hn
      have hbl : b1 < wr.heap.size := Nat.lt_of_lt_of_le hb1 HB.out.size
      clear hy hS1 hn
      go_wp2
      obtain ⟨wo, rfl⟩ : ∃ wo : World, wo = wr := ⟨_, rfl⟩
      go_loopw [5, 6] (fun is j wr => ∃ q : Nat, q ≤ m ∧ j = .int .i64 (q : Nat) ∧ is = .bool (newIn (L.take q) y.pre) ∧ Hid (Below wo.heap.size wo wr)) (fun _ j _ => m - (intOf j).toNat)
      case atStart => exact ⟨0, Nat.zero_le _, rfl, rfl, Lib.hid (Below.refl _ _)⟩
      case round =>
        obtain ⟨q, hq, rfl, rfl, HB2⟩ := hrel
        have d0' : wr.cell? ⟨b1, off1 + m * 4, none⟩ = some (.string S1) := (HB2.out.cell (p := ⟨b1, _, none⟩) hbl).trans d0
        by_cases hlt2 : q < m
        · obtain ⟨z, hz⟩ : ∃ z, L[q]? = some z := ⟨_, List.getElem?_eq_getElem (by omega)⟩
          obtain ⟨b2, off2, e2, hb2, f0, -⟩ := rul_at ((HR.out.below HB.out).below (HB2.out.mono HB.out.size)) hz
          injection e2 with e2
          injection e2 with e3 e4
          subst e3 e4
          obtain ⟨S2, hS2⟩ : ∃ S2 : ByteArray, S2 = ⟨z.pre.toArray⟩ := ⟨_, rfl⟩
          rw [← hS2] at f0
          have HZ := Lib.hid hz
          have HS2 := Lib.hid hS2
          have hwq : IntKind.i64.wrap ((q : Int) + 1) = (q : Int) + 1 := wrap_small _ (by omega) (by omega)
          have hql : (q : Int) < L.length := by omega
          clear hz
          cases hb : newIn (L.take q) y.pre with
          | false =>
            go_wp2
            go_quiet (fail)
            go_wp2
            go_roundw
            case rel => exact ⟨q + 1, hlt2, by go_num, by rw [newIn_succ HZ.out, hb]; rfl, Lib.hid (below_drewN HB2.out _)⟩
            case measure => simp [intOf]; omega
          | true =>
            by_cases he : z.pre = y.pre
            · have hse : S2 = S1 := by rw [HS2.out, HS1.out, he]
              clear hS2
              go_wp2
              go_quiet (fail)
              go_wp2
              go_roundw
              case rel => exact ⟨q + 1, hlt2, by go_num, by rw [newIn_succ HZ.out, hb]; simp [he], Lib.hid (below_drewN HB2.out _)⟩
              case measure => simp [intOf]; omega
            · have HSL := Lib.hid (show ¬ S2.toList = S1.toList from fun e => he (by rw [HS2.out, HS1.out, ByteArray.toList_eq, ByteArray.toList_eq] at e; simpa using e))
              clear hS2
              go_wp2
              go_quiet (fail)
              go_wp2
              go_roundw
              case rel => exact ⟨q + 1, hlt2, by go_num, by rw [newIn_succ HZ.out, hb]; simp [he]; exact HSL.out, Lib.hid (below_drewN HB2.out _)⟩
              case measure => simp [intOf]; omega
        · obtain rfl : q = m := by omega
          have BW := Lib.hid (HB.out.trans (HB2.out.mono HB.out.size))
          have hfs : firsts L (q + 1) = n + if newIn (L.take q) y.pre then 1 else 0 := by
            show firsts L q + (if isFirst L q then 1 else 0) = _
            rw [isFirst_new HY.out, HNN.out]
          cases hb : newIn (L.take q) y.pre with
          | false =>
            rw [hb] at hfs
            have HFS := Lib.hid hfs
            clear hfs
            go_wp2
            go_roundw
            case rel => exact ⟨q + 1, hlt, by go_num, by rw [HFS.out]; rfl, BW⟩
            case measure => simp [intOf]; omega
          | true =>
            rw [hb] at hfs
            have HFS := Lib.hid hfs
            clear hfs
            go_wp2
            go_roundw
            case rel => exact ⟨q + 1, hlt, by go_num, by rw [HFS.out]; rfl, BW⟩
            case measure => simp [intOf]; omega
    · obtain rfl : m = L.length := by omega
      obtain ⟨n, hn⟩ : ∃ n, n = firsts L L.length := ⟨_, rfl⟩
      rw [← hn]
      have HNN := Lib.hid hn
      clear hn
      go_wp2
      go_ret
      exact ⟨by rw [HNN.out]; rfl, HB.out⟩

theorem found_gen (o : Option Rul) : ∃ (F : ByteArray) (e b k : Int) (f : Bool), found o = .tuple #[.agg #[.string F, .int .u64 e, .int .u64 b, .int .u8 k], .bool f] := by
  cases o with
  | none => exact ⟨_, _, _, _, _, rfl⟩
  | some x => exact ⟨_, _, _, _, _, rfl⟩

set_option maxRecDepth 100000 in
set_option maxHeartbeats 4000000 in
theorem asks_any (L : List Rul) (A : Option Addr) (c : Nat) (hL : L.length ≤ 1000) (hbig : ∀ x ∈ L, x.pre.length ≤ 1000) (k : ByteArray) (hk : k.size ≤ 10000) (w : World) (hr : Row w w.heap.size A (rcells L)) :
    Calls Try.prog 11 #[.slice A L.length c, .string k] w fun e w' => e = .returned (.bool true) ∧ Below w.heap.size w w' := by
  have HR := Lib.hid hr
  have HBG := Lib.hid hbig
  have hN := new_any L A c (by omega) (fun x hx => by have := hbig x hx; unfold big; omega) w hr
  have hbig2 : ∀ x ∈ L, x.pre.length ≤ 1000000 := fun x hx => by have := hbig x hx; omega
  have HRF := Lib.hid (fun (q : ByteArray) (hq : q.size ≤ 9223372036854775807) (W : World) (h : Below w.heap.size w W) => reffind_any L A c (by omega) hbig2 q hq W ((hr.below h).more h.size))
  have HRL := Lib.hid (fun (W : World) (h : Below w.heap.size w W) => reflen_any L A c (by omega) W ((hr.below h).more h.size))
  have HN := Lib.hid hN
  clear hN hbig hbig2 hr
  go_enter Try.func11, Try.ntmps11
  go_wp2_with fail
  refine HN.out.mono ?_
  rintro e x1 ⟨root, rfl, hT, hB1⟩
  have B1 := Lib.hid hB1
  have T1 := Lib.hid hT
  clear hB1 hT HN
  go_wp2_with fail
  refine (find_any _ _ root L T1.out k (by unfold big; omega)).mono ?_
  rintro e x2 ⟨o, rfl, ho, hB2⟩
  obtain ⟨F, E, U, D, f, hfo⟩ := found_gen o
  rw [hfo]
  have B2 := Lib.hid ((B1.out.trans (hB2.mono B1.out.size)).alloc (Nat.le_trans B1.out.size hB2.size) (.cells #[.string F, .int .u64 E, .int .u64 U, .int .u8 D] 28))
  have T2 := Lib.hid ((T1.out.below hB2).below ((Below.refl _ x2).alloc (Nat.le_refl _) (.cells #[.string F, .int .u64 E, .int .u64 U, .int .u8 D] 28)))
  have Q2 := Lib.hid (Blk.new x2 28 #[.string F, .int .u64 E, .int .u64 U, .int .u8 D])
  have HO := Lib.hid ho
  have HFO := Lib.hid hfo
  clear ho hfo hB2 T1 B1
  go_wp2_with fail
  refine (HRF.out k (by omega) _ B2.out).mono ?_
  rintro e x3 ⟨o', rfl, ho', hB3⟩
  obtain rfl : o' = o := isFind_uni ho' HO.out
  rw [HFO.out]
  have B3 := ((B2.out.trans (hB3.mono B2.out.size)).alloc (Nat.le_trans B2.out.size hB3.size) (.cells #[.string F, .int .u64 E, .int .u64 U, .int .u8 D] 28))
  have T3 := ((T2.out.below hB3).below ((Below.refl _ x3).alloc (Nat.le_refl _) (.cells #[.string F, .int .u64 E, .int .u64 U, .int .u8 D] 28)))
  have Q3 := ((Q2.out.below hB3 Q2.out.lt).alloc (.cells #[.string F, .int .u64 E, .int .u64 U, .int .u8 D] 28))
  have P3 := (Blk.new x3 28 #[.string F, .int .u64 E, .int .u64 U, .int .u8 D])
  clear ho' hB3 T2 B2
  go_wp2
  generalize x3.alloc (.cells #[.string F, .int .u64 E, .int .u64 U, .int .u8 D] 28) = X at B3 T3 Q3 P3 ⊢
  have HB3 := Lib.hid B3
  have HT3 := Lib.hid T3
  have HQ3 := Lib.hid Q3
  have HP3 := Lib.hid P3
  clear B3 T3 Q3 P3
  go_loopw [10] (fun i wr => ∃ m : Nat, m ≤ L.length ∧ m ≤ 8 ∧ i = .int .i64 (m : Nat) ∧ Hid (Below X.heap.size X wr)) (fun i _ => 8 - (intOf i).toNat)
  case atStart => exact ⟨0, Nat.zero_le _, by omega, rfl, Lib.hid (Below.refl _ _)⟩
  case round =>
    obtain ⟨m, hm, hm8, rfl, HB⟩ := hrel
    by_cases hgo : m < L.length ∧ m < 8
    · obtain ⟨hlt, hlt8⟩ := hgo
      obtain ⟨y, hy⟩ : ∃ y, L[m]? = some y := ⟨_, List.getElem?_eq_getElem hlt⟩
      have BW := HB3.out.trans (HB.out.mono HB3.out.size)
      obtain ⟨b1, off1, rfl, hb1, d0, -⟩ := rul_at (HR.out.below BW) hy
      obtain ⟨S1, hS1⟩ : ∃ S1 : ByteArray, S1 = ⟨y.pre.toArray⟩ := ⟨_, rfl⟩
      rw [← hS1] at d0
      have hz1 : S1.size = y.pre.length := by rw [hS1]; simp [ByteArray.size]
      have hyb := HBG.out y (List.mem_iff_getElem?.2 ⟨m, hy⟩)
      have hs1 : S1.size ≤ 1000 := by omega
      have hwm : IntKind.i64.wrap ((m : Int) + 1) = (m : Int) + 1 := wrap_small _ (by omega) (by omega)
      have hbl : b1 < wr.heap.size := Nat.lt_of_lt_of_le hb1 BW.size
      have HSB := Lib.hid (fun (W : World) (h : Below wr.heap.size wr W) => show W.cell? ⟨b1, off1 + m * 4, none⟩ = some (.string S1) from (h.cell (p := ⟨b1, _, none⟩) hbl).trans d0)
      have HBW := Lib.hid BW
      have TW := Lib.hid (HT3.out.below HB.out)
      clear hy hS1 hz1 hyb BW
      go_wp2_with fail
      refine (find_any _ _ root L TW.out S1 (by unfold big; omega)).mono ?_
      rintro e z1 ⟨o1, rfl, ho, hb⟩
      obtain ⟨F1, E1, U1, D1, f1, hfo⟩ := found_gen o1
      rw [hfo]
      have K1 := Lib.hid (hb.alloc hb.size (.cells #[.string F1, .int .u64 E1, .int .u64 U1, .int .u8 D1] 28))
      have q1 := Blk.new z1 28 #[.string F1, .int .u64 E1, .int .u64 U1, .int .u8 D1]
      have HQ1 := Lib.hid q1
      have HO1 := Lib.hid ho
      have HF1 := Lib.hid hfo
      have s1 := HSB.out z1 hb
      have l1 : b1 < z1.heap.size := Nat.lt_of_lt_of_le hbl hb.size
      clear ho hfo hb q1
      go_wp2_with fail
      refine (HRF.out S1 (by omega) _ (HBW.out.trans (K1.out.mono HBW.out.size))).mono ?_
      rintro e z2 ⟨o2, rfl, ho, hb⟩
      obtain rfl : o2 = o1 := isFind_uni ho HO1.out
      rw [HF1.out]
      have K2 := Lib.hid ((K1.out.trans (hb.mono K1.out.size)).alloc (Nat.le_trans K1.out.size hb.size) (.cells #[.string F1, .int .u64 E1, .int .u64 U1, .int .u8 D1] 28))
      have HQ2 := Lib.hid ((HQ1.out.below hb HQ1.out.lt).alloc (.cells #[.string F1, .int .u64 E1, .int .u64 U1, .int .u8 D1] 28))
      have HP2 := Lib.hid (Blk.new z2 28 #[.string F1, .int .u64 E1, .int .u64 U1, .int .u8 D1])
      have s2 := HSB.out z2 (K1.out.trans (hb.mono K1.out.size))
      have l2 : b1 < z2.heap.size := Nat.lt_of_lt_of_le hbl (K1.out.trans (hb.mono K1.out.size)).size
      clear ho hb HQ1 HO1 HF1 s1 l1
      go_wp2_with fail
      have hsz : (S1 ++ k).size = S1.size + k.size := by simp [ByteArray.size_append]
      refine (find_any _ _ root L (TW.out.below K2.out) (S1 ++ k) (by unfold big; omega)).mono ?_
      rintro e z3 ⟨o3, rfl, ho, hb⟩
      obtain ⟨F2, E2, U2, D2, f2, hfo⟩ := found_gen o3
      rw [hfo]
      have K3 := Lib.hid ((K2.out.trans (hb.mono K2.out.size)).alloc (Nat.le_trans K2.out.size hb.size) (.cells #[.string F2, .int .u64 E2, .int .u64 U2, .int .u8 D2] 28))
      have HQ3' := Lib.hid ((HQ2.out.below hb HQ2.out.lt).alloc (.cells #[.string F2, .int .u64 E2, .int .u64 U2, .int .u8 D2] 28))
      have HP3' := Lib.hid ((HP2.out.below hb HP2.out.lt).alloc (.cells #[.string F2, .int .u64 E2, .int .u64 U2, .int .u8 D2] 28))
      have HR3 := Lib.hid (Blk.new z3 28 #[.string F2, .int .u64 E2, .int .u64 U2, .int .u8 D2])
      have HO3 := Lib.hid ho
      have HF3 := Lib.hid hfo
      have s3 := HSB.out z3 (K2.out.trans (hb.mono K2.out.size))
      have l3 : b1 < z3.heap.size := Nat.lt_of_lt_of_le hbl (K2.out.trans (hb.mono K2.out.size)).size
      clear ho hfo hb HQ2 HP2 s2 l2
      go_wp2_with fail
      refine (HRF.out (S1 ++ k) (by omega) _ (HBW.out.trans (K3.out.mono HBW.out.size))).mono ?_
      rintro e z4 ⟨o4, rfl, ho, hb⟩
      obtain rfl : o4 = o3 := isFind_uni ho HO3.out
      rw [HF3.out]
      have K4 := Lib.hid ((K3.out.trans (hb.mono K3.out.size)).alloc (Nat.le_trans K3.out.size hb.size) (.cells #[.string F2, .int .u64 E2, .int .u64 U2, .int .u8 D2] 28))
      have q4 := HQ3'.out.below hb HQ3'.out.lt
      have p4 := HP3'.out.below hb HP3'.out.lt
      have r4 := HR3.out.below hb HR3.out.lt
      have u0 : z4.cell? ⟨z1.heap.size, 0, none⟩ = some (.string F1) := q4.cell 0
      have u1 : z4.cell? ⟨z1.heap.size, 1, none⟩ = some (.int .u64 E1) := q4.cell 1
      have u2 : z4.cell? ⟨z1.heap.size, 2, none⟩ = some (.int .u64 U1) := q4.cell 2
      have u3 : z4.cell? ⟨z1.heap.size, 3, none⟩ = some (.int .u8 D1) := q4.cell 3
      have v0 : z4.cell? ⟨z2.heap.size, 0, none⟩ = some (.string F1) := p4.cell 0
      have v1 : z4.cell? ⟨z2.heap.size, 1, none⟩ = some (.int .u64 E1) := p4.cell 1
      have v2 : z4.cell? ⟨z2.heap.size, 2, none⟩ = some (.int .u64 U1) := p4.cell 2
      have v3 : z4.cell? ⟨z2.heap.size, 3, none⟩ = some (.int .u8 D1) := p4.cell 3
      have t0 : z4.cell? ⟨z3.heap.size, 0, none⟩ = some (.string F2) := r4.cell 0
      have t1 : z4.cell? ⟨z3.heap.size, 1, none⟩ = some (.int .u64 E2) := r4.cell 1
      have t2 : z4.cell? ⟨z3.heap.size, 2, none⟩ = some (.int .u64 U2) := r4.cell 2
      have t3 : z4.cell? ⟨z3.heap.size, 3, none⟩ = some (.int .u8 D2) := r4.cell 3
      have lq := q4.lt
      have lp := p4.lt
      have lr := r4.lt
      clear ho hb q4 p4 r4 HQ3' HP3' HR3 HO3 HF3 s3 l3 hsz
      go_wp2
      go_roundw
      case rel => exact ⟨m + 1, hlt, by omega, by go_num, Lib.hid (HB.out.trans (K4.out.mono HB.out.size))⟩
      case measure => simp [intOf]; omega
    · have q3 := HQ3.out.below HB.out HQ3.out.lt
      have p3 := HP3.out.below HB.out HP3.out.lt
      have u0 : wr.cell? ⟨x2.heap.size, 0, none⟩ = some (.string F) := q3.cell 0
      have u1 : wr.cell? ⟨x2.heap.size, 1, none⟩ = some (.int .u64 E) := q3.cell 1
      have u2 : wr.cell? ⟨x2.heap.size, 2, none⟩ = some (.int .u64 U) := q3.cell 2
      have u3 : wr.cell? ⟨x2.heap.size, 3, none⟩ = some (.int .u8 D) := q3.cell 3
      have v0 : wr.cell? ⟨x3.heap.size, 0, none⟩ = some (.string F) := p3.cell 0
      have v1 : wr.cell? ⟨x3.heap.size, 1, none⟩ = some (.int .u64 E) := p3.cell 1
      have v2 : wr.cell? ⟨x3.heap.size, 2, none⟩ = some (.int .u64 U) := p3.cell 2
      have v3 : wr.cell? ⟨x3.heap.size, 3, none⟩ = some (.int .u8 D) := p3.cell 3
      have TW := Lib.hid (HT3.out.below HB.out)
      have BW := Lib.hid (HB3.out.trans (HB.out.mono HB3.out.size))
      clear q3 p3
      have hfin : ∀ (ga : Prop), ga → ga := fun _ h => h
      by_cases hl1 : m < L.length
      · have hl8 : ¬ m < 8 := fun h => hgo ⟨hl1, h⟩
        have hl8' : (8 : Int) ≤ m := by omega
        clear hgo hl8
        go_wp2_with fail
        refine (len_any _ _ root L TW.out).mono ?_
        rintro e y1 ⟨rfl, hb1⟩
        go_wp2_with fail
        refine (HRL.out y1 (BW.out.trans (hb1.mono BW.out.size))).mono ?_
        rintro e y2 ⟨rfl, hb2⟩
        go_wp2
        go_ret
        exact ⟨rfl, (BW.out.trans (hb1.mono BW.out.size)).trans (hb2.mono (Nat.le_trans BW.out.size hb1.size))⟩
      · obtain rfl : m = L.length := by omega
        clear hgo
        go_wp2_with fail
        refine (len_any _ _ root L TW.out).mono ?_
        rintro e y1 ⟨rfl, hb1⟩
        go_wp2_with fail
        refine (HRL.out y1 (BW.out.trans (hb1.mono BW.out.size))).mono ?_
        rintro e y2 ⟨rfl, hb2⟩
        go_wp2
        go_ret
        exact ⟨rfl, (BW.out.trans (hb1.mono BW.out.size)).trans (hb2.mono (Nat.le_trans BW.out.size hb1.size))⟩
end Go.Proofs.Ytdjhjgimlpdckaa.pre
