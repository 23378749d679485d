/- PrefixOrder, walked. -/
import Derived.Test.YtdjhjgimlpdckaaPreBehindWalk
namespace Go.Proofs.Ytdjhjgimlpdckaa.pre
open Go.RowKit
open Go.Proofs.Ytdjhjgimlpdckaa.aid

theorem once_iff {L : List Rul} : Once L ↔ L.Pairwise (fun x y => x.pre ≠ y.pre) := by
  rw [List.pairwise_iff_getElem]
  constructor
  · intro h i j hi hj hij he
    have := h i j _ _ (List.getElem?_eq_getElem hi) (List.getElem?_eq_getElem hj) he
    omega
  · intro h i j x y hx hy he
    obtain ⟨hi, rfl⟩ := List.getElem?_eq_some_iff.1 hx
    obtain ⟨hj, rfl⟩ := List.getElem?_eq_some_iff.1 hy
    rcases Nat.lt_trichotomy i j with hl | hl | hl
    · exact absurd he (h i j hi hj hl)
    · exact hl
    · exact absurd he.symm (h j i hj hi hl)
theorem once_reverse {L : List Rul} (h : Once L) : Once L.reverse := by
  rw [once_iff, List.pairwise_reverse]
  exact (once_iff.1 h).imp fun h => Ne.symm h
theorem reverse_find {L : List Rul} {k : List UInt8} {a : Rul} (h : IsFind L k (some a)) (ho : Once L) : IsFind L.reverse k (some a) := by
  obtain ⟨j, hj⟩ := List.mem_iff_getElem?.1 (List.mem_reverse.2 (find_mem h))
  exact ⟨⟨j, once_first (once_reverse ho) hj⟩, h.2.1, fun y hy hp => h.2.2 y (List.mem_reverse.1 hy) hp⟩

def BackRel (x : World) (base : Nat) (L : List Rul) (v i : Value) (wr : World) : Prop :=
  ∃ m : Nat, m ≤ L.length ∧ i = .int .i64 ((m : Int) - 1) ∧ Hid (wr.ownsRow base 28 4 v (L.length - m) (rcells (L.drop m).reverse)) ∧ Hid (Below base x wr)

set_option maxRecDepth 100000 in
set_option maxHeartbeats 4000000 in
theorem order_walk (w : World) (a0 : Int) (l1 : List Num) (A1 : Option Addr) (c1 : Nat) (l2 : List UInt8) (A2 : Option Addr) (c2 : Nat)
    (w0 : 0 ≤ a0 ∧ a0 ≤ 65535) (h1 : l1.length ≤ 9223372036854775807) (r1 : Nums w w.heap.size A1 l1) (h2 : l2.length ≤ 9223372036854775807) (r2 : Row w w.heap.size A2 (u8s l2)) :
    Calls Try.prog 4 #[.int .u16 a0, .slice A1 l1.length c1, .slice A2 l2.length c2] w fun e w' => e = .returned (.bool true) ∧ Below w.heap.size w w' := by
  obtain ⟨most, rfl⟩ : ∃ n : Nat, a0 = n := ⟨a0.toNat, by omega⟩
  obtain ⟨l, hl, hlen, hshort, honce⟩ := pol_facts most l1
  obtain ⟨L, hL⟩ : ∃ L, L = polRules most l1 := ⟨_, rfl⟩
  have hP := policy_any most (by omega) l1 A1 c1 h1 w r1
  rw [← hL] at hl hlen hshort honce hP
  obtain ⟨M, hM⟩ : ∃ M, M = ((1 + most % 50 : Nat) : Int) := ⟨_, rfl⟩
  rw [← hM] at hP
  have HP := Lib.hid hP
  have HL := Lib.hid hl
  have HS := Lib.hid hshort
  have HON := Lib.hid honce
  have R2 := Lib.hid r2
  have k2 := (key.keyOf_right l2).2.1
  obtain ⟨K, hK⟩ : ∃ K, K = key.keyOf l2 := ⟨_, rfl⟩
  rw [← hK] at k2
  have hK2 := key.key_any l2 A2 c2 h2
  rw [← hK] at hK2
  have HK2 := Lib.hid hK2
  obtain ⟨i0, hi, hz0, hz1, hz2⟩ := info_parts info_rule
  have HQ := Lib.hid (show _ ∧ _ ∧ _ ∧ _ from ⟨hi, hz0, hz1, hz2⟩)
  clear hi hz0 hz1 hz2
  clear hP hl hshort honce r2 hM hK hK2 hL r1
  go_enter Try.func4, Try.ntmps4
  go_wp2_with fail
  refine HP.out.mono ?_
  rintro e x1 ⟨Ap, cp, rfl, hcp, hrow, hB1⟩
  have hlp : 0 < L.length := by rw [HL.out]; simp
  have hwl : IntKind.i64.wrap ((L.length : Int) - 1) = (L.length : Int) - 1 := wrap_small _ (by omega) (by omega)
  have HBx := Lib.hid hB1
  have hlx : x1.heap.size + 1 = (x1.alloc (.cells #[.int .i64 M, .slice Ap L.length cp] 31)).heap.size := by simp
  have ROW1 := Lib.hid (show Row (x1.alloc (.cells #[.int .i64 M, .slice Ap L.length cp] 31)) (x1.heap.size + 1) Ap (rcells L) from (hrow.below ((Below.refl _ x1).alloc (Nat.le_refl _) _)).more (by omega))
  have P1 := Lib.hid (Blk.new x1 31 #[.int .i64 M, .slice Ap L.length cp])
  have B1 := Lib.hid (hB1.alloc hB1.size (.cells #[.int .i64 M, .slice Ap L.length cp] 31))
  clear hrow hB1 HP
  go_wp2
  generalize hX : x1.alloc (.cells #[.int .i64 M, .slice Ap L.length cp] 31) = X at ROW1 P1 B1 hlx
  have hst : BackRel X (x1.heap.size + 1) L (.slice none 0 0) (.int .i64 ((L.length : Int) - 1)) X := by
    refine ⟨L.length, Nat.le_refl _, rfl, Lib.hid ?_, Lib.hid (Below.refl _ _)⟩
    rw [Nat.sub_self, List.drop_length]
    exact World.ownsRow_nil _ _ _ _
  have HST := Lib.hid hst
  have HXX := Lib.hid hX
  clear hst hX
  go_loopw [8, 9] (fun v i wr => BackRel X (x1.heap.size + 1) L v i wr) (fun _ i _ => ((intOf i) + 1).toNat)
  case atStart => exact HST.out
  case round =>
    clear HST
    obtain ⟨m, hm, rfl, HO, HB⟩ := hrel
    have p1 : wr.cell? ⟨x1.heap.size, 1, none⟩ = some (.slice Ap L.length cp) := (HB.out.cell (p := ⟨x1.heap.size, 1, none⟩) (Nat.lt_succ_self _)).trans (P1.out.cell 1)
    have hxs : x1.heap.size + 1 ≤ wr.heap.size := by rw [hlx]; exact HB.out.size
    cases m with
    | zero =>
      have hB0 := HO.out
      rw [List.drop_zero, Nat.sub_zero] at hB0
      obtain ⟨AB, cB, hv, hcB⟩ := own_formN hB0
      subst hv
      have RB := Lib.hid (of_ownN hB0)
      have lpX : x1.heap.size < wr.heap.size := hxs
      have BW := HBx.out.trans (((Below.refl w.heap.size x1).alloc HBx.out.size (.cells #[.int .i64 M, .slice Ap L.length cp] 31)))
      rw [HXX.out] at BW
      have BV := BW.trans (HB.out.mono (by have := HBx.out.size; omega))
      have RP := Lib.hid ((ROW1.out.below HB.out).more hxs)
      have PV := Lib.hid (P1.out.below HB.out (Nat.lt_succ_self _))
      have HBV := Lib.hid BV
      have e0 : (((0 : Nat) : Int) - 1) = -1 := by omega
      rw [e0]
      clear HO hB0 BW BV e0
      have hN := new_any L Ap cp (by omega) (fun x hx => by have := HS.out x hx; unfold big; omega)
      have hlr : L.reverse.length = L.length := List.length_reverse
      have hM := new_any L.reverse AB cB (by omega) (fun x hx => by have := HS.out x (List.mem_reverse.1 hx); unfold big; omega)
      rw [hlr] at hM
      have HN := Lib.hid hN
      have HM := Lib.hid hM
      clear hN hM hlr
      go_wp2_with fail
      refine (HK2.out _ ((R2.out.below HBV.out).more HBV.out.size)).mono ?_
      rintro e y0 ⟨rfl, hC0⟩
      obtain ⟨SK, hSK⟩ : ∃ SK : ByteArray, SK = ⟨K.toArray⟩ := ⟨_, rfl⟩
      rw [← hSK]
      have EK := Lib.hid hSK
      have hkz : (SK.size : Int) ≤ 12 := by rw [hSK]; simp [ByteArray.size]; omega
      have p2 : y0.cell? ⟨x1.heap.size, 1, none⟩ = some (.slice Ap L.length cp) := (PV.out.below hC0 lpX).cell 1
      have C0 := Lib.hid hC0
      clear hSK hC0 k2
      go_wp2_with fail
      refine (HN.out y0 ((RP.out.below C0.out).more C0.out.size)).mono ?_
      rintro e y1 ⟨root, rfl, hT, hC1⟩
      have C1 := Lib.hid (C0.out.trans (hC1.mono C0.out.size))
      have T1 := Lib.hid hT
      clear hT hC1 HN
      go_wp2_with fail
      refine (find_any _ _ root L T1.out SK (by unfold big; omega)).mono ?_
      rintro e y2 ⟨o, rfl, ho, hC2⟩
      obtain ⟨a, rfl⟩ := find_all (z := rule0 most) (by rw [HL.out]; simp) rfl ho
      rw [found_some]
      obtain ⟨SA, hSA⟩ : ∃ SA : ByteArray, SA = ⟨a.pre.toArray⟩ := ⟨_, rfl⟩
      rw [← hSA]
      have haz : SA.size = a.pre.length := by rw [hSA]; simp [ByteArray.size]
      have has := HS.out a (find_mem ho)
      have hazi : (SA.size : Int) ≤ 12 := by omega
      have C2 := Lib.hid ((C1.out.trans (hC2.mono C1.out.size)).alloc (Nat.le_trans C1.out.size hC2.size) (.cells #[.string SA, .int .u64 a.every, .int .u64 a.burst, .int .u8 a.kind] 28))
      have Q2 := Lib.hid (Blk.new y2 28 #[.string SA, .int .u64 a.every, .int .u64 a.burst, .int .u8 a.kind])
      have HOK := Lib.hid ho
      have HSA := Lib.hid hSA
      clear haz has ho hSA T1 hC2
      go_wp2_with fail
      refine (HM.out _ ((RB.out.below C2.out).more C2.out.size)).mono ?_
      rintro e y3 ⟨root2, rfl, hT, hC3⟩
      have C3 := Lib.hid (C2.out.trans (hC3.mono C2.out.size))
      have Q3 := Lib.hid (Q2.out.below hC3 Q2.out.lt)
      have T3 := Lib.hid hT
      clear hT hC3 HM
      go_wp2_with fail
      refine (find_any _ _ root2 L.reverse T3.out SK (by unfold big; omega)).mono ?_
      rintro e y4 ⟨o, rfl, ho, hC4⟩
      have hoa : o = some a := isFind_uni ho (reverse_find HOK.out HON.out)
      subst hoa
      rw [found_some, ← HSA.out]
      have C4 := Lib.hid (C3.out.trans (hC4.mono C3.out.size))
      have q4 := Q3.out.below hC4 Q3.out.lt
      have a0' : y4.cell? ⟨y2.heap.size, 0, none⟩ = some (.string SA) := q4.cell 0
      have a1' : y4.cell? ⟨y2.heap.size, 1, none⟩ = some (.int .u64 a.every) := q4.cell 1
      have a2' : y4.cell? ⟨y2.heap.size, 2, none⟩ = some (.int .u64 a.burst) := q4.cell 2
      have a3' : y4.cell? ⟨y2.heap.size, 3, none⟩ = some (.int .u8 a.kind) := q4.cell 3
      have la4 : y2.heap.size < y4.heap.size := q4.lt
      have hpre : key.has SK.data.toList SA.data.toList = true := by
        have := HOK.out.2.1
        rw [HSA.out]
        exact List.isPrefixOf_iff_prefix.2 this
      have hle : (SA.size : Int) ≤ SK.size := by
        rcases Nat.lt_or_ge SK.size SA.size with h | h
        · rw [key.has_long SK SA h] at hpre; cases hpre
        · omega
      have hle2 : decide ((SK.size : Int) < SA.size) = false := by simp; omega
      have hle3 : decide (SK.size < SA.size) = false := by simp; omega
      have heq := key.has_take SK SA (by omega)
      rw [hpre] at heq
      have Q4 := Lib.hid q4
      clear ho hC4 q4 hpre T3
      go_wp2_with fail
      go_quiet (fail)
      go_wp2
      have HB4 := Lib.hid (below_drewN ((Below.refl y4.heap.size y4).alloc (Nat.le_refl _) (.cells #[.string SA, .int .u64 a.every, .int .u64 a.burst, .int .u8 a.kind] 28)) nq)
      have RB4 := Lib.hid (show Row y4 y4.heap.size AB (rcells L.reverse) from (RB.out.below C4.out).more C4.out.size)
      have HBZ := Lib.hid (HBV.out.trans (C4.out.mono HBV.out.size))
      have hlr : L.reverse.length = L.length := List.length_reverse
      clear a1' a2' a3' heq hle2 hle3 hle
      obtain ⟨wo, rfl⟩ : ∃ wo : World, wo = wr := ⟨_, rfl⟩
      go_loopw [15] (fun i wr => ∃ m : Nat, m ≤ L.length ∧ i = .int .i64 (m : Nat) ∧ Hid (Below y4.heap.size y4 wr)) (fun i _ => L.length - (intOf i).toNat)
      case atStart => exact ⟨0, Nat.zero_le _, rfl, HB4⟩
      case round =>
        clear HB4
        obtain ⟨m, hm2, rfl, HB5⟩ := hrel
        have a0' : wr.cell? ⟨y2.heap.size, 0, none⟩ = some (.string SA) := (HB5.out.cell (p := ⟨y2.heap.size, 0, none⟩) la4).trans (Q4.out.cell 0)
        by_cases hlt : m < L.length
        · obtain ⟨y, hy⟩ : ∃ y, L.reverse[m]? = some y := ⟨_, List.getElem?_eq_getElem (by omega)⟩
          obtain ⟨b1, off1, rfl, hb1, d0, -⟩ := rul_at (RB4.out.below HB5.out) hy
          obtain ⟨S1, hS1⟩ : ∃ S1 : ByteArray, S1 = ⟨y.pre.toArray⟩ := ⟨_, rfl⟩
          rw [← hS1] at d0
          have hyL : y ∈ L := List.mem_reverse.1 (List.mem_iff_getElem?.2 ⟨m, hy⟩)
          have hbig := HOK.out.2.2 y hyL
          have z1 : S1.size = y.pre.length := by rw [hS1]; simp [ByteArray.size]
          have za : SA.size = a.pre.length := by rw [HSA.out]; simp [ByteArray.size]
          have hys := HS.out y hyL
          have hz12 : (S1.size : Int) ≤ 12 := by omega
          have hcase : (S1.size ≤ SA.size) ∨ (SA.size < S1.size ∧ SK.size < S1.size) ∨ (SA.size < S1.size ∧ S1.size ≤ SK.size ∧ ((SK.extract 0 S1.size).toList == S1.toList) = false) := by
            rcases Nat.lt_or_ge SA.size S1.size with h | h
            · rcases Nat.lt_or_ge SK.size S1.size with h2 | h2
              · exact .inr (.inl ⟨h, h2⟩)
              · refine .inr (.inr ⟨h, h2, ?_⟩)
                rw [key.has_take SK S1 h2, Bool.eq_false_iff]
                intro hh
                have hp : y.pre <+: SK.data.toList := by
                  have := List.isPrefixOf_iff_prefix.1 hh
                  rw [hS1] at this
                  exact this
                have := hbig hp
                omega
            · exact .inl h
          have hwm : IntKind.i64.wrap ((m : Int) + 1) = (m : Int) + 1 := wrap_small _ (by omega) (by omega)
          have hbl : b1 < wr.heap.size := Nat.lt_of_lt_of_le hb1 HB5.out.size
          clear hy hS1 hyL hbig z1 za hys
          rcases hcase with h | ⟨h, h2⟩ | ⟨h, h2, h3⟩
          · have t1 : decide ((SA.size : Int) < S1.size) = false := by simp; omega
            have t2 : decide (SA.size < S1.size) = false := by simp; omega
            have t3 : (S1.size : Int) ≤ SA.size := by omega
            go_wp2
            go_roundw
            case rel => exact ⟨m + 1, hlt, by go_num, HB5⟩
            case measure => simp [intOf]; omega
          · have t1 : (SA.size : Int) < S1.size := by omega
            have t3 : (SK.size : Int) < S1.size := by omega
            go_wp2
            go_roundw
            case rel => exact ⟨m + 1, hlt, by go_num, HB5⟩
            case measure => simp [intOf]; omega
          · have t1 : (SA.size : Int) < S1.size := by omega
            have t3 : (S1.size : Int) ≤ SK.size := by omega
            go_wp2
            go_roundw
            case rel => exact ⟨m + 1, hlt, by go_num, HB5⟩
            case measure => simp [intOf]; omega
        · obtain rfl : m = L.length := by omega
          go_wp2_with fail
          refine (known_any _).mono ?_
          rintro e z ⟨rfl, hbz⟩
          go_wp2
          go_ret
          have h4 := HBZ.out.trans (HB5.out.mono HBZ.out.size)
          exact ⟨rfl, h4.trans (hbz.mono h4.size)⟩
    | succ m =>
      obtain ⟨y, hy⟩ : ∃ y, L[m]? = some y := ⟨_, List.getElem?_eq_getElem (by omega)⟩
      obtain ⟨b1, off1, rfl, hb1, d0, d1, d2, d3⟩ := rul_at (ROW1.out.below HB.out) hy
      obtain ⟨SY, hSY⟩ : ∃ SY : ByteArray, SY = ⟨y.pre.toArray⟩ := ⟨_, rfl⟩
      rw [← hSY] at d0
      have hbl : b1 < wr.heap.size := Nat.lt_of_lt_of_le hb1 hxs
      have hwm : IntKind.i64.wrap ((m : Int) - 1) = (m : Int) - 1 := by unfold IntKind.wrap; simp [IntKind.bits, IntKind.signed, IntKind.min, IntKind.max]; omega
      have e1 : (((m + 1 : Nat) : Int) - 1) = (m : Int) := by omega
      have hdrop : rcells (L.drop m).reverse = rcells (L.drop (m + 1)).reverse ++ [.string SY, .int .u64 y.every, .int .u64 y.burst, .int .u8 y.kind] := by
        obtain ⟨hlt, e⟩ := List.getElem?_eq_some_iff.1 hy
        rw [List.drop_eq_getElem_cons hlt, e, List.reverse_cons, rcells_append, hSY]
        rfl
      have HDR := Lib.hid hdrop
      have HO1 := Lib.hid (HO.out.alloc (.cells #[.string SY, .int .u64 y.every, .int .u64 y.burst, .int .u8 y.kind] 28))
      have HB1' := Lib.hid (HB.out.alloc hxs (.cells #[.string SY, .int .u64 y.every, .int .u64 y.burst, .int .u8 y.kind] 28))
      obtain ⟨AB, cB, rfl, hcB⟩ := own_formN HO.out
      obtain ⟨N, hN⟩ : ∃ N, N = L.length - (m + 1) := ⟨_, rfl⟩
      rw [← hN] at HO1 hcB
      rw [← hN]
      have hN13 : N ≤ 13 := by omega
      have HNN := Lib.hid hN
      rw [e1]
      clear hdrop hy HO hSY hN
      go_wp2_with (at_builtin; (refine wpList_append_rowN _ rfl (.tmp 28) (.tmp 34) 22 rfl (x1.heap.size + 1) 28 i0 _ 4 40 (by omega) rfl HQ.out.1 HQ.out.2.1 HQ.out.2.2.1 HQ.out.2.2.2 rfl _ _ _ rfl HO1.out _ (some ⟨wr.heap.size, 0, none⟩) 1 1 [.string SY, .int .u64 y.every, .int .u64 y.burst, .int .u8 y.kind] rfl rfl (Row.new wr 28 #[.string SY, .int .u64 y.every, .int .u64 y.burst, .int .u8 y.kind]) (by simp [Value.oneCell']) (by unfold maxLen; omega) (by omega) (by simp only [World.size_alloc]; omega) ?_); (intro v2 w6 hown2 hg2 hat2; have hbb := HB1'.out.grown hg2 (by simp only [World.size_alloc]; omega) (fun k hk => (own_lt HO1.out hk).1); have HO2 := Lib.hid hown2; have HB2 := Lib.hid hbb; clear hown2 hg2 hat2 hbb))
      go_roundw
      case rel =>
        refine ⟨m, by omega, rfl, Lib.hid ?_, HB2⟩
        rw [HDR.out, show L.length - m = N + 1 by have := HNN.out; omega]
        exact HO2.out
      case measure => simp [intOf]
end Go.Proofs.Ytdjhjgimlpdckaa.pre
