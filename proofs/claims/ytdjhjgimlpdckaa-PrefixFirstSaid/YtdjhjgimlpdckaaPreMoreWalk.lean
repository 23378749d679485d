/- PrefixMore, walked. -/
import Derived.Test.YtdjhjgimlpdckaaPreBehindWalk
namespace Go.Proofs.Ytdjhjgimlpdckaa.pre
open Go.RowKit
open Go.Proofs.Ytdjhjgimlpdckaa.aid

theorem firsts_once {L : List Rul} (h : Once L) : ∀ i, i ≤ L.length → firsts L i = i
  | 0, _ => rfl
  | i + 1, hi => by
    unfold firsts
    rw [firsts_once h i (by omega), if_pos]
    have hlt : i < L.length := by omega
    exact (isFirst_iff (List.getElem?_eq_getElem hlt)).2 (once_first h (List.getElem?_eq_getElem hlt))

/-- with one rule more -/
theorem more_find {L : List Rul} {r was : Rul} {k : List UInt8} (h : IsFind L k (some was)) (ho : Once (L ++ [r])) :
    (r.pre <+: k → was.pre.length < r.pre.length → IsFind (L ++ [r]) k (some r)) ∧ ((r.pre <+: k → r.pre.length ≤ was.pre.length) → IsFind (L ++ [r]) k (some was)) := by
  have hr : (L ++ [r])[L.length]? = some r := by simp
  refine ⟨fun hp hl => ⟨⟨_, once_first ho hr⟩, hp, fun y hy hyp => ?_⟩, fun hl => ?_⟩
  · rcases List.mem_append.1 hy with hy | hy
    · have := h.2.2 y hy hyp
      omega
    · simp at hy
      subst hy
      exact Nat.le_refl _
  · obtain ⟨⟨j, hj⟩, h1, h2⟩ := h
    have hj' : (L ++ [r])[j]? = some was := by
      rw [List.getElem?_append_left (List.getElem?_eq_some_iff.1 hj.1).1]
      exact hj.1
    refine ⟨⟨j, once_first ho hj'⟩, h1, fun y hy hyp => ?_⟩
    rcases List.mem_append.1 hy with hy | hy
    · exact h2 y hy hyp
    · simp at hy
      subst hy
      exact hl hyp

def MoreRel (X : World) (L : List Rul) (p : List UInt8) (i : Value) (wr : World) : Prop :=
  ∃ m : Nat, i = .int .i64 (m : Nat) ∧ m ≤ L.length ∧ Hid (∀ j y, j < m → L[j]? = some y → y.pre ≠ p) ∧ Hid (Below X.heap.size X wr)

set_option maxRecDepth 100000 in
set_option maxHeartbeats 4000000 in
theorem more_walk (w : World) (a0 : Int) (l1 : List Num) (A1 : Option Addr) (c1 : Nat) (l2 : List UInt8) (A2 : Option Addr) (c2 : Nat) (l3 : List UInt8) (A3 : Option Addr) (c3 : Nat)
    (w0 : 0 ≤ a0 ∧ a0 ≤ 65535) (h1 : l1.length ≤ 9223372036854775807) (r1 : Nums w w.heap.size A1 l1) (h2 : l2.length ≤ 9223372036854775807) (r2 : Row w w.heap.size A2 (u8s l2)) (h3 : l3.length ≤ 9223372036854775807) (r3 : Row w w.heap.size A3 (u8s l3)) :
    Calls Try.prog 6 #[.int .u16 a0, .slice A1 l1.length c1, .slice A2 l2.length c2, .slice A3 l3.length c3] w fun e w' => e = .returned (.bool true) ∧ Below w.heap.size w w' := by
  obtain ⟨most, rfl⟩ : ∃ n : Nat, a0 = n := ⟨a0.toNat, by omega⟩
  obtain ⟨l, hl, hlen, hshort, honce⟩ := pol_facts most l1
  obtain ⟨L, hL⟩ : ∃ L, L = polRules most l1 := ⟨_, rfl⟩
  have hP := policy_any most (by omega) l1 A1 c1 h1 w r1
  rw [← hL] at hl hlen hshort honce hP
  obtain ⟨M, hM⟩ : ∃ M, M = ((1 + most % 50 : Nat) : Int) := ⟨_, rfl⟩
  rw [← hM] at hP
  have HP := Lib.hid hP
  have HL := Lib.hid hl
  have HS := Lib.hid hshort
  have HON := Lib.hid honce
  have R2 := Lib.hid r2
  have R3 := Lib.hid r3
  have k2 := (key.keyOf_right l2).2.1
  have k3 := (key.keyOf_right l3).2.1
  obtain ⟨K, hK⟩ : ∃ K, K = key.keyOf l2 := ⟨_, rfl⟩
  rw [← hK] at k2
  have hK2 := key.key_any l2 A2 c2 h2
  rw [← hK] at hK2
  have HK2 := Lib.hid hK2
  obtain ⟨KD, hKD⟩ : ∃ KD, KD = key.keyOf l3 := ⟨_, rfl⟩
  rw [← hKD] at k3
  have hK3 := key.key_any l3 A3 c3 h3
  rw [← hKD] at hK3
  have HK3 := Lib.hid hK3
  obtain ⟨KI, hKI⟩ : ∃ KI, KI = ((1 + most % 3 : Nat) : Int) := ⟨_, rfl⟩
  obtain ⟨R, hR⟩ : ∃ R : Rul, R = ⟨KD, 77, 5, KI⟩ := ⟨_, rfl⟩
  have hl0 : L[0]? = some ⟨[], 1000, 5, KI⟩ := by rw [hl, hKI]; rfl
  have HL0 := Lib.hid hl0
  have HRR := Lib.hid hR
  have hlp : 0 < L.length := by rw [hl]; simp
  clear hP hl hshort honce r2 r3 hM hK hK2 hL r1 hKD hK3 hKI hR hl0
  go_enter Try.func6, Try.ntmps6
  go_wp2_with fail
  refine HP.out.mono ?_
  rintro e x1 ⟨Ap, cp, rfl, hcp, hrow, hB1⟩
  have B1 := Lib.hid (hB1.alloc hB1.size (.cells #[.int .i64 M, .slice Ap L.length cp] 31))
  have ROW1 := Lib.hid (show Row (x1.alloc (.cells #[.int .i64 M, .slice Ap L.length cp] 31)) (x1.alloc (.cells #[.int .i64 M, .slice Ap L.length cp] 31)).heap.size Ap (rcells L) from (hrow.below ((Below.refl _ x1).alloc (Nat.le_refl _) _)).more (by simp))
  have P1 := Lib.hid (Blk.new x1 31 #[.int .i64 M, .slice Ap L.length cp])
  clear hrow hB1 HP
  go_wp2_with fail
  refine (HK2.out _ ((R2.out.below B1.out).more B1.out.size)).mono ?_
  rintro e x2 ⟨rfl, hB2⟩
  have B2 := Lib.hid (B1.out.trans (hB2.mono B1.out.size))
  have P2 := Lib.hid (P1.out.below hB2 P1.out.lt)
  have ROW2 := Lib.hid ((ROW1.out.below hB2).more hB2.size)
  obtain ⟨SK, hSK⟩ : ∃ SK : ByteArray, SK = ⟨K.toArray⟩ := ⟨_, rfl⟩
  rw [← hSK]
  have EK := Lib.hid hSK
  have hkz : (SK.size : Int) ≤ 12 := by rw [hSK]; simp [ByteArray.size]; omega
  obtain ⟨b0, off, rfl, hb0, d0, d1, d2, d3⟩ := rul_at ROW2.out HL0.out
  have p2 : x2.cell? ⟨x1.heap.size, 1, none⟩ = some (.slice (some ⟨b0, off, none⟩) L.length cp) := P2.out.cell 1
  clear hB2 P1 ROW1 B1 hSK k2
  simp only [Nat.zero_mul, Nat.add_zero] at d0 d1 d2 d3
  go_wp2_with fail
  have B2' := Lib.hid (B2.out.alloc B2.out.size (.cells #[.string ⟨#[]⟩, .int .u64 1000, .int .u64 5, .int .u8 KI] 28))
  have G2 := Lib.hid (Blk.new x2 28 #[.string ⟨#[]⟩, .int .u64 1000, .int .u64 5, .int .u8 KI])
  have P2' := Lib.hid (P2.out.alloc (.cells #[.string ⟨#[]⟩, .int .u64 1000, .int .u64 5, .int .u8 KI] 28))
  have ROW2' := Lib.hid (show Row (x2.alloc (.cells #[.string ⟨#[]⟩, .int .u64 1000, .int .u64 5, .int .u8 KI] 28)) x2.heap.size (some ⟨b0, off, none⟩) (rcells L) from ROW2.out.below ((Below.refl _ x2).alloc (Nat.le_refl _) _))
  refine (HK3.out _ ((R3.out.below B2'.out).more B2'.out.size)).mono ?_
  rintro e x3 ⟨rfl, hB3⟩
  have B3 := Lib.hid (B2'.out.trans (hB3.mono B2'.out.size))
  have P3 := Lib.hid (P2'.out.below hB3 P2'.out.lt)
  have G3 := G2.out.below hB3 G2.out.lt
  have ROW3 := Lib.hid (show Row x3 x2.heap.size (some ⟨b0, off, none⟩) (rcells L) from ROW2'.out.below (hB3.mono (by simp)))
  obtain ⟨SR, hSR⟩ : ∃ SR : ByteArray, SR = ⟨KD.toArray⟩ := ⟨_, rfl⟩
  rw [← hSR]
  have ER := Lib.hid hSR
  have hrz : (SR.size : Int) ≤ 12 := by rw [hSR]; simp [ByteArray.size]; omega
  have gc0 : x3.cell? ⟨x2.heap.size, 0, none⟩ = some (.string ⟨#[]⟩) := G3.cell 0
  have gc1 : x3.cell? ⟨x2.heap.size, 1, none⟩ = some (.int .u64 1000) := G3.cell 1
  have gf0 := G3.frozen 0
  have gf1 := G3.frozen 1
  have HG3 := Lib.hid G3
  have lp2 : x1.heap.size < x2.heap.size := P2.out.lt
  have lw2 : w.heap.size ≤ x2.heap.size := B2.out.size
  clear hB3 G3 G2 P2' ROW2' B2' hSR k3 d0 d1 d2 d3 p2 hb0
  go_wp2
  generalize hX : (x3.setCell ⟨x2.heap.size, 0, none⟩ (.string SR)).setCell ⟨x2.heap.size, 1, none⟩ (.int .u64 77) = X
  have BX : Below w.heap.size w X := by
    rw [← hX]
    exact (B3.out.setCell (p := ⟨x2.heap.size, 0, none⟩) lw2 _).setCell (p := ⟨x2.heap.size, 1, none⟩) lw2 _
  have PX : Blk X x1.heap.size 31 #[.int .i64 M, .slice (some ⟨b0, off, none⟩) L.length cp] := by
    rw [← hX]
    exact (P3.out.far (p := ⟨x2.heap.size, 0, none⟩) (show x1.heap.size ≠ x2.heap.size by omega) _).far (p := ⟨x2.heap.size, 1, none⟩) (show x1.heap.size ≠ x2.heap.size by omega) _
  have GX : Blk X x2.heap.size 28 #[.string SR, .int .u64 77, .int .u64 5, .int .u8 KI] := by
    rw [← hX]
    exact (HG3.out.set_ 0 _).set_ 1 _
  have RX : Row X X.heap.size (some ⟨b0, off, none⟩) (rcells L) := by
    have hbel : Below x2.heap.size x3 X := by
      rw [← hX]
      exact ((Below.refl _ x3).setCell (p := ⟨x2.heap.size, 0, none⟩) (Nat.le_refl _) _).setCell (p := ⟨x2.heap.size, 1, none⟩) (Nat.le_refl _) _
    exact (ROW3.out.below hbel).more (by have := GX.lt; omega)
  have HBX := Lib.hid BX
  have HPX := Lib.hid PX
  have HGX := Lib.hid GX
  have HRX := Lib.hid RX
  clear hX BX PX GX RX HG3 gc0 gc1 gf0 gf1 P3 B3 ROW3 P2 ROW2 B2
  have hst : MoreRel X L R.pre (.int .i64 ((0 : Nat) : Int)) X := ⟨0, rfl, Nat.zero_le _, Lib.hid (fun j y h => by omega), Lib.hid (Below.refl _ _)⟩
  have HST := Lib.hid hst
  clear hst
  go_loopw [12] (fun i wr => MoreRel X L R.pre i wr) (fun i _ => L.length - (intOf i).toNat)
  case atStart => exact HST.out
  case round =>
    clear HST
    obtain ⟨m, rfl, hm, HNO, HB⟩ := hrel
    have lpX := HPX.out.lt
    have lgX := HGX.out.lt
    have p1 : wr.cell? ⟨x1.heap.size, 1, none⟩ = some (.slice (some ⟨b0, off, none⟩) L.length cp) := (HB.out.cell (p := ⟨x1.heap.size, 1, none⟩) lpX).trans (HPX.out.cell 1)
    have g0 : wr.cell? ⟨x2.heap.size, 0, none⟩ = some (.string SR) := (HB.out.cell (p := ⟨x2.heap.size, 0, none⟩) lgX).trans (HGX.out.cell 0)
    by_cases hlt : m < L.length
    · obtain ⟨y, hy⟩ : ∃ y, L[m]? = some y := ⟨_, List.getElem?_eq_getElem hlt⟩
      obtain ⟨b1, off1, eA, hb1, d0, -⟩ := rul_at (HRX.out.below HB.out) hy
      injection eA with eA
      injection eA with e1 e2
      subst e1 e2
      obtain ⟨S1, hS1⟩ : ∃ S1 : ByteArray, S1 = ⟨y.pre.toArray⟩ := ⟨_, rfl⟩
      rw [← hS1] at d0
      have HY := Lib.hid hy
      have HS1 := Lib.hid hS1
      have hwm : IntKind.i64.wrap ((m : Int) + 1) = (m : Int) + 1 := wrap_small _ (by omega) (by omega)
      have hRp : R.pre = KD := by rw [HRR.out]
      have hbl := Nat.lt_of_lt_of_le hb1 HB.out.size
      by_cases he : y.pre = R.pre
      · have hse : S1 = SR := by rw [HS1.out, ER.out, he, hRp]
        clear hS1 hy hRp
        go_wp2
        go_quiet (fail)
        go_wp2_with fail
        refine (known_any _).mono ?_
        rintro e z ⟨rfl, hbz⟩
        go_wp2
        go_ret
        exact ⟨rfl, (below_drewN (HBX.out.trans (HB.out.mono HBX.out.size)) _).trans (hbz.mono (Nat.le_trans HBX.out.size HB.out.size))⟩
      · have HSL := Lib.hid (show ¬ S1.toList = SR.toList from fun e => he (by rw [HS1.out, ER.out, ByteArray.toList_eq, ByteArray.toList_eq] at e; rw [hRp]; simpa using e))
        have hbe : (S1.toList == SR.toList) = false := by simpa using HSL.out
        clear hS1 hy hRp
        go_wp2
        go_quiet (fail)
        go_wp2
        go_roundw
        case rel =>
          exact ⟨m + 1, by go_num, hlt, Lib.hid (fun j y' hj hy' => by
            rcases Nat.lt_or_ge j m with h | h
            · exact HNO.out j y' h hy'
            · obtain rfl : j = m := by omega
              have := HY.out
              rw [hy'] at this
              cases this
              exact he), Lib.hid (below_drewN HB.out _)⟩
        case measure => simp [intOf]; omega
    · obtain rfl : m = L.length := by omega
      have hno : ∀ y ∈ L, y.pre ≠ R.pre := fun y hy => by
        obtain ⟨j, hj⟩ := List.mem_iff_getElem?.1 hy
        exact HNO.out j y (List.getElem?_eq_some_iff.1 hj).1 hj
      have HON2 := Lib.hid (once_snoc HON.out hno)
      have BY := HBX.out.trans (HB.out.mono HBX.out.size)
      have hN := new_any L (some ⟨b0, off, none⟩) cp (by omega) (fun x hx => by have := HS.out x hx; unfold big; omega) wr ((HRX.out.below HB.out).more HB.out.size)
      have HN := Lib.hid hN
      have BYY := Lib.hid BY
      clear hN hno BY
      go_wp2_with fail
      refine HN.out.mono ?_
      rintro e y1 ⟨root, rfl, hT, hC1⟩
      have C1 := Lib.hid (HB.out.trans (hC1.mono HB.out.size))
      have T1 := Lib.hid hT
      clear hT hC1 HN
      go_wp2_with fail
      refine (find_any _ _ root L T1.out SK (by unfold big; omega)).mono ?_
      rintro e y2 ⟨o, rfl, ho, hC2⟩
      obtain ⟨was, rfl⟩ := find_all (z := rule0 most) (by rw [HL.out]; simp) rfl ho
      have hok : IsFind L K (some was) := by
        have e : SK.data.toList = K := by rw [EK.out]
        rw [← e]
        exact ho
      rw [found_some]
      obtain ⟨SA, hSA⟩ : ∃ SA : ByteArray, SA = ⟨was.pre.toArray⟩ := ⟨_, rfl⟩
      rw [← hSA]
      have haz : SA.size = was.pre.length := by rw [hSA]; simp [ByteArray.size]
      have has := HS.out was (find_mem ho)
      have hazi : (SA.size : Int) ≤ 12 := by omega
      have hCy := C1.out.trans (hC2.mono C1.out.size)
      have hC := hCy.alloc hCy.size (.cells #[.string SA, .int .u64 was.every, .int .u64 was.burst, .int .u8 was.kind] 28)
      have hblk := Blk.new y2 28 #[.string SA, .int .u64 was.every, .int .u64 was.burst, .int .u8 was.kind]
      have p2 : y2.cell? ⟨x1.heap.size, 1, none⟩ = some (.slice (some ⟨b0, off, none⟩) L.length cp) := (hCy.cell (p := ⟨x1.heap.size, 1, none⟩) lpX).trans (HPX.out.cell 1)
      have lgY : x2.heap.size < y2.heap.size := Nat.lt_of_lt_of_le lgX hCy.size
      have lpY : x1.heap.size < y2.heap.size := Nat.lt_of_lt_of_le lpX hCy.size
      have hXy : X.heap.size ≤ y2.heap.size := hCy.size
      have C2 := Lib.hid hC
      have Q1 := Lib.hid hblk
      have HOK := Lib.hid hok
      have HSA := Lib.hid hSA
      have HAZ := Lib.hid haz
      clear hCy hblk hok hSA haz has ho hC2 T1 hC
      obtain ⟨i0, hi, hz0, hz1, hz2⟩ := info_parts info_rule
      have HQ := Lib.hid (show _ ∧ _ ∧ _ ∧ _ from ⟨hi, hz0, hz1, hz2⟩)
      have HRY := Lib.hid ((HRX.out.below C2.out).more C2.out.size)
      have HCL := Lib.hid (show (rcells L).length = L.length * 4 by rw [rcells_len]; omega)
      clear hi hz0 hz1 hz2
      go_wp2_with (first
        | (at_builtin; (refine wpList_append_rowN _ rfl (.tmp 58) (.tmp 60) 22 rfl (y2.heap.size + 1) 28 i0 _ 4 40 (by omega) rfl HQ.out.1 HQ.out.2.1 HQ.out.2.2.1 HQ.out.2.2.2 rfl (.slice none 0 0) 0 [] rfl (World.ownsRow_nil _ _ _ _) _ (some ⟨b0, off, none⟩) L.length cp (rcells L) rfl HCL.out HRY.out (rcells_one L) (by unfold maxLen; omega) (by omega) (by simp) ?_); (intro v1 w5 hown1 hg1 hat1; rw [Nat.zero_add, List.nil_append] at hown1; have hbb : Below (y2.alloc (.cells #[.string SA, .int .u64 was.every, .int .u64 was.burst, .int .u8 was.kind] 28)).heap.size _ w5 := (Below.refl _ _).grown hg1 (Nat.le_refl _) (fun k hk => by cases hk); have C5 := C2.out.trans (hbb.mono C2.out.size); have G5 := HGX.out.below C5 lgX; have g0 : w5.cell? ⟨x2.heap.size, 0, none⟩ = some (.string SR) := G5.cell 0; have g1 : w5.cell? ⟨x2.heap.size, 1, none⟩ = some (.int .u64 77) := G5.cell 1; have g2 : w5.cell? ⟨x2.heap.size, 2, none⟩ = some (.int .u64 5) := G5.cell 2; have g3 : w5.cell? ⟨x2.heap.size, 3, none⟩ = some (.int .u8 KI) := G5.cell 3; have lg5 : x2.heap.size < w5.heap.size := G5.lt; have q5 := Q1.out.below hbb Q1.out.lt; have HC5 := Lib.hid C5; have HQ5 := Lib.hid q5; have HO5 := Lib.hid (hown1.alloc (.cells #[.string SR, .int .u64 77, .int .u64 5, .int .u8 KI] 28)); have hb5 : y2.heap.size + 1 ≤ w5.heap.size := Nat.le_trans (by simp) hbb.size; obtain ⟨A5, c5, rfl, hc5⟩ := own_formN hown1; clear hown1 hg1 hat1 hbb C5 G5 q5))
        | (at_builtin; (refine wpList_append_rowN _ rfl (.tmp 62) (.tmp 64) 22 rfl (y2.heap.size + 1) 28 i0 _ 4 40 (by omega) rfl HQ.out.1 HQ.out.2.1 HQ.out.2.2.1 HQ.out.2.2.2 rfl _ _ _ rfl HO5.out _ (some ⟨w5.heap.size, 0, none⟩) 1 1 [.string SR, .int .u64 77, .int .u64 5, .int .u8 KI] rfl rfl (Row.new w5 28 #[.string SR, .int .u64 77, .int .u64 5, .int .u8 KI]) (by simp [Value.oneCell']) (by unfold maxLen; omega) (by omega) (by simp only [World.size_alloc]; omega) ?_); (intro v2 w6 hown2 hg2 hat2; have hbb := (Below.refl y2.heap.size _).grown hg2 (by simp only [World.size_alloc]; omega) (fun k hk => Nat.le_of_succ_le (own_lt HO5.out hk).1); have C6 := (HC5.out.alloc HC5.out.size (.cells #[.string SR, .int .u64 77, .int .u64 5, .int .u8 KI] 28)).trans (hbb.mono hXy); have q6 := (HQ5.out.alloc (.cells #[.string SR, .int .u64 77, .int .u64 5, .int .u8 KI] 28)).grown hg2 (fun e => (by have := (own_lt HO5.out e.symm).1; omega)); obtain ⟨A6, c6, rfl, hc6⟩ := own_formN hown2; have HC6 := Lib.hid C6; have HQ6 := Lib.hid q6; have HO6 := Lib.hid hown2; clear hown2 hg2 hat2 hbb C6 q6)))
      have hall : rcells (L ++ [R]) = rcells L ++ [.string SR, .int .u64 77, .int .u64 5, .int .u8 KI] := by
        rw [rcells_append, HRR.out, ER.out]
        rfl
      have ROW6 := of_ownN HO6.out
      rw [← hall] at ROW6
      have hlen2 : (L ++ [R]).length = L.length + 1 := by simp
      have hbig2 : ∀ x ∈ L ++ [R], x.pre.length ≤ big := by
        intro x hx
        rcases List.mem_append.1 hx with hx | hx
        · have := HS.out x hx
          unfold big
          omega
        · have hx : x = R := by simpa using hx
          have hz : SR.size = KD.length := by rw [ER.out]; simp [ByteArray.size]
          rw [hx, HRR.out]
          show KD.length ≤ _
          unfold big
          omega
      have hN2 := fun W (h : Below w6.heap.size w6 W) => new_any (L ++ [R]) A6 c6 (by omega) hbig2 W ((ROW6.below h).more h.size)
      rw [hlen2] at hN2
      have HN2 := Lib.hid hN2
      clear hall ROW6 hlen2 hbig2 hN2
      refine (HN2.out w6 (Below.refl _ _)).mono ?_
      rintro e z1 ⟨root2, rfl, hT2, hD1⟩
      have D1 := Lib.hid hD1
      have T2 := Lib.hid hT2
      clear hD1 hT2
      go_wp2_with fail
      refine (find_any _ _ root2 (L ++ [R]) T2.out SK (by unfold big; omega)).mono ?_
      rintro e z2 ⟨o, rfl, ho, hD2⟩
      have hok2 : IsFind (L ++ [R]) K o := by
        have e : SK.data.toList = K := by rw [EK.out]
        rw [← e]
        exact ho
      have D2 := D1.out.trans (hD2.mono D1.out.size)
      have C7 := HC6.out.trans (D2.mono HC6.out.size)
      have RW : R.pre = SR.data.toList := by rw [HRR.out, ER.out]
      have AW : was.pre = SA.data.toList := by rw [HSA.out]
      have KW : K = SK.data.toList := by rw [EK.out]
      have G7 := HGX.out.below C7 lgX
      have Q7 := HQ6.out.below D2 HQ6.out.lt
      have g0 : z2.cell? ⟨x2.heap.size, 0, none⟩ = some (.string SR) := G7.cell 0
      have g1 : z2.cell? ⟨x2.heap.size, 1, none⟩ = some (.int .u64 77) := G7.cell 1
      have g2 : z2.cell? ⟨x2.heap.size, 2, none⟩ = some (.int .u64 5) := G7.cell 2
      have g3 : z2.cell? ⟨x2.heap.size, 3, none⟩ = some (.int .u8 KI) := G7.cell 3
      have a0 : z2.cell? ⟨y2.heap.size, 0, none⟩ = some (.string SA) := Q7.cell 0
      have a1 : z2.cell? ⟨y2.heap.size, 1, none⟩ = some (.int .u64 was.every) := Q7.cell 1
      have a2 : z2.cell? ⟨y2.heap.size, 2, none⟩ = some (.int .u64 was.burst) := Q7.cell 2
      have a3 : z2.cell? ⟨y2.heap.size, 3, none⟩ = some (.int .u8 was.kind) := Q7.cell 3
      have lg7 : x2.heap.size < z2.heap.size := G7.lt
      have la7 : y2.heap.size < z2.heap.size := Q7.lt
      have HD2 := Lib.hid D2
      have HC7 := Lib.hid C7
      have hmore := more_find HOK.out HON2.out
      clear D2 C7 G7 Q7 hD2 ho D1 T2
      have hcase : ((key.has SK.data.toList SR.data.toList = true ∧ SA.size < SR.size) ∧ o = some R) ∨ ((key.has SK.data.toList SR.data.toList = true ∧ SR.size ≤ SA.size) ∧ o = some was) ∨ (key.has SK.data.toList SR.data.toList = false ∧ o = some was) := by
        by_cases hp : R.pre <+: K
        · have hh : key.has SK.data.toList SR.data.toList = true := by rw [← RW, ← KW]; exact List.isPrefixOf_iff_prefix.2 hp
          have zr : R.pre.length = SR.size := by rw [RW]; rfl
          have za : was.pre.length = SA.size := by rw [AW]; rfl
          rcases Nat.lt_or_ge was.pre.length R.pre.length with hl | hl
          · exact .inl ⟨⟨hh, by omega⟩, isFind_uni hok2 (hmore.1 hp hl)⟩
          · exact .inr (.inl ⟨⟨hh, by omega⟩, isFind_uni hok2 (hmore.2 (fun _ => hl))⟩)
        · refine .inr (.inr ⟨?_, isFind_uni hok2 (hmore.2 (fun h => absurd h hp))⟩)
          rw [Bool.eq_false_iff]
          intro h
          exact hp (by rw [RW, KW]; exact List.isPrefixOf_iff_prefix.1 h)
      clear hmore hok2 RW AW KW
      have eR : found (some R) = .tuple #[.agg #[.string SR, .int .u64 77, .int .u64 5, .int .u8 KI], .bool true] := by
        rw [found_some, HRR.out, ER.out]
      have eW : found (some was) = .tuple #[.agg #[.string SA, .int .u64 was.every, .int .u64 was.burst, .int .u8 was.kind], .bool true] := by
        rw [found_some, HSA.out]
      have htake : SR.size ≤ SK.size → ((SK.extract 0 SR.size).toList == SR.toList) = key.has SK.data.toList SR.data.toList := key.has_take SK SR
      have hlong : SK.size < SR.size → key.has SK.data.toList SR.data.toList = false := key.has_long SK SR
      have HLEN := Lib.hid (firsts_once HON2.out (L ++ [R]).length (Nat.le_refl _))
      rcases hcase with ⟨⟨hh, hl⟩, rfl⟩ | ⟨⟨hh, hl⟩, rfl⟩ | ⟨hh, rfl⟩
      · rw [eR]
        have hle : (SR.size : Int) ≤ SK.size := by
          rcases Nat.lt_or_ge SK.size SR.size with h | h
          · rw [hlong h] at hh; cases hh
          · omega
        have hl' : (SA.size : Int) < SR.size := by omega
        have heq := htake (by omega)
        rw [hh] at heq
        clear htake hlong hh eR eW
        go_wp2_with fail
        go_quiet (fail)
        go_wp2_with fail
        refine (known_any _).mono ?_
        rintro e u1 ⟨rfl, hE1⟩
        have bW := (below_drewN (HD2.out.alloc HD2.out.size (.cells #[.string SR, .int .u64 77, .int .u64 5, .int .u8 KI] 28)) nq).alloc (below_drewN (HD2.out.alloc HD2.out.size (.cells #[.string SR, .int .u64 77, .int .u64 5, .int .u8 KI] 28)) nq).size (.cells #[.string SR, .int .u64 77, .int .u64 5, .int .u8 KI] 28)
        have b1 : Blk (((z2.alloc (.cells #[.string SR, .int .u64 77, .int .u64 5, .int .u8 KI] 28)).drewN nq).alloc (.cells #[.string SR, .int .u64 77, .int .u64 5, .int .u8 KI] 28)) z2.heap.size 28 #[.string SR, .int .u64 77, .int .u64 5, .int .u8 KI] := ((Blk.new z2 28 #[.string SR, .int .u64 77, .int .u64 5, .int .u8 KI]).drewN nq).alloc _
        have b2 : Blk (((z2.alloc (.cells #[.string SR, .int .u64 77, .int .u64 5, .int .u8 KI] 28)).drewN nq).alloc (.cells #[.string SR, .int .u64 77, .int .u64 5, .int .u8 KI] 28)) (z2.heap.size + 1) 28 #[.string SR, .int .u64 77, .int .u64 5, .int .u8 KI] := by
          have e : ((z2.alloc (.cells #[.string SR, .int .u64 77, .int .u64 5, .int .u8 KI] 28)).drewN nq).heap.size = z2.heap.size + 1 := by
            show (z2.alloc (.cells #[.string SR, .int .u64 77, .int .u64 5, .int .u8 KI] 28)).heap.size = _
            simp
          have := Blk.new ((z2.alloc (.cells #[.string SR, .int .u64 77, .int .u64 5, .int .u8 KI] 28)).drewN nq) 28 #[.string SR, .int .u64 77, .int .u64 5, .int .u8 KI]
          rw [e] at this
          exact this
        have c1 := b1.below hE1 b1.lt
        have c2 := b2.below hE1 b2.lt
        have i0' : u1.cell? ⟨z2.heap.size, 0, none⟩ = some (.string SR) := c1.cell 0
        have i1' : u1.cell? ⟨z2.heap.size, 1, none⟩ = some (.int .u64 77) := c1.cell 1
        have i2' : u1.cell? ⟨z2.heap.size, 2, none⟩ = some (.int .u64 5) := c1.cell 2
        have i3' : u1.cell? ⟨z2.heap.size, 3, none⟩ = some (.int .u8 KI) := c1.cell 3
        have j0' : u1.cell? ⟨z2.heap.size + 1, 0, none⟩ = some (.string SR) := c2.cell 0
        have j1' : u1.cell? ⟨z2.heap.size + 1, 1, none⟩ = some (.int .u64 77) := c2.cell 1
        have j2' : u1.cell? ⟨z2.heap.size + 1, 2, none⟩ = some (.int .u64 5) := c2.cell 2
        have j3' : u1.cell? ⟨z2.heap.size + 1, 3, none⟩ = some (.int .u8 KI) := c2.cell 3
        have E1 := Lib.hid (bW.trans (hE1.mono bW.size))
        clear bW b1 b2 c1 c2 hE1
        go_wp2_with fail
        refine (HN2.out u1 E1.out).mono ?_
        rintro e u2 ⟨root3, rfl, hT3, hE2⟩
        have E2 := Lib.hid (E1.out.trans (hE2.mono E1.out.size))
        have T3 := Lib.hid hT3
        clear hT3 hE2
        go_wp2_with fail
        refine (len_any _ _ root3 (L ++ [R]) T3.out).mono ?_
        rintro e u3 ⟨rfl, hE3⟩
        rw [HLEN.out, show (((L ++ [R]).length : Nat) : Int) = (L.length : Int) + 1 by simp]
        go_wp2
        go_ret
        have E3 := E2.out.trans (hE3.mono E2.out.size)
        exact ⟨rfl, (HBX.out.trans (HC6.out.mono HBX.out.size)).trans (E3.mono (Nat.le_trans HBX.out.size HC6.out.size))⟩
      · rw [eW]
        have hle : (SR.size : Int) ≤ SK.size := by
          rcases Nat.lt_or_ge SK.size SR.size with h | h
          · rw [hlong h] at hh; cases hh
          · omega
        have hl' : (SR.size : Int) ≤ SA.size := by omega
        have hl2 : decide ((SA.size : Int) < SR.size) = false := by simp; omega
        have hl3 : decide (SA.size < SR.size) = false := by simp; omega
        have heq := htake (by omega)
        rw [hh] at heq
        clear htake hlong hh eR eW
        go_wp2_with fail
        go_quiet (fail)
        go_wp2_with fail
        refine (known_any _).mono ?_
        rintro e u1 ⟨rfl, hE1⟩
        have bW := (below_drewN (HD2.out.alloc HD2.out.size (.cells #[.string SA, .int .u64 was.every, .int .u64 was.burst, .int .u8 was.kind] 28)) nq).alloc (below_drewN (HD2.out.alloc HD2.out.size (.cells #[.string SA, .int .u64 was.every, .int .u64 was.burst, .int .u8 was.kind] 28)) nq).size (.cells #[.string SA, .int .u64 was.every, .int .u64 was.burst, .int .u8 was.kind] 28)
        have b1 : Blk (((z2.alloc (.cells #[.string SA, .int .u64 was.every, .int .u64 was.burst, .int .u8 was.kind] 28)).drewN nq).alloc (.cells #[.string SA, .int .u64 was.every, .int .u64 was.burst, .int .u8 was.kind] 28)) z2.heap.size 28 #[.string SA, .int .u64 was.every, .int .u64 was.burst, .int .u8 was.kind] := ((Blk.new z2 28 #[.string SA, .int .u64 was.every, .int .u64 was.burst, .int .u8 was.kind]).drewN nq).alloc _
        have b2 : Blk (((z2.alloc (.cells #[.string SA, .int .u64 was.every, .int .u64 was.burst, .int .u8 was.kind] 28)).drewN nq).alloc (.cells #[.string SA, .int .u64 was.every, .int .u64 was.burst, .int .u8 was.kind] 28)) (z2.heap.size + 1) 28 #[.string SA, .int .u64 was.every, .int .u64 was.burst, .int .u8 was.kind] := by
          have e : ((z2.alloc (.cells #[.string SA, .int .u64 was.every, .int .u64 was.burst, .int .u8 was.kind] 28)).drewN nq).heap.size = z2.heap.size + 1 := by
            show (z2.alloc (.cells #[.string SA, .int .u64 was.every, .int .u64 was.burst, .int .u8 was.kind] 28)).heap.size = _
            simp
          have := Blk.new ((z2.alloc (.cells #[.string SA, .int .u64 was.every, .int .u64 was.burst, .int .u8 was.kind] 28)).drewN nq) 28 #[.string SA, .int .u64 was.every, .int .u64 was.burst, .int .u8 was.kind]
          rw [e] at this
          exact this
        have c1 := b1.below hE1 b1.lt
        have c2 := b2.below hE1 b2.lt
        have i0' : u1.cell? ⟨z2.heap.size, 0, none⟩ = some (.string SA) := c1.cell 0
        have i1' : u1.cell? ⟨z2.heap.size, 1, none⟩ = some (.int .u64 was.every) := c1.cell 1
        have i2' : u1.cell? ⟨z2.heap.size, 2, none⟩ = some (.int .u64 was.burst) := c1.cell 2
        have i3' : u1.cell? ⟨z2.heap.size, 3, none⟩ = some (.int .u8 was.kind) := c1.cell 3
        have j0' : u1.cell? ⟨z2.heap.size + 1, 0, none⟩ = some (.string SA) := c2.cell 0
        have j1' : u1.cell? ⟨z2.heap.size + 1, 1, none⟩ = some (.int .u64 was.every) := c2.cell 1
        have j2' : u1.cell? ⟨z2.heap.size + 1, 2, none⟩ = some (.int .u64 was.burst) := c2.cell 2
        have j3' : u1.cell? ⟨z2.heap.size + 1, 3, none⟩ = some (.int .u8 was.kind) := c2.cell 3
        have E1 := Lib.hid (bW.trans (hE1.mono bW.size))
        clear bW b1 b2 c1 c2 hE1
        go_wp2_with fail
        refine (HN2.out u1 E1.out).mono ?_
        rintro e u2 ⟨root3, rfl, hT3, hE2⟩
        have E2 := Lib.hid (E1.out.trans (hE2.mono E1.out.size))
        have T3 := Lib.hid hT3
        clear hT3 hE2
        go_wp2_with fail
        refine (len_any _ _ root3 (L ++ [R]) T3.out).mono ?_
        rintro e u3 ⟨rfl, hE3⟩
        rw [HLEN.out, show (((L ++ [R]).length : Nat) : Int) = (L.length : Int) + 1 by simp]
        go_wp2
        go_ret
        have E3 := E2.out.trans (hE3.mono E2.out.size)
        exact ⟨rfl, (HBX.out.trans (HC6.out.mono HBX.out.size)).trans (E3.mono (Nat.le_trans HBX.out.size HC6.out.size))⟩
      · rw [eW]
        rcases Nat.lt_or_ge SK.size SR.size with h | h
        · have hle : (SK.size : Int) < SR.size := by omega
          have hl2 : decide ((SR.size : Int) ≤ SK.size) = false := by simp; omega
          have hl3 : decide (SR.size ≤ SK.size) = false := by simp; omega
          clear htake hlong hh eR eW
          go_wp2_with fail
          go_quiet (fail)
          go_wp2_with fail
          refine (known_any _).mono ?_
          rintro e u1 ⟨rfl, hE1⟩
          have bW := (below_drewN (HD2.out.alloc HD2.out.size (.cells #[.string SA, .int .u64 was.every, .int .u64 was.burst, .int .u8 was.kind] 28)) nq).alloc (below_drewN (HD2.out.alloc HD2.out.size (.cells #[.string SA, .int .u64 was.every, .int .u64 was.burst, .int .u8 was.kind] 28)) nq).size (.cells #[.string SA, .int .u64 was.every, .int .u64 was.burst, .int .u8 was.kind] 28)
          have b1 : Blk (((z2.alloc (.cells #[.string SA, .int .u64 was.every, .int .u64 was.burst, .int .u8 was.kind] 28)).drewN nq).alloc (.cells #[.string SA, .int .u64 was.every, .int .u64 was.burst, .int .u8 was.kind] 28)) z2.heap.size 28 #[.string SA, .int .u64 was.every, .int .u64 was.burst, .int .u8 was.kind] := ((Blk.new z2 28 #[.string SA, .int .u64 was.every, .int .u64 was.burst, .int .u8 was.kind]).drewN nq).alloc _
          have b2 : Blk (((z2.alloc (.cells #[.string SA, .int .u64 was.every, .int .u64 was.burst, .int .u8 was.kind] 28)).drewN nq).alloc (.cells #[.string SA, .int .u64 was.every, .int .u64 was.burst, .int .u8 was.kind] 28)) (z2.heap.size + 1) 28 #[.string SA, .int .u64 was.every, .int .u64 was.burst, .int .u8 was.kind] := by
            have e : ((z2.alloc (.cells #[.string SA, .int .u64 was.every, .int .u64 was.burst, .int .u8 was.kind] 28)).drewN nq).heap.size = z2.heap.size + 1 := by
              show (z2.alloc (.cells #[.string SA, .int .u64 was.every, .int .u64 was.burst, .int .u8 was.kind] 28)).heap.size = _
              simp
            have := Blk.new ((z2.alloc (.cells #[.string SA, .int .u64 was.every, .int .u64 was.burst, .int .u8 was.kind] 28)).drewN nq) 28 #[.string SA, .int .u64 was.every, .int .u64 was.burst, .int .u8 was.kind]
            rw [e] at this
            exact this
          have c1 := b1.below hE1 b1.lt
          have c2 := b2.below hE1 b2.lt
          have i0' : u1.cell? ⟨z2.heap.size, 0, none⟩ = some (.string SA) := c1.cell 0
          have i1' : u1.cell? ⟨z2.heap.size, 1, none⟩ = some (.int .u64 was.every) := c1.cell 1
          have i2' : u1.cell? ⟨z2.heap.size, 2, none⟩ = some (.int .u64 was.burst) := c1.cell 2
          have i3' : u1.cell? ⟨z2.heap.size, 3, none⟩ = some (.int .u8 was.kind) := c1.cell 3
          have j0' : u1.cell? ⟨z2.heap.size + 1, 0, none⟩ = some (.string SA) := c2.cell 0
          have j1' : u1.cell? ⟨z2.heap.size + 1, 1, none⟩ = some (.int .u64 was.every) := c2.cell 1
          have j2' : u1.cell? ⟨z2.heap.size + 1, 2, none⟩ = some (.int .u64 was.burst) := c2.cell 2
          have j3' : u1.cell? ⟨z2.heap.size + 1, 3, none⟩ = some (.int .u8 was.kind) := c2.cell 3
          have E1 := Lib.hid (bW.trans (hE1.mono bW.size))
          clear bW b1 b2 c1 c2 hE1
          go_wp2_with fail
          refine (HN2.out u1 E1.out).mono ?_
          rintro e u2 ⟨root3, rfl, hT3, hE2⟩
          have E2 := Lib.hid (E1.out.trans (hE2.mono E1.out.size))
          have T3 := Lib.hid hT3
          clear hT3 hE2
          go_wp2_with fail
          refine (len_any _ _ root3 (L ++ [R]) T3.out).mono ?_
          rintro e u3 ⟨rfl, hE3⟩
          rw [HLEN.out, show (((L ++ [R]).length : Nat) : Int) = (L.length : Int) + 1 by simp]
          go_wp2
          go_ret
          have E3 := E2.out.trans (hE3.mono E2.out.size)
          exact ⟨rfl, (HBX.out.trans (HC6.out.mono HBX.out.size)).trans (E3.mono (Nat.le_trans HBX.out.size HC6.out.size))⟩
        · have hle : (SR.size : Int) ≤ SK.size := by omega
          have heq := htake h
          rw [hh] at heq
          clear htake hlong hh eR eW
          go_wp2_with fail
          go_quiet (fail)
          go_wp2_with fail
          refine (known_any _).mono ?_
          rintro e u1 ⟨rfl, hE1⟩
          have bW := (below_drewN (HD2.out.alloc HD2.out.size (.cells #[.string SA, .int .u64 was.every, .int .u64 was.burst, .int .u8 was.kind] 28)) nq).alloc (below_drewN (HD2.out.alloc HD2.out.size (.cells #[.string SA, .int .u64 was.every, .int .u64 was.burst, .int .u8 was.kind] 28)) nq).size (.cells #[.string SA, .int .u64 was.every, .int .u64 was.burst, .int .u8 was.kind] 28)
          have b1 : Blk (((z2.alloc (.cells #[.string SA, .int .u64 was.every, .int .u64 was.burst, .int .u8 was.kind] 28)).drewN nq).alloc (.cells #[.string SA, .int .u64 was.every, .int .u64 was.burst, .int .u8 was.kind] 28)) z2.heap.size 28 #[.string SA, .int .u64 was.every, .int .u64 was.burst, .int .u8 was.kind] := ((Blk.new z2 28 #[.string SA, .int .u64 was.every, .int .u64 was.burst, .int .u8 was.kind]).drewN nq).alloc _
          have b2 : Blk (((z2.alloc (.cells #[.string SA, .int .u64 was.every, .int .u64 was.burst, .int .u8 was.kind] 28)).drewN nq).alloc (.cells #[.string SA, .int .u64 was.every, .int .u64 was.burst, .int .u8 was.kind] 28)) (z2.heap.size + 1) 28 #[.string SA, .int .u64 was.every, .int .u64 was.burst, .int .u8 was.kind] := by
            have e : ((z2.alloc (.cells #[.string SA, .int .u64 was.every, .int .u64 was.burst, .int .u8 was.kind] 28)).drewN nq).heap.size = z2.heap.size + 1 := by
              show (z2.alloc (.cells #[.string SA, .int .u64 was.every, .int .u64 was.burst, .int .u8 was.kind] 28)).heap.size = _
              simp
            have := Blk.new ((z2.alloc (.cells #[.string SA, .int .u64 was.every, .int .u64 was.burst, .int .u8 was.kind] 28)).drewN nq) 28 #[.string SA, .int .u64 was.every, .int .u64 was.burst, .int .u8 was.kind]
            rw [e] at this
            exact this
          have c1 := b1.below hE1 b1.lt
          have c2 := b2.below hE1 b2.lt
          have i0' : u1.cell? ⟨z2.heap.size, 0, none⟩ = some (.string SA) := c1.cell 0
          have i1' : u1.cell? ⟨z2.heap.size, 1, none⟩ = some (.int .u64 was.every) := c1.cell 1
          have i2' : u1.cell? ⟨z2.heap.size, 2, none⟩ = some (.int .u64 was.burst) := c1.cell 2
          have i3' : u1.cell? ⟨z2.heap.size, 3, none⟩ = some (.int .u8 was.kind) := c1.cell 3
          have j0' : u1.cell? ⟨z2.heap.size + 1, 0, none⟩ = some (.string SA) := c2.cell 0
          have j1' : u1.cell? ⟨z2.heap.size + 1, 1, none⟩ = some (.int .u64 was.every) := c2.cell 1
          have j2' : u1.cell? ⟨z2.heap.size + 1, 2, none⟩ = some (.int .u64 was.burst) := c2.cell 2
          have j3' : u1.cell? ⟨z2.heap.size + 1, 3, none⟩ = some (.int .u8 was.kind) := c2.cell 3
          have E1 := Lib.hid (bW.trans (hE1.mono bW.size))
          clear bW b1 b2 c1 c2 hE1
          go_wp2_with fail
          refine (HN2.out u1 E1.out).mono ?_
          rintro e u2 ⟨root3, rfl, hT3, hE2⟩
          have E2 := Lib.hid (E1.out.trans (hE2.mono E1.out.size))
          have T3 := Lib.hid hT3
          clear hT3 hE2
          go_wp2_with fail
          refine (len_any _ _ root3 (L ++ [R]) T3.out).mono ?_
          rintro e u3 ⟨rfl, hE3⟩
          rw [HLEN.out, show (((L ++ [R]).length : Nat) : Int) = (L.length : Int) + 1 by simp]
          go_wp2
          go_ret
          have E3 := E2.out.trans (hE3.mono E2.out.size)
          exact ⟨rfl, (HBX.out.trans (HC6.out.mono HBX.out.size)).trans (E3.mono (Nat.le_trans HBX.out.size HC6.out.size))⟩
end Go.Proofs.Ytdjhjgimlpdckaa.pre
