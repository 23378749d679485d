/- PrefixBehind, walked. -/
import Derived.Test.YtdjhjgimlpdckaaPrePlain
namespace Go.Proofs.Ytdjhjgimlpdckaa.pre
open Go.RowKit
open Go.Proofs.Ytdjhjgimlpdckaa.aid

set_option maxHeartbeats 1600000 in
theorem behind_big (w : World) (v0 v1 v2 : Value) (a3 : ByteArray) (w3 : (a3.size : Int) ≤ 140737488351232) (hbig : (100 : Int) < a3.size) :
    Calls Try.prog 7 #[v0, v1, v2, .string a3] w fun e w' => e = .returned (.bool true) ∧ Below w.heap.size w w' := by
  go_enter Try.func7, Try.ntmps7
  go_wp2_with fail
  refine (known_any _).mono ?_
  rintro e wk ⟨rfl, hbk⟩
  go_wp2_with fail
  go_ret
  exact ⟨rfl, hbk⟩

theorem found_some (x : Rul) : found (some x) = .tuple #[.agg #[.string ⟨x.pre.toArray⟩, .int .u64 x.every, .int .u64 x.burst, .int .u8 x.kind], .bool true] := rfl

set_option maxRecDepth 100000 in
set_option maxHeartbeats 4000000 in
theorem behind_walk (w : World) (a0 : Int) (l1 : List Num) (A1 : Option Addr) (c1 : Nat) (l2 : List UInt8) (A2 : Option Addr) (c2 : Nat) (a3 : ByteArray)
    (w0 : 0 ≤ a0 ∧ a0 ≤ 65535) (h1 : l1.length ≤ 9223372036854775807) (r1 : Nums w w.heap.size A1 l1) (h2 : l2.length ≤ 9223372036854775807) (r2 : Row w w.heap.size A2 (u8s l2)) (w3 : a3.size ≤ 140737488351232) :
    Calls Try.prog 7 #[.int .u16 a0, .slice A1 l1.length c1, .slice A2 l2.length c2, .string a3] w fun e w' => e = .returned (.bool true) ∧ Below w.heap.size w w' := by
  by_cases hbig : 100 < a3.size
  · exact behind_big w _ _ _ a3 (by omega) (by omega)
  obtain ⟨most, rfl⟩ : ∃ n : Nat, a0 = n := ⟨a0.toNat, by omega⟩
  obtain ⟨l, hl, hlen, hshort, honce⟩ := pol_facts most l1
  obtain ⟨L, hL⟩ : ∃ L, L = polRules most l1 := ⟨_, rfl⟩
  have hP := policy_any most (by omega) l1 A1 c1 h1 w r1
  rw [← hL] at hl hlen hshort honce hP
  obtain ⟨M, hM⟩ : ∃ M, M = ((1 + most % 50 : Nat) : Int) := ⟨_, rfl⟩
  rw [← hM] at hP
  have HP := Lib.hid hP
  have HL := Lib.hid hl
  have HS := Lib.hid hshort
  have R2 := Lib.hid r2
  have hs3 : (a3.size : Int) ≤ 100 := by omega
  have k2 := (key.keyOf_right l2).2.1
  obtain ⟨K, hK⟩ : ∃ K, K = key.keyOf l2 := ⟨_, rfl⟩
  rw [← hK] at k2
  have hK2 := key.key_any l2 A2 c2 h2
  rw [← hK] at hK2
  have HK2 := Lib.hid hK2
  clear hP hl hshort r2 hM hK hK2 hL r1 honce hbig
  go_enter Try.func7, Try.ntmps7
  go_wp2_with fail
  refine HP.out.mono ?_
  rintro e x1 ⟨Ap, cp, rfl, hcp, hrow, hB1⟩
  have B1 := Lib.hid (hB1.alloc hB1.size (.cells #[.int .i64 M, .slice Ap L.length cp] 31))
  have hrow1 : Row (x1.alloc (.cells #[.int .i64 M, .slice Ap L.length cp] 31)) (x1.alloc (.cells #[.int .i64 M, .slice Ap L.length cp] 31)).heap.size Ap (rcells L) := (hrow.below ((Below.refl _ x1).alloc (Nat.le_refl _) _)).more (by simp)
  have hN := new_any L Ap cp (by omega) (fun x hx => by have := HS.out x hx; unfold big; omega) _ hrow1
  have HN := Lib.hid hN
  clear hN hrow hrow1 hB1 HP
  go_wp2_with fail
  refine HN.out.mono ?_
  rintro e x2 ⟨root, rfl, hT, hB2⟩
  have B2 := Lib.hid (B1.out.trans (hB2.mono B1.out.size))
  have HT := Lib.hid hT
  clear hT hB2 HN
  go_wp2_with fail
  refine (HK2.out x2 ((R2.out.below B2.out).more B2.out.size)).mono ?_
  rintro e x3 ⟨rfl, hB3⟩
  have B3 := Lib.hid (B2.out.trans (hB3.mono B2.out.size))
  have T3 := Lib.hid (HT.out.below hB3)
  clear hB3 HT
  obtain ⟨SK, hSK⟩ : ∃ SK : ByteArray, SK = ⟨K.toArray⟩ := ⟨_, rfl⟩
  rw [← hSK]
  have eK : SK.data.toList = K := by rw [hSK]
  have eKz : SK.size = K.length := by rw [hSK]; simp [ByteArray.size]
  have hkz : (SK.size : Int) ≤ 12 := by omega
  have EK := Lib.hid eK
  have EKZ := Lib.hid eKz
  clear hSK eK eKz k2
  go_wp2_with fail
  refine (find_any _ _ root L T3.out SK (by unfold big; omega)).mono ?_
  rintro e x4 ⟨o, rfl, ho, hB4⟩
  obtain ⟨a, rfl⟩ := find_all (z := rule0 most) (by rw [HL.out]; simp) rfl ho
  rw [found_some]
  obtain ⟨SA, hSA⟩ : ∃ SA : ByteArray, SA = ⟨a.pre.toArray⟩ := ⟨_, rfl⟩
  rw [← hSA]
  have haz : SA.size = a.pre.length := by rw [hSA]; simp [ByteArray.size]
  have has := HS.out a (find_mem ho)
  have hazi : (SA.size : Int) ≤ 12 := by omega
  have B4 := Lib.hid ((B3.out.trans (hB4.mono B3.out.size)).alloc (Nat.le_trans B3.out.size hB4.size) (.cells #[.string SA, .int .u64 a.every, .int .u64 a.burst, .int .u8 a.kind] 28))
  have T4 := Lib.hid ((T3.out.below hB4).below ((Below.refl _ x4).alloc (Nat.le_refl _) (.cells #[.string SA, .int .u64 a.every, .int .u64 a.burst, .int .u8 a.kind] 28)))
  have hblk := Blk.new x4 28 #[.string SA, .int .u64 a.every, .int .u64 a.burst, .int .u8 a.kind]
  rw [EK.out] at ho
  have HO := Lib.hid ho
  have HSA := Lib.hid hSA
  have HAZ := Lib.hid haz
  clear T3 hB4 ho hSA haz has
  generalize hX4 : x4.alloc (.cells #[.string SA, .int .u64 a.every, .int .u64 a.burst, .int .u8 a.kind] 28) = X4 at B4 T4 hblk
  have ltA := hblk.lt
  have cA0 : X4.cell? ⟨x4.heap.size, 0, none⟩ = some (.string SA) := hblk.cell 0
  have cA1 : X4.cell? ⟨x4.heap.size, 1, none⟩ = some (.int .u64 a.every) := hblk.cell 1
  have cA2 : X4.cell? ⟨x4.heap.size, 2, none⟩ = some (.int .u64 a.burst) := hblk.cell 2
  have cA3 : X4.cell? ⟨x4.heap.size, 3, none⟩ = some (.int .u8 a.kind) := hblk.cell 3
  have HA := Lib.hid (And.intro cA0 (And.intro cA1 (And.intro cA2 cA3)))
  have HX4 := Lib.hid hX4
  clear hX4 hblk cA0 cA1 cA2 cA3
  go_wp2_with fail
  rw [HX4.out]
  have hkm : (SK ++ a3).size = SK.size + a3.size := by simp [ByteArray.size_append]
  refine (find_any _ _ root L T4.out (SK ++ a3) (by unfold big; omega)).mono ?_
  rintro e x5 ⟨o, rfl, ho, hB5⟩
  obtain ⟨b, rfl⟩ := find_all (z := rule0 most) (by rw [HL.out]; simp) rfl ho
  have ho' : IsFind L (K ++ a3.data.toList) (some b) := by
    have e : (SK ++ a3).data.toList = K ++ a3.data.toList := by
      rw [← EK.out]
      simp
    rw [← e]
    exact ho
  have hab := behind HO.out ho'
  rw [found_some]
  obtain ⟨SB, hSB⟩ : ∃ SB : ByteArray, SB = ⟨b.pre.toArray⟩ := ⟨_, rfl⟩
  rw [← hSB]
  have hbz : SB.size = b.pre.length := by rw [hSB]; simp [ByteArray.size]
  have hbs := HS.out b (find_mem ho)
  have hbzi : (SB.size : Int) ≤ 12 := by omega
  have hab1 : (SA.size : Int) ≤ SB.size := by have := HAZ.out; omega
  have hab2 : (SK.size : Int) < SB.size ∨ b = a := by
    rcases hab.2 with h | h
    · left
      have := EKZ.out
      omega
    · exact .inr h
  have B5 := Lib.hid ((B4.out.trans (hB5.mono B4.out.size)).alloc (Nat.le_trans B4.out.size hB5.size) (.cells #[.string SB, .int .u64 b.every, .int .u64 b.burst, .int .u8 b.kind] 28))
  have A5 := (hB5.alloc hB5.size (.cells #[.string SB, .int .u64 b.every, .int .u64 b.burst, .int .u8 b.kind] 28))
  have hblk := Blk.new x5 28 #[.string SB, .int .u64 b.every, .int .u64 b.burst, .int .u8 b.kind]
  have c5 : x5.cell? ⟨x4.heap.size, 0, none⟩ = some (.string SA) := (hB5.cell (p := ⟨x4.heap.size, 0, none⟩) ltA).trans HA.out.1
  have lt5 : x4.heap.size < x5.heap.size := Nat.lt_of_lt_of_le ltA hB5.size
  have HSB := Lib.hid hSB
  have HAB := Lib.hid hab2
  clear hB5 ho ho' hSB hbz hbs hkm hab hab2
  generalize hX5 : x5.alloc (.cells #[.string SB, .int .u64 b.every, .int .u64 b.burst, .int .u8 b.kind] 28) = X5 at B5 A5 hblk
  have ltB := hblk.lt
  have T5 := Lib.hid (T4.out.below A5)
  have cA0 : X5.cell? ⟨x4.heap.size, 0, none⟩ = some (.string SA) := (A5.cell (p := ⟨x4.heap.size, 0, none⟩) ltA).trans HA.out.1
  have HA5 := Lib.hid (show X5.cell? ⟨x4.heap.size, 1, none⟩ = some (.int .u64 a.every) ∧ X5.cell? ⟨x4.heap.size, 2, none⟩ = some (.int .u64 a.burst) ∧ X5.cell? ⟨x4.heap.size, 3, none⟩ = some (.int .u8 a.kind) from
    ⟨(A5.cell (p := ⟨x4.heap.size, 1, none⟩) ltA).trans HA.out.2.1, (A5.cell (p := ⟨x4.heap.size, 2, none⟩) ltA).trans HA.out.2.2.1, (A5.cell (p := ⟨x4.heap.size, 3, none⟩) ltA).trans HA.out.2.2.2⟩)
  have ltA5 : x4.heap.size < X5.heap.size := Nat.lt_of_lt_of_le ltA A5.size
  have HBB := Lib.hid hblk
  have HX5 := Lib.hid hX5
  clear hX5 hblk A5
  go_wp2_with fail
  rw [HX5.out]
  refine (find_any _ _ root L T5.out SA (by unfold big; omega)).mono ?_
  rintro e x6 ⟨o, rfl, ho, hB6⟩
  have hoa : o = some a := by
    have e : SA.data.toList = a.pre := by rw [HSA.out]
    rw [e] at ho
    exact isFind_uni ho (find_self HO.out)
  subst hoa
  rw [found_some, ← HSA.out]
  have B6 := (B5.out.trans (hB6.mono B5.out.size)).alloc (Nat.le_trans B5.out.size hB6.size) (.cells #[.string SA, .int .u64 a.every, .int .u64 a.burst, .int .u8 a.kind] 28)
  have A6 := (hB6.alloc hB6.size (.cells #[.string SA, .int .u64 a.every, .int .u64 a.burst, .int .u8 a.kind] 28))
  have hblk := Blk.new x6 28 #[.string SA, .int .u64 a.every, .int .u64 a.burst, .int .u8 a.kind]
  clear ho hB6
  generalize hX6 : x6.alloc (.cells #[.string SA, .int .u64 a.every, .int .u64 a.burst, .int .u8 a.kind] 28) = X6 at B6 A6 hblk
  have LATER : Hid (∀ W, Below X6.heap.size X6 W → (W.cell? ⟨x4.heap.size, 0, none⟩ = some (.string SA) ∧ W.cell? ⟨x4.heap.size, 1, none⟩ = some (.int .u64 a.every) ∧ W.cell? ⟨x4.heap.size, 2, none⟩ = some (.int .u64 a.burst) ∧ W.cell? ⟨x4.heap.size, 3, none⟩ = some (.int .u8 a.kind)) ∧
      (W.cell? ⟨x5.heap.size, 0, none⟩ = some (.string SB) ∧ W.cell? ⟨x5.heap.size, 1, none⟩ = some (.int .u64 b.every) ∧ W.cell? ⟨x5.heap.size, 2, none⟩ = some (.int .u64 b.burst) ∧ W.cell? ⟨x5.heap.size, 3, none⟩ = some (.int .u8 b.kind)) ∧
      (W.cell? ⟨x6.heap.size, 0, none⟩ = some (.string SA) ∧ W.cell? ⟨x6.heap.size, 1, none⟩ = some (.int .u64 a.every) ∧ W.cell? ⟨x6.heap.size, 2, none⟩ = some (.int .u64 a.burst) ∧ W.cell? ⟨x6.heap.size, 3, none⟩ = some (.int .u8 a.kind))) := Lib.hid (fun W hW => by
    have l4 : x4.heap.size < X6.heap.size := Nat.lt_of_lt_of_le ltA5 A6.size
    have l5 : x5.heap.size < X6.heap.size := Nat.lt_of_lt_of_le ltB A6.size
    have b5 := HBB.out.below A6 ltB
    refine ⟨⟨?_, ?_, ?_, ?_⟩, ⟨?_, ?_, ?_, ?_⟩, ?_, ?_, ?_, ?_⟩
    · exact (hW.cell (p := ⟨x4.heap.size, 0, none⟩) l4).trans ((A6.cell (p := ⟨x4.heap.size, 0, none⟩) ltA5).trans cA0)
    · exact (hW.cell (p := ⟨x4.heap.size, 1, none⟩) l4).trans ((A6.cell (p := ⟨x4.heap.size, 1, none⟩) ltA5).trans HA5.out.1)
    · exact (hW.cell (p := ⟨x4.heap.size, 2, none⟩) l4).trans ((A6.cell (p := ⟨x4.heap.size, 2, none⟩) ltA5).trans HA5.out.2.1)
    · exact (hW.cell (p := ⟨x4.heap.size, 3, none⟩) l4).trans ((A6.cell (p := ⟨x4.heap.size, 3, none⟩) ltA5).trans HA5.out.2.2)
    · exact (hW.cell (p := ⟨x5.heap.size, 0, none⟩) l5).trans (b5.cell 0)
    · exact (hW.cell (p := ⟨x5.heap.size, 1, none⟩) l5).trans (b5.cell 1)
    · exact (hW.cell (p := ⟨x5.heap.size, 2, none⟩) l5).trans (b5.cell 2)
    · exact (hW.cell (p := ⟨x5.heap.size, 3, none⟩) l5).trans (b5.cell 3)
    · exact (hW.cell (p := ⟨x6.heap.size, 0, none⟩) hblk.lt).trans (hblk.cell 0)
    · exact (hW.cell (p := ⟨x6.heap.size, 1, none⟩) hblk.lt).trans (hblk.cell 1)
    · exact (hW.cell (p := ⟨x6.heap.size, 2, none⟩) hblk.lt).trans (hblk.cell 2)
    · exact (hW.cell (p := ⟨x6.heap.size, 3, none⟩) hblk.lt).trans (hblk.cell 3))
  have B6' := Lib.hid B6
  have HX6 := Lib.hid hX6
  clear hX6 hblk A6 B6
  go_wp2_with fail
  rw [HX6.out]
  refine (known_any _).mono ?_
  rintro e x7 ⟨rfl, hB7⟩
  obtain ⟨⟨u0, u1, u2, u3⟩, ⟨v0, v1, v2, v3⟩, y0, y1, y2, y3⟩ := LATER.out x7 hB7
  have B7 := Lib.hid (B6'.out.trans (hB7.mono B6'.out.size))
  clear LATER hB7
  rcases HAB.out with hgt | hba
  · go_wp2
    go_ret
    exact ⟨rfl, B7.out⟩
  · subst hba
    have hSS : SB = SA := by rw [HSA.out, HSB.out]
    subst hSS
    go_wp2
    all_goals
      go_ret
      exact ⟨rfl, B7.out⟩
end Go.Proofs.Ytdjhjgimlpdckaa.pre
