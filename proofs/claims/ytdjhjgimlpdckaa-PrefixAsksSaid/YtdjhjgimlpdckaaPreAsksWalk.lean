/- PrefixAsks, walked. -/
import Derived.Test.YtdjhjgimlpdckaaPreAsks
namespace Go.Proofs.Ytdjhjgimlpdckaa.pre
open Go.RowKit
open Go.Proofs.Ytdjhjgimlpdckaa.aid

/-- how much the first m rules weigh -/
def weight (L : List Rul) : Nat → Nat
  | 0 => 0
  | m + 1 => weight L m + match L[m]? with | some x => 1 + x.pre.length | none => 0
theorem weight_step {L : List Rul} {m : Nat} {x : Rul} (h : L[m]? = some x) : weight L (m + 1) = weight L m + (1 + x.pre.length) := by
  show weight L m + _ = _
  rw [h]
theorem weight_ge (L : List Rul) : ∀ m, m ≤ L.length → m ≤ weight L m ∧ ∀ i x, i < m → L[i]? = some x → x.pre.length ≤ weight L m
  | 0, _ => ⟨Nat.le_refl _, fun i x h => by omega⟩
  | m + 1, h => by
    obtain ⟨h1, h2⟩ := weight_ge L m (by omega)
    have hm : L[m]? = some L[m] := List.getElem?_eq_getElem (by omega)
    rw [weight_step hm]
    refine ⟨by omega, fun i x hi hx => ?_⟩
    rcases Nat.lt_or_ge i m with hl | hl
    · have := h2 i x hl hx
      omega
    · obtain rfl : i = m := by omega
      rw [hm] at hx
      cases hx
      omega

set_option maxRecDepth 100000 in
set_option maxHeartbeats 4000000 in
theorem asks_walk (w : World) (l0 : List Rul) (A0 : Option Addr) (c0 : Nat) (a1 : ByteArray) (a2 : Int) (l3 : List Num) (A3 : Option Addr) (c3 : Nat) (l4 : List UInt8) (A4 : Option Addr) (c4 : Nat)
    (h0 : l0.length ≤ 140737488351232) (g0 : ∀ e ∈ l0, e.pre.length ≤ 140737488351232) (r0 : Row w w.heap.size A0 (rcells l0)) (w1 : a1.size ≤ 140737488351232) (w2 : 0 ≤ a2 ∧ a2 ≤ 65535)
    (h3 : l3.length ≤ 9223372036854775807) (r3 : Nums w w.heap.size A3 l3) (h4 : l4.length ≤ 9223372036854775807) (r4 : Row w w.heap.size A4 (u8s l4)) :
    Calls Try.prog 3 #[.slice A0 l0.length c0, .string a1, .int .u16 a2, .slice A3 l3.length c3, .slice A4 l4.length c4] w fun e w' => e = .returned (.bool true) ∧ Below w.heap.size w w' := by
  obtain ⟨most, rfl⟩ : ∃ n : Nat, a2 = n := ⟨a2.toNat, by omega⟩
  obtain ⟨l, hl, hlen, hshort, honce⟩ := pol_facts most l3
  obtain ⟨L, hL⟩ : ∃ L, L = polRules most l3 := ⟨_, rfl⟩
  have hP := fun W (h : Below w.heap.size w W) => policy_any most (by omega) l3 A3 c3 h3 W ((r3.below h).more h.size)
  rw [← hL] at hl hlen hshort honce hP
  obtain ⟨M, hM⟩ : ∃ M, M = ((1 + most % 50 : Nat) : Int) := ⟨_, rfl⟩
  rw [← hM] at hP
  have HP := Lib.hid hP
  have HL := Lib.hid hl
  have HS := Lib.hid hshort
  have R0 := Lib.hid r0
  have G0 := Lib.hid g0
  have R4 := Lib.hid r4
  have k2 := (key.keyOf_right l4).2.1
  obtain ⟨K, hK⟩ : ∃ K, K = key.keyOf l4 := ⟨_, rfl⟩
  rw [← hK] at k2
  have hK2 := key.key_any l4 A4 c4 h4
  rw [← hK] at hK2
  have HK2 := Lib.hid hK2
  have hlp : 0 < L.length := by rw [hl]; simp
  clear hP hl hshort honce r0 g0 r4 r3 hM hK hK2 hL
  go_enter Try.func3, Try.ntmps3
  go_wp2
  go_loopw [11, 12] (fun t i wr => ∃ m : Nat, m ≤ l0.length ∧ i = .int .i64 (m : Nat) ∧ t = .int .i64 ((a1.size + weight l0 m : Nat) : Int) ∧ (m = 0 ∨ ∃ p x, m = p + 1 ∧ l0[p]? = some x ∧ a1.size + weight l0 p ≤ 800) ∧ Hid (Below w.heap.size w wr)) (fun _ i _ => l0.length - (intOf i).toNat)
  case atStart => exact ⟨0, Nat.zero_le _, rfl, rfl, .inl rfl, Lib.hid (Below.refl _ _)⟩
  case round =>
    obtain ⟨m, hm, rfl, rfl, hprev, HB⟩ := hrel
    have htb : a1.size + weight l0 m ≤ 300000000000000 := by
      rcases hprev with rfl | ⟨p, x, rfl, hx, hp⟩
      · simp [weight]
        omega
      · rw [weight_step hx]
        have := G0.out x (List.mem_iff_getElem?.2 ⟨p, hx⟩)
        omega
    obtain ⟨T, hT⟩ : ∃ T, T = a1.size + weight l0 m := ⟨_, rfl⟩
    rw [← hT] at htb ⊢
    clear hprev
    by_cases hgo : m < l0.length ∧ T ≤ 800
    · obtain ⟨hlt, ht8⟩ := hgo
      obtain ⟨y, hy⟩ : ∃ y, l0[m]? = some y := ⟨_, List.getElem?_eq_getElem hlt⟩
      obtain ⟨b1, off1, rfl, hb1, d0, -⟩ := rul_at (R0.out.below HB.out) hy
      obtain ⟨S1, hS1⟩ : ∃ S1 : ByteArray, S1 = ⟨y.pre.toArray⟩ := ⟨_, rfl⟩
      rw [← hS1] at d0
      have hz1 : S1.size = y.pre.length := by rw [hS1]; simp [ByteArray.size]
      have hyb := G0.out y (List.mem_iff_getElem?.2 ⟨m, hy⟩)
      have hs1 : S1.size ≤ 140737488351232 := by omega
      have hwm : IntKind.i64.wrap ((m : Int) + 1) = (m : Int) + 1 := wrap_small _ (by omega) (by omega)
      have hws : IntKind.i64.wrap (1 + (S1.size : Int)) = 1 + (S1.size : Int) := wrap_small _ (by omega) (by omega)
      have hwt : IntKind.i64.wrap ((T : Int) + (1 + (S1.size : Int))) = (T : Int) + (1 + (S1.size : Int)) := wrap_small _ (by omega) (by omega)
      have ht8' : (T : Int) ≤ 800 := by omega
      have hbl : b1 < wr.heap.size := Nat.lt_of_lt_of_le hb1 HB.out.size
      have HY := Lib.hid hy
      have HTT := Lib.hid hT
      have HZ1 := Lib.hid hz1
      clear hy hT hS1 hz1 hyb
      go_wp2
      go_roundw
      case rel => exact ⟨m + 1, hlt, by go_num, by rw [weight_step HY.out, ← HZ1.out, ← Nat.add_assoc, ← HTT.out]; congr 1, .inr ⟨m, y, rfl, HY.out, by rw [← HTT.out]; exact ht8⟩, HB⟩
      case measure => simp [intOf]; omega
    · by_cases ht8 : T ≤ 800
      · obtain rfl : m = l0.length := by omega
        have ht8' : (T : Int) ≤ 800 := by omega
        have hwg := weight_ge l0 l0.length (Nat.le_refl _)
        by_cases h60 : l0.length ≤ 60
        · have h60' : (l0.length : Int) ≤ 60 := by omega
          have G8 := Lib.hid (show ∀ x ∈ l0, x.pre.length ≤ 1000 from fun x hx => by
            obtain ⟨j, hj⟩ := List.mem_iff_getElem?.1 hx
            have := hwg.2 j x (List.getElem?_eq_some_iff.1 hj).1 hj
            omega)
          have ha1 : a1.size ≤ 800 := by omega
          have HASK := Lib.hid (fun (q : ByteArray) (hq : q.size ≤ 10000) (W : World) (h : Below w.heap.size w W) => asks_any l0 A0 c0 (by omega) G8.out q hq W ((R0.out.below h).more h.size))
          clear hwg hT hgo htb G0
          go_wp2_with fail
          refine (known_any _).mono ?_
          rintro e y1 ⟨rfl, hb⟩
          have B1 := Lib.hid (HB.out.trans (hb.mono HB.out.size))
          clear hb
          go_wp2_with fail
          refine (HP.out y1 B1.out).mono ?_
          rintro e x1 ⟨Ap, cp, rfl, hcp, hrow, hB1⟩
          obtain ⟨b0, off, rfl, -⟩ := rul_at hrow (show L[0]? = some (rule0 most) by rw [HL.out]; rfl)
          have B2 := Lib.hid ((B1.out.trans (hB1.mono B1.out.size)).alloc (Nat.le_trans B1.out.size hB1.size) (.cells #[.int .i64 M, .slice (some ⟨b0, off, none⟩) L.length cp] 31))
          have ROW1 := Lib.hid (show Row (x1.alloc (.cells #[.int .i64 M, .slice (some ⟨b0, off, none⟩) L.length cp] 31)) (x1.alloc (.cells #[.int .i64 M, .slice (some ⟨b0, off, none⟩) L.length cp] 31)).heap.size (some ⟨b0, off, none⟩) (rcells L) from (hrow.below ((Below.refl _ x1).alloc (Nat.le_refl _) _)).more (by simp))
          have P1 := Lib.hid (Blk.new x1 31 #[.int .i64 M, .slice (some ⟨b0, off, none⟩) L.length cp])
          clear hrow hB1
          go_wp2_with fail
          refine (HK2.out _ ((R4.out.below B2.out).more B2.out.size)).mono ?_
          rintro e x2 ⟨rfl, hb⟩
          obtain ⟨SK, hSK⟩ : ∃ SK : ByteArray, SK = ⟨K.toArray⟩ := ⟨_, rfl⟩
          rw [← hSK]
          have hkz : SK.size ≤ 12 := by rw [hSK]; simp [ByteArray.size]; omega
          have B3 := Lib.hid (B2.out.trans (hb.mono B2.out.size))
          have ROW2 := Lib.hid ((ROW1.out.below hb).more hb.size)
          have P2 := Lib.hid (P1.out.below hb P1.out.lt)
          have lp2 := P2.out.lt
          have HPA := Lib.hid (fun (q : ByteArray) (hq : q.size ≤ 10000) (W : World) (h : Below x2.heap.size x2 W) => asks_any L (some ⟨b0, off, none⟩) cp (by omega) (fun x hx => by have := HS.out x hx; omega) q hq W ((ROW2.out.below h).more h.size))
          have HPC := Lib.hid (fun (W : World) (h : Below x2.heap.size x2 W) => show W.cell? ⟨x1.heap.size, 1, none⟩ = some (.slice (some ⟨b0, off, none⟩) L.length cp) from (h.cell (p := ⟨x1.heap.size, 1, none⟩) lp2).trans (P2.out.cell 1))
          have hszz : (SK ++ a1).size = SK.size + a1.size := by simp [ByteArray.size_append]
          clear hb hSK k2 P1 ROW1 B2
          go_wp2_with fail
          refine (HASK.out a1 (by omega) x2 B3.out).mono ?_
          rintro e z1 ⟨rfl, hb⟩
          have Z1 := Lib.hid hb
          have e1 := HPC.out z1 hb
          clear hb
          go_wp2_with fail
          refine (HPA.out SK (by omega) z1 Z1.out).mono ?_
          rintro e z2 ⟨rfl, hb⟩
          have Z2 := Lib.hid (Z1.out.trans (hb.mono Z1.out.size))
          have e2 := HPC.out z2 Z2.out
          clear hb e1 Z1
          go_wp2_with fail
          refine (HPA.out (SK ++ a1) (by omega) z2 Z2.out).mono ?_
          rintro e z3 ⟨rfl, hb⟩
          have Z3 := Lib.hid (Z2.out.trans (hb.mono Z2.out.size))
          clear hb e2 Z2
          go_wp2_with fail
          refine (HASK.out SK (by omega) z3 (B3.out.trans (Z3.out.mono B3.out.size))).mono ?_
          rintro e z4 ⟨rfl, hb⟩
          have Z4 := Lib.hid (Z3.out.trans (hb.mono Z3.out.size))
          have e4 := HPC.out z4 Z4.out
          have hl1 : (1 : Int) ≤ L.length := by omega
          have hl1c : (L.length : Int) ≤ cp := by omega
          clear hb Z3
          go_wp2_with fail
          all_goals
            have hll : L.length - 1 = l.length := by rw [HL.out]; simp
            have HTAIL := Lib.hid (show Row z4 z4.heap.size (some ⟨b0, off + 4, none⟩) (rcells l) from by
              have hT := ((ROW2.out.below Z4.out).more Z4.out.size).from_ 4
              rw [show (rcells L).drop 4 = rcells l by rw [HL.out]; rfl] at hT
              exact hT)
            have HTNIL := Lib.hid (fun (A : Option Addr) (h : cp = 1) => show Row z4 z4.heap.size A (rcells l) from by
              have : l = [] := List.eq_nil_of_length_eq_zero (by omega)
              rw [this]
              exact Row.nil_)
            rw [hll]
            refine (asks_any l _ _ (by omega) (fun x hx => by have := HS.out x (by rw [HL.out]; exact List.mem_cons_of_mem _ hx); omega) SK (by omega) z4 (by first | exact HTAIL.out | exact HTNIL.out _ (by assumption))).mono ?_
            rintro e z5 ⟨rfl, hb⟩
            go_wp2
            go_ret
            have h4 := B3.out.trans (Z4.out.mono B3.out.size)
            exact ⟨rfl, h4.trans (hb.mono h4.size)⟩
        · have h60' : (60 : Int) < l0.length := by omega
          clear hwg hT hgo htb
          go_wp2_with fail
          refine (known_any _).mono ?_
          rintro e z ⟨rfl, hbz⟩
          go_wp2
          go_ret
          exact ⟨rfl, HB.out.trans (hbz.mono HB.out.size)⟩
      · have ht8' : (800 : Int) < T := by omega
        clear hgo hT
        go_wp2_with fail
        all_goals
          refine (known_any _).mono ?_
          rintro e z ⟨rfl, hbz⟩
          go_wp2
          go_ret
          exact ⟨rfl, HB.out.trans (hbz.mono HB.out.size)⟩
end Go.Proofs.Ytdjhjgimlpdckaa.pre
