/- pack.Encode, walked. -/
import Derived.Test.YthlaigpopplafaaDoorPackRefE
import Derived.Test.YthlaigpopplafaaDoorPackPut
import Derived.Test.YthlaigpopplafaaDoorKeySrt
import Derived.Test.YthlaigpopplafaaDoorShelf
import Derived.Lib.BufferOld
namespace Go.Proofs.YthlaigpopplafaaDoor.pack
open Go.RowKit
open Go.Proofs.YthlaigpopplafaaDoor.aid
open Go.Proofs.YthlaigpopplafaaDoor.key (right less rises rise right_any sorted_any)

theorem one_u8s (l : List UInt8) : ∀ v ∈ u8s l, v.oneCell' = true := by
  intro v hv
  obtain ⟨c, _, rfl⟩ := List.mem_map.1 hv
  rfl
/-- the buffer in block b holds xs -/
def WB (b : Nat) (xs : List UInt8) (W : World) : Prop := Lib.IsBuffer 64 5 b b (u8s xs) W
theorem WB.lt {b : Nat} {xs : List UInt8} {W : World} (h : WB b xs W) : b < W.heap.size := Lib.IsBuffer.lt h
theorem WB.old {b : Nat} {xs : List UInt8} {W W' : World} (h : WB b xs W) (hb : Below W.heap.size W W') : WB b xs W' := Lib.IsBuffer.old h hb
theorem blk_others {w w' : World} {z b : Nat} {t : TypeId} {cs : Array Value} (h : Blk w z t cs) (ho : Lib.OthersKept 5 (some b) w w') (hz : z ≠ b) (ht : t ≠ 5) : Blk w' z t cs :=
  ho z _ h (by simp [hz]) (by
    intro c fz e
    injection e with _ e2
    exact ht e2)
theorem wbyte {b : Nat} {xs : List UInt8} {W : World} (h : WB b xs W) (n : Nat) (hn : n < 256) (hx : xs.length ≤ 1000000) :
    Calls Tryd.prog 32 #[.pointer (some ⟨b, 0, none⟩), .int .u8 (n : Nat)] W fun e w' => e = .returned .nilIface ∧ WB b (xs ++ [UInt8.ofNat n]) w' ∧ Below b W w' ∧ Lib.OthersKept 5 (some b) W w' := by
  have e1 : u8s (xs ++ [UInt8.ofNat n]) = u8s xs ++ [.int .u8 (n : Nat)] := by
    have : (UInt8.ofNat n).toNat = n := by simp; omega
    simp [u8s, this]
  unfold WB
  rw [e1]
  exact Tryd.Buffer_WriteByte_k b b (u8s xs) n W h (Nat.le_of_lt h.lt) (one_u8s xs) (by simp; omega)
theorem wstr {b : Nat} {xs : List UInt8} {W : World} (h : WB b xs W) (s : List UInt8) (hx : xs.length ≤ 1000000) (hs : s.length ≤ 1000000) :
    Calls Tryd.prog 29 #[.pointer (some ⟨b, 0, none⟩), .string ⟨s.toArray⟩] W fun e w' => e = .returned (.tuple #[.int .i64 (s.length : Nat), .nilIface]) ∧ WB b (xs ++ s) w' ∧ Below b W w' ∧ Lib.OthersKept 5 (some b) W w' := by
  have e1 : u8s (xs ++ s) = u8s xs ++ Lib.byteCells s := by rw [show Lib.byteCells s = u8s s from rfl]; simp [u8s]
  unfold WB
  rw [e1]
  have := Tryd.Buffer_WriteString_k b b (u8s xs) ⟨s.toArray⟩ W h (Nat.le_of_lt h.lt) (one_u8s xs) (by simp [ByteArray.size]; omega)
  exact this
theorem wrow {b : Nat} {xs : List UInt8} {W : World} (h : WB b xs W) (s : List UInt8) (N o : Nat) (hN : N ≠ b) (hr : Row W W.heap.size (some ⟨N, o, none⟩) (u8s s)) (m : Nat) (hm : s.length = m) (hx : xs.length ≤ 1000000) (hs : m ≤ 1000000) :
    Calls Tryd.prog 30 #[.pointer (some ⟨b, 0, none⟩), .slice (some ⟨N, o, none⟩) m m] W fun e w' => e = .returned (.tuple #[.int .i64 (m : Nat), .nilIface]) ∧ WB b (xs ++ s) w' ∧ Below b W w' ∧ Lib.OthersKept 5 (some b) W w' := by
  have e1 : u8s (xs ++ s) = u8s xs ++ u8s s := by simp [u8s]
  unfold WB
  rw [e1]
  refine Tryd.Buffer_Write_any b b (u8s xs) (u8s s) ⟨N, o, none⟩ m m W h (Nat.le_of_lt h.lt) (one_u8s xs) (by simp [u8s, hm]) hN ?_ (one_u8s s) (by simp [u8s]; omega)
  intro j v hj
  have hne : u8s s ≠ [] := fun e => by rw [e] at hj; simp at hj
  obtain ⟨b', off, e, _, hc⟩ := hr hne
  injection e with e
  injection e with e2 e3
  subst e2 e3
  rw [Go.WideShapes.add_plain]
  exact hc j v hj

def kstrs (es : List Ent) : List ByteArray := (keys es).map fun k => ⟨k.toArray⟩
theorem kstrs_len (es : List Ent) : (kstrs es).length = es.length := by simp [kstrs, keys]
theorem kstrs_take (es : List Ent) (k : Nat) (h : k < es.length) : kstrs (es.take (k + 1)) = kstrs (es.take k) ++ [⟨es[k].key.toArray⟩] := by
  unfold kstrs keys
  rw [List.take_succ_eq_append_getElem h, List.map_append, List.map_append]
  rfl
theorem kstrs_rise (es : List Ent) : rise (kstrs es) = rises (keys es) := by
  unfold rise kstrs
  rw [List.map_map]
  congr 1
  exact (List.map_congr_left (fun _ _ => rfl)).trans (List.map_id _)
theorem str_info : (Tryd.prog.info? 9).map (fun i => (i.zero, i.size, i.bytes)) = some (some (.string ByteArray.empty), 1, 16) := by kernel_rfl

set_option maxHeartbeats 4000000 in
set_option maxRecDepth 100000 in
theorem enc_any (s : Snap) (A : Option Addr) (c : Nat) (hsz : sizeOf s.es ≤ 100000) (hck : s.clock < 18446744073709551616) (htl : ∀ e ∈ s.es, e.till < 18446744073709551616) (w : World) (hr : Row w w.heap.size A (ecells s.es)) :
    Calls Tryd.prog 16 #[.agg #[.int .u64 (s.clock : Nat), .slice A s.es.length c]] w (EncPost s .u16 w) := by
  obtain ⟨ck, es⟩ := s
  simp only at hsz hck htl hr ⊢
  obtain ⟨i0, hi0, hz0, hz1, hz2⟩ := info_parts str_info
  have hn := es_le es
  obtain ⟨W, hW⟩ : ∃ W, W = w.alloc (.cells #[.int .u64 (ck : Nat), .slice A es.length c] 25) := ⟨_, rfl⟩
  have hbx : RBox w ck es A c W := by
    rw [hW]
    exact ⟨Blk.new w _ _, hr.below ((Below.refl _ _).alloc (Nat.le_refl _) _), (Below.refl _ _).alloc (Nat.le_refl _) _⟩
  have HW := Lib.hid hW
  have c1 : W.cell? ⟨w.heap.size, 1, none⟩ = some (.slice A es.length c) := hbx.box.cell 1
  have c0 : W.cell? ⟨w.heap.size, 0, none⟩ = some (.int .u64 (ck : Nat)) := hbx.box.cell 0
  have HBX := Lib.hid hbx
  have HTL := Lib.hid htl
  clear hW hr hbx htl
  go_enter Tryd.func16, Tryd.ntmps16
  go_wp2_with fail
  rw [← HW.out]
  go_wp2_with fail
  go_loopw [4, 18] (fun v i wr => ∃ k : Nat, k ≤ es.length ∧ i = .int .i64 k ∧ (keys (es.take k)).all right = true ∧ wr.ownsRow (w.heap.size + 1) 9 1 v k ((kstrs (es.take k)).map .string) ∧ RBox w ck es A c wr) (fun _ i _ => es.length - (intOf i).toNat)
  case atStart => exact ⟨0, by omega, rfl, rfl, World.ownsRow_nil _ _ _ _, HBX.out⟩
  case round =>
    obtain ⟨k, hk, rfl, hal, hown, hbx⟩ := hrel
    obtain ⟨Av, cv, rfl, hcv, -⟩ := own_form hown
    have HA := Lib.hid hal
    have HO := Lib.hid hown
    have HB := Lib.hid hbx
    clear hal hown hbx HBX c1 c0 HW
    by_cases hlt : k < es.length
    · obtain ⟨b, off, rfl, hb, hc0, hc1⟩ := ent_at HB.out.row hlt
      have hkl := key_le es k hlt
      have HKT := Lib.hid (kstrs_take es k hlt)
      have hAT := fun h => all_take es k hlt HA.out h
      have hAN := fun h => enc_12 (ck := ck) (all_no es k hlt h)
      have HG := Lib.hid (fun W => right_any ⟨es[k].key.toArray⟩ (by simp [ByteArray.size]; omega) W)
      change Hid (∀ W, Calls Tryd.prog 27 #[.string ⟨es[k].key.toArray⟩] W fun e w' => e = .returned (.bool (right es[k].key)) ∧ Below W.heap.size W w') at HG
      have HB1 := Lib.hid (HB.out.below ((Below.refl _ _).alloc (Nat.le_refl _) (.cells #[.string ⟨es[k].key.toArray⟩, .int .u64 (es[k].till : Nat)] 31)))
      have HE1 := Lib.hid (Blk.new wr 31 #[.string ⟨es[k].key.toArray⟩, .int .u64 (es[k].till : Nat)])
      have HO1 := Lib.hid (HO.out.alloc (.cells #[.string ⟨es[k].key.toArray⟩, .int .u64 (es[k].till : Nat)] 31))
      have hmore := HB.out.more
      rcases Bool.eq_false_or_eq_true (right es[k].key) with hrt | hrt
      · have HN := Lib.hid (hAT hrt)
        rw [hrt] at HG
        clear hrt HA hAT hAN HO HB
        obtain ⟨key, hkey⟩ : ∃ key, key = es[k].key := ⟨_, rfl⟩
        rw [← hkey] at hc0 hkl HG HB1 HE1 HO1 HKT
        generalize es[k].till = tl at *
        clear hkey
        go_wp2_with fail
        refine (HG.out _).mono ?_
        rintro e w2 ⟨rfl, hb2⟩
        have HB2 := Lib.hid (HB1.out.below hb2)
        have he2 := HE1.out.below hb2 HE1.out.lt
        have HO2 := Lib.hid (HO1.out.kept (grown_none hb2 none) (by cases h : (Value.slice Av k cv).ownBlock <;> simp))
        have e0 : w2.cell? ⟨wr.heap.size, 0, none⟩ = some (.string ⟨key.toArray⟩) := he2.cell 0
        clear hb2 he2 HE1 HO1 HB1 hc0 hc1
        have HO3 := Lib.hid (HO2.out.alloc (.cells #[.string ⟨key.toArray⟩] 9))
        have HB3 := Lib.hid (HB2.out.below ((Below.refl _ _).alloc (Nat.le_refl _) (.cells #[.string ⟨key.toArray⟩] 9)))
        go_wp2_with (at_builtin; refine wpList_append_row _ rfl _ _ 59 rfl (w.heap.size + 1) 9 i0 _ 16 rfl hi0 hz0 hz1 hz2 rfl _ k _ rfl HO3.out _ (some ⟨w2.heap.size, 0, none⟩) 1 1 [.string ⟨key.toArray⟩] rfl rfl (Row.new w2 9 #[.string ⟨key.toArray⟩]) (by simp [Value.oneCell']) (by unfold maxLen; omega) (by omega) HB3.out.more ?_; intro v1 w5 hown5 hg5 hat5)
        have hown6 : w5.ownsRow (w.heap.size + 1) 9 1 v1 (k + 1) ((kstrs (es.take (k + 1))).map .string) := by
          rw [HKT.out, List.map_append]
          exact hown5
        have HB5 := Lib.hid (HB3.out.kept (own_below HO3.out HB3.out.more hg5))
        have HO5 := Lib.hid hown6
        clear hown5 hg5 hat5 hown6 HO3 HB3 HO2 HB2
        go_wp2_with fail
        go_roundw
        case rel => exact ⟨k + 1, by omega, by go_num, HN.out, HO5.out, HB5.out⟩
        case measure => simp [intOf]; omega
      · have HN := Lib.hid (hAN hrt)
        rw [hrt] at HG
        clear hrt HA hAT hAN HO HB
        obtain ⟨key, hkey⟩ : ∃ key, key = es[k].key := ⟨_, rfl⟩
        rw [← hkey] at hc0 hkl HG HB1 HE1 HO1 HKT
        generalize es[k].till = tl at *
        clear hkey
        go_wp2_with fail
        refine (HG.out _).mono ?_
        rintro e w2 ⟨rfl, hb2⟩
        have HB2 := Lib.hid (HB1.out.below hb2)
        clear hb2 hc0 hc1 HE1 HO1 HB1
        go_wp2_with fail
        go_ret2
        unfold EncPost
        rw [HN.out]
        exact ⟨none, 0, rfl, Nat.le_refl _, Row.nil_, HB2.out.bel⟩
    · obtain rfl : k = es.length := by omega
      rw [List.take_length] at HA HO
      have hksz : ∀ s ∈ kstrs es, s.size ≤ 9223372036854775807 := fun s hs => by
        obtain ⟨l, hl, rfl⟩ := List.mem_map.1 hs
        have h := HA.out
        rw [List.all_eq_true] at h
        have := (right_len (h l hl)).2
        simp [ByteArray.size]
        omega
      have HS := sorted_any (kstrs es) Av cv (by rw [kstrs_len]; omega) hksz wr (Row.of_own HO.out)
      rw [kstrs_len, kstrs_rise] at HS
      have HS := Lib.hid HS
      have hAN := fun h => enc_42 (ck := ck) HA.out h
      have hAY := fun h => enc_0 (ck := ck) HA.out h
      have HKL : Hid (∀ k (h : k < es.length), es[k].key.length ≤ 128) := Lib.hid fun k h => (right_len (by
        have := HA.out
        rw [List.all_eq_true] at this
        exact this _ (List.mem_map.2 ⟨es[k], List.getElem_mem h, rfl⟩))).2
      clear hksz HA HO hlt
      rcases Bool.eq_false_or_eq_true (rises (keys es)) with hri | hri
      · have HN := Lib.hid (hAY hri)
        rw [hri] at HS
        clear hri hAN hAY
        go_wp2_with fail
        refine HS.out.mono ?_
        rintro e w2 ⟨rfl, hb2⟩
        have HB2 := Lib.hid (HB.out.below hb2)
        clear hb2 HB HS
        obtain ⟨W3, hW3⟩ : ∃ W3, W3 = w2.alloc (.cells #[.slice none 0 0, .int .i64 0, .int .i8 0] 64) := ⟨_, rfl⟩
        have hwb : WB w2.heap.size [] W3 := by
          rw [hW3]
          exact Lib.fresh_isBuffer _ _ w2
        have hb1 := HB2.out.more
        have HB3 := Lib.hid (show RBox w ck es A c W3 by rw [hW3]; exact HB2.out.below ((Below.refl _ _).alloc (Nat.le_refl _) _))
        have HW3 := Lib.hid hW3
        clear hW3 HB2
        go_wp2_with fail
        rw [← HW3.out]
        obtain ⟨b, hbb⟩ : ∃ b, b = w2.heap.size := ⟨_, rfl⟩
        rw [← hbb] at hwb hb1 ⊢
        have HWB := Lib.hid hwb
        clear hwb HW3 hbb
        refine (wstr HWB.out magic (by simp) (by decide)).mono ?_
        rintro e w4 ⟨rfl, hwb4, hbl, -⟩
        have HB4 := Lib.hid (HB3.out.kept (hbl.mono hb1))
        have HW4 : Hid (WB b magic w4) := Lib.hid hwb4
        clear hwb4 hbl HWB HB3
        have c0 : w4.cell? ⟨w.heap.size, 0, none⟩ = some (.int .u64 (ck : Nat)) := HB4.out.box.cell 0
        go_wp2_with fail
        refine (put_any ck hck 8 (.inr rfl) w4).mono ?_
        rintro e w5 ⟨rfl, hrow, hbl⟩
        have HB5 := Lib.hid (HB4.out.below hbl)
        have HW5 := Lib.hid (HW4.out.old hbl)
        have hne5 : w4.heap.size ≠ b := by have := HW4.out.lt; omega
        have HR5 := Lib.hid hrow
        clear hbl hrow c0 HB4 HW4
        go_wp2_with fail
        refine (wrow HW5.out (be ck 8) w4.heap.size (8 - 8) hne5 HR5.out 8 (be_len _ _) (by decide) (by decide)).mono ?_
        rintro e w6 ⟨rfl, hwb6, hbl, -⟩
        have HB6 := Lib.hid (HB5.out.kept (hbl.mono hb1))
        have HW6 := Lib.hid hwb6
        clear hwb6 hbl HW5 HB5 HR5 hne5
        have c1 : w6.cell? ⟨w.heap.size, 1, none⟩ = some (.slice A es.length c) := HB6.out.box.cell 1
        go_wp2_with fail
        refine (put_any es.length (by omega) 4 (.inl rfl) w6).mono ?_
        rintro e w7 ⟨rfl, hrow, hbl⟩
        have HB7 := Lib.hid (HB6.out.below hbl)
        have HW7 := Lib.hid (HW6.out.old hbl)
        have hne7 : w6.heap.size ≠ b := by have := HW6.out.lt; omega
        have HR7 := Lib.hid hrow
        clear hbl hrow c1 HB6 HW6
        go_wp2_with fail
        refine (wrow HW7.out (be es.length 4) w6.heap.size (8 - 4) hne7 HR7.out 4 (be_len _ _) (by simp [magic, be_len]) (by decide)).mono ?_
        rintro e w8 ⟨rfl, hwb8, hbl, -⟩
        have HB8 := Lib.hid (HB7.out.kept (hbl.mono hb1))
        obtain ⟨pre, hpre⟩ : ∃ pre, pre = magic ++ be ck 8 ++ be es.length 4 := ⟨_, rfl⟩
        have hpl : pre.length = 16 := by rw [hpre]; simp [be_len, magic]
        rw [← hpre] at HN hwb8
        have HW8 := Lib.hid hwb8
        clear hwb8 hbl HW7 HB7 HR7 hne7 hpre
        have c1 : w8.cell? ⟨w.heap.size, 1, none⟩ = some (.slice A es.length c) := HB8.out.box.cell 1
        go_wp2_with fail
        go_loopw [49] (fun i wr => ∃ k : Nat, k ≤ es.length ∧ i = .int .i64 k ∧ WB b (pre ++ encs (es.take k)) wr ∧ RBox w ck es A c wr) (fun i _ => es.length - (intOf i).toNat)
        case atStart => exact ⟨0, by omega, rfl, by rw [List.take_zero, show encs [] = [] from rfl, List.append_nil]; exact HW8.out, HB8.out⟩
        case round =>
          obtain ⟨k, hk, rfl, hwb, hbx⟩ := hrel
          have HWB := Lib.hid hwb
          have HBX := Lib.hid hbx
          clear hwb hbx HW8 HB8 c1
          by_cases hlt : k < es.length
          · obtain ⟨g, off, rfl, hg, hc0, hc1⟩ := ent_at HBX.out.row hlt
            have hkl := HKL.out k hlt
            have htk := HTL.out es[k] (List.getElem_mem hlt)
            have hX2 := encs_le es (k + 1)
            have HT := Lib.hid (encs_take es k hlt)
            rw [HT.out, List.length_append, encE_len] at hX2
            have HEE : Hid (encE es[k] = UInt8.ofNat es[k].key.length :: (es[k].key ++ be es[k].till 8)) := Lib.hid rfl
            obtain ⟨xs, hxs⟩ : ∃ xs, xs = pre ++ encs (es.take k) := ⟨_, rfl⟩
            have hxl : xs.length ≤ 100000 := by rw [hxs, List.length_append]; omega
            have hxn : Hid (pre ++ encs (es.take (k + 1)) = xs ++ [UInt8.ofNat es[k].key.length] ++ es[k].key ++ be es[k].till 8) := Lib.hid (by rw [HT.out, HEE.out, hxs]; simp)
            rw [← hxs] at HWB
            generalize es[k].key = key at *
            generalize es[k].till = tl at *
            clear hX2 HT HEE hxs
            have HB1 := Lib.hid (HBX.out.below ((Below.refl _ _).alloc (Nat.le_refl _) (.cells #[.string ⟨key.toArray⟩, .int .u64 (tl : Nat)] 31)))
            have HE1 := Lib.hid (Blk.new wr 31 #[.string ⟨key.toArray⟩, .int .u64 (tl : Nat)])
            have HW1 := Lib.hid (HWB.out.old ((Below.refl _ _).alloc (Nat.le_refl _) (.cells #[.string ⟨key.toArray⟩, .int .u64 (tl : Nat)] 31)))
            have hzb : wr.heap.size ≠ b := by have := HWB.out.lt; omega
            obtain ⟨z, hz⟩ : ∃ z, z = wr.heap.size := ⟨_, rfl⟩
            clear HBX HWB
            go_wp2_with fail
            rw [← hz] at HE1 hzb ⊢
            refine (wbyte HW1.out key.length (by omega) (by omega)).mono ?_
            rintro e w2 ⟨rfl, hwb, hbl, hoth⟩
            have HB2 := Lib.hid (HB1.out.kept (hbl.mono hb1))
            have HW2 := Lib.hid hwb
            have HE2 := Lib.hid (blk_others HE1.out hoth hzb (by decide))
            clear hwb hbl hoth HB1 HW1 HE1 hc0 hc1 hz
            have e0 : w2.cell? ⟨z, 0, none⟩ = some (.string ⟨key.toArray⟩) := HE2.out.cell 0
            go_wp2_with fail
            refine (wstr HW2.out key (by simp; omega) (by omega)).mono ?_
            rintro e w3 ⟨rfl, hwb, hbl, hoth⟩
            have HB3 := Lib.hid (HB2.out.kept (hbl.mono hb1))
            have HW3 := Lib.hid hwb
            have HE3 := Lib.hid (blk_others HE2.out hoth hzb (by decide))
            clear hwb hbl hoth HB2 HW2 HE2 e0
            have e1 : w3.cell? ⟨z, 1, none⟩ = some (.int .u64 (tl : Nat)) := HE3.out.cell 1
            go_wp2_with fail
            refine (put_any tl htk 8 (.inr rfl) w3).mono ?_
            rintro e w4 ⟨rfl, hrow, hbl⟩
            have HB4 := Lib.hid (HB3.out.below hbl)
            have HW4 := Lib.hid (HW3.out.old hbl)
            have hne4 : w3.heap.size ≠ b := by have := HW3.out.lt; omega
            have HR4 := Lib.hid hrow
            clear hrow hbl HB3 HW3 HE3 e1
            go_wp2_with fail
            refine (wrow HW4.out (be tl 8) w3.heap.size (8 - 8) hne4 HR4.out 8 (be_len _ _) (by simp; omega) (by decide)).mono ?_
            rintro e w5 ⟨rfl, hwb, hbl, -⟩
            have HB5 := Lib.hid (HB4.out.kept (hbl.mono hb1))
            rw [← hxn.out] at hwb
            have HW5 := Lib.hid hwb
            clear hwb hbl HB4 HW4 HR4
            go_wp2_with fail
            go_roundw
            case rel => exact ⟨k + 1, by omega, by go_num, HW5.out, HB5.out⟩
            case measure => simp [intOf]; omega
          · obtain rfl : k = es.length := by omega
            rw [List.take_length] at HWB
            obtain ⟨zs, hzs⟩ : ∃ zs, zs = pre ++ encs es := ⟨_, rfl⟩
            rw [← hzs] at HWB HN
            clear hzs
            go_wp2_with fail
            refine (Tryd.Buffer_Bytes b b _ wr HWB.out).mono ?_
            rintro e w2 ⟨v, rfl, hown, nd, rfl⟩
            obtain ⟨Av, cv, rfl, hcv, -⟩ := own_form hown
            have hul : (u8s zs).length = zs.length := List.length_map _
            rw [hul] at hown hcv ⊢
            have hrow := Row.of_own hown
            have HRW := Lib.hid hrow
            clear hown hrow hul hlt
            go_wp2_with fail
            go_ret2
            unfold EncPost
            rw [HN.out]
            exact ⟨Av, cv, rfl, hcv, HRW.out, below_drewN HBX.out.bel _⟩
      · have HN := Lib.hid (hAN hri)
        rw [hri] at HS
        clear hri hAN hAY
        go_wp2_with fail
        refine HS.out.mono ?_
        rintro e w2 ⟨rfl, hb2⟩
        have HB2 := Lib.hid (HB.out.below hb2)
        clear hb2 HB HS
        go_wp2_with fail
        go_ret2
        unfold EncPost
        rw [HN.out]
        exact ⟨none, 0, rfl, Nat.le_refl _, Row.nil_, HB2.out.bel⟩
end Go.Proofs.YthlaigpopplafaaDoor.pack
