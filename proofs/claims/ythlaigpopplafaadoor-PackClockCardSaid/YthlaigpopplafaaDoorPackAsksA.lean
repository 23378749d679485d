/- PackAsks, walked: what it asks of any snapshot, and of any bytes. -/
import Derived.Test.YthlaigpopplafaaDoorPackSizeWalk
import Derived.Test.YthlaigpopplafaaDoorPackBent
import Derived.Test.YthlaigpopplafaaDoorPackSame
import Derived.Deep.RegionHeld
namespace Go.Proofs.YthlaigpopplafaaDoor.pack
open Go.RowKit
open Go.Proofs.YthlaigpopplafaaDoor.aid

theorem dec_err : ∀ (k : Nat) (l last : List UInt8) (acc : List Ent), (dec k l last acc).2.2 ≤ 43
  | 0, l, last, acc => by simp [dec]
  | k + 1, [], last, acc => by simp [dec]
  | k + 1, b :: r, last, acc => by
    unfold dec
    split
    · simp
    split
    · simp
    split
    · simp
    exact dec_err k _ _ _
theorem decode_le (l : List UInt8) : (decode l).2 ≤ 43 := by
  unfold decode
  split
  · simp
  split
  · simp
  split
  · exact dec_err _ _ _ _
  split
  · simp
  · simp
theorem encode_le (s : Snap) : (encode s).2 ≤ 42 := by
  unfold encode
  split
  · simp
  split <;> simp
theorem encode_len (s : Snap) : (encode s).1.length ≤ sizeOf s.es := by
  unfold encode
  split
  · simp
  split
  · simp
  · exact Nat.le_of_eq (body_len s)
theorem decode_es (l : List UInt8) : (decode l).1.es.length ≤ l.length := by
  by_cases h : (decode l).2 = 0
  · obtain ⟨-, h2⟩ := decode_again h
    have h3 := es_le (decode l).1.es
    rw [← body_len, h2] at h3
    exact h3
  · rw [decode_none h]
    exact Nat.zero_le _
theorem row_drew {w : World} {B : Nat} {A : Option Addr} {vs : List Value} (h : Row w B A vs) : Row w.drew B A vs := h

set_option maxHeartbeats 4000000 in
set_option maxRecDepth 100000 in
theorem encodes_any (s : Snap) (A : Option Addr) (c : Nat) (hsz : sizeOf s.es ≤ 100000) (hck : s.clock < 18446744073709551616) (htl : ∀ e ∈ s.es, e.till < 18446744073709551616) (w : World) (hr : Row w w.heap.size A (ecells s.es)) :
    Calls Tryd.prog 13 #[.agg #[.int .u64 (s.clock : Nat), .slice A s.es.length c]] w fun e w' => e = .returned (.bool true) ∧ Below w.heap.size w w' := by
  have hl1 := encode_le s
  have hl2 := encode_len s
  have HE := Lib.hid (fun W h => enc_any s A c hsz hck htl W h)
  have HF := Lib.hid (fun W h => refenc_any s A c hsz hck htl W h)
  have HS := Lib.hid (fun W h => size_any s.clock s.es A c (by omega) W h)
  have HZ := Lib.hid (fun W h => refsize_any s.clock s.es A c (by omega) W h)
  unfold EncPost at HE HF
  obtain ⟨l, hl⟩ : ∃ l, l = (encode s).1 := ⟨_, rfl⟩
  obtain ⟨k, hk⟩ : ∃ k, k = (encode s).2 := ⟨_, rfl⟩
  rw [← hl, ← hk] at HE HF
  rw [← hk] at hl1
  rw [← hl] at hl2
  obtain ⟨ck, es⟩ := s
  simp only at HE HF HS HZ hl2 hsz hck hr ⊢
  have hzz : sizeOf es ≤ 100000 := hsz
  obtain ⟨z, hz⟩ : ∃ z, z = sizeOf es := ⟨_, rfl⟩
  rw [← hz] at HS HZ hl2 hsz
  clear hl hk htl hzz hz
  obtain ⟨W, hW⟩ : ∃ W, W = w.alloc (.cells #[.int .u64 (ck : Nat), .slice A es.length c] 25) := ⟨_, rfl⟩
  have HBX := Lib.hid (show RBox w ck es A c W from by
    rw [hW]
    exact ⟨Blk.new w _ _, hr.below ((Below.refl _ _).alloc (Nat.le_refl _) _), (Below.refl _ _).alloc (Nat.le_refl _) _⟩)
  have HW := Lib.hid hW
  have d0 : W.cell? ⟨w.heap.size, 0, none⟩ = some (.int .u64 (ck : Nat)) := HBX.out.box.cell 0
  have d1 : W.cell? ⟨w.heap.size, 1, none⟩ = some (.slice A es.length c) := HBX.out.box.cell 1
  clear hr hW
  go_enter Tryd.func13, Tryd.ntmps13
  go_wp2_with fail
  rw [← HW.out]
  go_wp2_with fail
  refine (HE.out W (HBX.out.row.more HBX.out.bel.size)).mono ?_
  rintro e w3 ⟨A3, c3, rfl, hc3, hr3, hb3⟩
  have HR3 := Lib.hid hr3
  have HBX3 := Lib.hid (HBX.out.below hb3)
  clear hr3 hb3 HE d0 d1
  have d0 : w3.cell? ⟨w.heap.size, 0, none⟩ = some (.int .u64 (ck : Nat)) := HBX3.out.box.cell 0
  have d1 : w3.cell? ⟨w.heap.size, 1, none⟩ = some (.slice A es.length c) := HBX3.out.box.cell 1
  go_wp2_with fail
  refine (HF.out w3 (HBX3.out.row.more HBX3.out.bel.size)).mono ?_
  rintro e w4 ⟨A4, c4, rfl, hc4, hr4, hb4⟩
  have HR3' := Lib.hid ((HR3.out.below hb4).more hb4.size)
  have HBX4 := Lib.hid (HBX3.out.below hb4)
  clear d0 d1 HF HR3 HBX3 hb4
  have d0 : w4.cell? ⟨w.heap.size, 0, none⟩ = some (.int .u64 (ck : Nat)) := HBX4.out.box.cell 0
  have d1 : w4.cell? ⟨w.heap.size, 1, none⟩ = some (.slice A es.length c) := HBX4.out.box.cell 1
  have s3 := row_string (c := c3) HR3'.out
  have s4 := row_string (c := c4) hr4
  have s3' := row_string (c := c3) (row_drew HR3'.out)
  have s4' := row_string (c := c4) (row_drew hr4)
  have Ba_0 := Lib.hid (Blk.drew HBX4.out.box)
  have ka_0 := fun i => HBX4.out.box.cell i
  have D_0 := Lib.hid (Below.refl w4.heap.size w4).drew
  have HS' := Lib.hid (fun W (h : Below w4.heap.size w4 W) => HS.out W (((HBX4.out.row.below (h.mono (by have := HBX4.out.bel.size; omega))).more (by have := HBX4.out.bel.size; have := h.size; omega))))
  have HZ' := Lib.hid (fun W (h : Below w4.heap.size w4 W) => HZ.out W (((HBX4.out.row.below (h.mono (by have := HBX4.out.bel.size; omega))).more (by have := HBX4.out.bel.size; have := h.size; omega))))
  have hwk : IntKind.i64.wrap (k : Int) = k := wrap_small _ (by omega) (by omega)
  clear hr4 HS HZ
  go_wp2_with fail
  rename_i KC hKC
  have HKC := Lib.hid hKC
  clear hKC
  go_region_held (fun w' => (∀ i, w'.cell? ⟨w.heap.size, i, none⟩ = (#[.int .u64 (ck : Nat), .slice A es.length c] : Array Value)[i]?)) (first | go_keep | exact ‹_›)
    (first
      | ((with_reducible refine (HS'.out _ D_0.out).mono ?_); rintro e z1 ⟨rfl, hb⟩; have Ba_1 := Lib.hid (Blk.below Ba_0.out hb Ba_0.out.lt); have ka_1 := fun i => Ba_1.out.cell i; have D_1 := Lib.hid (D_0.out.trans (hb.mono D_0.out.size)); clear hb)
      | ((with_reducible refine (HZ'.out _ D_1.out).mono ?_); rintro e z2 ⟨rfl, hb⟩; have Ba_2 := Lib.hid (Blk.below Ba_1.out hb Ba_1.out.lt); have ka_2 := fun i => Ba_2.out.cell i; have D_2 := Lib.hid (D_1.out.trans (hb.mono D_1.out.size)); clear hb))
  all_goals
    change KC _ _
    refine HKC.out _ _ ?_
    go_wp2_with fail
    go_ret
    exact ⟨rfl, HBX4.out.bel.trans (D_2.out.mono HBX4.out.bel.size)⟩

set_option maxHeartbeats 4000000 in
set_option maxRecDepth 100000 in
theorem decodes_any (l : List UInt8) (A : Option Addr) (c : Nat) (hc : l.length ≤ c) (hlt : l.length ≤ 100000) (w : World) (hr : Row w w.heap.size A (u8s l)) :
    Calls Tryd.prog 14 #[.slice A l.length c] w fun e w' => e = .returned (.bool true) ∧ Below w.heap.size w w' := by
  have hl1 := decode_le l
  have hl2 := decode_es l
  have HD := Lib.hid (fun W h => decode_x l A c W hc hlt h)
  have HF := Lib.hid (fun W h => refdec_x l A c W hc hlt h)
  have HR := Lib.hid hr
  unfold DecPost at HD
  unfold RDecPost at HF
  obtain ⟨s, hs⟩ : ∃ s, s = (decode l).1 := ⟨_, rfl⟩
  obtain ⟨k, hk⟩ : ∃ k, k = (decode l).2 := ⟨_, rfl⟩
  rw [← hs, ← hk] at HD HF
  rw [← hk] at hl1
  rw [← hs] at hl2
  clear hs hk hr
  obtain ⟨ck, es⟩ := s
  simp only at HD HF hl2
  have HSM := Lib.hid (fun A A2 c c2 W h1 h2 => same_any ⟨ck, es⟩ ⟨ck, es⟩ A A2 c c2 (by simp only; omega) (by simp only; omega) W h1 h2)
  simp only [same_refl] at HSM
  go_enter Tryd.func14, Tryd.ntmps14
  go_wp2_with fail
  refine (HD.out w HR.out).mono ?_
  rintro e w1 ⟨v1, rfl, hown, hb1⟩
  obtain ⟨A1, c1, rfl⟩ := own_slice hown
  obtain ⟨W1, hW1⟩ : ∃ W1, W1 = w1.alloc (.cells #[.int .u64 (ck : Nat), .slice A1 es.length c1] 25) := ⟨_, rfl⟩
  have hb2 : Below w1.heap.size w1 W1 := by rw [hW1]; exact (Below.refl _ _).alloc (Nat.le_refl _) _
  have hr1 := ((of_ownN hown).below hb2).more hb2.size
  have HY1 := Lib.hid (show Blk W1 w1.heap.size 25 #[.int .u64 (ck : Nat), .slice A1 es.length c1] from by rw [hW1]; exact Blk.new w1 _ _)
  have hB := (hb1.trans (hb2.mono hb1.size))
  have HRa := Lib.hid ((HR.out.below hB).more hB.size)
  have HB1 := Lib.hid hB
  have HR1 := Lib.hid hr1
  have HW1 := Lib.hid hW1
  clear hown hb1 hb2 hr1 hB hW1 HD HR
  go_wp2_with fail
  rw [← HW1.out]
  refine (HF.out W1 HRa.out).mono ?_
  rintro e w2 ⟨v2, rfl, hown, hb1⟩
  obtain ⟨A2, c2, rfl⟩ := own_slice hown
  obtain ⟨W2, hW2⟩ : ∃ W2, W2 = w2.alloc (.cells #[.int .u64 (ck : Nat), .slice A2 es.length c2] 25) := ⟨_, rfl⟩
  have hb2 : Below w2.heap.size w2 W2 := by rw [hW2]; exact (Below.refl _ _).alloc (Nat.le_refl _) _
  have hr2 := ((of_ownN hown).below hb2).more hb2.size
  have HY2 := Lib.hid (show Blk W2 w2.heap.size 25 #[.int .u64 (ck : Nat), .slice A2 es.length c2] from by rw [hW2]; exact Blk.new w2 _ _)
  have hB := (hb1.trans (hb2.mono hb1.size))
  have HR1' := Lib.hid ((HR1.out.below hB).more hB.size)
  have HY1' := Lib.hid (HY1.out.below hB HY1.out.lt)
  have HB2 := Lib.hid (HB1.out.trans (hB.mono HB1.out.size))
  have HR2 := Lib.hid hr2
  have HW2 := Lib.hid hW2
  have d0 : W2.cell? ⟨w1.heap.size, 0, none⟩ = some (.int .u64 (ck : Nat)) := HY1'.out.cell 0
  have d1 : W2.cell? ⟨w1.heap.size, 1, none⟩ = some (.slice A1 es.length c1) := HY1'.out.cell 1
  have d2 : W2.cell? ⟨w2.heap.size, 0, none⟩ = some (.int .u64 (ck : Nat)) := HY2.out.cell 0
  have d3 : W2.cell? ⟨w2.heap.size, 1, none⟩ = some (.slice A2 es.length c2) := HY2.out.cell 1
  rw [hW2] at d0 d1 d2 d3
  clear hown hb1 hb2 hr2 hB hW2 HF HR1 HY1 HRa HB1
  go_wp2_with fail
  rw [← HW2.out]
  refine (HSM.out A1 A2 c1 c2 W2 HR1'.out HR2.out).mono ?_
  rintro e w5 ⟨rfl, hb5⟩
  have HB5 := Lib.hid (HB2.out.trans (hb5.mono HB2.out.size))
  clear hb5
  go_wp2_with fail
  go_ret
  exact ⟨rfl, HB5.out⟩
end Go.Proofs.YthlaigpopplafaaDoor.pack
