/- PackSize, walked. -/
import Derived.Test.YthlaigpopplafaaDoorPackSnap
import Derived.Test.YthlaigpopplafaaDoorOpenPack
namespace Go.Proofs.YthlaigpopplafaaDoor.pack
open Go.RowKit
open Go.Proofs.YthlaigpopplafaaDoor.aid

theorem snap_size {clock : Nat} (c : List (List UInt8)) (far : List Nat) : sizeOf (snapOf clock c far).es ≤ 1386 := by
  have h1 := snapOf_len clock c far
  have h2 : (encs (snapOf clock c far).es).length ≤ 137 * (snapOf clock c far).es.length := encs_short fun e he => by
    have := (made_fits clock c far _ e he).2
    omega
  rw [sizeOf_encs]
  omega
theorem body_take4 (s : Snap) : (bodyOf s).take 4 = [84, 76, 82, 49] := by
  have h := (body_parts s []).1
  rw [List.append_nil] at h
  exact h

set_option maxHeartbeats 8000000 in
set_option maxRecDepth 100000 in
theorem packSize_walk (w : World) (a0 : Int) (l1 : List (List UInt8)) (A1 : Option Addr) (c1 : Nat) (l2 : List Nat) (A2 : Option Addr) (c2 : Nat) (h0 : 0 ≤ a0 ∧ a0 ≤ 18446744073709551615)
    (n1 : l1.length ≤ 140737488351232) (m1 : ∀ l ∈ l1, l.length ≤ 140737488351232) (r1 : frame.Rows w w.heap.size A1 l1) (n2 : l2.length ≤ 140737488351232) (m2 : ∀ n ∈ l2, n < 65536) (r2 : Row w w.heap.size A2 (l2.map fun (n : Nat) => Value.int .u16 ((n : Nat) : Int))) :
    Calls Tryd.prog 7 #[.int .u64 a0, .slice A1 l1.length c1, .slice A2 l2.length c2] w fun e w' => e = .returned (.bool true) ∧ Below w.heap.size w w' := by
  obtain ⟨ck, rfl⟩ : ∃ ck : Nat, a0 = (ck : Int) := ⟨a0.toNat, by omega⟩
  have hck : ck < 18446744073709551616 := by omega
  have HFW := Lib.hid (few_any l1 A1 c1 n1 m1 w w.heap.size r1)
  have HSN := Lib.hid (snap_any ck hck l1 A1 c1 l2 A2 c2 n1 n2 m2 w r1 r2)
  clear r1 r2 m1 m2
  by_cases hfew : tot l1 ≤ 300
  · have hd : decide (tot l1 ≤ 300) = true := by simpa using hfew
    rw [hd] at HFW
    clear hd
    have hsz := snap_size (clock := ck) l1 l2
    have hmay := snapOf_may hck l1 l2
    have hln := snapOf_len ck l1 l2
    have hckk : Hid ((snapOf ck l1 l2).clock = ck) := Lib.hid rfl
    obtain ⟨s, hs⟩ : ∃ s, s = snapOf ck l1 l2 := ⟨_, rfl⟩
    rw [← hs] at hsz hmay hln hckk HSN
    have HMY := Lib.hid hmay
    clear hs hmay
    go_enter Tryd.func7, Tryd.ntmps7
    go_wp2_with fail
    refine HFW.out.mono ?_
    rintro e w1 ⟨rfl, rfl⟩
    go_wp2_with fail
    refine HSN.out.mono ?_
    rintro e w2 ⟨A, cp, rfl, hcp, hrow, hb2⟩
    have HR2 := Lib.hid hrow
    have HB2 := Lib.hid hb2
    obtain ⟨W, hW⟩ : ∃ W, W = w2.alloc (.cells #[.int .u64 (ck : Nat), .slice A s.es.length cp] 25) := ⟨_, rfl⟩
    have HBX := Lib.hid (show RBox w2 ck s.es A cp W from by
      rw [hW]
      exact ⟨Blk.new w2 _ _, hrow.below ((Below.refl _ _).alloc (Nat.le_refl _) _), (Below.refl _ _).alloc (Nat.le_refl _) _⟩)
    have HW := Lib.hid hW
    have d0 : W.cell? ⟨w2.heap.size, 0, none⟩ = some (.int .u64 (ck : Nat)) := HBX.out.box.cell 0
    have d1 : W.cell? ⟨w2.heap.size, 1, none⟩ = some (.slice A s.es.length cp) := HBX.out.box.cell 1
    clear hrow hb2 hW HFW HSN
    go_wp2_with fail
    rw [← HW.out]
    go_wp2_with fail
    go_loop [8, 9] (fun n i => ∃ k : Nat, k ≤ s.es.length ∧ i = .int .i64 k ∧ n = .int .i64 (sizeOf (s.es.take k) : Nat)) (fun _ i => s.es.length - (intOf i).toNat)
    case atStart => exact ⟨0, by omega, rfl, rfl⟩
    case round =>
      obtain ⟨k, hk, rfl, rfl⟩ := hrel
      by_cases hlt : k < s.es.length
      · obtain ⟨b, off, rfl, hb, hc0, hc1⟩ := ent_at HBX.out.row hlt
        have hst := size_take s.es k hlt
        have hle := size_le s.es (k + 1)
        rw [hst] at hle
        have HST := Lib.hid hst
        clear hst
        obtain ⟨m, hm⟩ : ∃ m, m = sizeOf (s.es.take k) := ⟨_, rfl⟩
        rw [← hm] at hle ⊢
        have HM := Lib.hid hm
        clear hm
        go_wp2_with fail
        refine ⟨⟨k + 1, by omega, by go_num, ?_⟩, by simp [intOf]; omega⟩
        rw [HST.out, ← HM.out]
        congr 1
      · obtain rfl : k = s.es.length := by omega
        rw [List.take_length]
        have HEN := Lib.hid (enc_any s A cp (by omega) HMY.out.clock (fun e he => (HMY.out.fits e he).2) W (HBX.out.row.more HBX.out.bel.size))
        rw [hckk.out] at HEN
        have HPL : Hid ((bodyOf s).length = sizeOf s.es) := Lib.hid (body_len s)
        have H16 := Lib.hid (body_16 s)
        have hT4 := body_take4 s
        go_wp2_with fail
        refine HEN.out.mono ?_
        rintro e w3 ⟨A3, c3, rfl, hc3, hr3, hb3⟩
        rw [encode_may HMY.out] at hc3 hr3 ⊢
        have HR3 := Lib.hid hr3
        have HBX3 := Lib.hid (HBX.out.below hb3)
        have HB3 := Lib.hid hb3
        clear hr3 hb3 HEN d0 d1
        go_wp2_with fail
        refine (known_any w3).mono ?_
        rintro e w4 ⟨rfl, hb4⟩
        have HR4 := Lib.hid ((HR3.out.below hb4).more hb4.size)
        have HBX4 := Lib.hid (HBX3.out.below hb4)
        have HB4 := Lib.hid hb4
        have d0 : w4.cell? ⟨w2.heap.size, 0, none⟩ = some (.int .u64 (ck : Nat)) := HBX4.out.box.cell 0
        have d1 : w4.cell? ⟨w2.heap.size, 1, none⟩ = some (.slice A s.es.length cp) := HBX4.out.box.cell 1
        clear hb4 HR3 HBX3
        go_wp2_with fail
        refine (size_any ck s.es A cp (by omega) w4 (HBX4.out.row.more HBX4.out.bel.size)).mono ?_
        rintro e w5 ⟨rfl, hb5⟩
        have HR5 := Lib.hid ((HR4.out.below hb5).more hb5.size)
        have HB5 := Lib.hid hb5
        have hpl := HPL.out
        have h16 := H16.out
        have hcv := row_string (c := c3) (by have h := HR5.out.take 4; rw [u8s_take, hT4] at h; exact h)
        simp only [List.length_cons, List.length_nil, Nat.zero_add, Nat.reduceAdd] at hcv
        rw [hpl] at hc3 h16
        rw [hpl]
        obtain ⟨z, hz⟩ : ∃ z, z = sizeOf s.es := ⟨_, rfl⟩
        rw [← hz] at hc3 h16 hsz ⊢
        clear hb5 HR4 HBX4 hpl hz
        have h16' : (16 : Int) ≤ z := by omega
        have hc3' : (4 : Int) ≤ c3 := by omega
        go_wp2_with fail
        go_ret
        exact ⟨rfl, ((HB2.out.trans (HBX.out.bel.mono HB2.out.size)).trans (HB3.out.mono (by have := HBX.out.bel.size; have := HB2.out.size; omega))).trans ((HB4.out.mono (by have := HBX.out.bel.size; have := HB2.out.size; have := HB3.out.size; omega)).trans (HB5.out.mono (by have := HBX.out.bel.size; have := HB2.out.size; have := HB3.out.size; have := HB4.out.size; omega)))⟩
  · have hd : decide (tot l1 ≤ 300) = false := by simpa using hfew
    rw [hd] at HFW
    clear hd
    go_enter Tryd.func7, Tryd.ntmps7
    go_wp2_with fail
    refine HFW.out.mono ?_
    rintro e w1 ⟨rfl, rfl⟩
    go_wp2_with fail
    refine (known_any _).mono ?_
    rintro e wk ⟨rfl, hbk⟩
    go_wp2_with fail
    go_ret
    exact ⟨rfl, hbk⟩
end Go.Proofs.YthlaigpopplafaaDoor.pack
