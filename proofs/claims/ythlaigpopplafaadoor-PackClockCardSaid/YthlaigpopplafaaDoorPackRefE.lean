/- the reference's Encode, walked. -/
import Derived.Test.YthlaigpopplafaaDoorPackRefW
import Derived.Test.YthlaigpopplafaaDoorKeyRLQ
import Derived.Test.YthlaigpopplafaaDoorKeyRefRight
namespace Go.Proofs.YthlaigpopplafaaDoor.pack
open Go.RowKit
open Go.Proofs.YthlaigpopplafaaDoor.aid
open Go.Proofs.YthlaigpopplafaaDoor.key (right less rises refright_any refless_q drewN_more)

def Ris (ks : List (List UInt8)) (n : Nat) : Prop := ∀ j (_ : j + 1 < n) (h : j + 1 < ks.length), less ks[j] ks[j + 1] = true
theorem rises_iff (ks : List (List UInt8)) : rises ks = true ↔ Ris ks ks.length := by
  induction ks with
  | nil => exact ⟨fun _ j _ h => by simp at h, fun _ => rfl⟩
  | cons a r ih =>
    cases r with
    | nil => exact ⟨fun _ j _ h => by simp at h, fun _ => rfl⟩
    | cons b r =>
      rw [rises, Bool.and_eq_true, ih]
      constructor
      · rintro ⟨h1, h2⟩ j hj hl
        cases j with
        | zero => exact h1
        | succ j => exact h2 j (by simpa using hj) (by simpa using hl)
      · intro h
        exact ⟨h 0 (by simp) (by simp), fun j hj hl => h (j + 1) (by simpa using hj) (by simpa using hl)⟩
theorem rises_no {ks : List (List UInt8)} {j : Nat} (h : j + 1 < ks.length) (hl : less ks[j] ks[j + 1] = false) : rises ks = false := by
  rw [Bool.eq_false_iff]
  intro hc
  have := (rises_iff ks).1 hc j h h
  rw [hl] at this
  exact absurd this (by simp)
theorem Ris.step {ks : List (List UInt8)} {k : Nat} (h : Ris ks (k + 1)) (hk : k + 1 < ks.length) (hl : less ks[k] ks[k + 1] = true) : Ris ks (k + 1 + 1) := by
  intro j hj h2
  by_cases e : j = k
  · subst e; exact hl
  · exact h j (by omega) h2
theorem key_le (es : List Ent) (k : Nat) (h : k < es.length) : 9 + es[k].key.length ≤ sizeOf es := by
  have h1 := size_take es k h
  have h2 := size_le es (k + 1)
  omega
theorem encs_take (es : List Ent) (k : Nat) (h : k < es.length) : encs (es.take (k + 1)) = encs (es.take k) ++ encE es[k] := by
  unfold encs
  rw [List.take_succ_eq_append_getElem h, List.flatMap_append]
  simp
theorem encs_le (es : List Ent) (k : Nat) : 16 + (encs (es.take k)).length ≤ sizeOf es := by
  have := size_le es k
  rw [sizeOf_encs] at this
  exact this
theorem all_take (es : List Ent) (k : Nat) (h : k < es.length) (ha : (keys (es.take k)).all right = true) (hk : right es[k].key = true) : (keys (es.take (k + 1))).all right = true := by
  rw [List.take_succ_eq_append_getElem h]
  unfold keys at ha ⊢
  rw [List.map_append, List.all_append, ha]
  simp [hk]
theorem all_no (es : List Ent) (k : Nat) (h : k < es.length) (hk : right es[k].key = false) : (keys es).all right = false := by
  rw [List.all_eq_false]
  exact ⟨es[k].key, List.mem_map.2 ⟨es[k], List.getElem_mem h, rfl⟩, by simp [hk]⟩
theorem enc_12 {ck : Nat} {es : List Ent} (h : (keys es).all right = false) : encode ⟨ck, es⟩ = ([], 12) := by
  unfold encode
  rw [if_pos h]
theorem enc_42 {ck : Nat} {es : List Ent} (h : (keys es).all right = true) (h2 : rises (keys es) = false) : encode ⟨ck, es⟩ = ([], 42) := by
  unfold encode
  rw [if_neg (by simp [h]), if_pos h2]
theorem enc_0 {ck : Nat} {es : List Ent} (h : (keys es).all right = true) (h2 : rises (keys es) = true) : encode ⟨ck, es⟩ = (magic ++ be ck 8 ++ be es.length 4 ++ encs es, 0) := by
  unfold encode
  rw [if_neg (by simp [h]), if_neg (by simp [h2])]
  simp [bodyOf]
theorem quiet_two {P : Program} {f : FuncId} {args : Array Value} {W : World} {a b : Nat} {v : Value} (h : Calls P f args (W.drewN (a + b)) fun e w' => e = .returned v ∧ ∃ m, w' = (W.drewN (a + b)).drewN m) :
    Calls P f args (W.drewN (a + b)) fun e w' => e = .returned v ∧ ∃ m, w' = W.drewN (a + m) :=
  h.mono fun e w' ⟨h1, m, h2⟩ => ⟨h1, b + m, by rw [h2, World.drewN_drewN, Nat.add_assoc]⟩
def EncPost (s : Snap) (k : IntKind) (w : World) (e : Ending) (w' : World) : Prop := ∃ (A : Option Addr) (c : Nat), e = .returned (.tuple #[.slice A (encode s).1.length c, .int k ((encode s).2 : Nat)]) ∧ (encode s).1.length ≤ c ∧ Row w' w'.heap.size A (u8s (encode s).1) ∧ Below w.heap.size w w'
/-- the reference's box, the entries -/
structure RBox (w : World) (ck : Nat) (es : List Ent) (A : Option Addr) (c : Nat) (W : World) : Prop where
  box : Blk W w.heap.size 25 #[.int .u64 (ck : Nat), .slice A es.length c]
  row : Row W w.heap.size A (ecells es)
  bel : Below w.heap.size w W
section
variable {w W W' : World} {ck : Nat} {es : List Ent} {A : Option Addr} {c : Nat}
theorem RBox.more (h : RBox w ck es A c W) : w.heap.size + 1 ≤ W.heap.size := h.box.lt
theorem RBox.kept (h : RBox w ck es A c W) (hb : Below (w.heap.size + 1) W W') : RBox w ck es A c W' := ⟨h.box.below hb (by omega), h.row.below (hb.mono (by omega)), h.bel.trans (hb.mono (by omega))⟩
theorem RBox.below (h : RBox w ck es A c W) (hb : Below W.heap.size W W') : RBox w ck es A c W' := h.kept (hb.mono h.more)
end
def EOwn (w : World) (xs : List UInt8) (v : Value) (W : World) : Prop := W.ownsRow (w.heap.size + 1) 5 1 v xs.length (u8s xs)

set_option maxHeartbeats 4000000 in
set_option maxRecDepth 100000 in
theorem refenc_any (s : Snap) (A : Option Addr) (c : Nat) (hsz : sizeOf s.es ≤ 100000) (hck : s.clock < 18446744073709551616) (htl : ∀ e ∈ s.es, e.till < 18446744073709551616) (w : World) (hr : Row w w.heap.size A (ecells s.es)) :
    Calls Tryd.prog 12 #[.agg #[.int .u64 (s.clock : Nat), .slice A s.es.length c]] w (EncPost s .i64 w) := by
  obtain ⟨ck, es⟩ := s
  simp only at hsz hck htl hr ⊢
  obtain ⟨i0, hi0, hz0, hz1, hz2⟩ := info_parts u8_info
  have hn := es_le es
  obtain ⟨W, hW⟩ : ∃ W, W = w.alloc (.cells #[.int .u64 (ck : Nat), .slice A es.length c] 25) := ⟨_, rfl⟩
  have hbx : RBox w ck es A c W := by
    rw [hW]
    exact ⟨Blk.new w _ _, hr.below ((Below.refl _ _).alloc (Nat.le_refl _) _), (Below.refl _ _).alloc (Nat.le_refl _) _⟩
  have HW := Lib.hid hW
  have c1 : W.cell? ⟨w.heap.size, 1, none⟩ = some (.slice A es.length c) := hbx.box.cell 1
  have c0 : W.cell? ⟨w.heap.size, 0, none⟩ = some (.int .u64 (ck : Nat)) := hbx.box.cell 0
  have HBX := Lib.hid hbx
  have HTL := Lib.hid htl
  clear hW hr hbx htl
  go_enter Tryd.func12, Tryd.ntmps12
  go_wp2_with fail
  rw [← HW.out]
  go_loop [4] (fun i => ∃ k : Nat, k ≤ es.length ∧ i = .int .i64 k ∧ (keys (es.take k)).all right = true) (fun i => es.length - (intOf i).toNat)
  case atStart => exact ⟨0, by omega, rfl, rfl⟩
  case round =>
    obtain ⟨k, hk, rfl, hal⟩ := hrel
    have HA := Lib.hid hal
    clear hal
    by_cases hlt : k < es.length
    · obtain ⟨b, off, rfl, hb, hc0, hc1⟩ := ent_at HBX.out.row hlt
      have hkl := key_le es k hlt
      have HG := Lib.hid (refright_any ⟨es[k].key.toArray⟩ (by simp [ByteArray.size]; omega) W)
      change Hid (Calls Tryd.prog 23 #[.string ⟨es[k].key.toArray⟩] W fun e w' => e = .returned (.bool (right es[k].key)) ∧ W = w') at HG
      rcases Bool.eq_false_or_eq_true (right es[k].key) with hrt | hrt
      · have HN := Lib.hid (all_take es k hlt HA.out hrt)
        rw [hrt] at HG
        clear hrt HA
        generalize es[k].key = key at *
        generalize es[k].till = tl at *
        go_wp2_with fail
        refine HG.out.mono ?_
        rintro e w2 ⟨rfl, rfl⟩
        go_wp2_with fail
        go_round
        case rel => exact ⟨k + 1, by omega, by go_num, HN.out⟩
        case measure => simp [intOf]; omega
      · have HN := Lib.hid (enc_12 (ck := ck) (all_no es k hlt hrt))
        rw [hrt] at HG
        clear hrt HA
        generalize es[k].key = key at *
        generalize es[k].till = tl at *
        go_wp2_with fail
        refine HG.out.mono ?_
        rintro e w2 ⟨rfl, rfl⟩
        go_wp2_with fail
        go_ret2
        refine ⟨none, 0, ?_, by rw [HN.out]; exact Nat.le_refl _, by rw [HN.out]; exact Row.nil_, HBX.out.bel⟩
        rw [HN.out]
        rfl
    · obtain rfl : k = es.length := by omega
      have HAL := Lib.hid (show (keys es).all right = true by have := HA.out; rwa [List.take_length] at this)
      clear HA hk hlt
      go_wp2_with fail
      have hkn : Hid ((keys es).length = es.length) := Lib.hid (by simp [keys])
      have hka : Hid (∀ k (h : k < es.length) (h2 : k < (keys es).length), (keys es)[k] = es[k].key) := Lib.hid (fun k h h2 => by simp [keys])
      go_loopw [5] (fun i wr => ∃ k : Nat, 1 ≤ k ∧ (k ≤ es.length ∨ k = 1) ∧ i = .int .i64 k ∧ Ris (keys es) k ∧ ∃ n, wr = W.drewN n) (fun i _ => es.length - (intOf i).toNat)
      case atStart => exact ⟨1, by omega, .inr rfl, rfl, fun j hj => by omega, 0, rfl⟩
      case round =>
        obtain ⟨k, h1, hk, rfl, hris, nd, rfl⟩ := hrel
        have HRI := Lib.hid hris
        clear hris
        obtain ⟨k, rfl⟩ : ∃ k', k = k' + 1 := ⟨k - 1, by omega⟩
        rw [show (((k + 1 : Nat)) : Int) = (k : Int) + 1 from by omega]
        by_cases hlt : k + 1 < es.length
        · obtain ⟨b, off, rfl, hb, hc0, hc1⟩ := ent_at HBX.out.row (show k < es.length by omega)
          obtain ⟨b', off', he, hb2, hd0, hd1⟩ := ent_at HBX.out.row hlt
          injection he with he
          injection he with he1 he2
          subst he1 he2
          have hwr : IntKind.i64.wrap (k : Int) = k := wrap_small _ (by omega) (by omega)
          have hik2 : (k : Int) < es.length := by omega
          have hik3 : (k : Int) + 1 < es.length := by omega
          have hik4 : (0 : Int) ≤ (k : Int) + 1 := by omega
          have hkl := key_le es k (by omega)
          have hkl2 := key_le es (k + 1) hlt
          have hk1 := hka.out k (by omega) (by rw [hkn.out]; omega)
          have hk2 := hka.out (k + 1) hlt (by rw [hkn.out]; omega)
          have HG := Lib.hid (fun W => refless_q ⟨es[k].key.toArray⟩ ⟨es[k + 1].key.toArray⟩ (by simp [ByteArray.size]; omega) (by simp [ByteArray.size]; omega) W)
          change Hid (∀ W, Calls Tryd.prog 22 #[.string ⟨es[k].key.toArray⟩, .string ⟨es[k + 1].key.toArray⟩] W fun e w' => e = .returned (.bool (less es[k].key es[k + 1].key)) ∧ ∃ n, w' = W.drewN n) at HG
          rcases Bool.eq_false_or_eq_true (less es[k].key es[k + 1].key) with hls | hls
          · have HN := Lib.hid (HRI.out.step (by rw [hkn.out]; exact hlt) (by rw [hk1, hk2]; exact hls))
            rw [hls] at HG
            clear hls hk1 hk2
            generalize es[k].key = key at *
            generalize es[k].till = tl at *
            generalize es[k + 1].key = key' at *
            generalize es[k + 1].till = tl' at *
            go_wp2_with fail
            go_quiet ((refine quiet_two (HG.out _)))
            go_wp2_with fail
            go_roundw
            case rel => exact ⟨k + 1 + 1, by omega, by omega, by go_num, HN.out, ⟨_, rfl⟩⟩
            case measure => simp [intOf]; omega
          · have HN := Lib.hid (enc_42 (ck := ck) HAL.out (rises_no (j := k) (by rw [hkn.out]; exact hlt) (by rw [hk1, hk2]; exact hls)))
            rw [hls] at HG
            clear hls hk1 hk2
            generalize es[k].key = key at *
            generalize es[k].till = tl at *
            generalize es[k + 1].key = key' at *
            generalize es[k + 1].till = tl' at *
            go_wp2_with fail
            go_quiet ((refine quiet_two (HG.out _)))
            go_wp2_with fail
            go_ret2
            refine ⟨none, 0, ?_, by rw [HN.out]; exact Nat.le_refl _, by rw [HN.out]; exact Row.nil_, below_drewN (below_drewN HBX.out.bel _) _⟩
            rw [HN.out]
            rfl
        · have hrs : rises (keys es) = true := (rises_iff _).2 fun j hj hl => HRI.out j (by rw [hkn.out] at hj; omega) hl
          have HN := Lib.hid (enc_0 (ck := ck) HAL.out hrs)
          have HKL : Hid (∀ k (h : k < es.length), es[k].key.length ≤ 128) := Lib.hid fun k h => (right_len (by
            have := HAL.out
            rw [List.all_eq_true] at this
            exact this _ (List.mem_map.2 ⟨es[k], List.getElem_mem h, rfl⟩))).2
          clear hrs HRI HAL hkn hka hk
          have hlt' : (es.length : Int) ≤ (k : Int) + 1 := by omega
          have HB2 := Lib.hid (HBX.out.kept (below_drewN (Below.refl _ _) nd))
          obtain ⟨W2, hW2⟩ : ∃ W2, W2 = W.drewN nd := ⟨_, rfl⟩
          rw [← hW2] at HB2 ⊢
          have hlt1 := HB2.out.box.lt
          have c1' : W2.cell? ⟨w.heap.size, 1, none⟩ = some (.slice A es.length c) := HB2.out.box.cell 1
          have c0' : W2.cell? ⟨w.heap.size, 0, none⟩ = some (.int .u64 (ck : Nat)) := HB2.out.box.cell 0
          clear hW2 HBX HW c1 c0
          have hnu := Lib.hid (show (W2.alloc (.cells #[.int .u8 84, .int .u8 76, .int .u8 82, .int .u8 49] 5)).ownsRow (w.heap.size + 1) 5 1 (.slice (some ⟨W2.heap.size, 0, none⟩) 4 4) magic.length (u8s magic) from World.ownsRow_lit W2 #[.int .u8 84, .int .u8 76, .int .u8 82, .int .u8 49] 4 (by omega) (by decide) rfl)
          have HB2a := Lib.hid (HB2.out.kept ((Below.refl _ _).alloc hlt1 (.cells #[.int .u8 84, .int .u8 76, .int .u8 82, .int .u8 49] 5)))
          go_wp2_with fail
          refine (refput_any ck hck 8 (.inr rfl) (w.heap.size + 1) _ magic (by decide) _ (by simp; omega) hnu.out).mono ?_
          rintro e w3 ⟨v3, rfl, hown, hbl⟩
          have hown' : EOwn w (magic ++ be ck 8) v3 w3 := by
            unfold EOwn
            rw [show (magic ++ be ck 8).length = magic.length + 8 from by simp [be_len]]
            exact hown
          obtain ⟨A3, c3, rfl, -, -⟩ := own_form hown
          have HB3 := Lib.hid (HB2a.out.kept hbl)
          have HO3 := Lib.hid hown'
          clear hown hown' hbl hnu HB2a HB2 c0' c1' hlt1
          have c1 : w3.cell? ⟨w.heap.size, 1, none⟩ = some (.slice A es.length c) := HB3.out.box.cell 1
          have hlt1 := HB3.out.box.lt
          go_wp2_with fail
          refine (refput_any es.length (by omega) 4 (.inl rfl) (w.heap.size + 1) _ (magic ++ be ck 8) (by simp [be_len, magic]) _ hlt1 HO3.out).mono ?_
          rintro e w4 ⟨v4, rfl, hown, hbl⟩
          have hown' : EOwn w (magic ++ be ck 8 ++ be es.length 4 ++ encs (es.take 0)) v4 w4 := by
            rw [List.take_zero, show encs [] = [] from rfl, List.append_nil]
            unfold EOwn
            rw [show (magic ++ be ck 8 ++ be es.length 4).length = (magic ++ be ck 8).length + 4 from by simp [be_len]]
            exact hown
          have HB4 := Lib.hid (HB3.out.kept hbl)
          have HO4 := Lib.hid hown'
          obtain ⟨pre, hpre⟩ : ∃ pre, pre = magic ++ be ck 8 ++ be es.length 4 := ⟨_, rfl⟩
          have hpl : pre.length = 16 := by rw [hpre]; simp [be_len, magic]
          rw [← hpre] at HN HO4
          obtain ⟨A4, c4, rfl, -, -⟩ := own_form hown
          clear hown hown' hbl c1 hlt1 HO3 HB3 hpre
          go_wp2_with fail
          go_loopw [6, 7] (fun v i wr => ∃ k : Nat, k ≤ es.length ∧ i = .int .i64 k ∧ EOwn w (pre ++ encs (es.take k)) v wr ∧ RBox w ck es A c wr) (fun _ i _ => es.length - (intOf i).toNat)
          case atStart => exact ⟨0, by omega, rfl, HO4.out, HB4.out⟩
          case round =>
            obtain ⟨k, hk, rfl, hown, hbx⟩ := hrel
            obtain ⟨Av, cv, rfl, hcv, -⟩ := own_form hown
            have HO := Lib.hid hown
            have HBX := Lib.hid hbx
            clear HO4 HB4 hown hbx
            have c1 : wr.cell? ⟨w.heap.size, 1, none⟩ = some (.slice A es.length c) := HBX.out.box.cell 1
            have hlt1 := HBX.out.box.lt
            have hX := encs_le es k
            by_cases hlt : k < es.length
            · obtain ⟨b, off, rfl, hb, hc0, hc1⟩ := ent_at HBX.out.row hlt
              have hkl := HKL.out k hlt
              have htk := HTL.out es[k] (List.getElem_mem hlt)
              have HT := Lib.hid (encs_take es k hlt)
              have hX2 := encs_le es (k + 1)
              rw [HT.out, List.length_append, encE_len] at hX2
              have HEE : Hid (encE es[k] = UInt8.ofNat es[k].key.length :: (es[k].key ++ be es[k].till 8)) := Lib.hid rfl
              obtain ⟨key, hkey⟩ : ∃ key, key = es[k].key := ⟨_, rfl⟩
              obtain ⟨tl, htl⟩ : ∃ tl, tl = es[k].till := ⟨_, rfl⟩
              rw [← hkey, ← htl] at HEE
              rw [← hkey] at hc0 hkl hX2
              rw [← htl] at hc1 htk
              have HK1 := Lib.hid hkey
              have HK2 := Lib.hid htl
              clear hkey htl
              obtain ⟨xs, hxs⟩ : ∃ xs, xs = pre ++ encs (es.take k) := ⟨_, rfl⟩
              have hxl : xs.length ≤ 100000 - 9 - key.length := by rw [hxs, List.length_append]; omega
              have hxn : Hid (pre ++ encs (es.take (k + 1)) = xs ++ [UInt8.ofNat key.length] ++ key ++ be tl 8) := Lib.hid (by rw [HT.out, HEE.out, hxs]; simp)
              rw [← hxs] at HO ⊢
              clear hX hX2 HT HEE hxs
              obtain ⟨kb, hkb⟩ : ∃ kb : ByteArray, kb = ⟨key.toArray⟩ := ⟨_, rfl⟩
              have hks : kb.size = key.length := by rw [hkb]; simp [ByteArray.size]
              have hkd : Hid (kb.data.toList = key) := Lib.hid (by rw [hkb])
              rw [← hkb] at hc0
              clear hkb
              have HOK := Lib.hid (HO.out.alloc (.cells #[.int .u8 (key.length : Nat)] 5))
              have HBA := Lib.hid (HBX.out.kept ((Below.refl _ _).alloc hlt1 (.cells #[.int .u8 (key.length : Nat)] 5)))
              go_wp2_with (at_builtin; refine wpList_append_row _ rfl _ _ 26 rfl (w.heap.size + 1) 5 i0 _ 1 rfl hi0 hz0 hz1 hz2 rfl _ xs.length _ rfl HOK.out _ (some ⟨wr.heap.size, 0, none⟩) 1 1 [.int .u8 (key.length : Nat)] rfl rfl (Row.new wr 5 #[.int .u8 (key.length : Nat)]) (by simp [Value.oneCell']) (by unfold maxLen; omega) (by omega) HBA.out.more ?_; intro v1 w5 hown5 hg5 hat5)
              have hown6 : EOwn w (xs ++ [UInt8.ofNat key.length]) v1 w5 := by
                unfold EOwn
                have e : u8s (xs ++ [UInt8.ofNat key.length]) = u8s xs ++ [.int .u8 (key.length : Nat)] := by
                  have : (UInt8.ofNat key.length).toNat = key.length := by simp; omega
                  simp [u8s, this]
                rw [e, List.length_append, List.length_singleton]
                exact hown5
              have hbl5 := own_below HOK.out HBA.out.more hg5
              have HB5 := Lib.hid (HBA.out.kept hbl5)
              have HO5 := Lib.hid hown6
              clear hown5 hg5 hat5 hbl5 hown6 HOK HBA HO HBX c1 hc0 hc1
              obtain ⟨A5, c5, rfl, -, -⟩ := own_form HO5.out
              obtain ⟨ys, hys⟩ : ∃ ys, ys = xs ++ [UInt8.ofNat key.length] := ⟨_, rfl⟩
              have hyl : ys.length = xs.length + 1 := by rw [hys]; simp
              rw [← hys] at HO5 hxn ⊢
              clear hys
              go_wp2_with fail
              go_loopw [6, 8] (fun v i wr => ∃ q : Nat, q ≤ key.length ∧ i = .int .i64 q ∧ EOwn w (ys ++ key.take q) v wr ∧ RBox w ck es (some ⟨b, off, none⟩) c wr) (fun _ i _ => key.length - (intOf i).toNat)
              case atStart => exact ⟨0, by omega, rfl, by rw [List.take_zero, List.append_nil]; exact HO5.out, HB5.out⟩
              case round =>
                obtain ⟨q, hq, rfl, hown, hbx⟩ := hrel
                obtain ⟨Aw, cw, rfl, hcw, -⟩ := own_form hown
                have HO := Lib.hid hown
                have HBX := Lib.hid hbx
                have c1 : wr.cell? ⟨w.heap.size, 1, none⟩ = some (.slice (some ⟨b, off, none⟩) es.length c) := hbx.box.cell 1
                have hlt2 := hbx.box.lt
                obtain ⟨b', off', he, -, hc0, hc1⟩ := ent_at hbx.row hlt
                injection he with he
                injection he with he1 he2
                subst he1 he2
                rw [← HK1.out] at hc0
                rw [← HK2.out] at hc1
                clear HO5 HB5 hown hbx hcw
                by_cases hql : q < key.length
                · obtain ⟨kb, hkb⟩ : ∃ kb : ByteArray, kb = ⟨key.toArray⟩ := ⟨_, rfl⟩
                  have hks : kb.size = key.length := by rw [hkb]; simp [ByteArray.size]
                  have hqs : q < kb.size := by omega
                  have hqk : kb[q] = key[q] := by subst hkb; rfl
                  rw [← hkb] at hc0
                  have hval : Hid ((kb[q].toNat : Nat) = key[q].toNat) := Lib.hid (by rw [hqk])
                  clear hkb hqk
                  have HT2 := Lib.hid (show key.take (q + 1) = key.take q ++ [key[q]] from List.take_succ_eq_append_getElem hql)
                  obtain ⟨zs, hzs⟩ : ∃ zs, zs = ys ++ key.take q := ⟨_, rfl⟩
                  have hzl : zs.length ≤ xs.length + 1 + q := by rw [hzs, List.length_append, List.length_take]; omega
                  have hzn : Hid (ys ++ key.take (q + 1) = zs ++ [key[q]]) := Lib.hid (by rw [HT2.out, hzs]; simp)
                  rw [← hzs] at HO ⊢
                  clear HT2 hzs
                  have HOK := Lib.hid (HO.out.alloc (.cells #[.int .u8 (kb[q].toNat : Nat)] 5))
                  have HBA := Lib.hid (HBX.out.kept ((Below.refl _ _).alloc hlt2 (.cells #[.int .u8 (kb[q].toNat : Nat)] 5)))
                  go_wp2_with (at_builtin; refine wpList_append_row _ rfl _ _ 26 rfl (w.heap.size + 1) 5 i0 _ 1 rfl hi0 hz0 hz1 hz2 rfl _ zs.length _ rfl HOK.out _ (some ⟨wr.heap.size, 0, none⟩) 1 1 [.int .u8 (kb[q].toNat : Nat)] rfl rfl (Row.new wr 5 #[.int .u8 (kb[q].toNat : Nat)]) (by simp [Value.oneCell']) (by unfold maxLen; omega) (by omega) HBA.out.more ?_; intro v1 w5 hown5 hg5 hat5)
                  have hown6 : EOwn w (ys ++ key.take (q + 1)) v1 w5 := by
                    rw [hzn.out]
                    unfold EOwn
                    have e : u8s (zs ++ [key[q]]) = u8s zs ++ [.int .u8 (kb[q].toNat : Nat)] := by
                      rw [hval.out]
                      simp [u8s]
                    rw [e, List.length_append, List.length_singleton]
                    exact hown5
                  have hbl5 := own_below HOK.out HBA.out.more hg5
                  have HB6 := Lib.hid (HBA.out.kept hbl5)
                  have HO6 := Lib.hid hown6
                  clear hown5 hg5 hat5 hbl5 hown6 HOK HBA HO HBX
                  go_wp2_with fail
                  go_roundw
                  case rel => exact ⟨q + 1, by omega, by go_num, HO6.out, HB6.out⟩
                  case measure => simp [intOf]; omega
                · obtain rfl : q = key.length := by omega
                  rw [List.take_length] at HO ⊢
                  have hyk : (ys ++ key).length ≤ 1000000 := by rw [List.length_append]; omega
                  obtain ⟨zs, hzs⟩ : ∃ zs, zs = ys ++ key := ⟨_, rfl⟩
                  rw [← hzs] at HO hyk hxn ⊢
                  clear hql hzs
                  go_wp2_with fail
                  refine (refput_any tl htk 8 (.inr rfl) (w.heap.size + 1) _ zs hyk _ hlt2 HO.out).mono ?_
                  rintro e w7 ⟨v7, rfl, hown, hbl⟩
                  have hown7 : EOwn w (pre ++ encs (es.take (k + 1))) v7 w7 := by
                    rw [hxn.out]
                    unfold EOwn
                    rw [show (zs ++ be tl 8).length = zs.length + 8 from by simp [be_len]]
                    exact hown
                  have HB7 := Lib.hid (HBX.out.kept hbl)
                  have HO7 := Lib.hid hown7
                  clear hown hbl hown7 HO HBX
                  go_wp2_with fail
                  go_roundw
                  case rel => exact ⟨k + 1, by omega, by go_num, HO7.out, HB7.out⟩
                  case measure => simp [intOf]; omega
            · obtain rfl : k = es.length := by omega
              rw [List.take_length] at HO hcv ⊢
              have hrow := Row.of_own HO.out
              have HRW := Lib.hid hrow
              clear hrow hX hlt
              go_wp2_with fail
              go_ret2
              unfold EncPost
              rw [HN.out]
              exact ⟨Av, cv, rfl, hcv, HRW.out, HBX.out.bel⟩
end Go.Proofs.YthlaigpopplafaaDoor.pack
