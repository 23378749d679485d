/- HeadBody, walked. -/
import Derived.Test.YtcgcfgomakaacaaHeadLaw
import Derived.Test.YtcgcfgomakaacaaAppend
import Derived.Test.YtcgcfgomakaacaaBytes
import Derived.Deep.RegionHeld
import Derived.Laws.OwnMore
import Derived.IntWalk
namespace Go.Proofs.Ytcgcfgomakaacaa.head
open Go.RowKit
open Go.Proofs.Ytcgcfgomakaacaa.aid

theorem render_bare {x0 a1 a2 a3 a4 a5 a6 a8 : Int} {a7 : Bool} (la : List UInt8) (h : x0 ≠ 8) : render ⟨x0, a1, a2, a3, a4, a5, a6, a7, a8, []⟩ = render ⟨x0, a1, a2, a3, a4, a5, a6, a7, a8, la⟩ := by
  simp [render, fields, tail, h]
theorem render_eight {a1 a2 a3 a4 a5 a6 a8 : Int} {a7 : Bool} (la : List UInt8) : ∃ p, p ≠ [] ∧ render ⟨8, a1, a2, a3, a4, a5, a6, a7, a8, la⟩ = p ++ la := by
  refine ⟨http ++ (st8 ++ (crlf ++ (line nLength la.length ++ crlf))), by simp [http], ?_⟩
  simp [render, fields, tail, status, st8, http]
theorem own_apart_set {w : World} {base : Nat} {e : TypeId} {size n : Nat} {v : Value} {xs : List Value} (h : w.ownsRow base e size v n xs) {g : Nat} (hg : g < base) (i : Nat) (u : Value) : (w.setCell ⟨g, i, none⟩ u).ownsRow base e size v n xs :=
  h.kept (grown_set w g i u) (.inr fun e => by have := (own_lt h e).1; omega)

set_option maxHeartbeats 40000000 in
set_option maxRecDepth 100000 in
theorem headBody_some (w : World) (a0 a1 a2 a3 a4 a5 a6 a8 x0 m : Int) (a7 : Bool) (la : List UInt8) (A : Option Addr) (c : Nat)
    (NX : Hid (∀ W, Calls Try.prog 11 #[.agg #[.int .u8 a0, .int .u16 a1, .int .u64 a2, .int .u64 a3, .int .u64 a4, .int .u64 a5, .int .u64 a6, .bool a7, .int .i64 a8, .slice A la.length c], .int .u8 m] W fun e w' => e = .returned (.agg #[.int .u8 x0, .int .u16 a1, .int .u64 a2, .int .u64 a3, .int .u64 a4, .int .u64 a5, .int .u64 a6, .bool a7, .int .i64 a8, .slice A la.length c]) ∧ Below W.heap.size W w'))
    (hF : Fine ⟨x0, a1, a2, a3, a4, a5, a6, a7, a8, la⟩) (hra : Row w w.heap.size A (u8s la)) (hs1 : (la.length : Int) ≤ 300) :
    Calls Try.prog 6 #[.agg #[.int .u8 a0, .int .u16 a1, .int .u64 a2, .int .u64 a3, .int .u64 a4, .int .u64 a5, .int .u64 a6, .bool a7, .int .i64 a8, .slice A la.length c], .int .u8 m] w fun e w' => e = .returned (.bool true) ∧ Below w.heap.size w w' := by
  have RX := Lib.hid (fun A' c' W h => render_any ⟨x0, a1, a2, a3, a4, a5, a6, a7, a8, la⟩ hF A' c' W h)
  have RN := Lib.hid (fun W (h8 : x0 ≠ 8) => (render_bare (a1 := a1) (a2 := a2) (a3 := a3) (a4 := a4) (a5 := a5) (a6 := a6) (a7 := a7) (a8 := a8) la h8 ▸ render_any ⟨x0, a1, a2, a3, a4, a5, a6, a7, a8, []⟩ (by have h := hF; unfold Fine at h ⊢; simp only [List.length_nil] at h ⊢; omega) none 0 W Row.nil_ : Calls Try.prog 15 #[.agg #[.int .u8 x0, .int .u16 a1, .int .u64 a2, .int .u64 a3, .int .u64 a4, .int .u64 a5, .int .u64 a6, .bool a7, .int .i64 a8, .slice none 0 0]] W (Bytes (render ⟨x0, a1, a2, a3, a4, a5, a6, a7, a8, la⟩) W)))
  have R8 := Lib.hid (fun (h8 : x0 = 8) => (h8 ▸ render_eight (a1 := a1) (a2 := a2) (a3 := a3) (a4 := a4) (a5 := a5) (a6 := a6) (a7 := a7) (a8 := a8) la : ∃ p, p ≠ [] ∧ render ⟨x0, a1, a2, a3, a4, a5, a6, a7, a8, la⟩ = p ++ la))
  have CL := Lib.hid (fun A' c' W h => clean_any ⟨x0, a1, a2, a3, a4, a5, a6, a7, a8, la⟩ hF.2.2.2.2.2.2.2.2 A' c' W h)
  unfold Bytes at RX RN
  obtain ⟨l, hl⟩ : ∃ l, l = render ⟨x0, a1, a2, a3, a4, a5, a6, a7, a8, la⟩ := ⟨_, rfl⟩
  obtain ⟨⟨d0, d1, d2, d3, d4, d5, d6, d7, d8, lb⟩, hcl⟩ : ∃ b, b = clean ⟨x0, a1, a2, a3, a4, a5, a6, a7, a8, la⟩ := ⟨_, rfl⟩
  have hll : l.length ≤ 600 := by
    have h := render_len ⟨x0, a1, a2, a3, a4, a5, a6, a7, a8, la⟩
    rw [← hl] at h
    have h2 : l.length ≤ 300 + la.length := h
    omega
  rw [← hl] at RX RN R8
  rw [← hcl] at CL
  have hlb : lb.length ≤ 300 := by
    have h : (clean ⟨x0, a1, a2, a3, a4, a5, a6, a7, a8, la⟩).body.length ≤ la.length := by
      unfold clean zero
      repeat' split
      all_goals simp
    rw [← hcl] at h
    exact Nat.le_trans h (by omega)
  have HBA := Lib.hid ((Below.refl w.heap.size w).alloc (Nat.le_refl _) (.cells #[.int .u8 a0, .int .u16 a1, .int .u64 a2, .int .u64 a3, .int .u64 a4, .int .u64 a5, .int .u64 a6, .bool a7, .int .i64 a8, .slice A la.length c] 27))
  have BA := Lib.hid (Blk.new w 27 #[.int .u8 a0, .int .u16 a1, .int .u64 a2, .int .u64 a3, .int .u64 a4, .int .u64 a5, .int .u64 a6, .bool a7, .int .i64 a8, .slice A la.length c])
  have HRA := Lib.hid hra
  obtain ⟨i0, hi0, hz0, hz1, hz2⟩ := info_parts byte_info
  clear hl hcl hF hra
  go_enter Try.func6, Try.ntmps6
  go_wp2_with fail
  refine (NX.out _).mono ?_
  rintro e w1 ⟨rfl, hb1⟩
  have BA1 := Lib.hid (Blk.below BA.out hb1 BA.out.lt)
  have G1 := Lib.hid (HBA.out.trans (hb1.mono HBA.out.size))
  have e9 : w1.cell? ⟨w.heap.size, 9, none⟩ = some (.slice A la.length c) := BA1.out.cell 9
  have hz1s := BA1.out.lt
  obtain ⟨W2, hW2⟩ : ∃ W2, W2 = w1.alloc (.cells #[.int .u8 x0, .int .u16 a1, .int .u64 a2, .int .u64 a3, .int .u64 a4, .int .u64 a5, .int .u64 a6, .bool a7, .int .i64 a8, .slice none 0 0] 27) := ⟨_, rfl⟩
  have hb2 : Below w1.heap.size w1 W2 := by rw [hW2]; exact (Below.refl _ _).alloc (Nat.le_refl _) _
  have BX2 := Lib.hid (show Blk W2 w1.heap.size 27 #[.int .u8 x0, .int .u16 a1, .int .u64 a2, .int .u64 a3, .int .u64 a4, .int .u64 a5, .int .u64 a6, .bool a7, .int .i64 a8, .slice none 0 0] from by rw [hW2]; exact Blk.new w1 _ _)
  have BA2 := Lib.hid (Blk.below BA1.out hb2 BA1.out.lt)
  have G2 := Lib.hid (G1.out.trans (hb2.mono G1.out.size))
  have HR2 := Lib.hid ((HRA.out.below G2.out).more G2.out.size)
  have HW2 := Lib.hid hW2
  clear hb1 hb2 hW2 BA1 G1 BA HBA
  go_wp2_with (at_builtin; (rw [← HW2.out]); go_must (refine wpList_append_row _ rfl (.tmp 20) (.tmp 22) 25 rfl W2.heap.size 5 i0 _ 1 rfl hi0 hz0 hz1 hz2 rfl (.slice none 0 0) 0 [] rfl (World.ownsRow_nil _ _ _ _) _ A la.length c (u8s la) rfl (by rw [List.length_map]) HR2.out (by intro u hu; obtain ⟨b, _, rfl⟩ := List.mem_map.1 hu; rfl) (by unfold maxLen; omega) (by omega) (Nat.le_refl _) ?_; intro v6 w6 hown6 hg6 hat6; rw [Nat.zero_add, List.nil_append] at hown6; have hb6 := grown_below (Below.refl W2.heap.size W2) (World.ownsRow_nil W2 W2.heap.size 5 1) (Nat.le_refl _) (Nat.le_refl _) hg6; obtain ⟨A6, c6, rfl, hc6, -⟩ := own_form hown6; have BX6 := Lib.hid (Blk.below BX2.out hb6 BX2.out.lt); have fx6 := BX6.out.frozen 9; have hx6 := BX6.out.lt; obtain ⟨q0, q1, q2, q3, q4, q5, q6, q7, q8, q9⟩ := Blk.ten BX6.out; have HO6 := Lib.hid hown6; have HB6 := Lib.hid hb6; clear hown6 hg6 hat6 hb6))
  obtain ⟨W6, hW6⟩ : ∃ W6, W6 = w6.setCell ⟨w1.heap.size, 9, none⟩ (.slice A6 la.length c6) := ⟨_, rfl⟩
  have hlt2 : w1.heap.size < W2.heap.size := BX2.out.lt
  have BX7 := Lib.hid (show Blk W6 w1.heap.size 27 #[.int .u8 x0, .int .u16 a1, .int .u64 a2, .int .u64 a3, .int .u64 a4, .int .u64 a5, .int .u64 a6, .bool a7, .int .i64 a8, .slice A6 la.length c6] from by rw [hW6]; exact BX6.out.set_ 9 (.slice A6 la.length c6))
  have BA7 := Lib.hid (show Blk W6 w.heap.size 27 #[.int .u8 a0, .int .u16 a1, .int .u64 a2, .int .u64 a3, .int .u64 a4, .int .u64 a5, .int .u64 a6, .bool a7, .int .i64 a8, .slice A la.length c] from by rw [hW6]; exact (Blk.below BA2.out HB6.out BA2.out.lt).far (by simp; omega) _)
  have HR7 := Lib.hid (show Row W6 W6.heap.size A6 (u8s la) from by rw [hW6]; exact Row.of_own (own_apart_set HO6.out hlt2 9 _))
  have G7 := Lib.hid (show Below w.heap.size w W6 from by rw [hW6]; exact (G2.out.trans (HB6.out.mono G2.out.size)).setCell (by simp; omega) _)
  have HW6 := Lib.hid hW6
  rw [← hW6]
  generalize w1.heap.size = gx at *
  clear hW6 q0 q1 q2 q3 q4 q5 q6 q7 q8 q9 fx6 hx6 BX6 HB6 HO6 HR2 BX2 BA2 G2 HW2 e9 hlt2 hz1s
  refine (RX.out A6 c6 W6 HR7.out).mono ?_
  rintro e w8 ⟨Ar, cr, rfl, hcr, hr, hb⟩
  have BX8 := Lib.hid (Blk.below BX7.out hb BX7.out.lt)
  have BA8 := Lib.hid (Blk.below BA7.out hb BA7.out.lt)
  have HR8 := Lib.hid ((HR7.out.below hb).more hb.size)
  have HB8 := Lib.hid hr
  have G8 := Lib.hid (G7.out.trans (hb.mono G7.out.size))
  obtain ⟨q0, q1, q2, q3, q4, q5, q6, q7, q8, q9⟩ := Blk.ten BX8.out
  clear hr hb BX7 BA7 HR7 G7 HW6
  go_wp2_with fail
  refine (CL.out A6 c6 w8 HR8.out).mono ?_
  rintro e w9 ⟨Ac, cc, rfl, hcp, hb⟩
  obtain ⟨W10, hW10⟩ : ∃ W10, W10 = w9.alloc (.cells #[.int .u8 d0, .int .u16 d1, .int .u64 d2, .int .u64 d3, .int .u64 d4, .int .u64 d5, .int .u64 d6, .bool d7, .int .i64 d8, .slice Ac lb.length cc] 27) := ⟨_, rfl⟩
  have hbw : Below w9.heap.size w9 W10 := by rw [hW10]; exact (Below.refl _ _).alloc (Nat.le_refl _) _
  have hbc : Below w8.heap.size w8 W10 := hb.trans (hbw.mono hb.size)
  have BC10 := Lib.hid (show Blk W10 w9.heap.size 27 #[.int .u8 d0, .int .u16 d1, .int .u64 d2, .int .u64 d3, .int .u64 d4, .int .u64 d5, .int .u64 d6, .bool d7, .int .i64 d8, .slice Ac lb.length cc] from by rw [hW10]; exact Blk.new w9 _ _)
  have HGB : Hid (∀ g, Ac = some ⟨g, 0, none⟩ → lb ≠ [] → w8.heap.size ≤ g ∧ g < w9.heap.size) := Lib.hid (fun g e hl => by
    have h := hcp.2 hl
    rw [e] at h
    exact own_lt h rfl)
  have HXS : Hid (lb ≠ [] → ∃ xs : List Value, xs.length = lb.length ∧ (∀ x ∈ xs, ∃ z, x = .int .u8 z) ∧ W10.ownsRow w8.heap.size 5 1 (.slice Ac lb.length cc) lb.length xs) := Lib.hid (fun hl => by
    refine ⟨u8s lb, by simp [u8s], fun x hx => ?_, ?_⟩
    · obtain ⟨b, _, rfl⟩ := List.mem_map.1 hx
      exact ⟨_, rfl⟩
    · rw [hW10]
      exact (hcp.2 hl).alloc _)
  have hlc : lb.length ≤ cc := hcp.1
  have G10 := Lib.hid (G8.out.trans (hbc.mono G8.out.size))
  have HBC := Lib.hid hbc
  have HW10 := Lib.hid hW10
  have hsz10 : w9.heap.size < W10.heap.size := BC10.out.lt
  have hsz9 := hb.size
  clear hcp hb hbw hbc hW10
  go_wp2_with fail
  rw [← HW10.out]
  generalize w9.heap.size = gc at *
  clear HW10
  go_loopw [8] (fun i wr => ∃ k, k ≤ lb.length ∧ i = .int .i64 (k : Nat) ∧ Hid (Blk wr gc 27 #[.int .u8 d0, .int .u16 d1, .int .u64 d2, .int .u64 d3, .int .u64 d4, .int .u64 d5, .int .u64 d6, .bool d7, .int .i64 d8, .slice Ac lb.length cc]) ∧ Hid (lb ≠ [] → ∃ xs : List Value, xs.length = lb.length ∧ (∀ x ∈ xs, ∃ z, x = .int .u8 z) ∧ wr.ownsRow w8.heap.size 5 1 (.slice Ac lb.length cc) lb.length xs) ∧ Hid (Below w8.heap.size w8 wr) ∧ gc < wr.heap.size) (fun i _ => lb.length - (intOf i).toNat)
  case atStart => exact ⟨0, by omega, rfl, BC10, HXS, HBC, hsz10⟩
  case round =>
    obtain ⟨k, hk, rfl, hBC, hXS, hBK, hgc⟩ := hrel
    have c9 : wr.cell? ⟨gc, 9, none⟩ = some (.slice Ac lb.length cc) := hBC.out.cell 9
    by_cases hlt : k < lb.length
    · have hlt' : (k : Int) < lb.length := by omega
      have hne : lb ≠ [] := by rintro rfl; simp at hlt
      obtain ⟨xs, hxl, hxv, hown⟩ := hXS.out hne
      obtain ⟨gb, rfl⟩ : ∃ gb, Ac = some ⟨gb, 0, none⟩ := by
        rcases hown.2 with ⟨_, h0⟩ | ⟨g, cap, cur, e, _⟩
        · omega
        · injection e with e
          exact ⟨g, e⟩
      have hgb := HGB.out gb rfl hne
      have hkx : k < xs.length := by omega
      obtain ⟨z, hz⟩ := hxv xs[k] (List.getElem_mem hkx)
      have cz : wr.cell? ⟨gb, k, none⟩ = some (.int .u8 z) := by rw [hown.cellAt k (by omega), List.getElem?_eq_getElem hkx, hz]
      have fz : wr.frozen? ⟨gb, k, none⟩ = false := hown.frozenAt k
      have HOWN := Lib.hid hown
      have HXV := Lib.hid hxv
      have HXL := Lib.hid hxl
      have hgb2 : gb < wr.heap.size := by omega
      have hcap : (lb.length : Int) ≤ cc := by omega
      clear hown hxv hxl hz hkx
      go_wp2_with fail
      go_roundw
      case rel => exact ⟨k + 1, by omega, by go_num, Lib.hid (hBC.out.far (by simp; omega) _), Lib.hid (fun _ => ⟨_, by rw [List.length_set]; exact HXL.out, fun x hx => by
        rcases List.mem_or_eq_of_mem_set hx with h | h
        · exact HXV.out x h
        · exact ⟨_, h⟩, (HOWN.out.stored k _).1⟩), Lib.hid (hBK.out.setCell (by simp; omega) _), by simpa using hgc⟩
      case measure => simp [intOf]; omega
    · obtain rfl : k = lb.length := by omega
      have BX11 := Lib.hid (Blk.below BX8.out hBK.out BX8.out.lt)
      have BA11 := Lib.hid (Blk.below BA8.out hBK.out BA8.out.lt)
      have HR11 := Lib.hid ((HR8.out.below hBK.out).more hBK.out.size)
      have HB11 := Lib.hid ((HB8.out.below hBK.out).more hBK.out.size)
      have G11 := Lib.hid (G8.out.trans (hBK.out.mono G8.out.size))
      go_wp2_with fail
      clear c9 hBC hXS hBK hgc BX8 BA8 HR8 HB8 G8 HGB HXS HBC BC10 G10 CL hlc hsz10 hsz9
      rename_i KC hKC
      have HKC := Lib.hid hKC
      clear hKC
      obtain ⟨S0, hS0⟩ : ∃ S : ByteArray, S = ⟨la.toArray⟩ := ⟨_, rfl⟩
      obtain ⟨S1, hS1⟩ : ∃ S : ByteArray, S = ⟨l.toArray⟩ := ⟨_, rfl⟩
      have HS1 := Lib.hid hS1
      have HS0 := Lib.hid hS0
      have HK12 := Lib.hid (fun W' (hb : Below wr.heap.size wr W') => (show (fun w' => (∀ i, w'.cell? ⟨gx, i, none⟩ = (#[.int .u8 x0, .int .u16 a1, .int .u64 a2, .int .u64 a3, .int .u64 a4, .int .u64 a5, .int .u64 a6, .bool a7, .int .i64 a8, .slice A6 la.length c6] : Array Value)[i]?) ∧ (∀ i, w'.cell? ⟨w.heap.size, i, none⟩ = (#[.int .u8 a0, .int .u16 a1, .int .u64 a2, .int .u64 a3, .int .u64 a4, .int .u64 a5, .int .u64 a6, .bool a7, .int .i64 a8, .slice A la.length c] : Array Value)[i]?) ∧ (convert 25 9 (.slice A6 la.length c6)).run Try.prog w' = .ok (.string S0) w' ∧ (convert 25 9 (.slice A la.length c)).run Try.prog w' = .ok (.string S0) w' ∧ (convert 25 9 (.slice Ar l.length cr)).run Try.prog w' = .ok (.string S1) w') W' from ⟨fun i => (Blk.below BX11.out hb BX11.out.lt).cell i, fun i => (Blk.below BA11.out hb BA11.out.lt).cell i,
        by rw [hS0]; exact row_string (HR11.out.below hb), by rw [hS0]; exact row_string (HRA.out.below (G11.out.trans (hb.mono G11.out.size))), by rw [hS1]; exact row_string (HB11.out.below hb)⟩))
      have HZ0 := Lib.hid ((Below.refl wr.heap.size wr).drew)
      clear hS0 hS1
      refine wp_region_held_drew (S := (fun w' => (∀ i, w'.cell? ⟨gx, i, none⟩ = (#[.int .u8 x0, .int .u16 a1, .int .u64 a2, .int .u64 a3, .int .u64 a4, .int .u64 a5, .int .u64 a6, .bool a7, .int .i64 a8, .slice A6 la.length c6] : Array Value)[i]?) ∧ (∀ i, w'.cell? ⟨w.heap.size, i, none⟩ = (#[.int .u8 a0, .int .u16 a1, .int .u64 a2, .int .u64 a3, .int .u64 a4, .int .u64 a5, .int .u64 a6, .bool a7, .int .i64 a8, .slice A la.length c] : Array Value)[i]?) ∧ (convert 25 9 (.slice A6 la.length c6)).run Try.prog w' = .ok (.string S0) w' ∧ (convert 25 9 (.slice A la.length c)).run Try.prog w' = .ok (.string S0) w' ∧ (convert 25 9 (.slice Ar l.length cr)).run Try.prog w' = .ok (.string S1) w')) (by kernel_rfl) ?_ (fun hHeld => ?_)
      · (try dsimp only)
        exact HK12.out _ HZ0.out
      refine wpAnyH_take (i := 0) (oi := ({ dst := some 43, op := Op.fieldAddr 27 (Operand.tmp 5) 9, type := 0, pos := "law.go:70", after := #[], guard := none } : Oper)) (v := ?_) rfl (by kernel_rfl) (by kernel_rfl) (by kernel_rfl) (fun _ _ _ h => h) (Or.inl ⟨by kernel_rfl, ?_⟩) (by assumption) ?_
      rotate_left
      · (intro w hSw; (try dsimp only at hSw); go_simp)
        all_goals (with_reducible rfl)
      try simp only [Act.put, List.setIfInBounds_toArray, List.set_cons_zero, List.set_cons_succ]
      refine wpAnyH_take (i := 1) (oi := ({ dst := some 44, op := Op.load 25 (Operand.tmp 43), type := 25, pos := "law.go:70", after := #[{ on := 0, ground := Ground.data }], guard := none } : Oper)) (v := ?_) rfl (by kernel_rfl) (by kernel_rfl) (by kernel_rfl) (fun _ _ _ h => h) (Or.inl ⟨by kernel_rfl, ?_⟩) (by assumption) ?_
      rotate_left
      · (intro w hSw; (try dsimp only at hSw); go_simp)
        all_goals (with_reducible rfl)
      try simp only [Act.put, List.setIfInBounds_toArray, List.set_cons_zero, List.set_cons_succ]
      refine wpAnyH_take (i := 2) (oi := ({ dst := some 45, op := Op.convert 25 9 (Operand.tmp 44), type := 9, pos := "law.go:70", after := #[{ on := 1, ground := Ground.data }], guard := none } : Oper)) (v := ?_) rfl (by kernel_rfl) (by kernel_rfl) (by kernel_rfl) (fun _ _ _ h => h) (Or.inl ⟨by kernel_rfl, ?_⟩) (by assumption) ?_
      rotate_left
      · (intro w hSw; (try dsimp only at hSw); go_simp)
        all_goals (with_reducible rfl)
      try simp only [Act.put, List.setIfInBounds_toArray, List.set_cons_zero, List.set_cons_succ]
      refine wpAnyH_take (i := 3) (oi := ({ dst := some 46, op := Op.fieldAddr 27 (Operand.tmp 2) 9, type := 0, pos := "law.go:70", after := #[], guard := none } : Oper)) (v := ?_) rfl (by kernel_rfl) (by kernel_rfl) (by kernel_rfl) (fun _ _ _ h => h) (Or.inl ⟨by kernel_rfl, ?_⟩) (by assumption) ?_
      rotate_left
      · (intro w hSw; (try dsimp only at hSw); go_simp)
        all_goals (with_reducible rfl)
      try simp only [Act.put, List.setIfInBounds_toArray, List.set_cons_zero, List.set_cons_succ]
      refine wpAnyH_take (i := 4) (oi := ({ dst := some 47, op := Op.load 25 (Operand.tmp 46), type := 25, pos := "law.go:70", after := #[{ on := 3, ground := Ground.data }], guard := none } : Oper)) (v := ?_) rfl (by kernel_rfl) (by kernel_rfl) (by kernel_rfl) (fun _ _ _ h => h) (Or.inl ⟨by kernel_rfl, ?_⟩) (by assumption) ?_
      rotate_left
      · (intro w hSw; (try dsimp only at hSw); go_simp)
        all_goals (with_reducible rfl)
      try simp only [Act.put, List.setIfInBounds_toArray, List.set_cons_zero, List.set_cons_succ]
      refine wpAnyH_take (i := 5) (oi := ({ dst := some 48, op := Op.convert 25 9 (Operand.tmp 47), type := 9, pos := "law.go:70", after := #[{ on := 4, ground := Ground.data }], guard := none } : Oper)) (v := ?_) rfl (by kernel_rfl) (by kernel_rfl) (by kernel_rfl) (fun _ _ _ h => h) (Or.inl ⟨by kernel_rfl, ?_⟩) (by assumption) ?_
      rotate_left
      · (intro w hSw; (try dsimp only at hSw); go_simp)
        all_goals (with_reducible rfl)
      try simp only [Act.put, List.setIfInBounds_toArray, List.set_cons_zero, List.set_cons_succ]
      refine wpAnyH_take (i := 6) (oi := ({ dst := some 49, op := Op.binOp BinOp.neq 9 (Operand.tmp 45) (Operand.tmp 48) 9, type := 4, pos := "law.go:70", after := #[{ on := 2, ground := Ground.data }, { on := 5, ground := Ground.data }], guard := none } : Oper)) (v := ?_) rfl (by kernel_rfl) (by kernel_rfl) (by kernel_rfl) (fun _ _ _ h => h) (Or.inl ⟨by kernel_rfl, ?_⟩) (by assumption) ?_
      rotate_left
      · (intro w hSw; (try dsimp only at hSw); go_simp)
        all_goals (with_reducible rfl)
      try simp only [Act.put, List.setIfInBounds_toArray, List.set_cons_zero, List.set_cons_succ]
      refine wpAnyH_take (i := 7) (oi := ({ dst := some 50, op := Op.move (Operand.tmp 49), type := 4, pos := "law.go:70", after := #[{ on := 6, ground := Ground.data }], guard := none } : Oper)) (v := ?_) rfl (by kernel_rfl) (by kernel_rfl) (by kernel_rfl) (fun _ _ _ h => h) (Or.inl ⟨by kernel_rfl, ?_⟩) (by assumption) ?_
      rotate_left
      · (intro w hSw; (try dsimp only at hSw); go_simp)
        all_goals (with_reducible rfl)
      try simp only [Act.put, List.setIfInBounds_toArray, List.set_cons_zero, List.set_cons_succ]
      refine wpAnyH_take (i := 8) (oi := ({ dst := some 51, op := Op.load 27 (Operand.tmp 5), type := 27, pos := "law.go:70", after := #[{ on := 7, ground := Ground.guard }], guard := some (7, false) } : Oper)) (v := ?_) rfl (by kernel_rfl) (by kernel_rfl) (by kernel_rfl) (fun _ _ _ h => h) (Or.inl ⟨by kernel_rfl, ?_⟩) (by assumption) ?_
      rotate_left
      · (intro w hSw; (try dsimp only at hSw); go_simp)
        all_goals (with_reducible rfl)
      try simp only [Act.put, List.setIfInBounds_toArray, List.set_cons_zero, List.set_cons_succ]
      refine wpAnyH_take (i := 11) (oi := ({ dst := some 54, op := Op.move (Operand.tmp 6), type := 25, pos := "law.go:70", after := #[{ on := 7, ground := Ground.guard }], guard := some (7, false) } : Oper)) (v := ?_) rfl (by kernel_rfl) (by kernel_rfl) (by kernel_rfl) (fun _ _ _ h => h) (Or.inl ⟨by kernel_rfl, ?_⟩) (by assumption) ?_
      rotate_left
      · (intro w hSw; (try dsimp only at hSw); go_simp)
        all_goals (with_reducible rfl)
      try simp only [Act.put, List.setIfInBounds_toArray, List.set_cons_zero, List.set_cons_succ]
      refine wpAnyH_take (i := 12) (oi := ({ dst := some 55, op := Op.convert 25 9 (Operand.tmp 54), type := 9, pos := "law.go:70", after := #[{ on := 11, ground := Ground.data }, { on := 7, ground := Ground.guard }], guard := some (7, false) } : Oper)) (v := ?_) rfl (by kernel_rfl) (by kernel_rfl) (by kernel_rfl) (fun _ _ _ h => h) (Or.inl ⟨by kernel_rfl, ?_⟩) (by assumption) ?_
      rotate_left
      · (intro w hSw; (try dsimp only at hSw); go_simp)
        all_goals (with_reducible rfl)
      try simp only [Act.put, List.setIfInBounds_toArray, List.set_cons_zero, List.set_cons_succ]
      refine wpAnyH_ready (rs := [9]) (by kernel_rfl) (by simp) ?_
      refine AllReadyH.cons (o := ({ dst := some 52, op := Op.call { callee := Callee.value (Operand.func 15), args := #[Operand.tmp 51], argTypes := #[27] }, type := 25, pos := "law.go:70", after := #[{ on := 8, ground := Ground.data }, { on := 7, ground := Ground.chain }, { on := 7, ground := Ground.guard }], guard := some (7, false) } : Oper)) rfl (fun K hK => ?_) AllReadyH.nil
      go_simp
      refine (RX.out A6 c6 _ ((HR11.out.below HZ0.out).more HZ0.out.size)).mono ?_; rintro e z1 ⟨Ar2, cr2, rfl, -, hr, hb⟩; have HZ1 := Lib.hid (HZ0.out.trans (hb.mono HZ0.out.size)); have hsr := row_string (c := cr2) hr; rw [← HS1.out] at hsr; clear hr hb; go_wp2_with fail
      refine hK.out _ _ ?_ (fun hHeld => ?_)
      · (try dsimp only)
        first | exact HK12.out _ HZ1.out | exact HK12.out _ HZ0.out
      clear hK K
      try simp only [Act.put, List.setIfInBounds_toArray, List.set_cons_zero, List.set_cons_succ]
      refine wpAnyH_ready (rs := [10]) (by kernel_rfl) (by simp) ?_
      refine AllReadyH.cons (o := ({ dst := some 53, op := Op.convert 25 9 (Operand.tmp 52), type := 9, pos := "law.go:70", after := #[{ on := 9, ground := Ground.data }, { on := 7, ground := Ground.guard }], guard := some (7, false) } : Oper)) rfl (fun K hK => ?_) AllReadyH.nil
      go_simp
      skip
      refine hK.out _ _ ?_ (fun hHeld => ?_)
      · (try dsimp only)
        first | exact HK12.out _ HZ1.out | exact HK12.out _ HZ0.out
      clear hK K
      try simp only [Act.put, List.setIfInBounds_toArray, List.set_cons_zero, List.set_cons_succ]
      refine wpAnyH_take (i := 13) (oi := ({ dst := some 56, op := Op.binOp BinOp.neq 9 (Operand.tmp 53) (Operand.tmp 55) 9, type := 4, pos := "law.go:70", after := #[{ on := 10, ground := Ground.data }, { on := 12, ground := Ground.data }, { on := 7, ground := Ground.guard }], guard := some (7, false) } : Oper)) (v := ?_) rfl (by kernel_rfl) (by kernel_rfl) (by kernel_rfl) (fun _ _ _ h => h) (Or.inl ⟨by kernel_rfl, ?_⟩) (by assumption) ?_
      rotate_left
      · (intro w hSw; (try dsimp only at hSw); go_simp)
        all_goals (with_reducible rfl)
      try simp only [Act.put, List.setIfInBounds_toArray, List.set_cons_zero, List.set_cons_succ]
      refine wpAnyH_take (i := 14) (oi := ({ dst := some 57, op := Op.pick (Operand.tmp 50) (Operand.const (Value.bool true)) (Operand.tmp 56), type := 4, pos := "law.go:70", after := #[{ on := 7, ground := Ground.data }, { on := 13, ground := Ground.data }], guard := none } : Oper)) (v := ?_) rfl (by kernel_rfl) (by kernel_rfl) (by kernel_rfl) (fun _ _ _ h => h) (Or.inl ⟨by kernel_rfl, ?_⟩) (by assumption) ?_
      rotate_left
      · (intro w hSw; (try dsimp only at hSw); go_simp)
        all_goals (with_reducible rfl)
      try simp only [Act.put, List.setIfInBounds_toArray, List.set_cons_zero, List.set_cons_succ]
      refine wpAnyH_done (by kernel_rfl) ?_ _
      change KC _ _
      refine HKC.out _ _ ?_
      clear HK12 HKC hHeld hsr
      obtain ⟨q0, q1, q2, q3, q4, q5, q6, q7, q8, q9⟩ := Blk.ten (Blk.below BX11.out HZ1.out BX11.out.lt)
      have BA12 := Lib.hid (Blk.below BA11.out HZ1.out BA11.out.lt)
      have HB12 := Lib.hid ((HB11.out.below HZ1.out).more HZ1.out.size)
      have G12 := Lib.hid (G11.out.trans (HZ1.out.mono G11.out.size))
      have hgx : gx < z1.heap.size := (Blk.below BX11.out HZ1.out BX11.out.lt).lt
      clear HZ0 HZ1 BX11 BA11 HR11 HB11 G11
      obtain ⟨W14, hW14⟩ : ∃ W14, W14 = z1.alloc (.cells #[.int .u8 x0, .int .u16 a1, .int .u64 a2, .int .u64 a3, .int .u64 a4, .int .u64 a5, .int .u64 a6, .bool a7, .int .i64 a8, .slice none 0 0] 27) := ⟨_, rfl⟩
      have BN := Lib.hid (show Blk W14 z1.heap.size 27 #[.int .u8 x0, .int .u16 a1, .int .u64 a2, .int .u64 a3, .int .u64 a4, .int .u64 a5, .int .u64 a6, .bool a7, .int .i64 a8, .slice none 0 0] from by rw [hW14]; exact Blk.new z1 _ _)
      have hbw : Below z1.heap.size z1 W14 := by rw [hW14]; exact (Below.refl _ _).alloc (Nat.le_refl _) _
      have BA14 := Lib.hid (Blk.below BA12.out hbw BA12.out.lt)
      have HB14 := Lib.hid ((HB12.out.below hbw).more hbw.size)
      have G14 := Lib.hid (G12.out.trans (hbw.mono G12.out.size))
      have HW14 := Lib.hid hW14
      clear hbw hW14 BA12 HB12 G12
      by_cases h8 : x0 = 8
      · have h8' : (x0 != 8) = false := by rw [h8]; rfl
        have h8h := Lib.hid h8
        clear h8
        go_wp2_with fail
        rw [← HW14.out]
        clear q0 q1 q2 q3 q4 q5 q6 q7 q8 q9 hgx
        obtain ⟨pp, hpp, hlp⟩ := R8.out h8h.out
        have hlpl := congrArg List.length hlp
        rw [List.length_append] at hlpl
        have hppl := List.length_pos_iff.2 hpp
        obtain ⟨g, o, rfl, hgb, hcl⟩ := HB14.out.at_ (k := 0) (by rw [List.length_map]; omega)
        obtain ⟨dd, hdd⟩ : ∃ dd, dd = pp.length := ⟨_, rfl⟩
        obtain ⟨ZA, hZA⟩ : ∃ ZA, (if cr = dd then some (⟨g, o, none⟩ : Addr) else some ⟨g, o + dd, none⟩) = ZA := ⟨_, rfl⟩
        have hld : l.length - dd = la.length := by omega
        have r1 : (la.length : Int) < (l.length : Int) := by omega
        have r2 : (l.length : Int) - (la.length : Int) = (dd : Int) := by omega
        have r3 : (dd : Int) ≤ l.length := by omega
        have r4 : (l.length : Int) ≤ cr := by omega
        have r5 : (0 : Int) ≤ dd := by omega
        have r7 : IntKind.i64.wrap (dd : Int) = (dd : Int) := IntWalk.i64_in _ (by omega)
        have r6 : decide (la.length < l.length) = true := decide_eq_true (by omega)
        have HK18 := Lib.hid (fun W' (hb : Below W14.heap.size W14 W') => (show (fun w' => (∀ i, w'.cell? ⟨w.heap.size, i, none⟩ = (#[.int .u8 a0, .int .u16 a1, .int .u64 a2, .int .u64 a3, .int .u64 a4, .int .u64 a5, .int .u64 a6, .bool a7, .int .i64 a8, .slice A la.length c] : Array Value)[i]?) ∧ (convert 25 9 (.slice A la.length c)).run Try.prog w' = .ok (.string S0) w' ∧ (convert 25 9 (.slice ZA (l.length - dd) (cr - dd))).run Try.prog w' = .ok (.string S0) w') W' from ⟨fun i => (Blk.below BA14.out hb BA14.out.lt).cell i,
          by rw [HS0.out]; exact row_string (HRA.out.below (G14.out.trans (hb.mono G14.out.size))), by
            rw [HS0.out, hld]
            refine row_string (B := W14.heap.size) ?_
            intro hn
            have hn2 : 0 < la.length := by
              rcases Nat.eq_zero_or_pos la.length with h | h
              · exact absurd (by rw [List.eq_nil_of_length_eq_zero h]; rfl) hn
              · exact h
            rw [if_neg (by omega)] at hZA
            obtain ⟨g', o', e, hlt', hcl'⟩ := (HB14.out.below hb) (by intro e; have h3 := congrArg List.length e; rw [List.length_map, List.length_nil] at h3; omega)
            injection e with e
            injection e with e1 e2
            subst e1 e2
            refine ⟨g, o + dd, hZA.symm, hlt', fun k v hv => ?_⟩
            have h2 := hcl' (dd + k) v (by
              rw [hlp, u8s, List.map_append, List.getElem?_append_right (by rw [List.length_map]; omega), List.length_map, hdd, Nat.add_sub_cancel_left]
              exact hv)
            rw [Nat.add_assoc]
            exact h2⟩))
        have HZ2 := Lib.hid ((Below.refl W14.heap.size W14).drew)
        rename_i KD hKD
        have HKD := Lib.hid hKD
        clear hKD hcl hgb hlpl hppl hpp hlp hdd hld
        refine wp_region_held_drew (S := (fun w' => (∀ i, w'.cell? ⟨w.heap.size, i, none⟩ = (#[.int .u8 a0, .int .u16 a1, .int .u64 a2, .int .u64 a3, .int .u64 a4, .int .u64 a5, .int .u64 a6, .bool a7, .int .i64 a8, .slice A la.length c] : Array Value)[i]?) ∧ (convert 25 9 (.slice A la.length c)).run Try.prog w' = .ok (.string S0) w' ∧ (convert 25 9 (.slice ZA (l.length - dd) (cr - dd))).run Try.prog w' = .ok (.string S0) w')) (by kernel_rfl) ?_ (fun hHeld => ?_)
        · (try dsimp only)
          exact HK18.out _ HZ2.out
        refine wpAnyH_ready (rs := [0]) (by kernel_rfl) (by simp) ?_
        refine AllReadyH.cons (o := ({ dst := some 72, op := Op.call { callee := Callee.value (Operand.func 9), args := #[], argTypes := #[] }, type := 4, pos := "law.go:78", after := #[], guard := none } : Oper)) rfl (fun K hK => ?_) AllReadyH.nil
        go_simp
        refine (known_any _).mono ?_; rintro e z2 ⟨rfl, hb⟩; have HZ3 := Lib.hid (HZ2.out.trans (hb.mono HZ2.out.size)); clear hb; go_wp2_with fail
        refine hK.out _ _ ?_ (fun hHeld => ?_)
        · (try dsimp only)
          exact HK18.out _ HZ3.out
        clear hK K
        try simp only [Act.put, List.setIfInBounds_toArray, List.set_cons_zero, List.set_cons_succ]
        refine wpAnyH_take (i := 1) (oi := ({ dst := some 73, op := Op.move (Operand.tmp 72), type := 4, pos := "law.go:78", after := #[{ on := 0, ground := Ground.data }, { on := 0, ground := Ground.chain }], guard := none } : Oper)) (v := ?_) rfl (by kernel_rfl) (by kernel_rfl) (by kernel_rfl) (fun _ _ _ h => h) (Or.inl ⟨by kernel_rfl, ?_⟩) (by assumption) ?_
        rotate_left
        · (intro w hSw; (try dsimp only at hSw); go_simp)
          all_goals (with_reducible rfl)
        try simp only [Act.put, List.setIfInBounds_toArray, List.set_cons_zero, List.set_cons_succ]
        refine wpAnyH_take (i := 2) (oi := ({ dst := some 74, op := Op.move (Operand.tmp 6), type := 25, pos := "law.go:78", after := #[{ on := 1, ground := Ground.guard }], guard := some (1, true) } : Oper)) (v := ?_) rfl (by kernel_rfl) (by kernel_rfl) (by kernel_rfl) (fun _ _ _ h => h) (Or.inl ⟨by kernel_rfl, ?_⟩) (by assumption) ?_
        rotate_left
        · (intro w hSw; (try dsimp only at hSw); go_simp)
          all_goals (with_reducible rfl)
        try simp only [Act.put, List.setIfInBounds_toArray, List.set_cons_zero, List.set_cons_succ]
        refine wpAnyH_take (i := 3) (oi := ({ dst := some 75, op := Op.call { callee := Callee.builtin Builtin.len, args := #[Operand.tmp 74], argTypes := #[25] }, type := 3, pos := "law.go:78", after := #[{ on := 2, ground := Ground.data }, { on := 1, ground := Ground.guard }], guard := some (1, true) } : Oper)) (v := ?_) rfl (by kernel_rfl) (by kernel_rfl) (by kernel_rfl) (fun _ _ _ h => h) (Or.inl ⟨by kernel_rfl, ?_⟩) (by assumption) ?_
        rotate_left
        · (intro w hSw; (try dsimp only at hSw); go_simp)
          all_goals (with_reducible rfl)
        try simp only [Act.put, List.setIfInBounds_toArray, List.set_cons_zero, List.set_cons_succ]
        refine wpAnyH_take (i := 4) (oi := ({ dst := some 76, op := Op.fieldAddr 27 (Operand.tmp 2) 9, type := 0, pos := "law.go:78", after := #[{ on := 1, ground := Ground.guard }], guard := some (1, true) } : Oper)) (v := ?_) rfl (by kernel_rfl) (by kernel_rfl) (by kernel_rfl) (fun _ _ _ h => h) (Or.inl ⟨by kernel_rfl, ?_⟩) (by assumption) ?_
        rotate_left
        · (intro w hSw; (try dsimp only at hSw); go_simp)
          all_goals (with_reducible rfl)
        try simp only [Act.put, List.setIfInBounds_toArray, List.set_cons_zero, List.set_cons_succ]
        refine wpAnyH_take (i := 5) (oi := ({ dst := some 77, op := Op.load 25 (Operand.tmp 76), type := 25, pos := "law.go:78", after := #[{ on := 4, ground := Ground.data }, { on := 1, ground := Ground.guard }], guard := some (1, true) } : Oper)) (v := ?_) rfl (by kernel_rfl) (by kernel_rfl) (by kernel_rfl) (fun _ _ _ h => h) (Or.inl ⟨by kernel_rfl, ?_⟩) (by assumption) ?_
        rotate_left
        · (intro w hSw; (try dsimp only at hSw); go_simp)
          all_goals (with_reducible rfl)
        try simp only [Act.put, List.setIfInBounds_toArray, List.set_cons_zero, List.set_cons_succ]
        refine wpAnyH_take (i := 6) (oi := ({ dst := some 78, op := Op.call { callee := Callee.builtin Builtin.len, args := #[Operand.tmp 77], argTypes := #[25] }, type := 3, pos := "law.go:78", after := #[{ on := 5, ground := Ground.data }, { on := 1, ground := Ground.guard }], guard := some (1, true) } : Oper)) (v := ?_) rfl (by kernel_rfl) (by kernel_rfl) (by kernel_rfl) (fun _ _ _ h => h) (Or.inl ⟨by kernel_rfl, ?_⟩) (by assumption) ?_
        rotate_left
        · (intro w hSw; (try dsimp only at hSw); go_simp)
          all_goals (with_reducible rfl)
        try simp only [Act.put, List.setIfInBounds_toArray, List.set_cons_zero, List.set_cons_succ]
        refine wpAnyH_take (i := 7) (oi := ({ dst := some 79, op := Op.binOp BinOp.gtr 3 (Operand.tmp 75) (Operand.tmp 78) 3, type := 4, pos := "law.go:78", after := #[{ on := 3, ground := Ground.data }, { on := 6, ground := Ground.data }, { on := 1, ground := Ground.guard }], guard := some (1, true) } : Oper)) (v := ?_) rfl (by kernel_rfl) (by kernel_rfl) (by kernel_rfl) (fun _ _ _ h => h) (Or.inl ⟨by kernel_rfl, ?_⟩) (by assumption) ?_
        rotate_left
        · (intro w hSw; (try dsimp only at hSw); go_simp)
          all_goals (with_reducible rfl)
        try simp only [Act.put, List.setIfInBounds_toArray, List.set_cons_zero, List.set_cons_succ]
        refine wpAnyH_take (i := 8) (oi := ({ dst := some 80, op := Op.pick (Operand.tmp 73) (Operand.tmp 79) (Operand.const (Value.bool false)), type := 4, pos := "law.go:78", after := #[{ on := 1, ground := Ground.data }, { on := 7, ground := Ground.data }], guard := none } : Oper)) (v := ?_) rfl (by kernel_rfl) (by kernel_rfl) (by kernel_rfl) (fun _ _ _ h => h) (Or.inl ⟨by kernel_rfl, ?_⟩) (by assumption) ?_
        rotate_left
        · (intro w hSw; (try dsimp only at hSw); go_simp)
          all_goals (with_reducible rfl)
        try simp only [Act.put, List.setIfInBounds_toArray, List.set_cons_zero, List.set_cons_succ]
        refine wpAnyH_take (i := 9) (oi := ({ dst := some 81, op := Op.move (Operand.tmp 80), type := 4, pos := "law.go:78", after := #[{ on := 8, ground := Ground.data }, { on := 1, ground := Ground.chain }], guard := none } : Oper)) (v := ?_) rfl (by kernel_rfl) (by kernel_rfl) (by kernel_rfl) (fun _ _ _ h => h) (Or.inl ⟨by kernel_rfl, ?_⟩) (by assumption) ?_
        rotate_left
        · (intro w hSw; (try dsimp only at hSw); go_simp)
          all_goals (with_reducible rfl)
        try simp only [Act.put, List.setIfInBounds_toArray, List.set_cons_zero, List.set_cons_succ]
        refine wpAnyH_take (i := 10) (oi := ({ dst := some 82, op := Op.move (Operand.tmp 6), type := 25, pos := "law.go:78", after := #[{ on := 9, ground := Ground.guard }], guard := some (9, true) } : Oper)) (v := ?_) rfl (by kernel_rfl) (by kernel_rfl) (by kernel_rfl) (fun _ _ _ h => h) (Or.inl ⟨by kernel_rfl, ?_⟩) (by assumption) ?_
        rotate_left
        · (intro w hSw; (try dsimp only at hSw); go_simp)
          all_goals (with_reducible rfl)
        try simp only [Act.put, List.setIfInBounds_toArray, List.set_cons_zero, List.set_cons_succ]
        refine wpAnyH_take (i := 11) (oi := ({ dst := some 83, op := Op.move (Operand.tmp 6), type := 25, pos := "law.go:78", after := #[{ on := 9, ground := Ground.guard }], guard := some (9, true) } : Oper)) (v := ?_) rfl (by kernel_rfl) (by kernel_rfl) (by kernel_rfl) (fun _ _ _ h => h) (Or.inl ⟨by kernel_rfl, ?_⟩) (by assumption) ?_
        rotate_left
        · (intro w hSw; (try dsimp only at hSw); go_simp)
          all_goals (with_reducible rfl)
        try simp only [Act.put, List.setIfInBounds_toArray, List.set_cons_zero, List.set_cons_succ]
        refine wpAnyH_take (i := 12) (oi := ({ dst := some 84, op := Op.call { callee := Callee.builtin Builtin.len, args := #[Operand.tmp 83], argTypes := #[25] }, type := 3, pos := "law.go:78", after := #[{ on := 11, ground := Ground.data }, { on := 9, ground := Ground.guard }], guard := some (9, true) } : Oper)) (v := ?_) rfl (by kernel_rfl) (by kernel_rfl) (by kernel_rfl) (fun _ _ _ h => h) (Or.inl ⟨by kernel_rfl, ?_⟩) (by assumption) ?_
        rotate_left
        · (intro w hSw; (try dsimp only at hSw); go_simp)
          all_goals (with_reducible rfl)
        try simp only [Act.put, List.setIfInBounds_toArray, List.set_cons_zero, List.set_cons_succ]
        refine wpAnyH_take (i := 13) (oi := ({ dst := some 85, op := Op.fieldAddr 27 (Operand.tmp 2) 9, type := 0, pos := "law.go:78", after := #[{ on := 9, ground := Ground.guard }], guard := some (9, true) } : Oper)) (v := ?_) rfl (by kernel_rfl) (by kernel_rfl) (by kernel_rfl) (fun _ _ _ h => h) (Or.inl ⟨by kernel_rfl, ?_⟩) (by assumption) ?_
        rotate_left
        · (intro w hSw; (try dsimp only at hSw); go_simp)
          all_goals (with_reducible rfl)
        try simp only [Act.put, List.setIfInBounds_toArray, List.set_cons_zero, List.set_cons_succ]
        refine wpAnyH_take (i := 14) (oi := ({ dst := some 86, op := Op.load 25 (Operand.tmp 85), type := 25, pos := "law.go:78", after := #[{ on := 13, ground := Ground.data }, { on := 9, ground := Ground.guard }], guard := some (9, true) } : Oper)) (v := ?_) rfl (by kernel_rfl) (by kernel_rfl) (by kernel_rfl) (fun _ _ _ h => h) (Or.inl ⟨by kernel_rfl, ?_⟩) (by assumption) ?_
        rotate_left
        · (intro w hSw; (try dsimp only at hSw); go_simp)
          all_goals (with_reducible rfl)
        try simp only [Act.put, List.setIfInBounds_toArray, List.set_cons_zero, List.set_cons_succ]
        refine wpAnyH_take (i := 15) (oi := ({ dst := some 87, op := Op.call { callee := Callee.builtin Builtin.len, args := #[Operand.tmp 86], argTypes := #[25] }, type := 3, pos := "law.go:78", after := #[{ on := 14, ground := Ground.data }, { on := 9, ground := Ground.guard }], guard := some (9, true) } : Oper)) (v := ?_) rfl (by kernel_rfl) (by kernel_rfl) (by kernel_rfl) (fun _ _ _ h => h) (Or.inl ⟨by kernel_rfl, ?_⟩) (by assumption) ?_
        rotate_left
        · (intro w hSw; (try dsimp only at hSw); go_simp)
          all_goals (with_reducible rfl)
        try simp only [Act.put, List.setIfInBounds_toArray, List.set_cons_zero, List.set_cons_succ]
        refine wpAnyH_take (i := 16) (oi := ({ dst := some 88, op := Op.binOp BinOp.sub 3 (Operand.tmp 84) (Operand.tmp 87) 3, type := 3, pos := "law.go:78", after := #[{ on := 12, ground := Ground.data }, { on := 15, ground := Ground.data }, { on := 9, ground := Ground.guard }], guard := some (9, true) } : Oper)) (v := ?_) rfl (by kernel_rfl) (by kernel_rfl) (by kernel_rfl) (fun _ _ _ h => h) (Or.inl ⟨by kernel_rfl, ?_⟩) (by assumption) ?_
        rotate_left
        · (intro w hSw; (try dsimp only at hSw); go_simp)
          all_goals (with_reducible rfl)
        try simp only [Act.put, List.setIfInBounds_toArray, List.set_cons_zero, List.set_cons_succ]
        refine wpAnyH_take (i := 17) (oi := ({ dst := some 89, op := Op.slice 25 (Operand.tmp 82) (some (Operand.tmp 88)) none none, type := 25, pos := "law.go:78", after := #[{ on := 10, ground := Ground.data }, { on := 16, ground := Ground.data }, { on := 9, ground := Ground.guard }], guard := some (9, true) } : Oper)) (v := ?_) rfl (by kernel_rfl) (by kernel_rfl) (by kernel_rfl) (fun _ _ _ h => h) (Or.inl ⟨by kernel_rfl, ?_⟩) (by assumption) ?_
        rotate_left
        · (intro w hSw; (try dsimp only at hSw); go_simp)
          all_goals (with_reducible rfl)
        try simp only [Act.put, List.setIfInBounds_toArray, List.set_cons_zero, List.set_cons_succ]
        refine wpAnyH_take (i := 18) (oi := ({ dst := some 90, op := Op.convert 25 9 (Operand.tmp 89), type := 9, pos := "law.go:78", after := #[{ on := 17, ground := Ground.data }, { on := 9, ground := Ground.guard }], guard := some (9, true) } : Oper)) (v := ?_) rfl (by kernel_rfl) (by kernel_rfl) (by kernel_rfl) (fun _ _ _ h => h) (Or.inl ⟨by kernel_rfl, ?_⟩) (by assumption) ?_
        rotate_left
        · (intro w hSw; (try dsimp only at hSw); go_simp)
          all_goals (with_reducible rfl)
        try simp only [Act.put, List.setIfInBounds_toArray, List.set_cons_zero, List.set_cons_succ]
        refine wpAnyH_take (i := 19) (oi := ({ dst := some 91, op := Op.fieldAddr 27 (Operand.tmp 2) 9, type := 0, pos := "law.go:78", after := #[{ on := 9, ground := Ground.guard }], guard := some (9, true) } : Oper)) (v := ?_) rfl (by kernel_rfl) (by kernel_rfl) (by kernel_rfl) (fun _ _ _ h => h) (Or.inl ⟨by kernel_rfl, ?_⟩) (by assumption) ?_
        rotate_left
        · (intro w hSw; (try dsimp only at hSw); go_simp)
          all_goals (with_reducible rfl)
        try simp only [Act.put, List.setIfInBounds_toArray, List.set_cons_zero, List.set_cons_succ]
        refine wpAnyH_take (i := 20) (oi := ({ dst := some 92, op := Op.load 25 (Operand.tmp 91), type := 25, pos := "law.go:78", after := #[{ on := 19, ground := Ground.data }, { on := 9, ground := Ground.guard }], guard := some (9, true) } : Oper)) (v := ?_) rfl (by kernel_rfl) (by kernel_rfl) (by kernel_rfl) (fun _ _ _ h => h) (Or.inl ⟨by kernel_rfl, ?_⟩) (by assumption) ?_
        rotate_left
        · (intro w hSw; (try dsimp only at hSw); go_simp)
          all_goals (with_reducible rfl)
        try simp only [Act.put, List.setIfInBounds_toArray, List.set_cons_zero, List.set_cons_succ]
        refine wpAnyH_take (i := 21) (oi := ({ dst := some 93, op := Op.convert 25 9 (Operand.tmp 92), type := 9, pos := "law.go:78", after := #[{ on := 20, ground := Ground.data }, { on := 9, ground := Ground.guard }], guard := some (9, true) } : Oper)) (v := ?_) rfl (by kernel_rfl) (by kernel_rfl) (by kernel_rfl) (fun _ _ _ h => h) (Or.inl ⟨by kernel_rfl, ?_⟩) (by assumption) ?_
        rotate_left
        · (intro w hSw; (try dsimp only at hSw); go_simp)
          all_goals (with_reducible rfl)
        try simp only [Act.put, List.setIfInBounds_toArray, List.set_cons_zero, List.set_cons_succ]
        refine wpAnyH_take (i := 22) (oi := ({ dst := some 94, op := Op.binOp BinOp.eql 9 (Operand.tmp 90) (Operand.tmp 93) 9, type := 4, pos := "law.go:78", after := #[{ on := 18, ground := Ground.data }, { on := 21, ground := Ground.data }, { on := 9, ground := Ground.guard }], guard := some (9, true) } : Oper)) (v := ?_) rfl (by kernel_rfl) (by kernel_rfl) (by kernel_rfl) (fun _ _ _ h => h) (Or.inl ⟨by kernel_rfl, ?_⟩) (by assumption) ?_
        rotate_left
        · (intro w hSw; (try dsimp only at hSw); go_simp)
          all_goals (with_reducible rfl)
        try simp only [Act.put, List.setIfInBounds_toArray, List.set_cons_zero, List.set_cons_succ]
        refine wpAnyH_take (i := 23) (oi := ({ dst := some 95, op := Op.pick (Operand.tmp 81) (Operand.tmp 94) (Operand.const (Value.bool false)), type := 4, pos := "law.go:78", after := #[{ on := 9, ground := Ground.data }, { on := 22, ground := Ground.data }], guard := none } : Oper)) (v := ?_) rfl (by kernel_rfl) (by kernel_rfl) (by kernel_rfl) (fun _ _ _ h => h) (Or.inl ⟨by kernel_rfl, ?_⟩) (by assumption) ?_
        rotate_left
        · (intro w hSw; (try dsimp only at hSw); go_simp)
          all_goals (with_reducible rfl)
        try simp only [Act.put, List.setIfInBounds_toArray, List.set_cons_zero, List.set_cons_succ]
        refine wpAnyH_take (i := 24) (oi := ({ dst := some 4, op := Op.assign (Operand.tmp 95), type := 4, pos := "law.go:78", after := #[{ on := 23, ground := Ground.data }, { on := 9, ground := Ground.chain }, { on := 0, ground := Ground.phase }, { on := 1, ground := Ground.phase }, { on := 2, ground := Ground.phase }, { on := 3, ground := Ground.phase }, { on := 4, ground := Ground.phase }, { on := 5, ground := Ground.phase }, { on := 6, ground := Ground.phase }, { on := 7, ground := Ground.phase }, { on := 8, ground := Ground.phase }, { on := 9, ground := Ground.phase }, { on := 10, ground := Ground.phase }, { on := 11, ground := Ground.phase }, { on := 12, ground := Ground.phase }, { on := 13, ground := Ground.phase }, { on := 14, ground := Ground.phase }, { on := 15, ground := Ground.phase }, { on := 16, ground := Ground.phase }, { on := 17, ground := Ground.phase }, { on := 18, ground := Ground.phase }, { on := 19, ground := Ground.phase }, { on := 20, ground := Ground.phase }, { on := 21, ground := Ground.phase }, { on := 22, ground := Ground.phase }, { on := 23, ground := Ground.phase }], guard := none } : Oper)) (v := ?_) rfl (by kernel_rfl) (by kernel_rfl) (by kernel_rfl) (fun _ _ _ h => h) (Or.inl ⟨by kernel_rfl, ?_⟩) (by assumption) ?_
        rotate_left
        · (intro w hSw; (try dsimp only at hSw); go_simp)
          all_goals (with_reducible rfl)
        try simp only [Act.put, List.setIfInBounds_toArray, List.set_cons_zero, List.set_cons_succ]
        refine wpAnyH_done (by kernel_rfl) ?_ _
        first | (change KD _ _; refine HKD.out _ _ ?_; go_wp2) | go_wp2
        go_ret
        exact ⟨rfl, G14.out.trans (HZ3.out.mono G14.out.size)⟩
      · have h8' : (x0 != 8) = true := by simpa using h8
        have h8h := Lib.hid h8
        clear h8
        go_wp2_with fail
        rw [← HW14.out]
        clear q0 q1 q2 q3 q4 q5 q6 q7 q8 q9
        generalize z1.heap.size = gn at *
        have HK17 := Lib.hid (fun W' (hb : Below W14.heap.size W14 W') => (show (fun w' => (∀ i, w'.cell? ⟨gn, i, none⟩ = (#[.int .u8 x0, .int .u16 a1, .int .u64 a2, .int .u64 a3, .int .u64 a4, .int .u64 a5, .int .u64 a6, .bool a7, .int .i64 a8, .slice none 0 0] : Array Value)[i]?) ∧ (convert 25 9 (.slice Ar l.length cr)).run Try.prog w' = .ok (.string S1) w') W' from ⟨fun i => (Blk.below BN.out hb BN.out.lt).cell i,
          by rw [HS1.out]; exact row_string (HB14.out.below hb)⟩))
        have HZ2 := Lib.hid ((Below.refl W14.heap.size W14).drew)
        rename_i KD hKD
        have HKD := Lib.hid hKD
        clear hKD
        refine wp_region_held_drew (S := (fun w' => (∀ i, w'.cell? ⟨gn, i, none⟩ = (#[.int .u8 x0, .int .u16 a1, .int .u64 a2, .int .u64 a3, .int .u64 a4, .int .u64 a5, .int .u64 a6, .bool a7, .int .i64 a8, .slice none 0 0] : Array Value)[i]?) ∧ (convert 25 9 (.slice Ar l.length cr)).run Try.prog w' = .ok (.string S1) w')) (by kernel_rfl) ?_ (fun hHeld => ?_)
        · (try dsimp only)
          exact HK17.out _ HZ2.out
        refine wpAnyH_ready (rs := [0]) (by kernel_rfl) (by simp) ?_
        refine AllReadyH.cons (o := ({ dst := some 63, op := Op.call { callee := Callee.value (Operand.func 9), args := #[], argTypes := #[] }, type := 4, pos := "law.go:76", after := #[], guard := none } : Oper)) rfl (fun K hK => ?_) AllReadyH.nil
        go_simp
        refine (known_any _).mono ?_; rintro e z2 ⟨rfl, hb⟩; have HZ3 := Lib.hid (HZ2.out.trans (hb.mono HZ2.out.size)); clear hb; go_wp2_with fail
        refine hK.out _ _ ?_ (fun hHeld => ?_)
        · (try dsimp only)
          first | exact HK17.out _ HZ4.out | exact HK17.out _ HZ3.out
        clear hK K
        try simp only [Act.put, List.setIfInBounds_toArray, List.set_cons_zero, List.set_cons_succ]
        refine wpAnyH_take (i := 1) (oi := ({ dst := some 64, op := Op.move (Operand.tmp 63), type := 4, pos := "law.go:76", after := #[{ on := 0, ground := Ground.data }, { on := 0, ground := Ground.chain }], guard := none } : Oper)) (v := ?_) rfl (by kernel_rfl) (by kernel_rfl) (by kernel_rfl) (fun _ _ _ h => h) (Or.inl ⟨by kernel_rfl, ?_⟩) (by assumption) ?_
        rotate_left
        · (intro w hSw; (try dsimp only at hSw); go_simp)
          all_goals (with_reducible rfl)
        try simp only [Act.put, List.setIfInBounds_toArray, List.set_cons_zero, List.set_cons_succ]
        refine wpAnyH_take (i := 2) (oi := ({ dst := some 65, op := Op.load 27 (Operand.tmp 9), type := 27, pos := "law.go:76", after := #[{ on := 1, ground := Ground.guard }], guard := some (1, true) } : Oper)) (v := ?_) rfl (by kernel_rfl) (by kernel_rfl) (by kernel_rfl) (fun _ _ _ h => h) (Or.inl ⟨by kernel_rfl, ?_⟩) (by assumption) ?_
        rotate_left
        · (intro w hSw; (try dsimp only at hSw); go_simp)
          all_goals (with_reducible rfl)
        try simp only [Act.put, List.setIfInBounds_toArray, List.set_cons_zero, List.set_cons_succ]
        refine wpAnyH_take (i := 5) (oi := ({ dst := some 68, op := Op.move (Operand.tmp 6), type := 25, pos := "law.go:76", after := #[{ on := 1, ground := Ground.guard }], guard := some (1, true) } : Oper)) (v := ?_) rfl (by kernel_rfl) (by kernel_rfl) (by kernel_rfl) (fun _ _ _ h => h) (Or.inl ⟨by kernel_rfl, ?_⟩) (by assumption) ?_
        rotate_left
        · (intro w hSw; (try dsimp only at hSw); go_simp)
          all_goals (with_reducible rfl)
        try simp only [Act.put, List.setIfInBounds_toArray, List.set_cons_zero, List.set_cons_succ]
        refine wpAnyH_take (i := 6) (oi := ({ dst := some 69, op := Op.convert 25 9 (Operand.tmp 68), type := 9, pos := "law.go:76", after := #[{ on := 5, ground := Ground.data }, { on := 1, ground := Ground.guard }], guard := some (1, true) } : Oper)) (v := ?_) rfl (by kernel_rfl) (by kernel_rfl) (by kernel_rfl) (fun _ _ _ h => h) (Or.inl ⟨by kernel_rfl, ?_⟩) (by assumption) ?_
        rotate_left
        · (intro w hSw; (try dsimp only at hSw); go_simp)
          all_goals (with_reducible rfl)
        try simp only [Act.put, List.setIfInBounds_toArray, List.set_cons_zero, List.set_cons_succ]
        refine wpAnyH_ready (rs := [3]) (by kernel_rfl) (by simp) ?_
        refine AllReadyH.cons (o := ({ dst := some 66, op := Op.call { callee := Callee.value (Operand.func 15), args := #[Operand.tmp 65], argTypes := #[27] }, type := 25, pos := "law.go:76", after := #[{ on := 2, ground := Ground.data }, { on := 1, ground := Ground.chain }, { on := 1, ground := Ground.guard }], guard := some (1, true) } : Oper)) rfl (fun K hK => ?_) AllReadyH.nil
        go_simp
        refine (RN.out _ h8h.out).mono ?_; rintro e z3 ⟨Ar3, cr3, rfl, -, hr, hb⟩; have HZ4 := Lib.hid (HZ3.out.trans (hb.mono HZ3.out.size)); have hsr := row_string (c := cr3) hr; rw [← HS1.out] at hsr; clear hr hb; go_wp2_with fail
        refine hK.out _ _ ?_ (fun hHeld => ?_)
        · (try dsimp only)
          first | exact HK17.out _ HZ4.out | exact HK17.out _ HZ3.out
        clear hK K
        try simp only [Act.put, List.setIfInBounds_toArray, List.set_cons_zero, List.set_cons_succ]
        refine wpAnyH_ready (rs := [4]) (by kernel_rfl) (by simp) ?_
        refine AllReadyH.cons (o := ({ dst := some 67, op := Op.convert 25 9 (Operand.tmp 66), type := 9, pos := "law.go:76", after := #[{ on := 3, ground := Ground.data }, { on := 1, ground := Ground.guard }], guard := some (1, true) } : Oper)) rfl (fun K hK => ?_) AllReadyH.nil
        go_simp
        skip
        refine hK.out _ _ ?_ (fun hHeld => ?_)
        · (try dsimp only)
          first | exact HK17.out _ HZ4.out | exact HK17.out _ HZ3.out
        clear hK K
        try simp only [Act.put, List.setIfInBounds_toArray, List.set_cons_zero, List.set_cons_succ]
        refine wpAnyH_take (i := 7) (oi := ({ dst := some 70, op := Op.binOp BinOp.eql 9 (Operand.tmp 67) (Operand.tmp 69) 9, type := 4, pos := "law.go:76", after := #[{ on := 4, ground := Ground.data }, { on := 6, ground := Ground.data }, { on := 1, ground := Ground.guard }], guard := some (1, true) } : Oper)) (v := ?_) rfl (by kernel_rfl) (by kernel_rfl) (by kernel_rfl) (fun _ _ _ h => h) (Or.inl ⟨by kernel_rfl, ?_⟩) (by assumption) ?_
        rotate_left
        · (intro w hSw; (try dsimp only at hSw); go_simp)
          all_goals (with_reducible rfl)
        try simp only [Act.put, List.setIfInBounds_toArray, List.set_cons_zero, List.set_cons_succ]
        refine wpAnyH_take (i := 8) (oi := ({ dst := some 71, op := Op.pick (Operand.tmp 64) (Operand.tmp 70) (Operand.const (Value.bool false)), type := 4, pos := "law.go:76", after := #[{ on := 1, ground := Ground.data }, { on := 7, ground := Ground.data }], guard := none } : Oper)) (v := ?_) rfl (by kernel_rfl) (by kernel_rfl) (by kernel_rfl) (fun _ _ _ h => h) (Or.inl ⟨by kernel_rfl, ?_⟩) (by assumption) ?_
        rotate_left
        · (intro w hSw; (try dsimp only at hSw); go_simp)
          all_goals (with_reducible rfl)
        try simp only [Act.put, List.setIfInBounds_toArray, List.set_cons_zero, List.set_cons_succ]
        refine wpAnyH_take (i := 9) (oi := ({ dst := some 4, op := Op.assign (Operand.tmp 71), type := 4, pos := "law.go:76", after := #[{ on := 8, ground := Ground.data }, { on := 3, ground := Ground.chain }, { on := 0, ground := Ground.phase }, { on := 1, ground := Ground.phase }, { on := 2, ground := Ground.phase }, { on := 3, ground := Ground.phase }, { on := 4, ground := Ground.phase }, { on := 5, ground := Ground.phase }, { on := 6, ground := Ground.phase }, { on := 7, ground := Ground.phase }, { on := 8, ground := Ground.phase }], guard := none } : Oper)) (v := ?_) rfl (by kernel_rfl) (by kernel_rfl) (by kernel_rfl) (fun _ _ _ h => h) (Or.inl ⟨by kernel_rfl, ?_⟩) (by assumption) ?_
        rotate_left
        · (intro w hSw; (try dsimp only at hSw); go_simp)
          all_goals (with_reducible rfl)
        try simp only [Act.put, List.setIfInBounds_toArray, List.set_cons_zero, List.set_cons_succ]
        refine wpAnyH_done (by kernel_rfl) ?_ _
        first | (change KD _ _; refine HKD.out _ _ ?_; go_wp2) | go_wp2
        go_ret
        exact ⟨rfl, G14.out.trans (HZ4.out.mono G14.out.size)⟩

set_option maxHeartbeats 1000000 in
theorem headBody_big (w : World) (a : Ans) (A : Option Addr) (c : Nat) (x : Int) (ha : (a.body.length : Int) ≤ 140737488351232) (hbig : (300 : Int) < (a.body.length : Int)) :
    Calls Try.prog 6 #[ansV a A c, .int .u8 x] w fun e w' => e = .returned (.bool true) ∧ Below w.heap.size w w' := by
  obtain ⟨a0, a1, a2, a3, a4, a5, a6, a7, a8, la⟩ := a
  simp only at hbig ha
  go_enter Try.func6, Try.ntmps6
  go_wp2_with fail
  refine (known_any _).mono ?_
  rintro e wk ⟨rfl, hbk⟩
  go_wp2_with fail
  go_ret
  exact ⟨rfl, ((Below.refl _ _).alloc (Nat.le_refl _) _).trans (hbk.mono (by simp))⟩

theorem headBody_walk (w : World) (a : Ans) (A : Option Addr) (c : Nat) (m : Int) (hFa : Fine a) (hca : a.body.length ≤ c) (hra : Row w w.heap.size A (u8s a.body)) (hm : 0 ≤ m ∧ m ≤ 255) :
    Calls Try.prog 6 #[ansV a A c, .int .u8 m] w fun e w' => e = .returned (.bool true) ∧ Below w.heap.size w w' := by
  have hsa := hFa.2.2.2.2.2.2.2.2
  by_cases hbig : 300 < a.body.length
  · exact headBody_big w a A c m (by omega) (by omega)
  have hFx := coded_fine hFa (x := m % 10) (by omega) (by omega)
  have NX := Lib.hid (fun W => answer_any a A c m hm.1 W)
  generalize m % 10 = x0 at *
  obtain ⟨a0, a1, a2, a3, a4, a5, a6, a7, a8, la⟩ := a
  exact headBody_some w a0 a1 a2 a3 a4 a5 a6 a8 x0 m a7 la A c NX hFx hra (by simp only at hbig; omega)
end Go.Proofs.Ytcgcfgomakaacaa.head
