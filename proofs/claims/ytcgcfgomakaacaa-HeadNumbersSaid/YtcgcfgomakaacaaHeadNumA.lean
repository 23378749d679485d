/- HeadNumbers, walked: the first numbers. -/
import Derived.Test.YtcgcfgomakaacaaHeadLaw
namespace Go.Proofs.Ytcgcfgomakaacaa.head
open Go.RowKit
open Go.Proofs.Ytcgcfgomakaacaa.aid

theorem retry_len (e li le re af na m : Int) (bd : List UInt8) : (render ⟨2, e, li, le, re, af, na, false, m, bd⟩).length < (render ⟨2, e, li, le, re, af, na, true, m, bd⟩).length := by
  have h : 1 ≤ (line nAfter af).length := by simp [line, nAfter]
  rw [render_some (by simp [isCode]), render_some (by simp [isCode])]
  simp [fields, tail]
  omega
theorem bools {l m : List UInt8} (h : l ≠ m) : ((ByteArray.mk l.toArray).toList == (ByteArray.mk m.toArray).toList) = false ∧ (l == m) = false := str_ne h

set_option maxHeartbeats 4000000 in
theorem numbers_0e (w : World) (a0 a1 a2 a3 a4 a5 a6 a8 : Int) (a7 : Bool) (la : List UInt8) (A : Option Addr) (c : Nat) (v : Int) (hr : v % 5 = 0) (hv0 : 0 ≤ v) (hFa : Fine ⟨2, a1, a2, a3, a4, a5, a6, true, a8, la⟩) (hra : Row w w.heap.size A (u8s la)) :
    Calls Try.prog 7 #[.agg #[.int .u8 a0, .int .u16 a1, .int .u64 a2, .int .u64 a3, .int .u64 a4, .int .u64 a5, .int .u64 a6, .bool a7, .int .i64 a8, .slice A la.length c], .int .u8 v, .int .u64 a2] w fun e w' => e = .returned (.bool true) ∧ Below w.heap.size w w' := by
  have hlt := retry_len a1 a2 a3 a4 a5 a6 a8 la
  have RA := Lib.hid (fun W (h : Below w.heap.size w W) => render_any ⟨2, a1, a2, a3, a4, a5, a6, true, a8, la⟩ hFa A c W ((hra.below h).more h.size))
  have RC := Lib.hid (fun W (h : Below w.heap.size w W) => render_any ⟨2, a1, a2, a3, a4, a5, a6, false, a8, la⟩ hFa A c W ((hra.below h).more h.size))
  generalize render ⟨2, a1, a2, a3, a4, a5, a6, true, a8, la⟩ = l at *
  generalize render ⟨2, a1, a2, a3, a4, a5, a6, false, a8, la⟩ = l3 at *
  have hlt2 : (l3.length : Int) < l.length := by omega
  clear hFa hra
  obtain ⟨W, hW⟩ : ∃ W : World, W = (((w.alloc (.cells #[.int .u8 2, .int .u16 a1, .int .u64 a2, .int .u64 a3, .int .u64 a4, .int .u64 a5, .int .u64 a6, .bool true, .int .i64 a8, .slice A la.length c] 27)).alloc (.cells #[.int .u8 2, .int .u16 a1, .int .u64 a2, .int .u64 a3, .int .u64 a4, .int .u64 a5, .int .u64 a6, .bool true, .int .i64 a8, .slice A la.length c] 27)).alloc (.cells #[.int .u8 2, .int .u16 a1, .int .u64 a2, .int .u64 a3, .int .u64 a4, .int .u64 a5, .int .u64 a6, .bool false, .int .i64 a8, .slice A la.length c] 27)) := ⟨_, rfl⟩
  have hxa : Blk W (w.heap.size) 27 #[.int .u8 2, .int .u16 a1, .int .u64 a2, .int .u64 a3, .int .u64 a4, .int .u64 a5, .int .u64 a6, .bool true, .int .i64 a8, .slice A la.length c] := by
    rw [hW]
    have h := (Blk.new w 27 #[.int .u8 2, .int .u16 a1, .int .u64 a2, .int .u64 a3, .int .u64 a4, .int .u64 a5, .int .u64 a6, .bool true, .int .i64 a8, .slice A la.length c]) |>.alloc (.cells #[.int .u8 2, .int .u16 a1, .int .u64 a2, .int .u64 a3, .int .u64 a4, .int .u64 a5, .int .u64 a6, .bool true, .int .i64 a8, .slice A la.length c] 27) |>.alloc (.cells #[.int .u8 2, .int .u16 a1, .int .u64 a2, .int .u64 a3, .int .u64 a4, .int .u64 a5, .int .u64 a6, .bool false, .int .i64 a8, .slice A la.length c] 27)
    exact h
  have hxb : Blk W (w.heap.size + 1) 27 #[.int .u8 2, .int .u16 a1, .int .u64 a2, .int .u64 a3, .int .u64 a4, .int .u64 a5, .int .u64 a6, .bool true, .int .i64 a8, .slice A la.length c] := by
    rw [hW]
    have h := (Blk.new (w.alloc (.cells #[.int .u8 2, .int .u16 a1, .int .u64 a2, .int .u64 a3, .int .u64 a4, .int .u64 a5, .int .u64 a6, .bool true, .int .i64 a8, .slice A la.length c] 27)) 27 #[.int .u8 2, .int .u16 a1, .int .u64 a2, .int .u64 a3, .int .u64 a4, .int .u64 a5, .int .u64 a6, .bool true, .int .i64 a8, .slice A la.length c]) |>.alloc (.cells #[.int .u8 2, .int .u16 a1, .int .u64 a2, .int .u64 a3, .int .u64 a4, .int .u64 a5, .int .u64 a6, .bool false, .int .i64 a8, .slice A la.length c] 27)
    rw [World.size_alloc] at h
    exact h
  have hxc : Blk W (w.heap.size + 1 + 1) 27 #[.int .u8 2, .int .u16 a1, .int .u64 a2, .int .u64 a3, .int .u64 a4, .int .u64 a5, .int .u64 a6, .bool false, .int .i64 a8, .slice A la.length c] := by
    rw [hW]
    have h := (Blk.new ((w.alloc (.cells #[.int .u8 2, .int .u16 a1, .int .u64 a2, .int .u64 a3, .int .u64 a4, .int .u64 a5, .int .u64 a6, .bool true, .int .i64 a8, .slice A la.length c] 27)).alloc (.cells #[.int .u8 2, .int .u16 a1, .int .u64 a2, .int .u64 a3, .int .u64 a4, .int .u64 a5, .int .u64 a6, .bool true, .int .i64 a8, .slice A la.length c] 27)) 27 #[.int .u8 2, .int .u16 a1, .int .u64 a2, .int .u64 a3, .int .u64 a4, .int .u64 a5, .int .u64 a6, .bool false, .int .i64 a8, .slice A la.length c])
    rw [World.size_alloc, World.size_alloc] at h
    exact h
  have hB : Below w.heap.size w W := by
    rw [hW]
    exact (Below.refl w.heap.size w).alloc (Nat.le_refl _) _ |>.alloc (by simp; try omega) _ |>.alloc (by simp; try omega) _
  have Ba_0 := Lib.hid (Blk.drew hxa)
  have ka_0 := fun i => hxa.cell i
  have Bb_0 := Lib.hid (Blk.drew hxb)
  have kb_0 := fun i => hxb.cell i
  have Bc_0 := Lib.hid (Blk.drew hxc)
  have kc_0 := fun i => hxc.cell i
  have G_0 := Lib.hid hB.drew
  have HW := Lib.hid hW
  clear hW hB hxa hxb hxc hlt
  go_enter Try.func7, Try.ntmps7
  go_wp2_with fail
  rw [← HW.out]
  go_region_held (fun w' => (∀ i, w'.cell? ⟨w.heap.size, i, none⟩ = (#[.int .u8 2, .int .u16 a1, .int .u64 a2, .int .u64 a3, .int .u64 a4, .int .u64 a5, .int .u64 a6, .bool true, .int .i64 a8, .slice A la.length c] : Array Value)[i]?) ∧ (∀ i, w'.cell? ⟨w.heap.size + 1, i, none⟩ = (#[.int .u8 2, .int .u16 a1, .int .u64 a2, .int .u64 a3, .int .u64 a4, .int .u64 a5, .int .u64 a6, .bool true, .int .i64 a8, .slice A la.length c] : Array Value)[i]?) ∧ (∀ i, w'.cell? ⟨w.heap.size + 1 + 1, i, none⟩ = (#[.int .u8 2, .int .u16 a1, .int .u64 a2, .int .u64 a3, .int .u64 a4, .int .u64 a5, .int .u64 a6, .bool false, .int .i64 a8, .slice A la.length c] : Array Value)[i]?)) (first | go_keep | exact ⟨‹_›, ‹_›, ‹_›⟩)
    (first
      | ((with_reducible refine (known_any _).mono ?_); rintro e z1 ⟨rfl, hb⟩; have Ba_1 := Lib.hid (Blk.below Ba_0.out hb Ba_0.out.lt); have ka_1 := fun i => Ba_1.out.cell i; have Bb_1 := Lib.hid (Blk.below Bb_0.out hb Bb_0.out.lt); have kb_1 := fun i => Bb_1.out.cell i; have Bc_1 := Lib.hid (Blk.below Bc_0.out hb Bc_0.out.lt); have kc_1 := fun i => Bc_1.out.cell i; have G_1 := Lib.hid (G_0.out.trans (hb.mono G_0.out.size)); clear hb)
      | ((with_reducible refine (RA.out _ G_1.out).mono ?_); rintro e z2 ⟨Ar1, cr1, rfl, -, hr, hb⟩; have Ba_2 := Lib.hid (Blk.below Ba_1.out hb Ba_1.out.lt); have ka_2 := fun i => Ba_2.out.cell i; have Bb_2 := Lib.hid (Blk.below Bb_1.out hb Bb_1.out.lt); have kb_2 := fun i => Bb_2.out.cell i; have Bc_2 := Lib.hid (Blk.below Bc_1.out hb Bc_1.out.lt); have kc_2 := fun i => Bc_2.out.cell i; have G_2 := Lib.hid (G_1.out.trans (hb.mono G_1.out.size)); have r1_2 := Lib.hid hr; have hsr1_2 := row_string (c := cr1) hr; clear hr hb)
      | ((with_reducible refine (RA.out _ G_2.out).mono ?_); rintro e z3 ⟨Ar2, cr2, rfl, -, hr, hb⟩; have Ba_3 := Lib.hid (Blk.below Ba_2.out hb Ba_2.out.lt); have ka_3 := fun i => Ba_3.out.cell i; have Bb_3 := Lib.hid (Blk.below Bb_2.out hb Bb_2.out.lt); have kb_3 := fun i => Bb_3.out.cell i; have Bc_3 := Lib.hid (Blk.below Bc_2.out hb Bc_2.out.lt); have kc_3 := fun i => Bc_3.out.cell i; have G_3 := Lib.hid (G_2.out.trans (hb.mono G_2.out.size)); have r1_3 := Lib.hid ((r1_2.out.below hb).more hb.size); have hsr1_3 := row_string (c := cr1) r1_3.out; have r2_3 := Lib.hid hr; have hsr2_3 := row_string (c := cr2) hr; clear hr hb)
      | ((with_reducible refine (RC.out _ G_3.out).mono ?_); rintro e z4 ⟨Ar3, cr3, rfl, -, hr, hb⟩; have Ba_4 := Lib.hid (Blk.below Ba_3.out hb Ba_3.out.lt); have ka_4 := fun i => Ba_4.out.cell i; have Bb_4 := Lib.hid (Blk.below Bb_3.out hb Bb_3.out.lt); have kb_4 := fun i => Bb_4.out.cell i; have Bc_4 := Lib.hid (Blk.below Bc_3.out hb Bc_3.out.lt); have kc_4 := fun i => Bc_4.out.cell i; have G_4 := Lib.hid (G_3.out.trans (hb.mono G_3.out.size)); have r2_4 := Lib.hid ((r2_3.out.below hb).more hb.size); have hsr2_4 := row_string (c := cr2) r2_4.out; have r3_4 := Lib.hid hr; have hsr3_4 := row_string (c := cr3) hr; clear hr hb)
      | ((with_reducible refine (RA.out _ G_4.out).mono ?_); rintro e z5 ⟨Ar4, cr4, rfl, -, hr, hb⟩; have Ba_5 := Lib.hid (Blk.below Ba_4.out hb Ba_4.out.lt); have ka_5 := fun i => Ba_5.out.cell i; have Bb_5 := Lib.hid (Blk.below Bb_4.out hb Bb_4.out.lt); have kb_5 := fun i => Bb_5.out.cell i; have Bc_5 := Lib.hid (Blk.below Bc_4.out hb Bc_4.out.lt); have kc_5 := fun i => Bc_5.out.cell i; have G_5 := Lib.hid (G_4.out.trans (hb.mono G_4.out.size)); have r3_5 := Lib.hid ((r3_4.out.below hb).more hb.size); have hsr3_5 := row_string (c := cr3) r3_5.out; have r4_5 := Lib.hid hr; have hsr4_5 := row_string (c := cr4) hr; clear hr hb))
  all_goals go_wp2
  all_goals go_ret
  all_goals exact ⟨rfl, G_5.out⟩

set_option maxHeartbeats 4000000 in
theorem numbers_0n (w : World) (a0 a1 a2 a3 a4 a5 a6 a8 : Int) (a7 : Bool) (la : List UInt8) (A : Option Addr) (c : Nat) (v n : Int) (hr : v % 5 = 0) (hv0 : 0 ≤ v) (hFa : Fine ⟨2, a1, a2, a3, a4, a5, a6, true, a8, la⟩) (hra : Row w w.heap.size A (u8s la)) (hn : 0 ≤ n ∧ n ≤ 18446744073709551615) (hne : a2 ≠ n) :
    Calls Try.prog 7 #[.agg #[.int .u8 a0, .int .u16 a1, .int .u64 a2, .int .u64 a3, .int .u64 a4, .int .u64 a5, .int .u64 a6, .bool a7, .int .i64 a8, .slice A la.length c], .int .u8 v, .int .u64 n] w fun e w' => e = .returned (.bool true) ∧ Below w.heap.size w w' := by
  have hlt := retry_len a1 a2 a3 a4 a5 a6 a8 la
  have RA := Lib.hid (fun W (h : Below w.heap.size w W) => render_any ⟨2, a1, a2, a3, a4, a5, a6, true, a8, la⟩ hFa A c W ((hra.below h).more h.size))
  have RC := Lib.hid (fun W (h : Below w.heap.size w W) => render_any ⟨2, a1, a2, a3, a4, a5, a6, false, a8, la⟩ hFa A c W ((hra.below h).more h.size))
  have hFb : Fine ⟨2, a1, n, a3, a4, a5, a6, true, a8, la⟩ := ⟨hFa.1, hFa.2.1, hn, hFa.2.2.2.1, hFa.2.2.2.2.1, hFa.2.2.2.2.2.1, hFa.2.2.2.2.2.2.1, hFa.2.2.2.2.2.2.2⟩
  have RB := Lib.hid (fun W (h : Below w.heap.size w W) => render_any ⟨2, a1, n, a3, a4, a5, a6, true, a8, la⟩ hFb A c W ((hra.below h).more h.size))
  have hl : render ⟨2, a1, a2, a3, a4, a5, a6, true, a8, la⟩ ≠ render ⟨2, a1, n, a3, a4, a5, a6, true, a8, la⟩ := fun h => hne (by
    have h2 := (render_same hFa hFb).1 h
    simpa [clean, zero] using h2)
  obtain ⟨hq1, hq2⟩ := bools hl
  have hff := beq_eq_false_iff_ne.2 hne
  generalize render ⟨2, a1, n, a3, a4, a5, a6, true, a8, la⟩ = l2 at *
  clear hl hFb hn hne
  generalize render ⟨2, a1, a2, a3, a4, a5, a6, true, a8, la⟩ = l at *
  generalize render ⟨2, a1, a2, a3, a4, a5, a6, false, a8, la⟩ = l3 at *
  have hlt2 : (l3.length : Int) < l.length := by omega
  clear hFa hra
  obtain ⟨W, hW⟩ : ∃ W : World, W = (((w.alloc (.cells #[.int .u8 2, .int .u16 a1, .int .u64 a2, .int .u64 a3, .int .u64 a4, .int .u64 a5, .int .u64 a6, .bool true, .int .i64 a8, .slice A la.length c] 27)).alloc (.cells #[.int .u8 2, .int .u16 a1, .int .u64 n, .int .u64 a3, .int .u64 a4, .int .u64 a5, .int .u64 a6, .bool true, .int .i64 a8, .slice A la.length c] 27)).alloc (.cells #[.int .u8 2, .int .u16 a1, .int .u64 a2, .int .u64 a3, .int .u64 a4, .int .u64 a5, .int .u64 a6, .bool false, .int .i64 a8, .slice A la.length c] 27)) := ⟨_, rfl⟩
  have hxa : Blk W (w.heap.size) 27 #[.int .u8 2, .int .u16 a1, .int .u64 a2, .int .u64 a3, .int .u64 a4, .int .u64 a5, .int .u64 a6, .bool true, .int .i64 a8, .slice A la.length c] := by
    rw [hW]
    have h := (Blk.new w 27 #[.int .u8 2, .int .u16 a1, .int .u64 a2, .int .u64 a3, .int .u64 a4, .int .u64 a5, .int .u64 a6, .bool true, .int .i64 a8, .slice A la.length c]) |>.alloc (.cells #[.int .u8 2, .int .u16 a1, .int .u64 n, .int .u64 a3, .int .u64 a4, .int .u64 a5, .int .u64 a6, .bool true, .int .i64 a8, .slice A la.length c] 27) |>.alloc (.cells #[.int .u8 2, .int .u16 a1, .int .u64 a2, .int .u64 a3, .int .u64 a4, .int .u64 a5, .int .u64 a6, .bool false, .int .i64 a8, .slice A la.length c] 27)
    exact h
  have hxb : Blk W (w.heap.size + 1) 27 #[.int .u8 2, .int .u16 a1, .int .u64 n, .int .u64 a3, .int .u64 a4, .int .u64 a5, .int .u64 a6, .bool true, .int .i64 a8, .slice A la.length c] := by
    rw [hW]
    have h := (Blk.new (w.alloc (.cells #[.int .u8 2, .int .u16 a1, .int .u64 a2, .int .u64 a3, .int .u64 a4, .int .u64 a5, .int .u64 a6, .bool true, .int .i64 a8, .slice A la.length c] 27)) 27 #[.int .u8 2, .int .u16 a1, .int .u64 n, .int .u64 a3, .int .u64 a4, .int .u64 a5, .int .u64 a6, .bool true, .int .i64 a8, .slice A la.length c]) |>.alloc (.cells #[.int .u8 2, .int .u16 a1, .int .u64 a2, .int .u64 a3, .int .u64 a4, .int .u64 a5, .int .u64 a6, .bool false, .int .i64 a8, .slice A la.length c] 27)
    rw [World.size_alloc] at h
    exact h
  have hxc : Blk W (w.heap.size + 1 + 1) 27 #[.int .u8 2, .int .u16 a1, .int .u64 a2, .int .u64 a3, .int .u64 a4, .int .u64 a5, .int .u64 a6, .bool false, .int .i64 a8, .slice A la.length c] := by
    rw [hW]
    have h := (Blk.new ((w.alloc (.cells #[.int .u8 2, .int .u16 a1, .int .u64 a2, .int .u64 a3, .int .u64 a4, .int .u64 a5, .int .u64 a6, .bool true, .int .i64 a8, .slice A la.length c] 27)).alloc (.cells #[.int .u8 2, .int .u16 a1, .int .u64 n, .int .u64 a3, .int .u64 a4, .int .u64 a5, .int .u64 a6, .bool true, .int .i64 a8, .slice A la.length c] 27)) 27 #[.int .u8 2, .int .u16 a1, .int .u64 a2, .int .u64 a3, .int .u64 a4, .int .u64 a5, .int .u64 a6, .bool false, .int .i64 a8, .slice A la.length c])
    rw [World.size_alloc, World.size_alloc] at h
    exact h
  have hB : Below w.heap.size w W := by
    rw [hW]
    exact (Below.refl w.heap.size w).alloc (Nat.le_refl _) _ |>.alloc (by simp; try omega) _ |>.alloc (by simp; try omega) _
  have Ba_0 := Lib.hid (Blk.drew hxa)
  have ka_0 := fun i => hxa.cell i
  have Bb_0 := Lib.hid (Blk.drew hxb)
  have kb_0 := fun i => hxb.cell i
  have Bc_0 := Lib.hid (Blk.drew hxc)
  have kc_0 := fun i => hxc.cell i
  have G_0 := Lib.hid hB.drew
  have HW := Lib.hid hW
  clear hW hB hxa hxb hxc hlt
  go_enter Try.func7, Try.ntmps7
  go_wp2_with fail
  rw [← HW.out]
  go_region_held (fun w' => (∀ i, w'.cell? ⟨w.heap.size, i, none⟩ = (#[.int .u8 2, .int .u16 a1, .int .u64 a2, .int .u64 a3, .int .u64 a4, .int .u64 a5, .int .u64 a6, .bool true, .int .i64 a8, .slice A la.length c] : Array Value)[i]?) ∧ (∀ i, w'.cell? ⟨w.heap.size + 1, i, none⟩ = (#[.int .u8 2, .int .u16 a1, .int .u64 n, .int .u64 a3, .int .u64 a4, .int .u64 a5, .int .u64 a6, .bool true, .int .i64 a8, .slice A la.length c] : Array Value)[i]?) ∧ (∀ i, w'.cell? ⟨w.heap.size + 1 + 1, i, none⟩ = (#[.int .u8 2, .int .u16 a1, .int .u64 a2, .int .u64 a3, .int .u64 a4, .int .u64 a5, .int .u64 a6, .bool false, .int .i64 a8, .slice A la.length c] : Array Value)[i]?)) (first | go_keep | exact ⟨‹_›, ‹_›, ‹_›⟩)
    (first
      | ((with_reducible refine (known_any _).mono ?_); rintro e z1 ⟨rfl, hb⟩; have Ba_1 := Lib.hid (Blk.below Ba_0.out hb Ba_0.out.lt); have ka_1 := fun i => Ba_1.out.cell i; have Bb_1 := Lib.hid (Blk.below Bb_0.out hb Bb_0.out.lt); have kb_1 := fun i => Bb_1.out.cell i; have Bc_1 := Lib.hid (Blk.below Bc_0.out hb Bc_0.out.lt); have kc_1 := fun i => Bc_1.out.cell i; have G_1 := Lib.hid (G_0.out.trans (hb.mono G_0.out.size)); clear hb)
      | ((with_reducible refine (RA.out _ G_1.out).mono ?_); rintro e z2 ⟨Ar1, cr1, rfl, -, hr, hb⟩; have Ba_2 := Lib.hid (Blk.below Ba_1.out hb Ba_1.out.lt); have ka_2 := fun i => Ba_2.out.cell i; have Bb_2 := Lib.hid (Blk.below Bb_1.out hb Bb_1.out.lt); have kb_2 := fun i => Bb_2.out.cell i; have Bc_2 := Lib.hid (Blk.below Bc_1.out hb Bc_1.out.lt); have kc_2 := fun i => Bc_2.out.cell i; have G_2 := Lib.hid (G_1.out.trans (hb.mono G_1.out.size)); have r1_2 := Lib.hid hr; have hsr1_2 := row_string (c := cr1) hr; clear hr hb)
      | ((with_reducible refine (RB.out _ G_2.out).mono ?_); rintro e z3 ⟨Ar2, cr2, rfl, -, hr, hb⟩; have Ba_3 := Lib.hid (Blk.below Ba_2.out hb Ba_2.out.lt); have ka_3 := fun i => Ba_3.out.cell i; have Bb_3 := Lib.hid (Blk.below Bb_2.out hb Bb_2.out.lt); have kb_3 := fun i => Bb_3.out.cell i; have Bc_3 := Lib.hid (Blk.below Bc_2.out hb Bc_2.out.lt); have kc_3 := fun i => Bc_3.out.cell i; have G_3 := Lib.hid (G_2.out.trans (hb.mono G_2.out.size)); have r1_3 := Lib.hid ((r1_2.out.below hb).more hb.size); have hsr1_3 := row_string (c := cr1) r1_3.out; have r2_3 := Lib.hid hr; have hsr2_3 := row_string (c := cr2) hr; clear hr hb)
      | ((with_reducible refine (RC.out _ G_3.out).mono ?_); rintro e z4 ⟨Ar3, cr3, rfl, -, hr, hb⟩; have Ba_4 := Lib.hid (Blk.below Ba_3.out hb Ba_3.out.lt); have ka_4 := fun i => Ba_4.out.cell i; have Bb_4 := Lib.hid (Blk.below Bb_3.out hb Bb_3.out.lt); have kb_4 := fun i => Bb_4.out.cell i; have Bc_4 := Lib.hid (Blk.below Bc_3.out hb Bc_3.out.lt); have kc_4 := fun i => Bc_4.out.cell i; have G_4 := Lib.hid (G_3.out.trans (hb.mono G_3.out.size)); have r2_4 := Lib.hid ((r2_3.out.below hb).more hb.size); have hsr2_4 := row_string (c := cr2) r2_4.out; have r3_4 := Lib.hid hr; have hsr3_4 := row_string (c := cr3) hr; clear hr hb)
      | ((with_reducible refine (RA.out _ G_4.out).mono ?_); rintro e z5 ⟨Ar4, cr4, rfl, -, hr, hb⟩; have Ba_5 := Lib.hid (Blk.below Ba_4.out hb Ba_4.out.lt); have ka_5 := fun i => Ba_5.out.cell i; have Bb_5 := Lib.hid (Blk.below Bb_4.out hb Bb_4.out.lt); have kb_5 := fun i => Bb_5.out.cell i; have Bc_5 := Lib.hid (Blk.below Bc_4.out hb Bc_4.out.lt); have kc_5 := fun i => Bc_5.out.cell i; have G_5 := Lib.hid (G_4.out.trans (hb.mono G_4.out.size)); have r3_5 := Lib.hid ((r3_4.out.below hb).more hb.size); have hsr3_5 := row_string (c := cr3) r3_5.out; have r4_5 := Lib.hid hr; have hsr4_5 := row_string (c := cr4) hr; clear hr hb))
  all_goals go_wp2
  all_goals go_ret
  all_goals exact ⟨rfl, G_5.out⟩

set_option maxHeartbeats 4000000 in
theorem numbers_1e (w : World) (a0 a1 a2 a3 a4 a5 a6 a8 : Int) (a7 : Bool) (la : List UInt8) (A : Option Addr) (c : Nat) (v : Int) (hr : v % 5 = 1) (hv0 : 0 ≤ v) (hFa : Fine ⟨2, a1, a2, a3, a4, a5, a6, true, a8, la⟩) (hra : Row w w.heap.size A (u8s la)) :
    Calls Try.prog 7 #[.agg #[.int .u8 a0, .int .u16 a1, .int .u64 a2, .int .u64 a3, .int .u64 a4, .int .u64 a5, .int .u64 a6, .bool a7, .int .i64 a8, .slice A la.length c], .int .u8 v, .int .u64 a3] w fun e w' => e = .returned (.bool true) ∧ Below w.heap.size w w' := by
  have hlt := retry_len a1 a2 a3 a4 a5 a6 a8 la
  have RA := Lib.hid (fun W (h : Below w.heap.size w W) => render_any ⟨2, a1, a2, a3, a4, a5, a6, true, a8, la⟩ hFa A c W ((hra.below h).more h.size))
  have RC := Lib.hid (fun W (h : Below w.heap.size w W) => render_any ⟨2, a1, a2, a3, a4, a5, a6, false, a8, la⟩ hFa A c W ((hra.below h).more h.size))
  generalize render ⟨2, a1, a2, a3, a4, a5, a6, true, a8, la⟩ = l at *
  generalize render ⟨2, a1, a2, a3, a4, a5, a6, false, a8, la⟩ = l3 at *
  have hlt2 : (l3.length : Int) < l.length := by omega
  clear hFa hra
  obtain ⟨W, hW⟩ : ∃ W : World, W = (((w.alloc (.cells #[.int .u8 2, .int .u16 a1, .int .u64 a2, .int .u64 a3, .int .u64 a4, .int .u64 a5, .int .u64 a6, .bool true, .int .i64 a8, .slice A la.length c] 27)).alloc (.cells #[.int .u8 2, .int .u16 a1, .int .u64 a2, .int .u64 a3, .int .u64 a4, .int .u64 a5, .int .u64 a6, .bool true, .int .i64 a8, .slice A la.length c] 27)).alloc (.cells #[.int .u8 2, .int .u16 a1, .int .u64 a2, .int .u64 a3, .int .u64 a4, .int .u64 a5, .int .u64 a6, .bool false, .int .i64 a8, .slice A la.length c] 27)) := ⟨_, rfl⟩
  have hxa : Blk W (w.heap.size) 27 #[.int .u8 2, .int .u16 a1, .int .u64 a2, .int .u64 a3, .int .u64 a4, .int .u64 a5, .int .u64 a6, .bool true, .int .i64 a8, .slice A la.length c] := by
    rw [hW]
    have h := (Blk.new w 27 #[.int .u8 2, .int .u16 a1, .int .u64 a2, .int .u64 a3, .int .u64 a4, .int .u64 a5, .int .u64 a6, .bool true, .int .i64 a8, .slice A la.length c]) |>.alloc (.cells #[.int .u8 2, .int .u16 a1, .int .u64 a2, .int .u64 a3, .int .u64 a4, .int .u64 a5, .int .u64 a6, .bool true, .int .i64 a8, .slice A la.length c] 27) |>.alloc (.cells #[.int .u8 2, .int .u16 a1, .int .u64 a2, .int .u64 a3, .int .u64 a4, .int .u64 a5, .int .u64 a6, .bool false, .int .i64 a8, .slice A la.length c] 27)
    exact h
  have hxb : Blk W (w.heap.size + 1) 27 #[.int .u8 2, .int .u16 a1, .int .u64 a2, .int .u64 a3, .int .u64 a4, .int .u64 a5, .int .u64 a6, .bool true, .int .i64 a8, .slice A la.length c] := by
    rw [hW]
    have h := (Blk.new (w.alloc (.cells #[.int .u8 2, .int .u16 a1, .int .u64 a2, .int .u64 a3, .int .u64 a4, .int .u64 a5, .int .u64 a6, .bool true, .int .i64 a8, .slice A la.length c] 27)) 27 #[.int .u8 2, .int .u16 a1, .int .u64 a2, .int .u64 a3, .int .u64 a4, .int .u64 a5, .int .u64 a6, .bool true, .int .i64 a8, .slice A la.length c]) |>.alloc (.cells #[.int .u8 2, .int .u16 a1, .int .u64 a2, .int .u64 a3, .int .u64 a4, .int .u64 a5, .int .u64 a6, .bool false, .int .i64 a8, .slice A la.length c] 27)
    rw [World.size_alloc] at h
    exact h
  have hxc : Blk W (w.heap.size + 1 + 1) 27 #[.int .u8 2, .int .u16 a1, .int .u64 a2, .int .u64 a3, .int .u64 a4, .int .u64 a5, .int .u64 a6, .bool false, .int .i64 a8, .slice A la.length c] := by
    rw [hW]
    have h := (Blk.new ((w.alloc (.cells #[.int .u8 2, .int .u16 a1, .int .u64 a2, .int .u64 a3, .int .u64 a4, .int .u64 a5, .int .u64 a6, .bool true, .int .i64 a8, .slice A la.length c] 27)).alloc (.cells #[.int .u8 2, .int .u16 a1, .int .u64 a2, .int .u64 a3, .int .u64 a4, .int .u64 a5, .int .u64 a6, .bool true, .int .i64 a8, .slice A la.length c] 27)) 27 #[.int .u8 2, .int .u16 a1, .int .u64 a2, .int .u64 a3, .int .u64 a4, .int .u64 a5, .int .u64 a6, .bool false, .int .i64 a8, .slice A la.length c])
    rw [World.size_alloc, World.size_alloc] at h
    exact h
  have hB : Below w.heap.size w W := by
    rw [hW]
    exact (Below.refl w.heap.size w).alloc (Nat.le_refl _) _ |>.alloc (by simp; try omega) _ |>.alloc (by simp; try omega) _
  have Ba_0 := Lib.hid (Blk.drew hxa)
  have ka_0 := fun i => hxa.cell i
  have Bb_0 := Lib.hid (Blk.drew hxb)
  have kb_0 := fun i => hxb.cell i
  have Bc_0 := Lib.hid (Blk.drew hxc)
  have kc_0 := fun i => hxc.cell i
  have G_0 := Lib.hid hB.drew
  have HW := Lib.hid hW
  clear hW hB hxa hxb hxc hlt
  go_enter Try.func7, Try.ntmps7
  go_wp2_with fail
  rw [← HW.out]
  go_region_held (fun w' => (∀ i, w'.cell? ⟨w.heap.size, i, none⟩ = (#[.int .u8 2, .int .u16 a1, .int .u64 a2, .int .u64 a3, .int .u64 a4, .int .u64 a5, .int .u64 a6, .bool true, .int .i64 a8, .slice A la.length c] : Array Value)[i]?) ∧ (∀ i, w'.cell? ⟨w.heap.size + 1, i, none⟩ = (#[.int .u8 2, .int .u16 a1, .int .u64 a2, .int .u64 a3, .int .u64 a4, .int .u64 a5, .int .u64 a6, .bool true, .int .i64 a8, .slice A la.length c] : Array Value)[i]?) ∧ (∀ i, w'.cell? ⟨w.heap.size + 1 + 1, i, none⟩ = (#[.int .u8 2, .int .u16 a1, .int .u64 a2, .int .u64 a3, .int .u64 a4, .int .u64 a5, .int .u64 a6, .bool false, .int .i64 a8, .slice A la.length c] : Array Value)[i]?)) (first | go_keep | exact ⟨‹_›, ‹_›, ‹_›⟩)
    (first
      | ((with_reducible refine (known_any _).mono ?_); rintro e z1 ⟨rfl, hb⟩; have Ba_1 := Lib.hid (Blk.below Ba_0.out hb Ba_0.out.lt); have ka_1 := fun i => Ba_1.out.cell i; have Bb_1 := Lib.hid (Blk.below Bb_0.out hb Bb_0.out.lt); have kb_1 := fun i => Bb_1.out.cell i; have Bc_1 := Lib.hid (Blk.below Bc_0.out hb Bc_0.out.lt); have kc_1 := fun i => Bc_1.out.cell i; have G_1 := Lib.hid (G_0.out.trans (hb.mono G_0.out.size)); clear hb)
      | ((with_reducible refine (RA.out _ G_1.out).mono ?_); rintro e z2 ⟨Ar1, cr1, rfl, -, hr, hb⟩; have Ba_2 := Lib.hid (Blk.below Ba_1.out hb Ba_1.out.lt); have ka_2 := fun i => Ba_2.out.cell i; have Bb_2 := Lib.hid (Blk.below Bb_1.out hb Bb_1.out.lt); have kb_2 := fun i => Bb_2.out.cell i; have Bc_2 := Lib.hid (Blk.below Bc_1.out hb Bc_1.out.lt); have kc_2 := fun i => Bc_2.out.cell i; have G_2 := Lib.hid (G_1.out.trans (hb.mono G_1.out.size)); have r1_2 := Lib.hid hr; have hsr1_2 := row_string (c := cr1) hr; clear hr hb)
      | ((with_reducible refine (RA.out _ G_2.out).mono ?_); rintro e z3 ⟨Ar2, cr2, rfl, -, hr, hb⟩; have Ba_3 := Lib.hid (Blk.below Ba_2.out hb Ba_2.out.lt); have ka_3 := fun i => Ba_3.out.cell i; have Bb_3 := Lib.hid (Blk.below Bb_2.out hb Bb_2.out.lt); have kb_3 := fun i => Bb_3.out.cell i; have Bc_3 := Lib.hid (Blk.below Bc_2.out hb Bc_2.out.lt); have kc_3 := fun i => Bc_3.out.cell i; have G_3 := Lib.hid (G_2.out.trans (hb.mono G_2.out.size)); have r1_3 := Lib.hid ((r1_2.out.below hb).more hb.size); have hsr1_3 := row_string (c := cr1) r1_3.out; have r2_3 := Lib.hid hr; have hsr2_3 := row_string (c := cr2) hr; clear hr hb)
      | ((with_reducible refine (RC.out _ G_3.out).mono ?_); rintro e z4 ⟨Ar3, cr3, rfl, -, hr, hb⟩; have Ba_4 := Lib.hid (Blk.below Ba_3.out hb Ba_3.out.lt); have ka_4 := fun i => Ba_4.out.cell i; have Bb_4 := Lib.hid (Blk.below Bb_3.out hb Bb_3.out.lt); have kb_4 := fun i => Bb_4.out.cell i; have Bc_4 := Lib.hid (Blk.below Bc_3.out hb Bc_3.out.lt); have kc_4 := fun i => Bc_4.out.cell i; have G_4 := Lib.hid (G_3.out.trans (hb.mono G_3.out.size)); have r2_4 := Lib.hid ((r2_3.out.below hb).more hb.size); have hsr2_4 := row_string (c := cr2) r2_4.out; have r3_4 := Lib.hid hr; have hsr3_4 := row_string (c := cr3) hr; clear hr hb)
      | ((with_reducible refine (RA.out _ G_4.out).mono ?_); rintro e z5 ⟨Ar4, cr4, rfl, -, hr, hb⟩; have Ba_5 := Lib.hid (Blk.below Ba_4.out hb Ba_4.out.lt); have ka_5 := fun i => Ba_5.out.cell i; have Bb_5 := Lib.hid (Blk.below Bb_4.out hb Bb_4.out.lt); have kb_5 := fun i => Bb_5.out.cell i; have Bc_5 := Lib.hid (Blk.below Bc_4.out hb Bc_4.out.lt); have kc_5 := fun i => Bc_5.out.cell i; have G_5 := Lib.hid (G_4.out.trans (hb.mono G_4.out.size)); have r3_5 := Lib.hid ((r3_4.out.below hb).more hb.size); have hsr3_5 := row_string (c := cr3) r3_5.out; have r4_5 := Lib.hid hr; have hsr4_5 := row_string (c := cr4) hr; clear hr hb))
  all_goals go_wp2
  all_goals go_ret
  all_goals exact ⟨rfl, G_5.out⟩

set_option maxHeartbeats 4000000 in
theorem numbers_1n (w : World) (a0 a1 a2 a3 a4 a5 a6 a8 : Int) (a7 : Bool) (la : List UInt8) (A : Option Addr) (c : Nat) (v n : Int) (hr : v % 5 = 1) (hv0 : 0 ≤ v) (hFa : Fine ⟨2, a1, a2, a3, a4, a5, a6, true, a8, la⟩) (hra : Row w w.heap.size A (u8s la)) (hn : 0 ≤ n ∧ n ≤ 18446744073709551615) (hne : a3 ≠ n) :
    Calls Try.prog 7 #[.agg #[.int .u8 a0, .int .u16 a1, .int .u64 a2, .int .u64 a3, .int .u64 a4, .int .u64 a5, .int .u64 a6, .bool a7, .int .i64 a8, .slice A la.length c], .int .u8 v, .int .u64 n] w fun e w' => e = .returned (.bool true) ∧ Below w.heap.size w w' := by
  have hlt := retry_len a1 a2 a3 a4 a5 a6 a8 la
  have RA := Lib.hid (fun W (h : Below w.heap.size w W) => render_any ⟨2, a1, a2, a3, a4, a5, a6, true, a8, la⟩ hFa A c W ((hra.below h).more h.size))
  have RC := Lib.hid (fun W (h : Below w.heap.size w W) => render_any ⟨2, a1, a2, a3, a4, a5, a6, false, a8, la⟩ hFa A c W ((hra.below h).more h.size))
  have hFb : Fine ⟨2, a1, a2, n, a4, a5, a6, true, a8, la⟩ := ⟨hFa.1, hFa.2.1, hFa.2.2.1, hn, hFa.2.2.2.2.1, hFa.2.2.2.2.2.1, hFa.2.2.2.2.2.2.1, hFa.2.2.2.2.2.2.2⟩
  have RB := Lib.hid (fun W (h : Below w.heap.size w W) => render_any ⟨2, a1, a2, n, a4, a5, a6, true, a8, la⟩ hFb A c W ((hra.below h).more h.size))
  have hl : render ⟨2, a1, a2, a3, a4, a5, a6, true, a8, la⟩ ≠ render ⟨2, a1, a2, n, a4, a5, a6, true, a8, la⟩ := fun h => hne (by
    have h2 := (render_same hFa hFb).1 h
    simpa [clean, zero] using h2)
  obtain ⟨hq1, hq2⟩ := bools hl
  have hff := beq_eq_false_iff_ne.2 hne
  generalize render ⟨2, a1, a2, n, a4, a5, a6, true, a8, la⟩ = l2 at *
  clear hl hFb hn hne
  generalize render ⟨2, a1, a2, a3, a4, a5, a6, true, a8, la⟩ = l at *
  generalize render ⟨2, a1, a2, a3, a4, a5, a6, false, a8, la⟩ = l3 at *
  have hlt2 : (l3.length : Int) < l.length := by omega
  clear hFa hra
  obtain ⟨W, hW⟩ : ∃ W : World, W = (((w.alloc (.cells #[.int .u8 2, .int .u16 a1, .int .u64 a2, .int .u64 a3, .int .u64 a4, .int .u64 a5, .int .u64 a6, .bool true, .int .i64 a8, .slice A la.length c] 27)).alloc (.cells #[.int .u8 2, .int .u16 a1, .int .u64 a2, .int .u64 n, .int .u64 a4, .int .u64 a5, .int .u64 a6, .bool true, .int .i64 a8, .slice A la.length c] 27)).alloc (.cells #[.int .u8 2, .int .u16 a1, .int .u64 a2, .int .u64 a3, .int .u64 a4, .int .u64 a5, .int .u64 a6, .bool false, .int .i64 a8, .slice A la.length c] 27)) := ⟨_, rfl⟩
  have hxa : Blk W (w.heap.size) 27 #[.int .u8 2, .int .u16 a1, .int .u64 a2, .int .u64 a3, .int .u64 a4, .int .u64 a5, .int .u64 a6, .bool true, .int .i64 a8, .slice A la.length c] := by
    rw [hW]
    have h := (Blk.new w 27 #[.int .u8 2, .int .u16 a1, .int .u64 a2, .int .u64 a3, .int .u64 a4, .int .u64 a5, .int .u64 a6, .bool true, .int .i64 a8, .slice A la.length c]) |>.alloc (.cells #[.int .u8 2, .int .u16 a1, .int .u64 a2, .int .u64 n, .int .u64 a4, .int .u64 a5, .int .u64 a6, .bool true, .int .i64 a8, .slice A la.length c] 27) |>.alloc (.cells #[.int .u8 2, .int .u16 a1, .int .u64 a2, .int .u64 a3, .int .u64 a4, .int .u64 a5, .int .u64 a6, .bool false, .int .i64 a8, .slice A la.length c] 27)
    exact h
  have hxb : Blk W (w.heap.size + 1) 27 #[.int .u8 2, .int .u16 a1, .int .u64 a2, .int .u64 n, .int .u64 a4, .int .u64 a5, .int .u64 a6, .bool true, .int .i64 a8, .slice A la.length c] := by
    rw [hW]
    have h := (Blk.new (w.alloc (.cells #[.int .u8 2, .int .u16 a1, .int .u64 a2, .int .u64 a3, .int .u64 a4, .int .u64 a5, .int .u64 a6, .bool true, .int .i64 a8, .slice A la.length c] 27)) 27 #[.int .u8 2, .int .u16 a1, .int .u64 a2, .int .u64 n, .int .u64 a4, .int .u64 a5, .int .u64 a6, .bool true, .int .i64 a8, .slice A la.length c]) |>.alloc (.cells #[.int .u8 2, .int .u16 a1, .int .u64 a2, .int .u64 a3, .int .u64 a4, .int .u64 a5, .int .u64 a6, .bool false, .int .i64 a8, .slice A la.length c] 27)
    rw [World.size_alloc] at h
    exact h
  have hxc : Blk W (w.heap.size + 1 + 1) 27 #[.int .u8 2, .int .u16 a1, .int .u64 a2, .int .u64 a3, .int .u64 a4, .int .u64 a5, .int .u64 a6, .bool false, .int .i64 a8, .slice A la.length c] := by
    rw [hW]
    have h := (Blk.new ((w.alloc (.cells #[.int .u8 2, .int .u16 a1, .int .u64 a2, .int .u64 a3, .int .u64 a4, .int .u64 a5, .int .u64 a6, .bool true, .int .i64 a8, .slice A la.length c] 27)).alloc (.cells #[.int .u8 2, .int .u16 a1, .int .u64 a2, .int .u64 n, .int .u64 a4, .int .u64 a5, .int .u64 a6, .bool true, .int .i64 a8, .slice A la.length c] 27)) 27 #[.int .u8 2, .int .u16 a1, .int .u64 a2, .int .u64 a3, .int .u64 a4, .int .u64 a5, .int .u64 a6, .bool false, .int .i64 a8, .slice A la.length c])
    rw [World.size_alloc, World.size_alloc] at h
    exact h
  have hB : Below w.heap.size w W := by
    rw [hW]
    exact (Below.refl w.heap.size w).alloc (Nat.le_refl _) _ |>.alloc (by simp; try omega) _ |>.alloc (by simp; try omega) _
  have Ba_0 := Lib.hid (Blk.drew hxa)
  have ka_0 := fun i => hxa.cell i
  have Bb_0 := Lib.hid (Blk.drew hxb)
  have kb_0 := fun i => hxb.cell i
  have Bc_0 := Lib.hid (Blk.drew hxc)
  have kc_0 := fun i => hxc.cell i
  have G_0 := Lib.hid hB.drew
  have HW := Lib.hid hW
  clear hW hB hxa hxb hxc hlt
  go_enter Try.func7, Try.ntmps7
  go_wp2_with fail
  rw [← HW.out]
  go_region_held (fun w' => (∀ i, w'.cell? ⟨w.heap.size, i, none⟩ = (#[.int .u8 2, .int .u16 a1, .int .u64 a2, .int .u64 a3, .int .u64 a4, .int .u64 a5, .int .u64 a6, .bool true, .int .i64 a8, .slice A la.length c] : Array Value)[i]?) ∧ (∀ i, w'.cell? ⟨w.heap.size + 1, i, none⟩ = (#[.int .u8 2, .int .u16 a1, .int .u64 a2, .int .u64 n, .int .u64 a4, .int .u64 a5, .int .u64 a6, .bool true, .int .i64 a8, .slice A la.length c] : Array Value)[i]?) ∧ (∀ i, w'.cell? ⟨w.heap.size + 1 + 1, i, none⟩ = (#[.int .u8 2, .int .u16 a1, .int .u64 a2, .int .u64 a3, .int .u64 a4, .int .u64 a5, .int .u64 a6, .bool false, .int .i64 a8, .slice A la.length c] : Array Value)[i]?)) (first | go_keep | exact ⟨‹_›, ‹_›, ‹_›⟩)
    (first
      | ((with_reducible refine (known_any _).mono ?_); rintro e z1 ⟨rfl, hb⟩; have Ba_1 := Lib.hid (Blk.below Ba_0.out hb Ba_0.out.lt); have ka_1 := fun i => Ba_1.out.cell i; have Bb_1 := Lib.hid (Blk.below Bb_0.out hb Bb_0.out.lt); have kb_1 := fun i => Bb_1.out.cell i; have Bc_1 := Lib.hid (Blk.below Bc_0.out hb Bc_0.out.lt); have kc_1 := fun i => Bc_1.out.cell i; have G_1 := Lib.hid (G_0.out.trans (hb.mono G_0.out.size)); clear hb)
      | ((with_reducible refine (RA.out _ G_1.out).mono ?_); rintro e z2 ⟨Ar1, cr1, rfl, -, hr, hb⟩; have Ba_2 := Lib.hid (Blk.below Ba_1.out hb Ba_1.out.lt); have ka_2 := fun i => Ba_2.out.cell i; have Bb_2 := Lib.hid (Blk.below Bb_1.out hb Bb_1.out.lt); have kb_2 := fun i => Bb_2.out.cell i; have Bc_2 := Lib.hid (Blk.below Bc_1.out hb Bc_1.out.lt); have kc_2 := fun i => Bc_2.out.cell i; have G_2 := Lib.hid (G_1.out.trans (hb.mono G_1.out.size)); have r1_2 := Lib.hid hr; have hsr1_2 := row_string (c := cr1) hr; clear hr hb)
      | ((with_reducible refine (RB.out _ G_2.out).mono ?_); rintro e z3 ⟨Ar2, cr2, rfl, -, hr, hb⟩; have Ba_3 := Lib.hid (Blk.below Ba_2.out hb Ba_2.out.lt); have ka_3 := fun i => Ba_3.out.cell i; have Bb_3 := Lib.hid (Blk.below Bb_2.out hb Bb_2.out.lt); have kb_3 := fun i => Bb_3.out.cell i; have Bc_3 := Lib.hid (Blk.below Bc_2.out hb Bc_2.out.lt); have kc_3 := fun i => Bc_3.out.cell i; have G_3 := Lib.hid (G_2.out.trans (hb.mono G_2.out.size)); have r1_3 := Lib.hid ((r1_2.out.below hb).more hb.size); have hsr1_3 := row_string (c := cr1) r1_3.out; have r2_3 := Lib.hid hr; have hsr2_3 := row_string (c := cr2) hr; clear hr hb)
      | ((with_reducible refine (RC.out _ G_3.out).mono ?_); rintro e z4 ⟨Ar3, cr3, rfl, -, hr, hb⟩; have Ba_4 := Lib.hid (Blk.below Ba_3.out hb Ba_3.out.lt); have ka_4 := fun i => Ba_4.out.cell i; have Bb_4 := Lib.hid (Blk.below Bb_3.out hb Bb_3.out.lt); have kb_4 := fun i => Bb_4.out.cell i; have Bc_4 := Lib.hid (Blk.below Bc_3.out hb Bc_3.out.lt); have kc_4 := fun i => Bc_4.out.cell i; have G_4 := Lib.hid (G_3.out.trans (hb.mono G_3.out.size)); have r2_4 := Lib.hid ((r2_3.out.below hb).more hb.size); have hsr2_4 := row_string (c := cr2) r2_4.out; have r3_4 := Lib.hid hr; have hsr3_4 := row_string (c := cr3) hr; clear hr hb)
      | ((with_reducible refine (RA.out _ G_4.out).mono ?_); rintro e z5 ⟨Ar4, cr4, rfl, -, hr, hb⟩; have Ba_5 := Lib.hid (Blk.below Ba_4.out hb Ba_4.out.lt); have ka_5 := fun i => Ba_5.out.cell i; have Bb_5 := Lib.hid (Blk.below Bb_4.out hb Bb_4.out.lt); have kb_5 := fun i => Bb_5.out.cell i; have Bc_5 := Lib.hid (Blk.below Bc_4.out hb Bc_4.out.lt); have kc_5 := fun i => Bc_5.out.cell i; have G_5 := Lib.hid (G_4.out.trans (hb.mono G_4.out.size)); have r3_5 := Lib.hid ((r3_4.out.below hb).more hb.size); have hsr3_5 := row_string (c := cr3) r3_5.out; have r4_5 := Lib.hid hr; have hsr4_5 := row_string (c := cr4) hr; clear hr hb))
  all_goals go_wp2
  all_goals go_ret
  all_goals exact ⟨rfl, G_5.out⟩

end Go.Proofs.Ytcgcfgomakaacaa.head
