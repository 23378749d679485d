/- HeadClean, walked. -/
import Derived.Test.YtcgcfgomakaacaaHeadLaw
namespace Go.Proofs.Ytcgcfgomakaacaa.head
open Go.RowKit
open Go.Proofs.Ytcgcfgomakaacaa.aid

abbrev boxD (a : Ans) (A : Option Addr) (c : Nat) : Array Value := #[.int .u8 a.code, .int .u16 a.err, .int .u64 a.limit, .int .u64 a.left, .int .u64 a.reset, .int .u64 a.after, .int .u64 a.nanos, .bool a.retry, .int .i64 a.many, .slice A a.body.length c]

set_option maxHeartbeats 1000000 in
theorem headClean_big (w : World) (a : Ans) (A : Option Addr) (c : Nat) (b : Ans) (B : Option Addr) (d : Nat) (x : Int) (ha : (a.body.length : Int) ≤ 140737488351232) (hb : (b.body.length : Int) ≤ 140737488351232) (hbig : (300 : Int) < (a.body.length : Int) + b.body.length) :
    Calls Try.prog 4 #[ansV a A c, ansV b B d, .int .u8 x] w fun e w' => e = .returned (.bool true) ∧ Below w.heap.size w w' := by
  obtain ⟨a0, a1, a2, a3, a4, a5, a6, a7, a8, la⟩ := a
  obtain ⟨b0, b1, b2, b3, b4, b5, b6, b7, b8, lb⟩ := b
  simp only at hbig ha hb
  go_enter Try.func4, Try.ntmps4
  go_wp2_with fail
  refine (known_any _).mono ?_
  rintro e wk ⟨rfl, hbk⟩
  go_wp2_with fail
  go_ret
  exact ⟨rfl, (((Below.refl _ _).alloc (Nat.le_refl _) _).alloc (by simp) _).trans (hbk.mono (by simp; omega))⟩

/-- what is told of two: the same, or not -/
theorem two_cases {x y : Ans} (hx : Fine x) (hy : Fine y) : (render x = render y ∧ clean x = clean y) ∨ (render x ≠ render y ∧ clean x ≠ clean y) := by
  by_cases h : render x = render y
  · exact .inl ⟨h, (render_same hx hy).1 h⟩
  · exact .inr ⟨h, fun e => h ((render_same hx hy).2 e)⟩
/-- whether two lists are the same, in the walk's own words -/
theorem str_eq (l m : List UInt8) : ((ByteArray.mk l.toArray).toList == (ByteArray.mk m.toArray).toList) = (l == m) := by
  rw [ByteArray.toList_eq, ByteArray.toList_eq]

set_option maxHeartbeats 4000000 in
theorem headClean_walk (w : World) (a : Ans) (A : Option Addr) (c : Nat) (b : Ans) (B : Option Addr) (d : Nat) (v : Int) (hFa : Fine a) (hca : a.body.length ≤ c) (hra : Row w w.heap.size A (u8s a.body)) (hFb : Fine b) (hcb : b.body.length ≤ d) (hrb : Row w w.heap.size B (u8s b.body)) (hv : 0 ≤ v ∧ v ≤ 255) :
    Calls Try.prog 4 #[ansV a A c, ansV b B d, .int .u8 v] w fun e w' => e = .returned (.bool true) ∧ Below w.heap.size w w' := by
  have hsa := hFa.2.2.2.2.2.2.2.2
  have hsb := hFb.2.2.2.2.2.2.2.2
  by_cases hbig : 300 < a.body.length + b.body.length
  · exact headClean_big w a A c b B d v (by omega) (by omega) (by omega)
  have hs : (a.body.length : Int) + b.body.length ≤ 300 := by omega
  have hs1 : (a.body.length : Int) ≤ 300 := by omega
  have hs2 : (b.body.length : Int) ≤ 300 := by omega
  clear hbig hsa hsb
  obtain ⟨hv0, hv1⟩ := hv
  have hFx := coded_fine hFa (x := v % 10) (by omega) (by omega)
  have hFy := coded_fine hFb (x := v % 10) (by omega) (by omega)
  have NX := Lib.hid (fun W => answer_any a A c v hv0 W)
  have NY := Lib.hid (fun W => answer_any b B d v hv0 W)
  have hrx : Row w w.heap.size A (u8s (coded a (v % 10)).body) := hra
  have hry : Row w w.heap.size B (u8s (coded b (v % 10)).body) := hrb
  generalize coded a (v % 10) = x at *
  generalize coded b (v % 10) = y at *
  have RX := Lib.hid (fun W (h : Below w.heap.size w W) => render_any x hFx A c W ((hrx.below h).more h.size))
  have RY := Lib.hid (fun W (h : Below w.heap.size w W) => render_any y hFy B d W ((hry.below h).more h.size))
  have CX := Lib.hid (fun W (h : Below w.heap.size w W) => clean_any x hFx.2.2.2.2.2.2.2.2 A c W ((hrx.below h).more h.size))
  have CY := Lib.hid (fun W (h : Below w.heap.size w W) => clean_any y hFy.2.2.2.2.2.2.2.2 B d W ((hry.below h).more h.size))
  have hcc := clean_clean x
  have hrc := render_clean x
  have hFk := clean_fine hFx
  have htwo := two_cases hFx hFy
  generalize clean x = k at *
  generalize clean y = m at *
  have RK := Lib.hid (fun A c W => render_any k hFk A c W)
  have CK := Lib.hid (fun A c W => clean_any k hFk.2.2.2.2.2.2.2.2 A c W)
  rw [hrc] at RK
  rw [hcc] at CK
  generalize render x = l at *
  generalize render y = l2 at *
  have AK := Lib.hid (fun A B c d W => answers_same k A B c d W)
  obtain ⟨q, hq1, AM⟩ : ∃ q : Bool, (l == l2) = q ∧ Hid (∀ A B c d W, Row W W.heap.size A (u8s k.body) → Row W W.heap.size B (u8s m.body) → Calls Try.prog 16 #[ansV k A c, ansV m B d] W fun e w' => e = .returned (.bool q) ∧ Below W.heap.size W w') := by
    rcases htwo with ⟨h1, h2⟩ | ⟨h1, h2⟩
    · subst h1
      subst h2
      exact ⟨true, by simp, Lib.hid (fun A B c d W ha hb => answers_same k A B c d W ha hb)⟩
    · exact ⟨false, beq_eq_false_iff_ne.2 h1, Lib.hid (fun A B c d W ha hb => answers_ne k m h2 A B c d W ha hb)⟩
  have hq2 := (str_eq l l2).trans hq1
  clear htwo hcc hrc hFx hFy hFk hra hrb hrx hry hFa hFb hca hcb
  have HB := Lib.hid (((Below.refl w.heap.size w).alloc (Nat.le_refl _) (.cells (boxD a A c) 27)).alloc (by simp) (.cells (boxD b B d) 27))
  have hxa := (Blk.new w 27 (boxD a A c)).alloc (.cells (boxD b B d) 27)
  have hxb := Blk.new (w.alloc (.cells (boxD a A c) 27)) 27 (boxD b B d)
  rw [World.size_alloc] at hxb
  have XA := Lib.hid hxa
  have XB := Lib.hid hxb
  clear hxa hxb
  obtain ⟨a0, a1, a2, a3, a4, a5, a6, a7, a8, la⟩ := a
  obtain ⟨b0, b1, b2, b3, b4, b5, b6, b7, b8, lb⟩ := b
  obtain ⟨x0, x1, x2, x3, x4, x5, x6, x7, x8, lx⟩ := x
  obtain ⟨y0, y1, y2, y3, y4, y5, y6, y7, y8, ly⟩ := y
  obtain ⟨k0, k1, k2, k3, k4, k5, k6, k7, k8, lk⟩ := k
  obtain ⟨m0, m1, m2, m3, m4, m5, m6, m7, m8, lm⟩ := m
  simp only at hs hs1 hs2
  go_enter Try.func4, Try.ntmps4
  go_wp2_with fail
  refine (NX.out _).mono ?_
  rintro e w1 ⟨rfl, hb1⟩
  have XB1 := Lib.hid (Blk.below XB.out hb1 XB.out.lt)
  have G1 := Lib.hid (HB.out.trans (hb1.mono HB.out.size))
  obtain ⟨e0, e1, e2, e3, e4, e5, e6, e7, e8, e9⟩ := Blk.ten XB1.out
  have hz1 := XB1.out.lt
  have BX1 := Lib.hid (Blk.new w1 27 #[.int .u8 x0, .int .u16 x1, .int .u64 x2, .int .u64 x3, .int .u64 x4, .int .u64 x5, .int .u64 x6, .bool x7, .int .i64 x8, .slice A lx.length c])
  clear hb1 XA XB HB
  go_wp2_with fail
  refine (NY.out _).mono ?_
  rintro e w2 ⟨rfl, hb2⟩
  have BX2 := Lib.hid (Blk.below BX1.out hb2 BX1.out.lt)
  have G2 := Lib.hid ((G1.out.alloc G1.out.size _).trans (hb2.mono (by have := G1.out.size; simp; omega)))
  have BY2 := Lib.hid (Blk.new w2 27 #[.int .u8 y0, .int .u16 y1, .int .u64 y2, .int .u64 y3, .int .u64 y4, .int .u64 y5, .int .u64 y6, .bool y7, .int .i64 y8, .slice B ly.length d])
  have BX2' := Lib.hid (BX2.out.alloc (.cells #[.int .u8 y0, .int .u16 y1, .int .u64 y2, .int .u64 y3, .int .u64 y4, .int .u64 y5, .int .u64 y6, .bool y7, .int .i64 y8, .slice B ly.length d] 27))
  clear e0 e1 e2 e3 e4 e5 e6 e7 e8 e9
  obtain ⟨e0, e1, e2, e3, e4, e5, e6, e7, e8, e9⟩ := Blk.ten BX2'.out
  have G2' := Lib.hid (G2.out.alloc G2.out.size (.cells #[.int .u8 y0, .int .u16 y1, .int .u64 y2, .int .u64 y3, .int .u64 y4, .int .u64 y5, .int .u64 y6, .bool y7, .int .i64 y8, .slice B ly.length d] 27))
  clear hb2 BX1 G1 XB1
  go_wp2_with fail
  refine (CX.out _ G2'.out).mono ?_
  rintro e w3 ⟨Ak, ck, rfl, hcp, hb3⟩
  have BX3 := Lib.hid ((Blk.below BX2'.out hb3 BX2'.out.lt).alloc (.cells #[.int .u8 k0, .int .u16 k1, .int .u64 k2, .int .u64 k3, .int .u64 k4, .int .u64 k5, .int .u64 k6, .bool k7, .int .i64 k8, .slice Ak lk.length ck] 27))
  have BY3 := Lib.hid ((Blk.below BY2.out hb3 BY2.out.lt).alloc (.cells #[.int .u8 k0, .int .u16 k1, .int .u64 k2, .int .u64 k3, .int .u64 k4, .int .u64 k5, .int .u64 k6, .bool k7, .int .i64 k8, .slice Ak lk.length ck] 27))
  have BK3 := Lib.hid (Blk.new w3 27 #[.int .u8 k0, .int .u16 k1, .int .u64 k2, .int .u64 k3, .int .u64 k4, .int .u64 k5, .int .u64 k6, .bool k7, .int .i64 k8, .slice Ak lk.length ck])
  have G3 := Lib.hid ((G2'.out.trans (hb3.mono G2'.out.size)).alloc (by have := G2'.out.size; have := hb3.size; omega) (.cells #[.int .u8 k0, .int .u16 k1, .int .u64 k2, .int .u64 k3, .int .u64 k4, .int .u64 k5, .int .u64 k6, .bool k7, .int .i64 k8, .slice Ak lk.length ck] 27))
  have RowK3 := Lib.hid (hcp.alloc (.cells #[.int .u8 k0, .int .u16 k1, .int .u64 k2, .int .u64 k3, .int .u64 k4, .int .u64 k5, .int .u64 k6, .bool k7, .int .i64 k8, .slice Ak lk.length ck] 27)).row
  clear e0 e1 e2 e3 e4 e5 e6 e7 e8 e9 hb3 hcp BX2 BX2' BY2 G2 G2' hz1
  obtain ⟨W, hW⟩ : ∃ W : World, W = w3.alloc (.cells #[.int .u8 k0, .int .u16 k1, .int .u64 k2, .int .u64 k3, .int .u64 k4, .int .u64 k5, .int .u64 k6, .bool k7, .int .i64 k8, .slice Ak lk.length ck] 27) := ⟨_, rfl⟩
  rw [← hW] at BX3 BY3 BK3 G3 RowK3
  generalize w1.heap.size = gx at *
  generalize w2.heap.size = gy at *
  go_wp2_with fail
  generalize w3.heap.size = gk at *
  rw [← hW]
  clear hW
  have Bx_0 := Lib.hid BX3.out.drew
  have By_0 := Lib.hid BY3.out.drew
  have Bk_0 := Lib.hid BK3.out.drew
  have kx_0 := fun i => BX3.out.cell i
  have ky_0 := fun i => BY3.out.cell i
  have kk_0 := fun i => BK3.out.cell i
  have G_0 := Lib.hid G3.out.drew
  have rk_0 : Hid (Row W.drew W.drew.heap.size Ak (u8s lk)) := RowK3
  clear BX3 BY3 BK3 G3 RowK3
  go_region_held (fun w' => (∀ i, w'.cell? ⟨gx, i, none⟩ = (#[.int .u8 x0, .int .u16 x1, .int .u64 x2, .int .u64 x3, .int .u64 x4, .int .u64 x5, .int .u64 x6, .bool x7, .int .i64 x8, .slice A lx.length c] : Array Value)[i]?) ∧ (∀ i, w'.cell? ⟨gy, i, none⟩ = (#[.int .u8 y0, .int .u16 y1, .int .u64 y2, .int .u64 y3, .int .u64 y4, .int .u64 y5, .int .u64 y6, .bool y7, .int .i64 y8, .slice B ly.length d] : Array Value)[i]?)) (first | go_keep | exact ⟨‹_›, ‹_›⟩)
    (first
      | ((with_reducible refine (RX.out _ G_0.out).mono ?_); rintro e z1 ⟨Ar1, cr1, rfl, -, hr, hb⟩; have Bx_1 := Lib.hid (Blk.below Bx_0.out hb Bx_0.out.lt); have kx_1 := fun i => Bx_1.out.cell i; have By_1 := Lib.hid (Blk.below By_0.out hb By_0.out.lt); have ky_1 := fun i => By_1.out.cell i; have Bk_1 := Lib.hid (Blk.below Bk_0.out hb Bk_0.out.lt); have kk_1 := fun i => Bk_1.out.cell i; have G_1 := Lib.hid (G_0.out.trans (hb.mono G_0.out.size)); have rk_1 := Lib.hid ((rk_0.out.below hb).more hb.size); have r1_1 := Lib.hid hr; have hsr1_1 := row_string (c := cr1) hr; clear hr hb)
      | ((with_reducible refine (RY.out _ G_1.out).mono ?_); rintro e z2 ⟨Ar2, cr2, rfl, -, hr, hb⟩; have Bx_2 := Lib.hid (Blk.below Bx_1.out hb Bx_1.out.lt); have kx_2 := fun i => Bx_2.out.cell i; have By_2 := Lib.hid (Blk.below By_1.out hb By_1.out.lt); have ky_2 := fun i => By_2.out.cell i; have Bk_2 := Lib.hid (Blk.below Bk_1.out hb Bk_1.out.lt); have kk_2 := fun i => Bk_2.out.cell i; have G_2 := Lib.hid (G_1.out.trans (hb.mono G_1.out.size)); have rk_2 := Lib.hid ((rk_1.out.below hb).more hb.size); have r1_2 := Lib.hid ((r1_1.out.below hb).more hb.size); have hsr1_2 := row_string (c := cr1) r1_2.out; have r2_2 := Lib.hid hr; have hsr2_2 := row_string (c := cr2) hr; clear hr hb))
  all_goals go_wp2
  all_goals
    have Bx_10 := Lib.hid (Blk.drew Bx_2.out)
    have By_10 := Lib.hid (Blk.drew By_2.out)
    have Bk_10 := Lib.hid (Blk.drew Bk_2.out)
    have G_10 := Lib.hid G_2.out.drew
    have rk_10 : Hid (Row z2.drew z2.drew.heap.size Ak (u8s lk)) := rk_2
    clear Bx_0 By_0 Bk_0 Bx_1 By_1 Bk_1 kx_0 ky_0 kk_0 kx_1 ky_1 kk_1 G_0 G_1 rk_0 rk_1 r1_1 r1_2 r2_2 hsr1_1 hsr1_2 hsr2_2
    go_region_held (fun w' => (∀ i, w'.cell? ⟨gx, i, none⟩ = (#[.int .u8 x0, .int .u16 x1, .int .u64 x2, .int .u64 x3, .int .u64 x4, .int .u64 x5, .int .u64 x6, .bool x7, .int .i64 x8, .slice A lx.length c] : Array Value)[i]?) ∧ (∀ i, w'.cell? ⟨gy, i, none⟩ = (#[.int .u8 y0, .int .u16 y1, .int .u64 y2, .int .u64 y3, .int .u64 y4, .int .u64 y5, .int .u64 y6, .bool y7, .int .i64 y8, .slice B ly.length d] : Array Value)[i]?) ∧ (∀ i, w'.cell? ⟨gk, i, none⟩ = (#[.int .u8 k0, .int .u16 k1, .int .u64 k2, .int .u64 k3, .int .u64 k4, .int .u64 k5, .int .u64 k6, .bool k7, .int .i64 k8, .slice Ak lk.length ck] : Array Value)[i]?)) (first | go_keep | exact ⟨‹_›, ‹_›, ‹_›⟩)
      (first
        | ((with_reducible refine (known_any _).mono ?_); rintro e z11 ⟨rfl, hb⟩; have Bx_11 := Lib.hid (Blk.below Bx_10.out hb Bx_10.out.lt); have kx_11 := fun i => Bx_11.out.cell i; have By_11 := Lib.hid (Blk.below By_10.out hb By_10.out.lt); have ky_11 := fun i => By_11.out.cell i; have Bk_11 := Lib.hid (Blk.below Bk_10.out hb Bk_10.out.lt); have kk_11 := fun i => Bk_11.out.cell i; have G_11 := Lib.hid (G_10.out.trans (hb.mono G_10.out.size)); have rk_11 := Lib.hid ((rk_10.out.below hb).more hb.size); clear hb)
        | ((with_reducible refine (CK.out Ak ck _ rk_11.out).mono ?_); rintro e z12 ⟨Arc, crc, rfl, hcp, hb⟩; have Bx_12 := Lib.hid (Blk.below Bx_11.out hb Bx_11.out.lt); have kx_12 := fun i => Bx_12.out.cell i; have By_12 := Lib.hid (Blk.below By_11.out hb By_11.out.lt); have ky_12 := fun i => By_12.out.cell i; have Bk_12 := Lib.hid (Blk.below Bk_11.out hb Bk_11.out.lt); have kk_12 := fun i => Bk_12.out.cell i; have G_12 := Lib.hid (G_11.out.trans (hb.mono G_11.out.size)); have rk_12 := Lib.hid ((rk_11.out.below hb).more hb.size); have rc_12 := Lib.hid hcp.row; clear hcp hb)
        | ((with_reducible refine (AK.out _ _ _ _ _ rc_12.out rk_12.out).mono ?_); rintro e z13 ⟨rfl, hb⟩; have Bx_13 := Lib.hid (Blk.below Bx_12.out hb Bx_12.out.lt); have kx_13 := fun i => Bx_13.out.cell i; have By_13 := Lib.hid (Blk.below By_12.out hb By_12.out.lt); have ky_13 := fun i => By_13.out.cell i; have Bk_13 := Lib.hid (Blk.below Bk_12.out hb Bk_12.out.lt); have kk_13 := fun i => Bk_13.out.cell i; have G_13 := Lib.hid (G_12.out.trans (hb.mono G_12.out.size)); have rk_13 := Lib.hid ((rk_12.out.below hb).more hb.size); have rc_13 := Lib.hid ((rc_12.out.below hb).more hb.size); clear hb)
        | ((with_reducible refine (RK.out Ak ck _ rk_13.out).mono ?_); rintro e z14 ⟨Ar3, cr3, rfl, -, hr, hb⟩; have Bx_14 := Lib.hid (Blk.below Bx_13.out hb Bx_13.out.lt); have kx_14 := fun i => Bx_14.out.cell i; have By_14 := Lib.hid (Blk.below By_13.out hb By_13.out.lt); have ky_14 := fun i => By_14.out.cell i; have Bk_14 := Lib.hid (Blk.below Bk_13.out hb Bk_13.out.lt); have kk_14 := fun i => Bk_14.out.cell i; have G_14 := Lib.hid (G_13.out.trans (hb.mono G_13.out.size)); have rk_14 := Lib.hid ((rk_13.out.below hb).more hb.size); have rc_14 := Lib.hid ((rc_13.out.below hb).more hb.size); have r3_14 := Lib.hid hr; have hsr3_14 := row_string (c := cr3) hr; clear hr hb)
        | ((with_reducible refine (RX.out _ G_14.out).mono ?_); rintro e z15 ⟨Ar4, cr4, rfl, -, hr, hb⟩; have Bx_15 := Lib.hid (Blk.below Bx_14.out hb Bx_14.out.lt); have kx_15 := fun i => Bx_15.out.cell i; have By_15 := Lib.hid (Blk.below By_14.out hb By_14.out.lt); have ky_15 := fun i => By_15.out.cell i; have Bk_15 := Lib.hid (Blk.below Bk_14.out hb Bk_14.out.lt); have kk_15 := fun i => Bk_15.out.cell i; have G_15 := Lib.hid (G_14.out.trans (hb.mono G_14.out.size)); have rk_15 := Lib.hid ((rk_14.out.below hb).more hb.size); have rc_15 := Lib.hid ((rc_14.out.below hb).more hb.size); have r3_15 := Lib.hid ((r3_14.out.below hb).more hb.size); have hsr3_15 := row_string (c := cr3) r3_15.out; have r4_15 := Lib.hid hr; have hsr4_15 := row_string (c := cr4) hr; clear hr hb)
        | ((with_reducible refine (CY.out _ G_15.out).mono ?_); rintro e z16 ⟨Arm, crm, rfl, hcp, hb⟩; have Bx_16 := Lib.hid (Blk.below Bx_15.out hb Bx_15.out.lt); have kx_16 := fun i => Bx_16.out.cell i; have By_16 := Lib.hid (Blk.below By_15.out hb By_15.out.lt); have ky_16 := fun i => By_16.out.cell i; have Bk_16 := Lib.hid (Blk.below Bk_15.out hb Bk_15.out.lt); have kk_16 := fun i => Bk_16.out.cell i; have G_16 := Lib.hid (G_15.out.trans (hb.mono G_15.out.size)); have rk_16 := Lib.hid ((rk_15.out.below hb).more hb.size); have rc_16 := Lib.hid ((rc_15.out.below hb).more hb.size); have r4_16 := Lib.hid ((r4_15.out.below hb).more hb.size); have hsr4_16 := row_string (c := cr4) r4_16.out; have rm_16 := Lib.hid hcp.row; clear hcp hb)
        | ((with_reducible refine (AM.out _ _ _ _ _ rk_16.out rm_16.out).mono ?_); rintro e z17 ⟨rfl, hb⟩; have Bx_17 := Lib.hid (Blk.below Bx_16.out hb Bx_16.out.lt); have kx_17 := fun i => Bx_17.out.cell i; have By_17 := Lib.hid (Blk.below By_16.out hb By_16.out.lt); have ky_17 := fun i => By_17.out.cell i; have Bk_17 := Lib.hid (Blk.below Bk_16.out hb Bk_16.out.lt); have kk_17 := fun i => Bk_17.out.cell i; have G_17 := Lib.hid (G_16.out.trans (hb.mono G_16.out.size)); have rk_17 := Lib.hid ((rk_16.out.below hb).more hb.size); have rc_17 := Lib.hid ((rc_16.out.below hb).more hb.size); have rm_17 := Lib.hid ((rm_16.out.below hb).more hb.size); clear hb))
  all_goals go_wp2
  all_goals go_ret
  all_goals exact ⟨rfl, G_17.out⟩
end Go.Proofs.Ytcgcfgomakaacaa.head
