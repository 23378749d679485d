/- BackBytes, walked. -/
import Derived.Test.YtalehfdcebabnaaBackKnown
import Derived.Test.YtalehfdcebabnaaBackPlainB
import Derived.Test.YtalehfdcebabnaaHeadRefRenderC
import Derived.Laws.OwnMore
import Derived.Laws.BitsAllLaws
import Derived.Deep.AppendLies
import Derived.BigQuiet
namespace Go.Proofs.Ytalehfdcebabnaa.back
open Go.RowKit Go.Shelf
open Go.Proofs.Ytalehfdcebabnaa.head
open Go.Proofs.Ytalehfdcebabnaa.aid

theorem bools {l m : List UInt8} (h : l ≠ m) : ((ByteArray.mk l.toArray).toList == (ByteArray.mk m.toArray).toList) = false ∧ (l == m) = false := by
  rw [ByteArray.toList_eq, ByteArray.toList_eq]
  have h2 : (l == m) = false := beq_eq_false_iff_ne.2 h
  exact ⟨by simpa using h2, h2⟩
theorem below_drewN {B : Nat} {w w' : World} (h : Below B w w') : ∀ n, Below B w (w'.drewN n) := fun _ => ⟨h.os, h.tape, h.output, h.size, h.block⟩
theorem parse_fine {l : List UInt8} (hl : l.length ≤ 140737488351232) : Fine (parse l).1 := by
  unfold parse
  split
  · simp [Fine, zero]
  · exact clean_fine (told_fine (seen_fine l) _ (Nat.le_trans (body_short l) hl))
theorem parse_err (l : List UInt8) : (parse l).2 = 0 ∨ (parse l).2 = 60 := by
  unfold parse
  split
  · exact .inr rfl
  · exact .inl rfl
theorem u8s_set (l : List UInt8) (i : Nat) (b : UInt8) : (u8s l).set i (.int .u8 (b.toNat : Int)) = u8s (l.set i b) := by
  unfold u8s
  rw [List.map_set]
theorem xor_u8 (a b : UInt8) : bits .xor .u8 (a.toNat : Int) (b.toNat : Int) = ((a ^^^ b).toNat : Int) := by
  rw [u8_xor_nat _ _ a.toNat_lt b.toNat_lt, UInt8.toNat_xor]
theorem xor_same {a b : UInt8} (h : a ^^^ b = a) : b = 0 := by
  have h2 : a ^^^ (a ^^^ b) = 0 := by rw [h]; simp
  rw [← UInt8.xor_assoc] at h2
  simpa using h2
set_option maxHeartbeats 8000000 in
set_option maxRecDepth 100000 in
theorem bytes_walk (w : World) (a0 a1 a2 a3 a4 a5 a6 a8 : Int) (a7 : Bool) (la : List UInt8) (A : Option Addr) (c : Nat) (cd at_ : Nat) (x : UInt8) (hF : Fine ⟨a0, a1, a2, a3, a4, a5, a6, a7, a8, la⟩) (hc : la.length ≤ c) (hra : Row w w.heap.size A (u8s la)) (hcd : cd < 256) (hat : at_ < 65536) (hs : la.length ≤ 200)
    (mx : Int) (hmx : w.cell? ⟨0, 0, none⟩ = some (.int .i64 mx)) :
    Calls Try.prog 4 #[.agg #[.int .u8 a0, .int .u16 a1, .int .u64 a2, .int .u64 a3, .int .u64 a4, .int .u64 a5, .int .u64 a6, .bool a7, .int .i64 a8, .slice A la.length c], .int .u8 cd, .int .u16 at_, .int .u8 (x.toNat : Int)] w fun e w' => e = .returned (.bool true) ∧ Below w.heap.size w w' := by
  have hcode : isCode (1 + (cd : Int) % 8) := by unfold isCode; omega
  have hFa : Fine ⟨1 + (cd : Int) % 8, a1, a2, a3, a4, a5, a6, a7, a8, la⟩ := ⟨by simp only; omega, hF.2⟩
  have hPR := parse_render (a := ⟨1 + (cd : Int) % 8, a1, a2, a3, a4, a5, a6, a7, a8, la⟩) hcode hFa
  have hCF := clean_fine hFa
  have hRC := render_clean ⟨1 + (cd : Int) % 8, a1, a2, a3, a4, a5, a6, a7, a8, la⟩
  have hpos := (render_len_pos ⟨1 + (cd : Int) % 8, a1, a2, a3, a4, a5, a6, a7, a8, la⟩).2 hcode
  have hrl := render_len ⟨1 + (cd : Int) % 8, a1, a2, a3, a4, a5, a6, a7, a8, la⟩
  simp only at hrl
  have RA := Lib.hid (fun W (h : Below w.heap.size w W) => refrender_any ⟨1 + (cd : Int) % 8, a1, a2, a3, a4, a5, a6, a7, a8, la⟩ hFa A c hc W ((hra.below h).more h.size))
  obtain ⟨P, hP⟩ : ∃ P, P = clean ⟨1 + (cd : Int) % 8, a1, a2, a3, a4, a5, a6, a7, a8, la⟩ := ⟨_, rfl⟩
  rw [← hP] at hPR hCF hRC
  obtain ⟨p0, p1, p2, p3, p4, p5, p6, p7, p8, lp⟩ := P
  obtain ⟨l, hl⟩ : ∃ l, l = render ⟨1 + (cd : Int) % 8, a1, a2, a3, a4, a5, a6, a7, a8, la⟩ := ⟨_, rfl⟩
  rw [← hl] at hPR hRC hpos hrl RA
  have hil : at_ % l.length < l.length := Nat.mod_lt _ hpos
  obtain ⟨i, hi⟩ : ∃ i, i = at_ % l.length := ⟨_, rfl⟩
  have hxi : ((at_ : Int) % (l.length : Int)) = (i : Int) := by rw [hi]; rfl
  rw [← hi] at hil
  have hsi : (la.length : Int) ≤ 200 := by omega
  have HPR := Lib.hid hPR
  have HRC := Lib.hid hRC
  have HM := Lib.hid hmx
  have hl0 : ((l.length : Int) == 0) = false := beq_eq_false_iff_ne.2 (by omega)
  have hilI : (i : Int) < l.length := by omega
  have hw8 : IntKind.u8.wrap (1 + (cd : Int) % 8) = 1 + (cd : Int) % 8 := by
    have := IntKind.wrap_u8' (1 + (cd : Int) % 8)
    omega
  obtain ⟨i0, hi0, hz0, hz1, hz2⟩ := info_parts byte_info
  have hxor := xor_u8 l[i] x
  obtain ⟨y, hy⟩ : ∃ y, y = l[i] ^^^ x := ⟨_, rfl⟩
  rw [← hy] at hxor
  have HY := Lib.hid hy
  clear hP hl hPR hRC hi hF hcode hFa hra hmx hy
  go_enter Try.func4, Try.ntmps4
  go_wp2_with fail
  refine (RA.out _ ((Below.refl _ _).alloc (Nat.le_refl _) _)).mono ?_
  rintro e w1 ⟨A1, c1, rfl, hc1, hr1, hb1⟩
  have HR1 := Lib.hid hr1
  have HB1 := Lib.hid (((Below.refl w.heap.size w).alloc (Nat.le_refl _) (.cells #[.int .u8 (1 + (cd : Int) % 8), .int .u16 a1, .int .u64 a2, .int .u64 a3, .int .u64 a4, .int .u64 a5, .int .u64 a6, .bool a7, .int .i64 a8, .slice A la.length c] 27)).trans (hb1.mono (by simp)))
  have hll := Lib.hid (show (u8s l).length = l.length from List.length_map _)
  clear hr1 hb1
  go_wp2_with (at_builtin; refine wpList_append_row _ rfl (.tmp 28) (.tmp 29) 25 rfl w1.heap.size 5 i0 _ 1 rfl hi0 hz0 hz1 hz2 rfl (.slice none 0 0) 0 [] rfl (World.ownsRow_nil _ _ _ _) _ A1 l.length c1 (u8s l) rfl hll.out HR1.out (one_u8s _) (by unfold maxLen; omega) (by omega) (Nat.le_refl _) ?_; intro v2 w2 hown2 hg2 hat2; have hb2 := grown_below (Below.refl w1.heap.size w1) (World.ownsRow_nil _ w1.heap.size 5 1) (Nat.le_refl _) (Nat.le_refl _) hg2; rw [Nat.zero_add, List.nil_append] at hown2; obtain ⟨g, c2, rfl, hg0, hg1⟩ := hown2.form (by omega); have hcell := (hown2.cellAt i (by omega)).trans (u8s_at l i hil); have hfz := hown2.frozenAt i; obtain ⟨hst, -⟩ := hown2.stored i (.int .u8 (y.toNat : Int)); have HST := Lib.hid hst; have HB2 := Lib.hid hb2; clear hown2 hg2 hat2 hst hb2)
  obtain ⟨W3, hW3⟩ : ∃ W3, W3 = w2.setCell ⟨g, i, none⟩ (.int .u8 (y.toNat : Int)) := ⟨_, rfl⟩
  rw [← hW3] at HST ⊢
  rw [u8s_set] at HST
  have hb3 : Below w1.heap.size w1 W3 := by rw [hW3]; exact HB2.out.setCell hg0 _
  have HR3 := Lib.hid ((HR1.out.below hb3).more hb3.size)
  have HB3 := Lib.hid (HB1.out.trans (hb3.mono HB1.out.size))
  obtain ⟨bd, hbd⟩ : ∃ bd, bd = l.set i y := ⟨_, rfl⟩
  rw [← hbd] at HST
  have hbl : bd.length = l.length := by rw [hbd, List.length_set]
  have HBR := Lib.hid (Row.of_own HST.out)
  have hne : x ≠ 0 → bd ≠ l := by
    intro hx he
    have h1 : bd[i]? = some y := by rw [hbd, List.getElem?_set_self hil]
    rw [he, List.getElem?_eq_getElem hil, HY.out] at h1
    exact hx (xor_same (Option.some.inj h1).symm)
  have heq : x = 0 → bd = l := by
    intro hx
    rw [hbd, HY.out, hx]
    simp
  have HPB := parse_any bd (by omega) (some ⟨g, 0, none⟩) c2 mx
  rw [hbl] at HPB
  have hQF : Fine (parse bd).1 := parse_fine (by omega)
  have hQ0 := fun h => parse_ok (l := bd) h
  have hQE := parse_err bd
  have hQL : x = 0 → parse bd = parse l := fun h => by rw [heq h]
  obtain ⟨Q, hQ⟩ : ∃ Q, Q = (parse bd).1 := ⟨_, rfl⟩
  obtain ⟨f, hf⟩ : ∃ f, f = (parse bd).2 := ⟨_, rfl⟩
  rw [← hQ, ← hf] at HPB
  rw [← hQ] at hQF hQ0
  rw [← hf] at hQ0 hQE
  obtain ⟨q0, q1, q2, q3, q4, q5, q6, q7, q8, lq⟩ := Q
  have HPC := Lib.hid HPB
  clear HPB
  have hx0 : ((f = 0 ∧ (l == bd) = true ∧ ((x.toNat : Int) == 0) = true) ∨ (f = 0 ∧ (l == bd) = false ∧ ((x.toNat : Int) == 0) = false)) ∨ (f = 60 ∧ ((x.toNat : Int) == 0) = false) := by
    by_cases hx : x = 0
    · have h1 := heq hx
      have h2 := hQL hx
      rw [HPR.out] at h2
      refine .inl (.inl ⟨by rw [hf, h2], by rw [h1]; simp, by rw [hx]; rfl⟩)
    · have h1 := hne hx
      have hx2 : ((x.toNat : Int) == 0) = false := beq_eq_false_iff_ne.2 (fun h => hx (UInt8.toNat_inj.1 (by simp; omega)))
      rcases hQE with h | h
      · exact .inl (.inr ⟨h, beq_eq_false_iff_ne.2 (fun e => h1 e.symm), hx2⟩)
      · exact .inr ⟨h, hx2⟩
  have HQ0 := Lib.hid hQ0
  clear hbl hW3 hb3 HST hbd hne heq hQ0 hQE hQL hQ hf HB2 hcell hfz hg0 hg1 HR1 HB1 RA HY hxor
  refine (parse_any l (by omega) A1 c1 mx W3 (max_below HM.out HB3.out) HR3.out).mono ?_
  rintro e w4 ⟨A4, c4, rfl, hc4, hr4, hb4⟩
  rw [HPR.out] at hc4 hr4 ⊢
  simp only at hc4 hr4
  have HB4 := Lib.hid (HB3.out.trans (hb4.mono HB3.out.size))
  have HBR4 := Lib.hid ((HBR.out.below hb4).more hb4.size)
  obtain ⟨W5, hW5⟩ : ∃ W5, W5 = w4.alloc (.cells #[.int .u8 p0, .int .u16 p1, .int .u64 p2, .int .u64 p3, .int .u64 p4, .int .u64 p5, .int .u64 p6, .bool p7, .int .i64 p8, .slice A4 lp.length c4] 27) := ⟨_, rfl⟩
  have HX5 := Lib.hid (show Blk W5 w4.heap.size 27 #[.int .u8 p0, .int .u16 p1, .int .u64 p2, .int .u64 p3, .int .u64 p4, .int .u64 p5, .int .u64 p6, .bool p7, .int .i64 p8, .slice A4 lp.length c4] from by rw [hW5]; exact Blk.new w4 _ _)
  have hb5 : Below w4.heap.size w4 W5 := by rw [hW5]; exact (Below.refl _ _).alloc (Nat.le_refl _) _
  have HB5 := Lib.hid (HB4.out.trans (hb5.mono HB4.out.size))
  have HBR5 := Lib.hid ((HBR4.out.below hb5).more hb5.size)
  have HPR5 := Lib.hid ((hr4.below hb5).more hb5.size)
  clear hr4 hb4 HBR4 HBR HR3 HB3 HB4 hb5
  have HW5 := Lib.hid hW5
  clear hW5
  go_wp2_with fail
  rw [← HW5.out]
  refine (HPC.out W5 (max_below HM.out HB5.out) HBR5.out).mono ?_
  rintro e w6 ⟨A6, c6, rfl, hc6, hr6, hb6⟩
  try simp only at hc6 hr6
  obtain ⟨W7, hW7⟩ : ∃ W7, W7 = w6.alloc (.cells #[.int .u8 q0, .int .u16 q1, .int .u64 q2, .int .u64 q3, .int .u64 q4, .int .u64 q5, .int .u64 q6, .bool q7, .int .i64 q8, .slice A6 lq.length c6] 27) := ⟨_, rfl⟩
  have hxb := (show Blk W7 w6.heap.size 27 #[.int .u8 q0, .int .u16 q1, .int .u64 q2, .int .u64 q3, .int .u64 q4, .int .u64 q5, .int .u64 q6, .bool q7, .int .i64 q8, .slice A6 lq.length c6] from by rw [hW7]; exact Blk.new w6 _ _)
  have hb7 : Below w6.heap.size w6 W7 := by rw [hW7]; exact (Below.refl _ _).alloc (Nat.le_refl _) _
  have hxa := (HX5.out.below hb6 HX5.out.lt)
  have hxa := (hxa.below hb7 hxa.lt)
  have hG := (HB5.out.trans (hb6.mono HB5.out.size))
  have hG := (hG.trans (hb7.mono hG.size))
  have hrp := ((HPR5.out.below hb6).more hb6.size)
  have hrp := ((hrp.below hb7).more hb7.size)
  have hrq := ((hr6.below hb7).more hb7.size)
  have RP := Lib.hid (fun W (h : Below W7.heap.size W7 W) => refrender_any ⟨p0, p1, p2, p3, p4, p5, p6, p7, p8, lp⟩ hCF A4 c4 hc4 W ((hrp.below h).more h.size))
  rw [HRC.out] at RP
  have RQ := Lib.hid (fun W (h : Below W7.heap.size W7 W) => refrender_any ⟨q0, q1, q2, q3, q4, q5, q6, q7, q8, lq⟩ hQF A6 c6 hc6 W ((hrq.below h).more h.size))
  have Ba_0 := Lib.hid (Blk.drew hxa)
  have ka_0 := fun i => hxa.cell i
  have Bb_0 := Lib.hid (Blk.drew hxb)
  have kb_0 := fun i => hxb.cell i
  have G_0 := Lib.hid hG
  have D_0 := Lib.hid (Below.refl W7.heap.size W7).drew
  have HW7 := Lib.hid hW7
  clear hr6 hb6 hb7 HPR5 HBR5 HX5 hrp hrq hxa hxb hG hCF hQF hW7
  rcases hx0 with (⟨rfl, hq, hx⟩ | ⟨rfl, hq, hx⟩) | ⟨rfl, hx⟩
  · obtain rfl : l = bd := by simpa using hq
    rw [HQ0.out rfl] at RQ
    clear HPC HRC HPR HQ0
    go_wp2_with fail
    rw [← HW7.out]
    rename_i KC hKC
    have HKC := Lib.hid hKC
    clear hKC
    go_region_held (fun w' => (∀ i, w'.cell? ⟨w4.heap.size, i, none⟩ = (#[.int .u8 p0, .int .u16 p1, .int .u64 p2, .int .u64 p3, .int .u64 p4, .int .u64 p5, .int .u64 p6, .bool p7, .int .i64 p8, .slice A4 lp.length c4] : Array Value)[i]?) ∧ (∀ i, w'.cell? ⟨w6.heap.size, i, none⟩ = (#[.int .u8 q0, .int .u16 q1, .int .u64 q2, .int .u64 q3, .int .u64 q4, .int .u64 q5, .int .u64 q6, .bool q7, .int .i64 q8, .slice A6 lq.length c6] : Array Value)[i]?)) (first | go_keep | exact ⟨‹_›, ‹_›⟩)
      (first
        | ((with_reducible refine (RQ.out _ D_0.out).mono ?_); rintro e z1 ⟨Ar1, cr1, rfl, -, hr, hb⟩; have Ba_1 := Lib.hid (Blk.below Ba_0.out hb Ba_0.out.lt); have ka_1 := fun i => Ba_1.out.cell i; have Bb_1 := Lib.hid (Blk.below Bb_0.out hb Bb_0.out.lt); have kb_1 := fun i => Bb_1.out.cell i; have D_1 := Lib.hid (D_0.out.trans (hb.mono D_0.out.size)); have r1_1 := Lib.hid hr; have hsr1_1 := row_string (c := cr1) hr; clear hr hb)
        | ((with_reducible refine (RP.out _ D_1.out).mono ?_); rintro e z2 ⟨Ar2, cr2, rfl, -, hr, hb⟩; have Ba_2 := Lib.hid (Blk.below Ba_1.out hb Ba_1.out.lt); have ka_2 := fun i => Ba_2.out.cell i; have Bb_2 := Lib.hid (Blk.below Bb_1.out hb Bb_1.out.lt); have kb_2 := fun i => Bb_2.out.cell i; have D_2 := Lib.hid (D_1.out.trans (hb.mono D_1.out.size)); have r1_2 := Lib.hid ((r1_1.out.below hb).more hb.size); have hsr1_2 := row_string (c := cr1) r1_2.out; have r2_2 := Lib.hid hr; have hsr2_2 := row_string (c := cr2) hr; clear hr hb))
    all_goals
      change KC _ _
      refine HKC.out _ _ ?_
      go_wp2_with fail
      refine (known_any mx _ (max_below HM.out (G_0.out.trans (D_2.out.mono G_0.out.size)))).mono ?_
      rintro e z5 ⟨rfl, hb5⟩
      go_wp2_with fail
      go_ret
      exact ⟨rfl, (G_0.out.trans (D_2.out.mono G_0.out.size)).trans (hb5.mono (G_0.out.trans (D_2.out.mono G_0.out.size)).size)⟩
  · rw [HQ0.out rfl] at RQ
    obtain ⟨hq1, hq2⟩ := bools (l := bd) (m := l) (fun e => by simp [e] at hq)
    clear HPC HRC HPR HQ0
    go_wp2_with fail
    rw [← HW7.out]
    rename_i KC hKC
    have HKC := Lib.hid hKC
    clear hKC
    go_region_held (fun w' => (∀ i, w'.cell? ⟨w4.heap.size, i, none⟩ = (#[.int .u8 p0, .int .u16 p1, .int .u64 p2, .int .u64 p3, .int .u64 p4, .int .u64 p5, .int .u64 p6, .bool p7, .int .i64 p8, .slice A4 lp.length c4] : Array Value)[i]?) ∧ (∀ i, w'.cell? ⟨w6.heap.size, i, none⟩ = (#[.int .u8 q0, .int .u16 q1, .int .u64 q2, .int .u64 q3, .int .u64 q4, .int .u64 q5, .int .u64 q6, .bool q7, .int .i64 q8, .slice A6 lq.length c6] : Array Value)[i]?)) (first | go_keep | exact ⟨‹_›, ‹_›⟩)
      (first
        | ((with_reducible refine (RQ.out _ D_0.out).mono ?_); rintro e z1 ⟨Ar1, cr1, rfl, -, hr, hb⟩; have Ba_1 := Lib.hid (Blk.below Ba_0.out hb Ba_0.out.lt); have ka_1 := fun i => Ba_1.out.cell i; have Bb_1 := Lib.hid (Blk.below Bb_0.out hb Bb_0.out.lt); have kb_1 := fun i => Bb_1.out.cell i; have D_1 := Lib.hid (D_0.out.trans (hb.mono D_0.out.size)); have r1_1 := Lib.hid hr; have hsr1_1 := row_string (c := cr1) hr; clear hr hb)
        | ((with_reducible refine (RP.out _ D_1.out).mono ?_); rintro e z2 ⟨Ar2, cr2, rfl, -, hr, hb⟩; have Ba_2 := Lib.hid (Blk.below Ba_1.out hb Ba_1.out.lt); have ka_2 := fun i => Ba_2.out.cell i; have Bb_2 := Lib.hid (Blk.below Bb_1.out hb Bb_1.out.lt); have kb_2 := fun i => Bb_2.out.cell i; have D_2 := Lib.hid (D_1.out.trans (hb.mono D_1.out.size)); have r1_2 := Lib.hid ((r1_1.out.below hb).more hb.size); have hsr1_2 := row_string (c := cr1) r1_2.out; have r2_2 := Lib.hid hr; have hsr2_2 := row_string (c := cr2) hr; clear hr hb))
    all_goals
      change KC _ _
      refine HKC.out _ _ ?_
      go_wp2_with fail
      refine (known_any mx _ (max_below HM.out (G_0.out.trans (D_2.out.mono G_0.out.size)))).mono ?_
      rintro e z5 ⟨rfl, hb5⟩
      go_wp2_with fail
      go_ret
      exact ⟨rfl, (G_0.out.trans (D_2.out.mono G_0.out.size)).trans (hb5.mono (G_0.out.trans (D_2.out.mono G_0.out.size)).size)⟩
  · go_wp2_with fail
    rw [← HW7.out]
    rename_i KC hKC
    have HKC := Lib.hid hKC
    clear hKC
    go_quiet (fail)
    all_goals
      change KC _ _
      refine HKC.out _ _ ?_
      go_wp2_with fail
      refine (known_any mx _ (max_below HM.out (below_drewN G_0.out _))).mono ?_
      rintro e z5 ⟨rfl, hb5⟩
      go_wp2_with fail
      go_ret
      exact ⟨rfl, (below_drewN G_0.out _).trans (hb5.mono (below_drewN G_0.out _).size)⟩

set_option maxHeartbeats 2000000 in
theorem bytes_big (w : World) (a : Ans) (A : Option Addr) (c : Nat) (cd at_ x : Int) (h : 200 < a.body.length)
    (mx : Int) (hmx : w.cell? ⟨0, 0, none⟩ = some (.int .i64 mx)) :
    Calls Try.prog 4 #[ansV a A c, .int .u8 cd, .int .u16 at_, .int .u8 x] w fun e w' => e = .returned (.bool true) ∧ Below w.heap.size w w' := by
  obtain ⟨a0, a1, a2, a3, a4, a5, a6, a7, a8, la⟩ := a
  simp only at h
  have hi : (200 : Int) < la.length := by omega
  have HM := Lib.hid hmx
  clear hmx
  go_enter Try.func4, Try.ntmps4
  go_wp2_with fail
  refine (known_any mx _ (max_below HM.out ((Below.refl w.heap.size w).alloc (Nat.le_refl _) _))).mono ?_
  rintro e z5 ⟨rfl, hb5⟩
  go_wp2_with fail
  go_ret
  exact ⟨rfl, ((Below.refl w.heap.size w).alloc (Nat.le_refl _) _).trans (hb5.mono (by simp))⟩

theorem backBytes_walk (w : World) (a : Ans) (A : Option Addr) (c : Nat) (a1 a2 a3 : Int) (hF : Fine a) (hc : a.body.length ≤ c) (hr : Row w w.heap.size A (u8s a.body)) (h1 : 0 ≤ a1 ∧ a1 ≤ 255) (h2 : 0 ≤ a2 ∧ a2 ≤ 65535) (h3 : 0 ≤ a3 ∧ a3 ≤ 255)
    (mx : Int) (hmx : w.cell? ⟨0, 0, none⟩ = some (.int .i64 mx)) :
    Calls Try.prog 4 #[ansV a A c, .int .u8 a1, .int .u16 a2, .int .u8 a3] w fun e w' => e = .returned (.bool true) ∧ Below w.heap.size w w' := by
  by_cases hbig : 200 < a.body.length
  · exact bytes_big w a A c a1 a2 a3 hbig mx hmx
  · obtain ⟨n, rfl⟩ : ∃ n : Nat, a1 = (n : Int) := ⟨a1.toNat, by omega⟩
    obtain ⟨m, rfl⟩ : ∃ m : Nat, a2 = (m : Int) := ⟨a2.toNat, by omega⟩
    obtain ⟨x, rfl⟩ : ∃ x : UInt8, a3 = (x.toNat : Int) := ⟨UInt8.ofNat a3.toNat, by rw [UInt8.toNat_ofNat']; omega⟩
    obtain ⟨a0, a1, a2, a3, a4, a5, a6, a7, a8, la⟩ := a
    exact bytes_walk w a0 a1 a2 a3 a4 a5 a6 a8 a7 la A c n m x hF hc hr (by omega) (by omega) (by simp only at hbig; omega) mx hmx
end Go.Proofs.Ytalehfdcebabnaa.back
