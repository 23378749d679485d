/- back.Field, walked. -/
import Derived.Test.YtalehfdcebabnaaBackField
namespace Go.Proofs.Ytalehfdcebabnaa.back
open Go.RowKit Go.Shelf
open Go.Proofs.Ytalehfdcebabnaa.head
open Go.Proofs.Ytalehfdcebabnaa.aid

attribute [local go_sem] Oper.semAt_some

set_option maxRecDepth 100000 in
set_option maxHeartbeats 4000000 in
theorem field_in (n : Nat) (hn : 4 ≤ n) (s : List UInt8) (hs : s.length < 4294967281) (name : ByteArray) (hname : name.size ≤ 1000000) (nm : List UInt8) (hnm : nm = name.data.toList) (A : Option Addr) (c : Nat) (m : Int) (w : World) (hm : w.cell? ⟨0, 0, none⟩ = some (.int .i64 m))
    (hr : Row w w.heap.size A (u8s s)) :
    CallsIn Fence.wide n Try.prog 8 #[.slice A s.length c, .string name] w fun e W' => e = .returned (.tuple #[.int .u64 ((field s nm).getD 0 : Nat), .bool (field s nm).isSome]) ∧ Below w.heap.size w W' := by
  have h1 : 1 ≤ n := by omega
  have h2 : 1 ≤ n - 1 - 1 := by omega
  have hg := block_lt_of_cell hm
  have hB0 : Below w.heap.size w (fieldW w name) := ((((Below.refl _ w).alloc (Nat.le_refl _) _).alloc (by simp) _).alloc (by simp; omega) _).alloc (by simp; omega) _
  have hrun : (convert 25 9 (.slice A s.length c)).run Try.prog (fieldW w name) = .ok (.string ⟨s.toArray⟩) (fieldW w name) := row_string (hr.below hB0)
  refine callsIn_of_wp_marks Try.func8 rfl trivial ?_ rfl
  simp only [Try.ntmps8, List.size_toArray, List.length_cons, List.length_nil, Nat.reduceAdd, Nat.reduceSub, Array.replicate_succ, Array.replicate_zero, List.push_toArray, List.append_toArray, List.nil_append, List.cons_append]
  gi_wp2_with (refine ⟨trivial, ?_⟩; gi_at_call 14; refine (lines_in (n - 1) _ _).mono ?_; rintro e w' ⟨rfl, rfl⟩)
  have bN := Boxed.new w 9 (.string name)
  have b0 := Boxed.new (w.alloc (.cells #[.string name] 9)) 24 (.int .u64 0)
  have b1 := Boxed.new ((w.alloc (.cells #[.string name] 9)).alloc (.cells #[.int .u64 0] 24)) 4 (.bool false)
  have bF := Boxed.new (((w.alloc (.cells #[.string name] 9)).alloc (.cells #[.int .u64 0] 24)).alloc (.cells #[.bool false] 4)) 4 (.bool true)
  have bA := Boxed.new (fieldW w name) 9 (.string ⟨s.toArray⟩)
  have hF : FBox w.heap.size name true ((fieldW w name).alloc (.cells #[.string ⟨s.toArray⟩] 9)) := by
    simp only [World.size_alloc] at b0 b1 bF
    exact ⟨(((bN.alloc _).alloc _).alloc _).alloc _, ((b0.alloc _).alloc _).alloc _, (b1.alloc _).alloc _, bF.alloc _⟩
  simp only [World.size_alloc] at bA
  have hB1 : Below w.heap.size w ((fieldW w name).alloc (.cells #[.string ⟨s.toArray⟩] 9)) := hB0.alloc (by simp; omega) _
  have hm0 := (hB1.cell (p := ⟨0, 0, none⟩) hg).trans hm
  obtain ⟨W0, hW0⟩ : ∃ W0, W0 = (fieldW w name).alloc (.cells #[.string ⟨s.toArray⟩] 9) := ⟨_, rfl⟩
  have hsz : W0.heap.size = w.heap.size + 1 + 1 + 1 + 1 + 1 := by rw [hW0]; simp
  rw [← hW0] at bA hF hB1 hm0 ⊢
  clear hW0 b0 b1 bF bN hB0 hrun
  have HC := Lib.hid (cutp_calls · name)
  rw [← hnm] at HC
  refine wpIn_rangeFunc_box rfl h1 (gf := 23) (lb := #[.pointer (some ⟨w.heap.size + 1 + 1 + 1 + 1, 0, none⟩)]) rfl trivial (enters_of Try.func23 (by kernel_rfl) rfl)
    (lines_box (n - 1) (by omega) (w.heap.size + 1 + 1 + 1 + 1) s hs m _ (by omega) (by omega) bA hm0) KpL.trans (kpL_b (by omega) (by omega)) (Below.refl _ _) (fun _ => rfl) (fun b hb => by subst hb; omega)
    (fun pre W => (Miss nm pre ∧ ∃ f, (f = true ↔ pre = []) ∧ FBox w.heap.size name f W) ∧ Below w.heap.size w W)
    (fun c pre W => ((c = .ret ∧ W.cell? ⟨w.heap.size + 1, 0, none⟩ = some (.int .u64 ((field s nm).getD 0 : Nat)) ∧ W.cell? ⟨w.heap.size + 1 + 1, 0, none⟩ = some (.bool (field s nm).isSome)) ∨ (c = .exit 0 ∧ field s nm = none ∧ FBox w.heap.size name false W)) ∧ Below w.heap.size w W)
    (OwnFrom.and (Own.from (fun s A B row hs hg hr => by obtain ⟨h1, f, h2, h3⟩ := hs; exact ⟨h1, f, h2, h3.kept hg hr⟩) _) (ownFrom_below (Nat.le_refl _) (by omega)))
    (fun c => OwnFrom.and (Own.from (fun s A B row hs hg hr => by
      rcases hs with ⟨h1, h2, h3⟩ | ⟨h1, h2, h3⟩
      · exact .inl ⟨h1, cell_kept h2 hg hr, cell_kept h3 hg hr⟩
      · exact .inr ⟨h1, h2, h3.kept hg hr⟩) _) (ownFrom_below (Nat.le_refl _) (by omega)))
    (fun pre W b u hb h => by
      subst hb
      obtain ⟨⟨h1, f, h2, h3⟩, h4⟩ := h
      exact ⟨⟨h1, f, h2, h3.far (by omega) _⟩, h4.setCell (by simp; omega) _⟩)
    (fun c pre W b u hb h => by
      subst hb
      obtain ⟨h, h4⟩ := h
      refine ⟨?_, h4.setCell (by simp; omega) _⟩
      rcases h with ⟨h1, h2, h3⟩ | ⟨h1, h2, h3⟩
      · exact .inl ⟨h1, (World.cell?_setCell_other _ _ _ _ (by intro e; injection e with e; omega)).trans h2, (World.cell?_setCell_other _ _ _ _ (by intro e; injection e with e; omega)).trans h3⟩
      · exact .inr ⟨h1, h2, h3.far (by omega) _⟩)
    ⟨⟨rfl, true, by simp, hF⟩, hB1⟩
    (fun x => { tmps := #[.slice A s.length c, .string name, undef, .pointer (some ⟨w.heap.size, 0, none⟩), .pointer (some ⟨w.heap.size + 1, 0, none⟩), .pointer (some ⟨w.heap.size + 1 + 1, 0, none⟩), .pointer (some ⟨w.heap.size + 1 + 1 + 1, 0, none⟩), .string ⟨x.1.toArray⟩, undef, undef, undef, undef, .slice A s.length c, .string ⟨s.toArray⟩, .func (.func 23) #[] #[.pointer (some ⟨w.heap.size + 1 + 1 + 1 + 1, 0, none⟩)], .string ⟨x.1.toArray⟩, .string ⟨x.2.toArray⟩, undef, undef, undef, undef, undef, undef, undef, undef, undef, undef, undef, undef, undef, undef, undef, undef, undef, undef, undef, undef, undef, undef, undef, undef, undef, undef, undef, undef, undef, undef, undef, undef], defers := [] }) ?assign ?body ?done ?stop
  case assign =>
    intro l x W K hK
    gi_wp2
    exact hK
  case body =>
    rintro l pre ⟨x, y⟩ W hsp ⟨⟨hp, f, hf, hb⟩, hB⟩
    have hlen := line_short hsp
    obtain ⟨t, ht⟩ : ∃ t, t = Lib.trimPrefix x (nm ++ colon) := ⟨_, rfl⟩
    obtain ⟨p, hpp⟩ : ∃ p, p = Lib.hasPrefix x (nm ++ colon) := ⟨_, rfl⟩
    have HCx := HC.out x W
    rw [← ht, ← hpp] at HCx
    have hts := trim_short x (nm ++ colon)
    rw [← ht] at hts
    have HP := dig.parse_list t (by simp only at hlen; omega) W
    have hpb := dig.parse_bnd t
    obtain ⟨k, hk⟩ : ∃ k, k = (dig.parse t).1 := ⟨_, rfl⟩
    obtain ⟨q, hq⟩ : ∃ q, q = (dig.parse t).2 := ⟨_, rfl⟩
    rw [← hk, ← hq] at HP
    rw [← hq] at hpb
    have hhit : hit nm x = if p = true ∧ q = 0 then some k else none := by
      unfold hit
      rw [← ht, ← hpp, ← hq, ← hk]
    have HH := Lib.hid hhit
    have HS := Lib.hid hsp
    have HM := Lib.hid hp
    have HCX := Lib.hid HCx
    have HPX := Lib.hid HP
    have HFB := Lib.hid hb
    obtain ⟨x0, x1, x2, x3⟩ := hb
    have c0 := x0.cell
    have c1 := x1.cell
    have c2 := x2.cell
    have c3 := x3.cell
    have f1 := x1.frozen
    have f2 := x2.frozen
    have f3 := x3.frozen
    have hn1 : ¬ 9223372036854775807 < name.size + 2 := by omega
    clear hhit hsp hp HCx HP x0 x1 x2 x3 ht hpp hk hq hts hlen hnm
    have hkeep : Hid (KeepsFrom W0.heap.size W (W.setCell ⟨w.heap.size + 1 + 1 + 1, 0, none⟩ (.bool false)) ∧ KpL (w.heap.size + 1 + 1 + 1 + 1) W (W.setCell ⟨w.heap.size + 1 + 1 + 1, 0, none⟩ (.bool false)) ∧ FBox w.heap.size name false (W.setCell ⟨w.heap.size + 1 + 1 + 1, 0, none⟩ (.bool false)) ∧ Below w.heap.size w (W.setCell ⟨w.heap.size + 1 + 1 + 1, 0, none⟩ (.bool false))) := Lib.hid (by
      refine ⟨(KeepsOthers.setCell _ _ _).from _, ⟨Below.heap_setCell _ _ _ _ (by simp), Below.heap_setCell _ _ _ _ (by simp <;> omega)⟩, ⟨boxed_far HFB.out.1 (by omega) _, boxed_far HFB.out.2.1 (by omega) _, boxed_far HFB.out.2.2.1 (by omega) _, HFB.out.2.2.2.set _⟩, hB.setCell (by simp; omega) _⟩)
    rcases pre with _ | ⟨p0, pre⟩
    · obtain rfl : f = true := hf.2 rfl
      have HF := Lib.hid hf
      clear hf
      gi_wp2_with (refine ⟨trivial, ?_⟩; (first | gi_at_call 15; refine (CallsIn.inRound l (callsIn_wide.2 HCX.out)).mono ?_; rintro e w2 ⟨rfl, rfl⟩ | gi_at_call 16; refine (CallsIn.inRound l (callsIn_wide.2 HPX.out)).mono ?_; rintro e w2 ⟨rfl, rfl⟩))
      exact ⟨hkeep.out.1, hkeep.out.2.1, ⟨HM.out.snoc (.inl rfl), false, by simp, hkeep.out.2.2.1⟩, hkeep.out.2.2.2⟩
    · have hf0 : f = false := by
        cases f with
        | true => exact absurd (hf.1 rfl) (List.cons_ne_nil _ _)
        | false => rfl
      subst hf0
      clear hf
      cases x with
      | nil =>
        gi_wp2_with (refine ⟨trivial, ?_⟩; (first | gi_at_call 15; refine (CallsIn.inRound l (callsIn_wide.2 HCX.out)).mono ?_; rintro e w2 ⟨rfl, rfl⟩ | gi_at_call 16; refine (CallsIn.inRound l (callsIn_wide.2 HPX.out)).mono ?_; rintro e w2 ⟨rfl, rfl⟩))
        exact ⟨KeepsFrom.refl _ _, .inr ⟨rfl, field_end HS.out HM.out rfl, HFB.out⟩, hB⟩
      | cons a x =>
        have hcase : p = false ∨ p = true ∧ (q = 0 ∨ ((q : Int) == 0) = false ∧ q ≠ 0) := by
          cases p
          · exact .inl rfl
          · refine .inr ⟨rfl, ?_⟩
            by_cases h : q = 0
            · exact .inl h
            · exact .inr ⟨by simp; omega, h⟩
        rcases hcase with rfl | ⟨rfl, rfl | ⟨hq1, hq2⟩⟩
        · have hno : Hid (hit nm (a :: x) = none) := Lib.hid (by rw [HH.out]; simp)
          gi_wp2_with (refine ⟨trivial, ?_⟩; (first | gi_at_call 15; refine (CallsIn.inRound l (callsIn_wide.2 HCX.out)).mono ?_; rintro e w2 ⟨rfl, rfl⟩ | gi_at_call 16; refine (CallsIn.inRound l (callsIn_wide.2 HPX.out)).mono ?_; rintro e w2 ⟨rfl, rfl⟩))
          exact ⟨hkeep.out.1, hkeep.out.2.1, ⟨HM.out.snoc (.inr hno.out), false, by simp, hkeep.out.2.2.1⟩, hkeep.out.2.2.2⟩
        · have hyes : Hid (hit nm (a :: x) = some k) := Lib.hid (by rw [HH.out]; simp)
          gi_wp2_with (refine ⟨trivial, ?_⟩; (first | gi_at_call 15; refine (CallsIn.inRound l (callsIn_wide.2 HCX.out)).mono ?_; rintro e w2 ⟨rfl, rfl⟩ | gi_at_call 16; refine (CallsIn.inRound l (callsIn_wide.2 HPX.out)).mono ?_; rintro e w2 ⟨rfl, rfl⟩))
          refine ⟨((KeepsOthers.setCell _ _ _).trans (KeepsOthers.setCell _ _ _)).from _, .inl ⟨rfl, ?_, ?_⟩, (hB.setCell (p := ⟨w.heap.size + 1, 0, none⟩) (by simp) _).setCell (p := ⟨w.heap.size + 1 + 1, 0, none⟩) (by simp; omega) _⟩
          · rw [field_hit HS.out (List.cons_ne_nil _ _) HM.out hyes.out]
            refine (World.cell?_setCell_other _ _ _ _ (by intro e; injection e with e; omega)).trans ?_
            exact World.cell?_setCell_same' _ _ _ (by rw [c1]; rfl)
          · rw [field_hit HS.out (List.cons_ne_nil _ _) HM.out hyes.out]
            exact World.cell?_setCell_same' _ _ _ (by rw [World.cell?_setCell_other _ _ _ _ (by intro e; injection e with e; omega), c2]; rfl)
        · have hno : Hid (hit nm (a :: x) = none) := Lib.hid (by rw [HH.out]; simp [hq2])
          clear hq2
          gi_wp2_with (refine ⟨trivial, ?_⟩; (first | gi_at_call 15; refine (CallsIn.inRound l (callsIn_wide.2 HCX.out)).mono ?_; rintro e w2 ⟨rfl, rfl⟩ | gi_at_call 16; refine (CallsIn.inRound l (callsIn_wide.2 HPX.out)).mono ?_; rintro e w2 ⟨rfl, rfl⟩))
          exact ⟨hkeep.out.1, hkeep.out.2.1, ⟨HM.out.snoc (.inr hno.out), false, by simp, hkeep.out.2.2.1⟩, hkeep.out.2.2.2⟩
  case done =>
    rintro D ys W hD rfl ⟨⟨hne, f, -, hb⟩, hB⟩ hK
    have HN := Lib.hid (field_all hne)
    clear hne
    obtain ⟨x0, x1, x2, x3⟩ := hb
    have c1 := x1.cell
    have c2 := x2.cell
    have f1 := x1.frozen
    have f2 := x2.frozen
    gi_wp2
    have hK' := ((KeepsOthers.setCell W ⟨w.heap.size + 1, 0, none⟩ (.int .u64 0)).trans (KeepsOthers.setCell _ ⟨w.heap.size + 1 + 1, 0, none⟩ (.bool false))).same D _ hK rfl
    refine ⟨by simp, .inl ⟨_, _, rfl, run_takeDeferred hK', ?_⟩⟩
    have hr1 := cell_kept ((World.cell?_setCell_other _ _ _ _ (by intro e; injection e with e; omega)).trans (World.cell?_setCell_same' W ⟨w.heap.size + 1, 0, none⟩ (.int .u64 0) (by rw [c1]; rfl))) (grownBy_putObj' ((W.setCell ⟨w.heap.size + 1, 0, none⟩ (.int .u64 0)).setCell ⟨w.heap.size + 1 + 1, 0, none⟩ (.bool false)) D (.deferred none)) (fun r e => by cases e; exact ⟨_, hK', rfl⟩)
    have hr2 := cell_kept (World.cell?_setCell_same' (W.setCell ⟨w.heap.size + 1, 0, none⟩ (.int .u64 0)) ⟨w.heap.size + 1 + 1, 0, none⟩ (.bool false) (by rw [World.cell?_setCell_other _ _ _ _ (by intro e; injection e with e; omega), c2]; rfl)) (grownBy_putObj' _ D (.deferred none)) (fun r e => by cases e; exact ⟨_, hK', rfl⟩)
    refine ⟨.tuple #[.int .u64 0, .bool false], ?_, ?_, ((hB.setCell (p := ⟨w.heap.size + 1, 0, none⟩) (by simp) _).setCell (p := ⟨w.heap.size + 1 + 1, 0, none⟩) (by simp; omega) _).trans (belowK_b (w := w) (Nat.le_refl _) _ D _ _ (by omega) hK' rfl rfl)⟩
    · simp [results, Try.f8, go_sem, hr1, hr2]
    · rw [HN.out]
      rfl
  case stop =>
    rintro D c pre W hD hpre ⟨h, hB⟩ hK
    rcases h with ⟨rfl, h1, h2⟩ | ⟨rfl, h1, hb⟩
    · gi_wp2
      refine ⟨by simp, .inl ⟨_, _, rfl, run_takeDeferred hK, ?_⟩⟩
      have hr1 := cell_kept h1 (grownBy_putObj' _ D (.deferred none)) (fun r e => by cases e; exact ⟨_, hK, rfl⟩)
      have hr2 := cell_kept h2 (grownBy_putObj' _ D (.deferred none)) (fun r e => by cases e; exact ⟨_, hK, rfl⟩)
      refine ⟨.tuple #[.int .u64 ((field s nm).getD 0 : Nat), .bool (field s nm).isSome], ?_, rfl, hB.trans (belowK_b (w := w) (Nat.le_refl _) W D _ _ (by omega) hK rfl rfl)⟩
      simp [results, Try.f8, go_sem, hr1, hr2]
    · have HN := Lib.hid h1
      clear h1
      obtain ⟨x0, x1, x2, x3⟩ := hb
      have c1 := x1.cell
      have c2 := x2.cell
      have f1 := x1.frozen
      have f2 := x2.frozen
      gi_wp2
      have hK' := ((KeepsOthers.setCell W ⟨w.heap.size + 1, 0, none⟩ (.int .u64 0)).trans (KeepsOthers.setCell _ ⟨w.heap.size + 1 + 1, 0, none⟩ (.bool false))).same D _ hK rfl
      refine ⟨by simp, .inl ⟨_, _, rfl, run_takeDeferred hK', ?_⟩⟩
      have hr1 := cell_kept ((World.cell?_setCell_other _ _ _ _ (by intro e; injection e with e; omega)).trans (World.cell?_setCell_same' W ⟨w.heap.size + 1, 0, none⟩ (.int .u64 0) (by rw [c1]; rfl))) (grownBy_putObj' ((W.setCell ⟨w.heap.size + 1, 0, none⟩ (.int .u64 0)).setCell ⟨w.heap.size + 1 + 1, 0, none⟩ (.bool false)) D (.deferred none)) (fun r e => by cases e; exact ⟨_, hK', rfl⟩)
      have hr2 := cell_kept (World.cell?_setCell_same' (W.setCell ⟨w.heap.size + 1, 0, none⟩ (.int .u64 0)) ⟨w.heap.size + 1 + 1, 0, none⟩ (.bool false) (by rw [World.cell?_setCell_other _ _ _ _ (by intro e; injection e with e; omega), c2]; rfl)) (grownBy_putObj' _ D (.deferred none)) (fun r e => by cases e; exact ⟨_, hK', rfl⟩)
      refine ⟨.tuple #[.int .u64 0, .bool false], ?_, ?_, ((hB.setCell (p := ⟨w.heap.size + 1, 0, none⟩) (by simp) _).setCell (p := ⟨w.heap.size + 1 + 1, 0, none⟩) (by simp; omega) _).trans (belowK_b (w := w) (Nat.le_refl _) _ D _ _ (by omega) hK' rfl rfl)⟩
      · simp [results, Try.f8, go_sem, hr1, hr2]
      · rw [HN.out]
        rfl

/-- back.Field -/
theorem field_any (s : List UInt8) (hs : s.length < 4294967281) (name : ByteArray) (hname : name.size ≤ 1000000) (A : Option Addr) (c : Nat) (m : Int) (w : World) (hm : w.cell? ⟨0, 0, none⟩ = some (.int .i64 m))
    (hr : Row w w.heap.size A (u8s s)) :
    Calls Try.prog 8 #[.slice A s.length c, .string name] w fun e W' => e = .returned (.tuple #[.int .u64 ((field s name.data.toList).getD 0 : Nat), .bool (field s name.data.toList).isSome]) ∧ Below w.heap.size w W' :=
  callsIn_wide.1 (field_in 4 (Nat.le_refl _) s hs name hname _ rfl A c m w hm hr)
end Go.Proofs.Ytalehfdcebabnaa.back
