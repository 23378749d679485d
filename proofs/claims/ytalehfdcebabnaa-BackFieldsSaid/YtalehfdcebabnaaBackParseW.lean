/- back.Parse, walked. -/
import Derived.Test.YtalehfdcebabnaaBackParseA
import Derived.LaidEqlPtr
namespace Go.Proofs.Ytalehfdcebabnaa.back
open Go.RowKit Go.Shelf
open Go.Proofs.Ytalehfdcebabnaa.head
open Go.Proofs.Ytalehfdcebabnaa.aid

attribute [local go_sem] Oper.semAt_some

/-- the boxes of Parse: the result, the answer, two numbers -/
abbrev parseW (w : World) : World := (((w.alloc (.cells zeroCells 27)).alloc (.cells zeroCells 27)).alloc (.cells #[.int .u64 0] 24)).alloc (.cells #[.int .u64 0] 24)
/-- the map, too, and its box -/
abbrev parseM (w : World) : World := ((parseW w).alloc (.map (ps7 w.heap.size) 7)).alloc (.cells #[.map (some (w.heap.size + 1 + 1 + 1 + 1))] 49)

/-- the end of Parse, from behind the region of three stores on -/
def TailOK (K0 : Act → World → Prop) (w : World) (s : List UInt8) (A : Option Addr) (c D : Nat) (st : Seen) (bd : List UInt8) : Prop :=
  ∀ (N cc : Nat) (W' : World), EndB w.heap.size D #[.int .u8 (st.code : Nat), .int .u16 (IntKind.u16.wrap (st.wrong : Nat)), .int .u64 (st.limit : Nat), .int .u64 (st.left : Nat), .int .u64 (st.reset : Nat), .int .u64 (st.after : Nat), .int .u64 (st.nanos : Nat), .bool st.retry, .int .i64 (IntKind.i64.wrap (st.many : Nat)), .slice (some ⟨N, 0, none⟩) bd.length cc] w bd N cc W' → K0 { tmps := (List.toArray ((.slice A s.length c) :: undef :: (.pointer (some ⟨w.heap.size, 0, none⟩)) :: (.int .u16 0) :: (.pointer (some ⟨w.heap.size + 1, 0, none⟩)) :: (.pointer (some ⟨w.heap.size + 1 + 1, 0, none⟩)) :: (.pointer (some ⟨w.heap.size + 1 + 1 + 1, 0, none⟩)) :: (.pointer (some ⟨w.heap.size + 1 + 1 + 1 + 1 + 1, 0, none⟩)) :: undef :: undef :: undef :: undef :: undef :: undef :: (.map (some (w.heap.size + 1 + 1 + 1 + 1))) :: (.pointer (some ⟨w.heap.size + 1, 2, none⟩)) :: (.pointer (some ⟨w.heap.size + 1, 3, none⟩)) :: (.pointer (some ⟨w.heap.size + 1, 4, none⟩)) :: (.pointer (some ⟨w.heap.size + 1, 5, none⟩)) :: (.pointer (some ⟨w.heap.size + 1, 6, none⟩)) :: (.map (some (w.heap.size + 1 + 1 + 1 + 1))) :: (.slice A s.length c) :: (.string ⟨s.toArray⟩) :: (.func (.func 23) #[] #[.pointer (some ⟨w.heap.size + 1 + 1 + 1 + 1 + 1 + 1, 0, none⟩)]) :: undef :: undef :: undef :: undef :: undef :: undef :: undef :: undef :: undef :: undef :: undef :: undef :: undef :: undef :: undef :: undef :: undef :: undef :: undef :: undef :: undef :: undef :: undef :: undef :: undef :: undef :: undef :: undef :: undef :: undef :: undef :: undef :: undef :: undef :: undef :: undef :: undef :: undef :: (.int .u64 (st.wrong : Nat)) :: (.int .u16 (IntKind.u16.wrap (st.wrong : Nat))) :: (.int .u64 (st.many : Nat)) :: (.int .i64 (IntKind.i64.wrap (st.many : Nat))) :: (.slice A s.length c) :: (.string ⟨s.toArray⟩) :: (.string ⟨bd.toArray⟩) :: (.slice (some ⟨N, 0, none⟩) bd.length cc) :: (.pointer (some ⟨w.heap.size + 1, 1, none⟩)) :: (.pointer (some ⟨w.heap.size + 1, 8, none⟩)) :: (.pointer (some ⟨w.heap.size + 1, 9, none⟩)) :: undef :: undef :: undef :: undef :: undef :: undef :: undef :: undef :: undef :: undef :: undef :: undef :: undef :: undef :: [])), defers := [{ target := .collected D, args := #[] }] } W'
set_option maxRecDepth 100000 in
set_option maxHeartbeats 40000000 in
theorem parse_in (n : Nat) (hn : 4 ≤ n) (s : List UInt8) (hs : s.length < 4294967281) (A : Option Addr) (c : Nat) (m : Int) (w : World) (hm : w.cell? ⟨0, 0, none⟩ = some (.int .i64 m))
    (hr : Row w w.heap.size A (u8s s)) :
    CallsIn Fence.wide n Try.prog 9 #[.slice A s.length c] w fun e W' => ∃ A' c', e = .returned (.tuple #[ansV (parse s).1 A' c', .int .u16 ((parse s).2 : Nat)]) ∧ (parse s).1.body.length ≤ c' ∧ Row W' W'.heap.size A' (u8s (parse s).1.body) ∧ Below w.heap.size w W' := by
  have h1 : 1 ≤ n := by omega
  have h2 : 1 ≤ n - 1 - 1 := by omega
  have hg := block_lt_of_cell hm
  have hB0 : Below w.heap.size w (parseM w) := (((((Below.refl _ w).alloc (Nat.le_refl _) _).alloc (by simp) _).alloc (by simp; omega) _).alloc (by simp; omega) _ |>.alloc (by simp; omega) _).alloc (by simp; omega) _
  have hrun : (convert 25 9 (.slice A s.length c)).run Try.prog (parseM w) = .ok (.string ⟨s.toArray⟩) (parseM w) := row_string (hr.below hB0)
  have m0 := @run_makeMap Try.prog
  have m1 := run_insert_new (P := Try.prog) (parseW w) ps0 0 49 9 48 .string (.string bLimit) (.pointer (some ⟨w.heap.size + 1, 2, none⟩)) (by kernel_rfl) (by kernel_rfl) trivial rfl
  have m2 := run_insert_new (P := Try.prog) (parseW w) (ps1 w.heap.size) 1 49 9 48 .string (.string bLeft) (.pointer (some ⟨w.heap.size + 1, 3, none⟩)) (by kernel_rfl) (by kernel_rfl) trivial rfl
  have m3 := run_insert_new (P := Try.prog) (parseW w) (ps2 w.heap.size) 2 49 9 48 .string (.string bReset) (.pointer (some ⟨w.heap.size + 1, 4, none⟩)) (by kernel_rfl) (by kernel_rfl) trivial rfl
  have m4 := run_insert_new (P := Try.prog) (parseW w) (ps3 w.heap.size) 3 49 9 48 .string (.string bAfter) (.pointer (some ⟨w.heap.size + 1, 5, none⟩)) (by kernel_rfl) (by kernel_rfl) trivial rfl
  have m5 := run_insert_new (P := Try.prog) (parseW w) (ps4 w.heap.size) 4 49 9 48 .string (.string bNanos) (.pointer (some ⟨w.heap.size + 1, 6, none⟩)) (by kernel_rfl) (by kernel_rfl) trivial rfl
  have m6 := run_insert_new (P := Try.prog) (parseW w) (ps5 w.heap.size) 5 49 9 48 .string (.string bError) (.pointer (some ⟨w.heap.size + 1 + 1, 0, none⟩)) (by kernel_rfl) (by kernel_rfl) trivial rfl
  have m7 := run_insert_new (P := Try.prog) (parseW w) (ps6 w.heap.size) 6 49 9 48 .string (.string bCount) (.pointer (some ⟨w.heap.size + 1 + 1 + 1, 0, none⟩)) (by kernel_rfl) (by kernel_rfl) trivial rfl
  simp only [World.size_alloc] at m1 m2 m3 m4 m5 m6 m7
  change _ = Result.ok () ((parseW w).alloc (.map (ps1 w.heap.size) 1)) at m1
  change _ = Result.ok () ((parseW w).alloc (.map (ps2 w.heap.size) 2)) at m2
  change _ = Result.ok () ((parseW w).alloc (.map (ps3 w.heap.size) 3)) at m3
  change _ = Result.ok () ((parseW w).alloc (.map (ps4 w.heap.size) 4)) at m4
  change _ = Result.ok () ((parseW w).alloc (.map (ps5 w.heap.size) 5)) at m5
  change _ = Result.ok () ((parseW w).alloc (.map (ps6 w.heap.size) 6)) at m6
  change _ = Result.ok () ((parseW w).alloc (.map (ps7 w.heap.size) 7)) at m7
  refine callsIn_of_wp_marks Try.func9 rfl trivial ?_ rfl
  simp only [Try.ntmps9, List.size_toArray, List.length_cons, List.length_nil, Nat.reduceAdd, Nat.reduceSub, Array.replicate_succ, Array.replicate_zero, List.push_toArray, List.append_toArray, List.nil_append, List.cons_append]
  gi_wp2_with (refine ⟨trivial, ?_⟩; gi_at_call 14; refine (lines_in (n - 1) _ _).mono ?_; rintro e w' ⟨rfl, rfl⟩)
  -- THE LOOP
  have hF : PBox w.heap.size blank ((parseM w).alloc (.cells #[.string ⟨s.toArray⟩] 9)) := by
    have a0 := Blk.new w 27 zeroCells
    have a1 := Blk.new (w.alloc (.cells zeroCells 27)) 27 zeroCells
    have a2 := Boxed.new ((w.alloc (.cells zeroCells 27)).alloc (.cells zeroCells 27)) 24 (.int .u64 0)
    have a3 := Boxed.new (((w.alloc (.cells zeroCells 27)).alloc (.cells zeroCells 27)).alloc (.cells #[.int .u64 0] 24)) 24 (.int .u64 0)
    have a4 := MBlk.new (parseW w) (ps7 w.heap.size) 7
    have a5 := Boxed.new ((parseW w).alloc (.map (ps7 w.heap.size) 7)) 49 (.map (some (w.heap.size + 1 + 1 + 1 + 1)))
    simp only [World.size_alloc] at a1 a2 a3 a4 a5
    have b4 : MBlk ((parseM w).alloc (.cells #[.string ⟨s.toArray⟩] 9)) (w.heap.size + 1 + 1 + 1 + 1) (ps7 w.heap.size) 7 := a4.below (B := w.heap.size + 1 + 1 + 1 + 1 + 1) (((Below.refl _ _).alloc (by simp) _).alloc (by simp) _) (by omega)
    exact ⟨(((((a0.alloc _).alloc _).alloc _).alloc _).alloc _).alloc _, ((((a1.alloc _).alloc _).alloc _).alloc _).alloc _, (((a2.alloc _).alloc _).alloc _).alloc _, ((a3.alloc _).alloc _).alloc _, b4, a5.alloc _, by simp⟩
  have bA := Boxed.new (parseM w) 9 (.string ⟨s.toArray⟩)
  simp only [World.size_alloc] at bA
  have hB1 : Below w.heap.size w ((parseM w).alloc (.cells #[.string ⟨s.toArray⟩] 9)) := hB0.alloc (by simp; omega) _
  have hm0 := (hB1.cell (p := ⟨0, 0, none⟩) hg).trans hm
  obtain ⟨W0, hW0⟩ : ∃ W0, W0 = (parseM w).alloc (.cells #[.string ⟨s.toArray⟩] 9) := ⟨_, rfl⟩
  have hsz : W0.heap.size = w.heap.size + 1 + 1 + 1 + 1 + 1 + 1 + 1 := by rw [hW0]; simp
  rw [← hW0] at bA hF hB1 hm0 ⊢
  clear hW0 hB0 hrun m0 m1 m2 m3 m4 m5 m6 m7
  refine wpIn_rangeFunc_box rfl h1 (gf := 23) (lb := #[.pointer (some ⟨w.heap.size + 1 + 1 + 1 + 1 + 1 + 1, 0, none⟩)]) rfl trivial (enters_of Try.func23 (by kernel_rfl) rfl)
    (lines_box (n - 1) (by omega) (w.heap.size + 1 + 1 + 1 + 1 + 1 + 1) s hs m _ (by omega) (by omega) bA hm0) KpL.trans (kpL_b (by omega) (by omega)) (Below.refl _ _) (fun _ => rfl) (fun b hb => by subst hb; omega)
    (fun pre W => PBox w.heap.size (pre.foldl (fun s x => step s x.1) blank) W ∧ Below w.heap.size w W)
    (fun _ _ _ => False)
    (OwnFrom.and (PBox.own (by omega) _) (ownFrom_below (Nat.le_refl _) (by omega)))
    (fun c => fun _ _ _ _ h => h.elim)
    (fun pre W b u hb h => by
      subst hb
      exact ⟨h.1.far _ (by simp) _, h.2.setCell (by simp; omega) _⟩)
    (fun c pre W b u hb h => h)
    ⟨hF, hB1⟩
    (fun x => { tmps := #[.slice A s.length c, undef, .pointer (some ⟨w.heap.size, 0, none⟩), .int .u16 0, .pointer (some ⟨w.heap.size + 1, 0, none⟩), .pointer (some ⟨w.heap.size + 1 + 1, 0, none⟩), .pointer (some ⟨w.heap.size + 1 + 1 + 1, 0, none⟩), .pointer (some ⟨w.heap.size + 1 + 1 + 1 + 1 + 1, 0, none⟩), .string ⟨x.1.toArray⟩, undef, undef, undef, undef, undef, .map (some (w.heap.size + 1 + 1 + 1 + 1)), .pointer (some ⟨w.heap.size + 1, 2, none⟩), .pointer (some ⟨w.heap.size + 1, 3, none⟩), .pointer (some ⟨w.heap.size + 1, 4, none⟩), .pointer (some ⟨w.heap.size + 1, 5, none⟩), .pointer (some ⟨w.heap.size + 1, 6, none⟩), .map (some (w.heap.size + 1 + 1 + 1 + 1)), .slice A s.length c, .string ⟨s.toArray⟩, .func (.func 23) #[] #[.pointer (some ⟨w.heap.size + 1 + 1 + 1 + 1 + 1 + 1, 0, none⟩)], .string ⟨x.1.toArray⟩, .string ⟨x.2.toArray⟩, undef, undef, undef, undef, undef, undef, undef, undef, undef, undef, undef, undef, undef, undef, undef, undef, undef, undef, undef, undef, undef, undef, undef, undef, undef, undef, undef, undef, undef, undef, undef, undef, undef, undef, undef, undef, undef, undef, undef, undef, undef, undef, undef, undef, undef, undef, undef, undef, undef, undef, undef, undef, undef, undef, undef, undef, undef, undef, undef, undef, undef], defers := [] }) ?assign ?body ?done ?stop
  case assign =>
    intro l x W K hK
    gi_wp2
    exact hK
  case stop =>
    intro D c pre W hD hpre h
    exact h.elim
  case body =>
    rintro l pre ⟨x, y⟩ W hsp ⟨hb, hB⟩
    have hlen := line_short hsp
    simp only at hlen
    have hfold : Hid ((pre ++ [(x, y)]).foldl (fun s x => step s x.1) blank = step (pre.foldl (fun s x => step s x.1) blank) x) := Lib.hid (by rw [List.foldl_append]; rfl)
    generalize pre.foldl (fun s x => step s x.1) blank = st at hb hfold
    have hcl := codeOf_le x
    have HCD := Lib.hid (code_any x)
    have HNU := Lib.hid (fun W h => number_any x (by omega) m W h)
    obtain ⟨cd, hcd⟩ : ∃ cd, cd = codeOf x := ⟨_, rfl⟩
    rw [← hcd] at HCD hcl
    obtain ⟨nmv, hnv⟩ : ∃ nmv, nmv = (Lib.cut x colon).1 := ⟨_, rfl⟩
    obtain ⟨k, hk⟩ : ∃ k, k = (dig.parse (Lib.cut x colon).2.1).1 := ⟨_, rfl⟩
    obtain ⟨q, hq⟩ : ∃ q, q = ((Lib.cut x colon).2.2 && (dig.parse (Lib.cut x colon).2.1).2 == 0) := ⟨_, rfl⟩
    rw [← hnv, ← hk, ← hq] at HNU
    have hc0 : st.code = 0 → 0 < cd → Hid (step st x = { st with code := cd }) := fun h0 h1 => Lib.hid (by rw [hcd] at h1 ⊢; exact step_code h1 h0)
    have hc1 : ¬ (0 < cd ∧ st.code = 0) → Hid (step st x = if q = true then put st nmv k else st) := fun h => Lib.hid (step_rest (by rw [← hcd]; exact h) hnv hk hq)
    have hm1 := (hB.cell (p := ⟨0, 0, none⟩) hg).trans hm
    have HPB := Lib.hid hb
    have hH2 : Hid (∀ w2, Below W.heap.size W w2 → PBox w.heap.size st w2 ∧ Held w.heap.size W w2 ∧ w2.cell? ⟨0, 0, none⟩ = some (.int .i64 m)) := Lib.hid fun w2 h => ⟨HPB.out.below h, Held.below hg HPB.out.more h, (h.cell (p := ⟨0, 0, none⟩) (by have := HPB.out.more; show 0 < _; omega)).trans hm1⟩
    have hH3 : Hid (∀ w2 w3, Below W.heap.size W w2 → Below w2.heap.size w2 w3 → PBox w.heap.size st w3 ∧ Held w.heap.size W w3) := Lib.hid fun w2 w3 h k => ⟨(HPB.out.below h).below k, (Held.below hg HPB.out.more h).trans (Held.below hg (HPB.out.below h).more k)⟩
    have HB := Lib.hid hB
    have hlk : Hid (∀ w3, PBox w.heap.size st w3 → (Instr.lookup 49 (.map (some (w.heap.size + 1 + 1 + 1 + 1))) (.string ⟨nmv.toArray⟩) false).run Try.prog w3 = .ok (.pointer (place w.heap.size nmv)) w3) := Lib.hid fun w3 h => look_place _ _ h.mp
    clear hsp hlen hcd hk hq hnv hb hB hm1 bA hF hB1 hm0 hr hm
    obtain ⟨i0, HI, -, hz1, -⟩ := info_parts u64_info
    have HI := Lib.hid HI
    have HJ : Hid (i0.size ≠ 0) := Lib.hid (by omega)
    clear hz1
    -- the cases
    have hfin : Hid (∀ w', Held w.heap.size W w' → PBox w.heap.size (step st x) w' → KeepsFrom W0.heap.size W w' ∧ KpL (w.heap.size + 1 + 1 + 1 + 1 + 1 + 1) W w' ∧ PBox w.heap.size ((pre ++ [(x, y)]).foldl (fun s x => step s x.1) blank) w' ∧ Below w.heap.size w w') := Lib.hid fun w' h k => ⟨by rw [hsz]; exact h.1, h.2.1, by rw [hfold.out]; exact k, HB.out.trans h.2.2⟩
    clear hfold
    by_cases hA : 0 < cd ∧ st.code = 0
    · obtain ⟨hA1, hA2⟩ := hA
      have hS := hc0 hA2 hA1
      have hA3 : (0 : Int) < cd := by omega
      gi_wp2_with (refine ⟨trivial, ?_⟩; (first | gi_at_call 17; refine (CallsIn.inRound l (callsIn_wide.2 (HCD.out W))).mono ?_; rintro e w2 ⟨rfl, hb2⟩; refine Hid.out ?_ | gi_at_call 18; refine (CallsIn.inRound l (callsIn_wide.2 (HNU.out _ hm2))).mono ?_; rintro e w3 ⟨rfl, hb3⟩; refine Hid.out ?_))
      obtain ⟨hp2, hd2, hm2⟩ := hH2.out w2 hb2
      have e0 : w2.cell? ⟨w.heap.size + 1, 0, none⟩ = some (.int .u8 (st.code : Nat)) := hp2.ans.cell 0
      have f0 := hp2.ans.frozen 0
      refine Lib.hid ?_
      rw [hA2] at e0
      gi_wp2
      exact hfin.out _ (hd2.set_ hg ⟨w.heap.size + 1, 0, none⟩ (by simp) (by simp; try omega) _) (by rw [hS.out]; exact hp2.setAns 0 _ rfl rfl rfl)
    · have hS := hc1 hA
      have hB : cd = 0 ∨ (0 : Int) < cd ∧ ((st.code : Int) == 0) = false := by
        rcases Nat.eq_zero_or_pos cd with h | h
        · exact .inl h
        · exact .inr ⟨by omega, by simp; omega⟩
      clear hA hc0 hc1
      rcases hB with rfl | ⟨hB1, hB2⟩
      · cases q with
        | false =>
          cases hpl : place w.heap.size nmv with
          | none =>
            gi_wp2_with (refine ⟨trivial, ?_⟩; (first | gi_at_call 17; refine (CallsIn.inRound l (callsIn_wide.2 (HCD.out W))).mono ?_; rintro e w2 ⟨rfl, hb2⟩; refine Hid.out ?_ | gi_at_call 18; refine (CallsIn.inRound l (callsIn_wide.2 (HNU.out _ hm2))).mono ?_; rintro e w3 ⟨rfl, hb3⟩; refine Hid.out ?_))
            obtain ⟨hp2, hd2, hm2⟩ := hH2.out w2 hb2
            have e0 : w2.cell? ⟨w.heap.size + 1, 0, none⟩ = some (.int .u8 (st.code : Nat)) := hp2.ans.cell 0
            have f0 := hp2.ans.frozen 0
            refine Lib.hid ?_
            gi_wp2_with (refine ⟨trivial, ?_⟩; (first | gi_at_call 17; refine (CallsIn.inRound l (callsIn_wide.2 (HCD.out W))).mono ?_; rintro e w2 ⟨rfl, hb2⟩; refine Hid.out ?_ | gi_at_call 18; refine (CallsIn.inRound l (callsIn_wide.2 (HNU.out _ hm2))).mono ?_; rintro e w3 ⟨rfl, hb3⟩; refine Hid.out ?_))
            obtain ⟨hp3, hd3⟩ := hH3.out w2 w3 hb2 hb3
            have hl := hlk.out w3 hp3
            rw [hpl] at hl
            have ht := hp3.to.cell
            clear e0 f0
            refine Lib.hid ?_
            gi_wp2
            exact hfin.out _ hd3 (by rw [hS.out]; exact hp3)
          | some p =>
            gi_wp2_with (refine ⟨trivial, ?_⟩; (first | gi_at_call 17; refine (CallsIn.inRound l (callsIn_wide.2 (HCD.out W))).mono ?_; rintro e w2 ⟨rfl, hb2⟩; refine Hid.out ?_ | gi_at_call 18; refine (CallsIn.inRound l (callsIn_wide.2 (HNU.out _ hm2))).mono ?_; rintro e w3 ⟨rfl, hb3⟩; refine Hid.out ?_))
            obtain ⟨hp2, hd2, hm2⟩ := hH2.out w2 hb2
            have e0 : w2.cell? ⟨w.heap.size + 1, 0, none⟩ = some (.int .u8 (st.code : Nat)) := hp2.ans.cell 0
            have f0 := hp2.ans.frozen 0
            refine Lib.hid ?_
            gi_wp2_with (refine ⟨trivial, ?_⟩; (first | gi_at_call 17; refine (CallsIn.inRound l (callsIn_wide.2 (HCD.out W))).mono ?_; rintro e w2 ⟨rfl, hb2⟩; refine Hid.out ?_ | gi_at_call 18; refine (CallsIn.inRound l (callsIn_wide.2 (HNU.out _ hm2))).mono ?_; rintro e w3 ⟨rfl, hb3⟩; refine Hid.out ?_))
            obtain ⟨hp3, hd3⟩ := hH3.out w2 w3 hb2 hb3
            have hl := hlk.out w3 hp3
            rw [hpl] at hl
            have ht := hp3.to.cell
            clear e0 f0
            refine Lib.hid ?_
            gi_wp2
            exact hfin.out _ hd3 (by rw [hS.out]; exact hp3)
        | true =>
          by_cases n0 : nmv = nLimit
          · subst n0
            have hpl : place w.heap.size nLimit = some ⟨w.heap.size + 1, 2, none⟩ := rfl
            rcases Bool.eq_false_or_eq_true st.retry with hrt | hrt
            · skip
              gi_wp2_with (refine ⟨trivial, ?_⟩; (first | gi_at_call 17; refine (CallsIn.inRound l (callsIn_wide.2 (HCD.out W))).mono ?_; rintro e w2 ⟨rfl, hb2⟩; refine Hid.out ?_ | gi_at_call 18; refine (CallsIn.inRound l (callsIn_wide.2 (HNU.out _ hm2))).mono ?_; rintro e w3 ⟨rfl, hb3⟩; refine Hid.out ?_))
              obtain ⟨hp2, hd2, hm2⟩ := hH2.out w2 hb2
              have e0 : w2.cell? ⟨w.heap.size + 1, 0, none⟩ = some (.int .u8 (st.code : Nat)) := hp2.ans.cell 0
              have f0 := hp2.ans.frozen 0
              refine Lib.hid ?_
              gi_wp2_with (refine ⟨trivial, ?_⟩; (first | gi_at_call 17; refine (CallsIn.inRound l (callsIn_wide.2 (HCD.out W))).mono ?_; rintro e w2 ⟨rfl, hb2⟩; refine Hid.out ?_ | gi_at_call 18; refine (CallsIn.inRound l (callsIn_wide.2 (HNU.out _ hm2))).mono ?_; rintro e w3 ⟨rfl, hb3⟩; refine Hid.out ?_))
              obtain ⟨hp3, hd3⟩ := hH3.out w2 w3 hb2 hb3
              have hl := hlk.out w3 hp3
              rw [hpl] at hl
              have ht := hp3.to.cell
              clear e0 f0
              have e1 := hp3.ans.cell 2
              have f1 := hp3.ans.frozen 2
              have e7 : w3.cell? ⟨w.heap.size + 1, 7, none⟩ = some (.bool st.retry) := hp3.ans.cell 7
              have f7 := hp3.ans.frozen 7
              rw [hrt] at e7
              have hp4 := Lib.hid (hp3.setAns (s' := { st with limit := k }) 2 (.int .u64 k) rfl rfl rfl)
              have hq := run_eql_ptr_other (P := Try.prog) (w3.setCell ⟨w.heap.size + 1, 2, none⟩ (.int .u64 k)) (a := ⟨w.heap.size + 1, 2, none⟩) (b := ⟨w.heap.size + 1, 6, none⟩) (tp := 48) (by kernel_rfl) HI.out HJ.out (by simp) hp4.out.ans hp4.out.ans
              refine Lib.hid ?_
              gi_wp2
              refine hfin.out _ ((hd3.set_ hg ⟨w.heap.size + 1, 2, none⟩ (by simp; try omega) (by simp; try omega) _).set_ hg ⟨w.heap.size + 1, 7, none⟩ (by simp) (by simp; try omega) _) ?_
              rw [hS.out]
              simp only [↓reduceIte]
              rw [show put st nLimit k = { st with limit := k } from rfl]
              exact hp4.out.setAns 7 (.bool true) (by simp [hrt]) rfl rfl
            · skip
              gi_wp2_with (refine ⟨trivial, ?_⟩; (first | gi_at_call 17; refine (CallsIn.inRound l (callsIn_wide.2 (HCD.out W))).mono ?_; rintro e w2 ⟨rfl, hb2⟩; refine Hid.out ?_ | gi_at_call 18; refine (CallsIn.inRound l (callsIn_wide.2 (HNU.out _ hm2))).mono ?_; rintro e w3 ⟨rfl, hb3⟩; refine Hid.out ?_))
              obtain ⟨hp2, hd2, hm2⟩ := hH2.out w2 hb2
              have e0 : w2.cell? ⟨w.heap.size + 1, 0, none⟩ = some (.int .u8 (st.code : Nat)) := hp2.ans.cell 0
              have f0 := hp2.ans.frozen 0
              refine Lib.hid ?_
              gi_wp2_with (refine ⟨trivial, ?_⟩; (first | gi_at_call 17; refine (CallsIn.inRound l (callsIn_wide.2 (HCD.out W))).mono ?_; rintro e w2 ⟨rfl, hb2⟩; refine Hid.out ?_ | gi_at_call 18; refine (CallsIn.inRound l (callsIn_wide.2 (HNU.out _ hm2))).mono ?_; rintro e w3 ⟨rfl, hb3⟩; refine Hid.out ?_))
              obtain ⟨hp3, hd3⟩ := hH3.out w2 w3 hb2 hb3
              have hl := hlk.out w3 hp3
              rw [hpl] at hl
              have ht := hp3.to.cell
              clear e0 f0
              have e1 := hp3.ans.cell 2
              have f1 := hp3.ans.frozen 2
              have e7 : w3.cell? ⟨w.heap.size + 1, 7, none⟩ = some (.bool st.retry) := hp3.ans.cell 7
              have f7 := hp3.ans.frozen 7
              rw [hrt] at e7
              have hp4 := Lib.hid (hp3.setAns (s' := { st with limit := k }) 2 (.int .u64 k) rfl rfl rfl)
              have hq := run_eql_ptr_other (P := Try.prog) (w3.setCell ⟨w.heap.size + 1, 2, none⟩ (.int .u64 k)) (a := ⟨w.heap.size + 1, 2, none⟩) (b := ⟨w.heap.size + 1, 6, none⟩) (tp := 48) (by kernel_rfl) HI.out HJ.out (by simp) hp4.out.ans hp4.out.ans
              refine Lib.hid ?_
              gi_wp2
              refine hfin.out _ ((hd3.set_ hg ⟨w.heap.size + 1, 2, none⟩ (by simp; try omega) (by simp; try omega) _).set_ hg ⟨w.heap.size + 1, 7, none⟩ (by simp) (by simp; try omega) _) ?_
              rw [hS.out]
              simp only [↓reduceIte]
              rw [show put st nLimit k = { st with limit := k } from rfl]
              exact hp4.out.setAns 7 (.bool false) (by simp [hrt]) rfl rfl
          by_cases n1 : nmv = nLeft
          · subst n1
            have hpl : place w.heap.size nLeft = some ⟨w.heap.size + 1, 3, none⟩ := rfl
            rcases Bool.eq_false_or_eq_true st.retry with hrt | hrt
            · skip
              gi_wp2_with (refine ⟨trivial, ?_⟩; (first | gi_at_call 17; refine (CallsIn.inRound l (callsIn_wide.2 (HCD.out W))).mono ?_; rintro e w2 ⟨rfl, hb2⟩; refine Hid.out ?_ | gi_at_call 18; refine (CallsIn.inRound l (callsIn_wide.2 (HNU.out _ hm2))).mono ?_; rintro e w3 ⟨rfl, hb3⟩; refine Hid.out ?_))
              obtain ⟨hp2, hd2, hm2⟩ := hH2.out w2 hb2
              have e0 : w2.cell? ⟨w.heap.size + 1, 0, none⟩ = some (.int .u8 (st.code : Nat)) := hp2.ans.cell 0
              have f0 := hp2.ans.frozen 0
              refine Lib.hid ?_
              gi_wp2_with (refine ⟨trivial, ?_⟩; (first | gi_at_call 17; refine (CallsIn.inRound l (callsIn_wide.2 (HCD.out W))).mono ?_; rintro e w2 ⟨rfl, hb2⟩; refine Hid.out ?_ | gi_at_call 18; refine (CallsIn.inRound l (callsIn_wide.2 (HNU.out _ hm2))).mono ?_; rintro e w3 ⟨rfl, hb3⟩; refine Hid.out ?_))
              obtain ⟨hp3, hd3⟩ := hH3.out w2 w3 hb2 hb3
              have hl := hlk.out w3 hp3
              rw [hpl] at hl
              have ht := hp3.to.cell
              clear e0 f0
              have e1 := hp3.ans.cell 3
              have f1 := hp3.ans.frozen 3
              have e7 : w3.cell? ⟨w.heap.size + 1, 7, none⟩ = some (.bool st.retry) := hp3.ans.cell 7
              have f7 := hp3.ans.frozen 7
              rw [hrt] at e7
              have hp4 := Lib.hid (hp3.setAns (s' := { st with left := k }) 3 (.int .u64 k) rfl rfl rfl)
              have hq := run_eql_ptr_other (P := Try.prog) (w3.setCell ⟨w.heap.size + 1, 3, none⟩ (.int .u64 k)) (a := ⟨w.heap.size + 1, 3, none⟩) (b := ⟨w.heap.size + 1, 6, none⟩) (tp := 48) (by kernel_rfl) HI.out HJ.out (by simp) hp4.out.ans hp4.out.ans
              refine Lib.hid ?_
              gi_wp2
              refine hfin.out _ ((hd3.set_ hg ⟨w.heap.size + 1, 3, none⟩ (by simp; try omega) (by simp; try omega) _).set_ hg ⟨w.heap.size + 1, 7, none⟩ (by simp) (by simp; try omega) _) ?_
              rw [hS.out]
              simp only [↓reduceIte]
              rw [show put st nLeft k = { st with left := k } from rfl]
              exact hp4.out.setAns 7 (.bool true) (by simp [hrt]) rfl rfl
            · skip
              gi_wp2_with (refine ⟨trivial, ?_⟩; (first | gi_at_call 17; refine (CallsIn.inRound l (callsIn_wide.2 (HCD.out W))).mono ?_; rintro e w2 ⟨rfl, hb2⟩; refine Hid.out ?_ | gi_at_call 18; refine (CallsIn.inRound l (callsIn_wide.2 (HNU.out _ hm2))).mono ?_; rintro e w3 ⟨rfl, hb3⟩; refine Hid.out ?_))
              obtain ⟨hp2, hd2, hm2⟩ := hH2.out w2 hb2
              have e0 : w2.cell? ⟨w.heap.size + 1, 0, none⟩ = some (.int .u8 (st.code : Nat)) := hp2.ans.cell 0
              have f0 := hp2.ans.frozen 0
              refine Lib.hid ?_
              gi_wp2_with (refine ⟨trivial, ?_⟩; (first | gi_at_call 17; refine (CallsIn.inRound l (callsIn_wide.2 (HCD.out W))).mono ?_; rintro e w2 ⟨rfl, hb2⟩; refine Hid.out ?_ | gi_at_call 18; refine (CallsIn.inRound l (callsIn_wide.2 (HNU.out _ hm2))).mono ?_; rintro e w3 ⟨rfl, hb3⟩; refine Hid.out ?_))
              obtain ⟨hp3, hd3⟩ := hH3.out w2 w3 hb2 hb3
              have hl := hlk.out w3 hp3
              rw [hpl] at hl
              have ht := hp3.to.cell
              clear e0 f0
              have e1 := hp3.ans.cell 3
              have f1 := hp3.ans.frozen 3
              have e7 : w3.cell? ⟨w.heap.size + 1, 7, none⟩ = some (.bool st.retry) := hp3.ans.cell 7
              have f7 := hp3.ans.frozen 7
              rw [hrt] at e7
              have hp4 := Lib.hid (hp3.setAns (s' := { st with left := k }) 3 (.int .u64 k) rfl rfl rfl)
              have hq := run_eql_ptr_other (P := Try.prog) (w3.setCell ⟨w.heap.size + 1, 3, none⟩ (.int .u64 k)) (a := ⟨w.heap.size + 1, 3, none⟩) (b := ⟨w.heap.size + 1, 6, none⟩) (tp := 48) (by kernel_rfl) HI.out HJ.out (by simp) hp4.out.ans hp4.out.ans
              refine Lib.hid ?_
              gi_wp2
              refine hfin.out _ ((hd3.set_ hg ⟨w.heap.size + 1, 3, none⟩ (by simp; try omega) (by simp; try omega) _).set_ hg ⟨w.heap.size + 1, 7, none⟩ (by simp) (by simp; try omega) _) ?_
              rw [hS.out]
              simp only [↓reduceIte]
              rw [show put st nLeft k = { st with left := k } from rfl]
              exact hp4.out.setAns 7 (.bool false) (by simp [hrt]) rfl rfl
          by_cases n2 : nmv = nReset
          · subst n2
            have hpl : place w.heap.size nReset = some ⟨w.heap.size + 1, 4, none⟩ := rfl
            rcases Bool.eq_false_or_eq_true st.retry with hrt | hrt
            · skip
              gi_wp2_with (refine ⟨trivial, ?_⟩; (first | gi_at_call 17; refine (CallsIn.inRound l (callsIn_wide.2 (HCD.out W))).mono ?_; rintro e w2 ⟨rfl, hb2⟩; refine Hid.out ?_ | gi_at_call 18; refine (CallsIn.inRound l (callsIn_wide.2 (HNU.out _ hm2))).mono ?_; rintro e w3 ⟨rfl, hb3⟩; refine Hid.out ?_))
              obtain ⟨hp2, hd2, hm2⟩ := hH2.out w2 hb2
              have e0 : w2.cell? ⟨w.heap.size + 1, 0, none⟩ = some (.int .u8 (st.code : Nat)) := hp2.ans.cell 0
              have f0 := hp2.ans.frozen 0
              refine Lib.hid ?_
              gi_wp2_with (refine ⟨trivial, ?_⟩; (first | gi_at_call 17; refine (CallsIn.inRound l (callsIn_wide.2 (HCD.out W))).mono ?_; rintro e w2 ⟨rfl, hb2⟩; refine Hid.out ?_ | gi_at_call 18; refine (CallsIn.inRound l (callsIn_wide.2 (HNU.out _ hm2))).mono ?_; rintro e w3 ⟨rfl, hb3⟩; refine Hid.out ?_))
              obtain ⟨hp3, hd3⟩ := hH3.out w2 w3 hb2 hb3
              have hl := hlk.out w3 hp3
              rw [hpl] at hl
              have ht := hp3.to.cell
              clear e0 f0
              have e1 := hp3.ans.cell 4
              have f1 := hp3.ans.frozen 4
              have e7 : w3.cell? ⟨w.heap.size + 1, 7, none⟩ = some (.bool st.retry) := hp3.ans.cell 7
              have f7 := hp3.ans.frozen 7
              rw [hrt] at e7
              have hp4 := Lib.hid (hp3.setAns (s' := { st with reset := k }) 4 (.int .u64 k) rfl rfl rfl)
              have hq := run_eql_ptr_other (P := Try.prog) (w3.setCell ⟨w.heap.size + 1, 4, none⟩ (.int .u64 k)) (a := ⟨w.heap.size + 1, 4, none⟩) (b := ⟨w.heap.size + 1, 6, none⟩) (tp := 48) (by kernel_rfl) HI.out HJ.out (by simp) hp4.out.ans hp4.out.ans
              refine Lib.hid ?_
              gi_wp2
              refine hfin.out _ ((hd3.set_ hg ⟨w.heap.size + 1, 4, none⟩ (by simp; try omega) (by simp; try omega) _).set_ hg ⟨w.heap.size + 1, 7, none⟩ (by simp) (by simp; try omega) _) ?_
              rw [hS.out]
              simp only [↓reduceIte]
              rw [show put st nReset k = { st with reset := k } from rfl]
              exact hp4.out.setAns 7 (.bool true) (by simp [hrt]) rfl rfl
            · skip
              gi_wp2_with (refine ⟨trivial, ?_⟩; (first | gi_at_call 17; refine (CallsIn.inRound l (callsIn_wide.2 (HCD.out W))).mono ?_; rintro e w2 ⟨rfl, hb2⟩; refine Hid.out ?_ | gi_at_call 18; refine (CallsIn.inRound l (callsIn_wide.2 (HNU.out _ hm2))).mono ?_; rintro e w3 ⟨rfl, hb3⟩; refine Hid.out ?_))
              obtain ⟨hp2, hd2, hm2⟩ := hH2.out w2 hb2
              have e0 : w2.cell? ⟨w.heap.size + 1, 0, none⟩ = some (.int .u8 (st.code : Nat)) := hp2.ans.cell 0
              have f0 := hp2.ans.frozen 0
              refine Lib.hid ?_
              gi_wp2_with (refine ⟨trivial, ?_⟩; (first | gi_at_call 17; refine (CallsIn.inRound l (callsIn_wide.2 (HCD.out W))).mono ?_; rintro e w2 ⟨rfl, hb2⟩; refine Hid.out ?_ | gi_at_call 18; refine (CallsIn.inRound l (callsIn_wide.2 (HNU.out _ hm2))).mono ?_; rintro e w3 ⟨rfl, hb3⟩; refine Hid.out ?_))
              obtain ⟨hp3, hd3⟩ := hH3.out w2 w3 hb2 hb3
              have hl := hlk.out w3 hp3
              rw [hpl] at hl
              have ht := hp3.to.cell
              clear e0 f0
              have e1 := hp3.ans.cell 4
              have f1 := hp3.ans.frozen 4
              have e7 : w3.cell? ⟨w.heap.size + 1, 7, none⟩ = some (.bool st.retry) := hp3.ans.cell 7
              have f7 := hp3.ans.frozen 7
              rw [hrt] at e7
              have hp4 := Lib.hid (hp3.setAns (s' := { st with reset := k }) 4 (.int .u64 k) rfl rfl rfl)
              have hq := run_eql_ptr_other (P := Try.prog) (w3.setCell ⟨w.heap.size + 1, 4, none⟩ (.int .u64 k)) (a := ⟨w.heap.size + 1, 4, none⟩) (b := ⟨w.heap.size + 1, 6, none⟩) (tp := 48) (by kernel_rfl) HI.out HJ.out (by simp) hp4.out.ans hp4.out.ans
              refine Lib.hid ?_
              gi_wp2
              refine hfin.out _ ((hd3.set_ hg ⟨w.heap.size + 1, 4, none⟩ (by simp; try omega) (by simp; try omega) _).set_ hg ⟨w.heap.size + 1, 7, none⟩ (by simp) (by simp; try omega) _) ?_
              rw [hS.out]
              simp only [↓reduceIte]
              rw [show put st nReset k = { st with reset := k } from rfl]
              exact hp4.out.setAns 7 (.bool false) (by simp [hrt]) rfl rfl
          by_cases n3 : nmv = nAfter
          · subst n3
            have hpl : place w.heap.size nAfter = some ⟨w.heap.size + 1, 5, none⟩ := rfl
            rcases Bool.eq_false_or_eq_true st.retry with hrt | hrt
            · skip
              gi_wp2_with (refine ⟨trivial, ?_⟩; (first | gi_at_call 17; refine (CallsIn.inRound l (callsIn_wide.2 (HCD.out W))).mono ?_; rintro e w2 ⟨rfl, hb2⟩; refine Hid.out ?_ | gi_at_call 18; refine (CallsIn.inRound l (callsIn_wide.2 (HNU.out _ hm2))).mono ?_; rintro e w3 ⟨rfl, hb3⟩; refine Hid.out ?_))
              obtain ⟨hp2, hd2, hm2⟩ := hH2.out w2 hb2
              have e0 : w2.cell? ⟨w.heap.size + 1, 0, none⟩ = some (.int .u8 (st.code : Nat)) := hp2.ans.cell 0
              have f0 := hp2.ans.frozen 0
              refine Lib.hid ?_
              gi_wp2_with (refine ⟨trivial, ?_⟩; (first | gi_at_call 17; refine (CallsIn.inRound l (callsIn_wide.2 (HCD.out W))).mono ?_; rintro e w2 ⟨rfl, hb2⟩; refine Hid.out ?_ | gi_at_call 18; refine (CallsIn.inRound l (callsIn_wide.2 (HNU.out _ hm2))).mono ?_; rintro e w3 ⟨rfl, hb3⟩; refine Hid.out ?_))
              obtain ⟨hp3, hd3⟩ := hH3.out w2 w3 hb2 hb3
              have hl := hlk.out w3 hp3
              rw [hpl] at hl
              have ht := hp3.to.cell
              clear e0 f0
              have e1 := hp3.ans.cell 5
              have f1 := hp3.ans.frozen 5
              have e7 : w3.cell? ⟨w.heap.size + 1, 7, none⟩ = some (.bool st.retry) := hp3.ans.cell 7
              have f7 := hp3.ans.frozen 7
              rw [hrt] at e7
              have hp4 := Lib.hid (hp3.setAns (s' := { st with after := k }) 5 (.int .u64 k) rfl rfl rfl)
              have hq := run_eql_ptr_other (P := Try.prog) (w3.setCell ⟨w.heap.size + 1, 5, none⟩ (.int .u64 k)) (a := ⟨w.heap.size + 1, 5, none⟩) (b := ⟨w.heap.size + 1, 6, none⟩) (tp := 48) (by kernel_rfl) HI.out HJ.out (by simp) hp4.out.ans hp4.out.ans
              refine Lib.hid ?_
              gi_wp2
              refine hfin.out _ ((hd3.set_ hg ⟨w.heap.size + 1, 5, none⟩ (by simp; try omega) (by simp; try omega) _).set_ hg ⟨w.heap.size + 1, 7, none⟩ (by simp) (by simp; try omega) _) ?_
              rw [hS.out]
              simp only [↓reduceIte]
              rw [show put st nAfter k = { st with after := k } from rfl]
              exact hp4.out.setAns 7 (.bool true) (by simp [hrt]) rfl rfl
            · skip
              gi_wp2_with (refine ⟨trivial, ?_⟩; (first | gi_at_call 17; refine (CallsIn.inRound l (callsIn_wide.2 (HCD.out W))).mono ?_; rintro e w2 ⟨rfl, hb2⟩; refine Hid.out ?_ | gi_at_call 18; refine (CallsIn.inRound l (callsIn_wide.2 (HNU.out _ hm2))).mono ?_; rintro e w3 ⟨rfl, hb3⟩; refine Hid.out ?_))
              obtain ⟨hp2, hd2, hm2⟩ := hH2.out w2 hb2
              have e0 : w2.cell? ⟨w.heap.size + 1, 0, none⟩ = some (.int .u8 (st.code : Nat)) := hp2.ans.cell 0
              have f0 := hp2.ans.frozen 0
              refine Lib.hid ?_
              gi_wp2_with (refine ⟨trivial, ?_⟩; (first | gi_at_call 17; refine (CallsIn.inRound l (callsIn_wide.2 (HCD.out W))).mono ?_; rintro e w2 ⟨rfl, hb2⟩; refine Hid.out ?_ | gi_at_call 18; refine (CallsIn.inRound l (callsIn_wide.2 (HNU.out _ hm2))).mono ?_; rintro e w3 ⟨rfl, hb3⟩; refine Hid.out ?_))
              obtain ⟨hp3, hd3⟩ := hH3.out w2 w3 hb2 hb3
              have hl := hlk.out w3 hp3
              rw [hpl] at hl
              have ht := hp3.to.cell
              clear e0 f0
              have e1 := hp3.ans.cell 5
              have f1 := hp3.ans.frozen 5
              have e7 : w3.cell? ⟨w.heap.size + 1, 7, none⟩ = some (.bool st.retry) := hp3.ans.cell 7
              have f7 := hp3.ans.frozen 7
              rw [hrt] at e7
              have hp4 := Lib.hid (hp3.setAns (s' := { st with after := k }) 5 (.int .u64 k) rfl rfl rfl)
              have hq := run_eql_ptr_other (P := Try.prog) (w3.setCell ⟨w.heap.size + 1, 5, none⟩ (.int .u64 k)) (a := ⟨w.heap.size + 1, 5, none⟩) (b := ⟨w.heap.size + 1, 6, none⟩) (tp := 48) (by kernel_rfl) HI.out HJ.out (by simp) hp4.out.ans hp4.out.ans
              refine Lib.hid ?_
              gi_wp2
              refine hfin.out _ ((hd3.set_ hg ⟨w.heap.size + 1, 5, none⟩ (by simp; try omega) (by simp; try omega) _).set_ hg ⟨w.heap.size + 1, 7, none⟩ (by simp) (by simp; try omega) _) ?_
              rw [hS.out]
              simp only [↓reduceIte]
              rw [show put st nAfter k = { st with after := k } from rfl]
              exact hp4.out.setAns 7 (.bool false) (by simp [hrt]) rfl rfl
          by_cases n4 : nmv = nNanos
          · subst n4
            have hpl : place w.heap.size nNanos = some ⟨w.heap.size + 1, 6, none⟩ := rfl
            rcases Bool.eq_false_or_eq_true st.retry with hrt | hrt
            · skip
              gi_wp2_with (refine ⟨trivial, ?_⟩; (first | gi_at_call 17; refine (CallsIn.inRound l (callsIn_wide.2 (HCD.out W))).mono ?_; rintro e w2 ⟨rfl, hb2⟩; refine Hid.out ?_ | gi_at_call 18; refine (CallsIn.inRound l (callsIn_wide.2 (HNU.out _ hm2))).mono ?_; rintro e w3 ⟨rfl, hb3⟩; refine Hid.out ?_))
              obtain ⟨hp2, hd2, hm2⟩ := hH2.out w2 hb2
              have e0 : w2.cell? ⟨w.heap.size + 1, 0, none⟩ = some (.int .u8 (st.code : Nat)) := hp2.ans.cell 0
              have f0 := hp2.ans.frozen 0
              refine Lib.hid ?_
              gi_wp2_with (refine ⟨trivial, ?_⟩; (first | gi_at_call 17; refine (CallsIn.inRound l (callsIn_wide.2 (HCD.out W))).mono ?_; rintro e w2 ⟨rfl, hb2⟩; refine Hid.out ?_ | gi_at_call 18; refine (CallsIn.inRound l (callsIn_wide.2 (HNU.out _ hm2))).mono ?_; rintro e w3 ⟨rfl, hb3⟩; refine Hid.out ?_))
              obtain ⟨hp3, hd3⟩ := hH3.out w2 w3 hb2 hb3
              have hl := hlk.out w3 hp3
              rw [hpl] at hl
              have ht := hp3.to.cell
              clear e0 f0
              have e1 := hp3.ans.cell 6
              have f1 := hp3.ans.frozen 6
              have e7 : w3.cell? ⟨w.heap.size + 1, 7, none⟩ = some (.bool st.retry) := hp3.ans.cell 7
              have f7 := hp3.ans.frozen 7
              rw [hrt] at e7
              have hp4 := Lib.hid (hp3.setAns (s' := { st with nanos := k }) 6 (.int .u64 k) rfl rfl rfl)
              have hq := run_eql_ptr_same (P := Try.prog) (w3.setCell ⟨w.heap.size + 1, 6, none⟩ (.int .u64 k)) ⟨w.heap.size + 1, 6, none⟩ (tp := 48) (by kernel_rfl) HI.out
              refine Lib.hid ?_
              gi_wp2
              refine hfin.out _ ((hd3.set_ hg ⟨w.heap.size + 1, 6, none⟩ (by simp; try omega) (by simp; try omega) _).set_ hg ⟨w.heap.size + 1, 7, none⟩ (by simp) (by simp; try omega) _) ?_
              rw [hS.out]
              simp only [↓reduceIte]
              rw [show put st nNanos k = { st with nanos := k, retry := true } from rfl]
              exact hp4.out.setAns 7 (.bool true) (by simp [hrt]) rfl rfl
            · skip
              gi_wp2_with (refine ⟨trivial, ?_⟩; (first | gi_at_call 17; refine (CallsIn.inRound l (callsIn_wide.2 (HCD.out W))).mono ?_; rintro e w2 ⟨rfl, hb2⟩; refine Hid.out ?_ | gi_at_call 18; refine (CallsIn.inRound l (callsIn_wide.2 (HNU.out _ hm2))).mono ?_; rintro e w3 ⟨rfl, hb3⟩; refine Hid.out ?_))
              obtain ⟨hp2, hd2, hm2⟩ := hH2.out w2 hb2
              have e0 : w2.cell? ⟨w.heap.size + 1, 0, none⟩ = some (.int .u8 (st.code : Nat)) := hp2.ans.cell 0
              have f0 := hp2.ans.frozen 0
              refine Lib.hid ?_
              gi_wp2_with (refine ⟨trivial, ?_⟩; (first | gi_at_call 17; refine (CallsIn.inRound l (callsIn_wide.2 (HCD.out W))).mono ?_; rintro e w2 ⟨rfl, hb2⟩; refine Hid.out ?_ | gi_at_call 18; refine (CallsIn.inRound l (callsIn_wide.2 (HNU.out _ hm2))).mono ?_; rintro e w3 ⟨rfl, hb3⟩; refine Hid.out ?_))
              obtain ⟨hp3, hd3⟩ := hH3.out w2 w3 hb2 hb3
              have hl := hlk.out w3 hp3
              rw [hpl] at hl
              have ht := hp3.to.cell
              clear e0 f0
              have e1 := hp3.ans.cell 6
              have f1 := hp3.ans.frozen 6
              have e7 : w3.cell? ⟨w.heap.size + 1, 7, none⟩ = some (.bool st.retry) := hp3.ans.cell 7
              have f7 := hp3.ans.frozen 7
              rw [hrt] at e7
              have hp4 := Lib.hid (hp3.setAns (s' := { st with nanos := k }) 6 (.int .u64 k) rfl rfl rfl)
              have hq := run_eql_ptr_same (P := Try.prog) (w3.setCell ⟨w.heap.size + 1, 6, none⟩ (.int .u64 k)) ⟨w.heap.size + 1, 6, none⟩ (tp := 48) (by kernel_rfl) HI.out
              refine Lib.hid ?_
              gi_wp2
              refine hfin.out _ ((hd3.set_ hg ⟨w.heap.size + 1, 6, none⟩ (by simp; try omega) (by simp; try omega) _).set_ hg ⟨w.heap.size + 1, 7, none⟩ (by simp) (by simp; try omega) _) ?_
              rw [hS.out]
              simp only [↓reduceIte]
              rw [show put st nNanos k = { st with nanos := k, retry := true } from rfl]
              exact hp4.out.setAns 7 (.bool true) (by simp [hrt]) rfl rfl
          by_cases n5 : nmv = nError
          · subst n5
            have hpl : place w.heap.size nError = some ⟨w.heap.size + 1 + 1, 0, none⟩ := rfl
            rcases Bool.eq_false_or_eq_true st.retry with hrt | hrt
            · skip
              gi_wp2_with (refine ⟨trivial, ?_⟩; (first | gi_at_call 17; refine (CallsIn.inRound l (callsIn_wide.2 (HCD.out W))).mono ?_; rintro e w2 ⟨rfl, hb2⟩; refine Hid.out ?_ | gi_at_call 18; refine (CallsIn.inRound l (callsIn_wide.2 (HNU.out _ hm2))).mono ?_; rintro e w3 ⟨rfl, hb3⟩; refine Hid.out ?_))
              obtain ⟨hp2, hd2, hm2⟩ := hH2.out w2 hb2
              have e0 : w2.cell? ⟨w.heap.size + 1, 0, none⟩ = some (.int .u8 (st.code : Nat)) := hp2.ans.cell 0
              have f0 := hp2.ans.frozen 0
              refine Lib.hid ?_
              gi_wp2_with (refine ⟨trivial, ?_⟩; (first | gi_at_call 17; refine (CallsIn.inRound l (callsIn_wide.2 (HCD.out W))).mono ?_; rintro e w2 ⟨rfl, hb2⟩; refine Hid.out ?_ | gi_at_call 18; refine (CallsIn.inRound l (callsIn_wide.2 (HNU.out _ hm2))).mono ?_; rintro e w3 ⟨rfl, hb3⟩; refine Hid.out ?_))
              obtain ⟨hp3, hd3⟩ := hH3.out w2 w3 hb2 hb3
              have hl := hlk.out w3 hp3
              rw [hpl] at hl
              have ht := hp3.to.cell
              clear e0 f0
              have e1 := hp3.wrong.cell
              have f1 := hp3.wrong.frozen
              have e7 : w3.cell? ⟨w.heap.size + 1, 7, none⟩ = some (.bool st.retry) := hp3.ans.cell 7
              have f7 := hp3.ans.frozen 7
              rw [hrt] at e7
              have hp4 := Lib.hid (hp3.setWrong (s' := { st with wrong := k }) k rfl rfl rfl)
              have hq := run_eql_ptr_other (P := Try.prog) (w3.setCell ⟨w.heap.size + 1 + 1, 0, none⟩ (.int .u64 k)) (a := ⟨w.heap.size + 1 + 1, 0, none⟩) (b := ⟨w.heap.size + 1, 6, none⟩) (tp := 48) (by kernel_rfl) HI.out HJ.out (by simp) hp4.out.wrong hp4.out.ans
              refine Lib.hid ?_
              gi_wp2
              refine hfin.out _ ((hd3.set_ hg ⟨w.heap.size + 1 + 1, 0, none⟩ (by simp; try omega) (by simp; try omega) _).set_ hg ⟨w.heap.size + 1, 7, none⟩ (by simp) (by simp; try omega) _) ?_
              rw [hS.out]
              simp only [↓reduceIte]
              rw [show put st nError k = { st with wrong := k } from rfl]
              exact hp4.out.setAns 7 (.bool true) (by simp [hrt]) rfl rfl
            · skip
              gi_wp2_with (refine ⟨trivial, ?_⟩; (first | gi_at_call 17; refine (CallsIn.inRound l (callsIn_wide.2 (HCD.out W))).mono ?_; rintro e w2 ⟨rfl, hb2⟩; refine Hid.out ?_ | gi_at_call 18; refine (CallsIn.inRound l (callsIn_wide.2 (HNU.out _ hm2))).mono ?_; rintro e w3 ⟨rfl, hb3⟩; refine Hid.out ?_))
              obtain ⟨hp2, hd2, hm2⟩ := hH2.out w2 hb2
              have e0 : w2.cell? ⟨w.heap.size + 1, 0, none⟩ = some (.int .u8 (st.code : Nat)) := hp2.ans.cell 0
              have f0 := hp2.ans.frozen 0
              refine Lib.hid ?_
              gi_wp2_with (refine ⟨trivial, ?_⟩; (first | gi_at_call 17; refine (CallsIn.inRound l (callsIn_wide.2 (HCD.out W))).mono ?_; rintro e w2 ⟨rfl, hb2⟩; refine Hid.out ?_ | gi_at_call 18; refine (CallsIn.inRound l (callsIn_wide.2 (HNU.out _ hm2))).mono ?_; rintro e w3 ⟨rfl, hb3⟩; refine Hid.out ?_))
              obtain ⟨hp3, hd3⟩ := hH3.out w2 w3 hb2 hb3
              have hl := hlk.out w3 hp3
              rw [hpl] at hl
              have ht := hp3.to.cell
              clear e0 f0
              have e1 := hp3.wrong.cell
              have f1 := hp3.wrong.frozen
              have e7 : w3.cell? ⟨w.heap.size + 1, 7, none⟩ = some (.bool st.retry) := hp3.ans.cell 7
              have f7 := hp3.ans.frozen 7
              rw [hrt] at e7
              have hp4 := Lib.hid (hp3.setWrong (s' := { st with wrong := k }) k rfl rfl rfl)
              have hq := run_eql_ptr_other (P := Try.prog) (w3.setCell ⟨w.heap.size + 1 + 1, 0, none⟩ (.int .u64 k)) (a := ⟨w.heap.size + 1 + 1, 0, none⟩) (b := ⟨w.heap.size + 1, 6, none⟩) (tp := 48) (by kernel_rfl) HI.out HJ.out (by simp) hp4.out.wrong hp4.out.ans
              refine Lib.hid ?_
              gi_wp2
              refine hfin.out _ ((hd3.set_ hg ⟨w.heap.size + 1 + 1, 0, none⟩ (by simp; try omega) (by simp; try omega) _).set_ hg ⟨w.heap.size + 1, 7, none⟩ (by simp) (by simp; try omega) _) ?_
              rw [hS.out]
              simp only [↓reduceIte]
              rw [show put st nError k = { st with wrong := k } from rfl]
              exact hp4.out.setAns 7 (.bool false) (by simp [hrt]) rfl rfl
          by_cases n6 : nmv = nCount
          · subst n6
            have hpl : place w.heap.size nCount = some ⟨w.heap.size + 1 + 1 + 1, 0, none⟩ := rfl
            rcases Bool.eq_false_or_eq_true st.retry with hrt | hrt
            · skip
              gi_wp2_with (refine ⟨trivial, ?_⟩; (first | gi_at_call 17; refine (CallsIn.inRound l (callsIn_wide.2 (HCD.out W))).mono ?_; rintro e w2 ⟨rfl, hb2⟩; refine Hid.out ?_ | gi_at_call 18; refine (CallsIn.inRound l (callsIn_wide.2 (HNU.out _ hm2))).mono ?_; rintro e w3 ⟨rfl, hb3⟩; refine Hid.out ?_))
              obtain ⟨hp2, hd2, hm2⟩ := hH2.out w2 hb2
              have e0 : w2.cell? ⟨w.heap.size + 1, 0, none⟩ = some (.int .u8 (st.code : Nat)) := hp2.ans.cell 0
              have f0 := hp2.ans.frozen 0
              refine Lib.hid ?_
              gi_wp2_with (refine ⟨trivial, ?_⟩; (first | gi_at_call 17; refine (CallsIn.inRound l (callsIn_wide.2 (HCD.out W))).mono ?_; rintro e w2 ⟨rfl, hb2⟩; refine Hid.out ?_ | gi_at_call 18; refine (CallsIn.inRound l (callsIn_wide.2 (HNU.out _ hm2))).mono ?_; rintro e w3 ⟨rfl, hb3⟩; refine Hid.out ?_))
              obtain ⟨hp3, hd3⟩ := hH3.out w2 w3 hb2 hb3
              have hl := hlk.out w3 hp3
              rw [hpl] at hl
              have ht := hp3.to.cell
              clear e0 f0
              have e1 := hp3.many.cell
              have f1 := hp3.many.frozen
              have e7 : w3.cell? ⟨w.heap.size + 1, 7, none⟩ = some (.bool st.retry) := hp3.ans.cell 7
              have f7 := hp3.ans.frozen 7
              rw [hrt] at e7
              have hp4 := Lib.hid (hp3.setMany (s' := { st with many := k }) k rfl rfl rfl)
              have hq := run_eql_ptr_other (P := Try.prog) (w3.setCell ⟨w.heap.size + 1 + 1 + 1, 0, none⟩ (.int .u64 k)) (a := ⟨w.heap.size + 1 + 1 + 1, 0, none⟩) (b := ⟨w.heap.size + 1, 6, none⟩) (tp := 48) (by kernel_rfl) HI.out HJ.out (by simp) hp4.out.many hp4.out.ans
              refine Lib.hid ?_
              gi_wp2
              refine hfin.out _ ((hd3.set_ hg ⟨w.heap.size + 1 + 1 + 1, 0, none⟩ (by simp; try omega) (by simp; try omega) _).set_ hg ⟨w.heap.size + 1, 7, none⟩ (by simp) (by simp; try omega) _) ?_
              rw [hS.out]
              simp only [↓reduceIte]
              rw [show put st nCount k = { st with many := k } from rfl]
              exact hp4.out.setAns 7 (.bool true) (by simp [hrt]) rfl rfl
            · skip
              gi_wp2_with (refine ⟨trivial, ?_⟩; (first | gi_at_call 17; refine (CallsIn.inRound l (callsIn_wide.2 (HCD.out W))).mono ?_; rintro e w2 ⟨rfl, hb2⟩; refine Hid.out ?_ | gi_at_call 18; refine (CallsIn.inRound l (callsIn_wide.2 (HNU.out _ hm2))).mono ?_; rintro e w3 ⟨rfl, hb3⟩; refine Hid.out ?_))
              obtain ⟨hp2, hd2, hm2⟩ := hH2.out w2 hb2
              have e0 : w2.cell? ⟨w.heap.size + 1, 0, none⟩ = some (.int .u8 (st.code : Nat)) := hp2.ans.cell 0
              have f0 := hp2.ans.frozen 0
              refine Lib.hid ?_
              gi_wp2_with (refine ⟨trivial, ?_⟩; (first | gi_at_call 17; refine (CallsIn.inRound l (callsIn_wide.2 (HCD.out W))).mono ?_; rintro e w2 ⟨rfl, hb2⟩; refine Hid.out ?_ | gi_at_call 18; refine (CallsIn.inRound l (callsIn_wide.2 (HNU.out _ hm2))).mono ?_; rintro e w3 ⟨rfl, hb3⟩; refine Hid.out ?_))
              obtain ⟨hp3, hd3⟩ := hH3.out w2 w3 hb2 hb3
              have hl := hlk.out w3 hp3
              rw [hpl] at hl
              have ht := hp3.to.cell
              clear e0 f0
              have e1 := hp3.many.cell
              have f1 := hp3.many.frozen
              have e7 : w3.cell? ⟨w.heap.size + 1, 7, none⟩ = some (.bool st.retry) := hp3.ans.cell 7
              have f7 := hp3.ans.frozen 7
              rw [hrt] at e7
              have hp4 := Lib.hid (hp3.setMany (s' := { st with many := k }) k rfl rfl rfl)
              have hq := run_eql_ptr_other (P := Try.prog) (w3.setCell ⟨w.heap.size + 1 + 1 + 1, 0, none⟩ (.int .u64 k)) (a := ⟨w.heap.size + 1 + 1 + 1, 0, none⟩) (b := ⟨w.heap.size + 1, 6, none⟩) (tp := 48) (by kernel_rfl) HI.out HJ.out (by simp) hp4.out.many hp4.out.ans
              refine Lib.hid ?_
              gi_wp2
              refine hfin.out _ ((hd3.set_ hg ⟨w.heap.size + 1 + 1 + 1, 0, none⟩ (by simp; try omega) (by simp; try omega) _).set_ hg ⟨w.heap.size + 1, 7, none⟩ (by simp) (by simp; try omega) _) ?_
              rw [hS.out]
              simp only [↓reduceIte]
              rw [show put st nCount k = { st with many := k } from rfl]
              exact hp4.out.setAns 7 (.bool false) (by simp [hrt]) rfl rfl
          · have hpl : place w.heap.size nmv = none := by simp [place, n0, n1, n2, n3, n4, n5, n6]
            gi_wp2_with (refine ⟨trivial, ?_⟩; (first | gi_at_call 17; refine (CallsIn.inRound l (callsIn_wide.2 (HCD.out W))).mono ?_; rintro e w2 ⟨rfl, hb2⟩; refine Hid.out ?_ | gi_at_call 18; refine (CallsIn.inRound l (callsIn_wide.2 (HNU.out _ hm2))).mono ?_; rintro e w3 ⟨rfl, hb3⟩; refine Hid.out ?_))
            obtain ⟨hp2, hd2, hm2⟩ := hH2.out w2 hb2
            have e0 : w2.cell? ⟨w.heap.size + 1, 0, none⟩ = some (.int .u8 (st.code : Nat)) := hp2.ans.cell 0
            have f0 := hp2.ans.frozen 0
            refine Lib.hid ?_
            gi_wp2_with (refine ⟨trivial, ?_⟩; (first | gi_at_call 17; refine (CallsIn.inRound l (callsIn_wide.2 (HCD.out W))).mono ?_; rintro e w2 ⟨rfl, hb2⟩; refine Hid.out ?_ | gi_at_call 18; refine (CallsIn.inRound l (callsIn_wide.2 (HNU.out _ hm2))).mono ?_; rintro e w3 ⟨rfl, hb3⟩; refine Hid.out ?_))
            obtain ⟨hp3, hd3⟩ := hH3.out w2 w3 hb2 hb3
            have hl := hlk.out w3 hp3
            rw [hpl] at hl
            have ht := hp3.to.cell
            clear e0 f0
            refine Lib.hid ?_
            gi_wp2
            exact hfin.out _ hd3 (by rw [hS.out]; simp only [↓reduceIte]; rw [put_none hpl]; exact hp3)
      · cases q with
        | false =>
          cases hpl : place w.heap.size nmv with
          | none =>
            gi_wp2_with (refine ⟨trivial, ?_⟩; (first | gi_at_call 17; refine (CallsIn.inRound l (callsIn_wide.2 (HCD.out W))).mono ?_; rintro e w2 ⟨rfl, hb2⟩; refine Hid.out ?_ | gi_at_call 18; refine (CallsIn.inRound l (callsIn_wide.2 (HNU.out _ hm2))).mono ?_; rintro e w3 ⟨rfl, hb3⟩; refine Hid.out ?_))
            obtain ⟨hp2, hd2, hm2⟩ := hH2.out w2 hb2
            have e0 : w2.cell? ⟨w.heap.size + 1, 0, none⟩ = some (.int .u8 (st.code : Nat)) := hp2.ans.cell 0
            have f0 := hp2.ans.frozen 0
            refine Lib.hid ?_
            gi_wp2_with (refine ⟨trivial, ?_⟩; (first | gi_at_call 17; refine (CallsIn.inRound l (callsIn_wide.2 (HCD.out W))).mono ?_; rintro e w2 ⟨rfl, hb2⟩; refine Hid.out ?_ | gi_at_call 18; refine (CallsIn.inRound l (callsIn_wide.2 (HNU.out _ hm2))).mono ?_; rintro e w3 ⟨rfl, hb3⟩; refine Hid.out ?_))
            obtain ⟨hp3, hd3⟩ := hH3.out w2 w3 hb2 hb3
            have hl := hlk.out w3 hp3
            rw [hpl] at hl
            have ht := hp3.to.cell
            clear e0 f0
            refine Lib.hid ?_
            gi_wp2
            exact hfin.out _ hd3 (by rw [hS.out]; exact hp3)
          | some p =>
            gi_wp2_with (refine ⟨trivial, ?_⟩; (first | gi_at_call 17; refine (CallsIn.inRound l (callsIn_wide.2 (HCD.out W))).mono ?_; rintro e w2 ⟨rfl, hb2⟩; refine Hid.out ?_ | gi_at_call 18; refine (CallsIn.inRound l (callsIn_wide.2 (HNU.out _ hm2))).mono ?_; rintro e w3 ⟨rfl, hb3⟩; refine Hid.out ?_))
            obtain ⟨hp2, hd2, hm2⟩ := hH2.out w2 hb2
            have e0 : w2.cell? ⟨w.heap.size + 1, 0, none⟩ = some (.int .u8 (st.code : Nat)) := hp2.ans.cell 0
            have f0 := hp2.ans.frozen 0
            refine Lib.hid ?_
            gi_wp2_with (refine ⟨trivial, ?_⟩; (first | gi_at_call 17; refine (CallsIn.inRound l (callsIn_wide.2 (HCD.out W))).mono ?_; rintro e w2 ⟨rfl, hb2⟩; refine Hid.out ?_ | gi_at_call 18; refine (CallsIn.inRound l (callsIn_wide.2 (HNU.out _ hm2))).mono ?_; rintro e w3 ⟨rfl, hb3⟩; refine Hid.out ?_))
            obtain ⟨hp3, hd3⟩ := hH3.out w2 w3 hb2 hb3
            have hl := hlk.out w3 hp3
            rw [hpl] at hl
            have ht := hp3.to.cell
            clear e0 f0
            refine Lib.hid ?_
            gi_wp2
            exact hfin.out _ hd3 (by rw [hS.out]; exact hp3)
        | true =>
          by_cases n0 : nmv = nLimit
          · subst n0
            have hpl : place w.heap.size nLimit = some ⟨w.heap.size + 1, 2, none⟩ := rfl
            rcases Bool.eq_false_or_eq_true st.retry with hrt | hrt
            · skip
              gi_wp2_with (refine ⟨trivial, ?_⟩; (first | gi_at_call 17; refine (CallsIn.inRound l (callsIn_wide.2 (HCD.out W))).mono ?_; rintro e w2 ⟨rfl, hb2⟩; refine Hid.out ?_ | gi_at_call 18; refine (CallsIn.inRound l (callsIn_wide.2 (HNU.out _ hm2))).mono ?_; rintro e w3 ⟨rfl, hb3⟩; refine Hid.out ?_))
              obtain ⟨hp2, hd2, hm2⟩ := hH2.out w2 hb2
              have e0 : w2.cell? ⟨w.heap.size + 1, 0, none⟩ = some (.int .u8 (st.code : Nat)) := hp2.ans.cell 0
              have f0 := hp2.ans.frozen 0
              refine Lib.hid ?_
              gi_wp2_with (refine ⟨trivial, ?_⟩; (first | gi_at_call 17; refine (CallsIn.inRound l (callsIn_wide.2 (HCD.out W))).mono ?_; rintro e w2 ⟨rfl, hb2⟩; refine Hid.out ?_ | gi_at_call 18; refine (CallsIn.inRound l (callsIn_wide.2 (HNU.out _ hm2))).mono ?_; rintro e w3 ⟨rfl, hb3⟩; refine Hid.out ?_))
              obtain ⟨hp3, hd3⟩ := hH3.out w2 w3 hb2 hb3
              have hl := hlk.out w3 hp3
              rw [hpl] at hl
              have ht := hp3.to.cell
              clear e0 f0
              have e1 := hp3.ans.cell 2
              have f1 := hp3.ans.frozen 2
              have e7 : w3.cell? ⟨w.heap.size + 1, 7, none⟩ = some (.bool st.retry) := hp3.ans.cell 7
              have f7 := hp3.ans.frozen 7
              rw [hrt] at e7
              have hp4 := Lib.hid (hp3.setAns (s' := { st with limit := k }) 2 (.int .u64 k) rfl rfl rfl)
              have hq := run_eql_ptr_other (P := Try.prog) (w3.setCell ⟨w.heap.size + 1, 2, none⟩ (.int .u64 k)) (a := ⟨w.heap.size + 1, 2, none⟩) (b := ⟨w.heap.size + 1, 6, none⟩) (tp := 48) (by kernel_rfl) HI.out HJ.out (by simp) hp4.out.ans hp4.out.ans
              refine Lib.hid ?_
              gi_wp2
              refine hfin.out _ ((hd3.set_ hg ⟨w.heap.size + 1, 2, none⟩ (by simp; try omega) (by simp; try omega) _).set_ hg ⟨w.heap.size + 1, 7, none⟩ (by simp) (by simp; try omega) _) ?_
              rw [hS.out]
              simp only [↓reduceIte]
              rw [show put st nLimit k = { st with limit := k } from rfl]
              exact hp4.out.setAns 7 (.bool true) (by simp [hrt]) rfl rfl
            · skip
              gi_wp2_with (refine ⟨trivial, ?_⟩; (first | gi_at_call 17; refine (CallsIn.inRound l (callsIn_wide.2 (HCD.out W))).mono ?_; rintro e w2 ⟨rfl, hb2⟩; refine Hid.out ?_ | gi_at_call 18; refine (CallsIn.inRound l (callsIn_wide.2 (HNU.out _ hm2))).mono ?_; rintro e w3 ⟨rfl, hb3⟩; refine Hid.out ?_))
              obtain ⟨hp2, hd2, hm2⟩ := hH2.out w2 hb2
              have e0 : w2.cell? ⟨w.heap.size + 1, 0, none⟩ = some (.int .u8 (st.code : Nat)) := hp2.ans.cell 0
              have f0 := hp2.ans.frozen 0
              refine Lib.hid ?_
              gi_wp2_with (refine ⟨trivial, ?_⟩; (first | gi_at_call 17; refine (CallsIn.inRound l (callsIn_wide.2 (HCD.out W))).mono ?_; rintro e w2 ⟨rfl, hb2⟩; refine Hid.out ?_ | gi_at_call 18; refine (CallsIn.inRound l (callsIn_wide.2 (HNU.out _ hm2))).mono ?_; rintro e w3 ⟨rfl, hb3⟩; refine Hid.out ?_))
              obtain ⟨hp3, hd3⟩ := hH3.out w2 w3 hb2 hb3
              have hl := hlk.out w3 hp3
              rw [hpl] at hl
              have ht := hp3.to.cell
              clear e0 f0
              have e1 := hp3.ans.cell 2
              have f1 := hp3.ans.frozen 2
              have e7 : w3.cell? ⟨w.heap.size + 1, 7, none⟩ = some (.bool st.retry) := hp3.ans.cell 7
              have f7 := hp3.ans.frozen 7
              rw [hrt] at e7
              have hp4 := Lib.hid (hp3.setAns (s' := { st with limit := k }) 2 (.int .u64 k) rfl rfl rfl)
              have hq := run_eql_ptr_other (P := Try.prog) (w3.setCell ⟨w.heap.size + 1, 2, none⟩ (.int .u64 k)) (a := ⟨w.heap.size + 1, 2, none⟩) (b := ⟨w.heap.size + 1, 6, none⟩) (tp := 48) (by kernel_rfl) HI.out HJ.out (by simp) hp4.out.ans hp4.out.ans
              refine Lib.hid ?_
              gi_wp2
              refine hfin.out _ ((hd3.set_ hg ⟨w.heap.size + 1, 2, none⟩ (by simp; try omega) (by simp; try omega) _).set_ hg ⟨w.heap.size + 1, 7, none⟩ (by simp) (by simp; try omega) _) ?_
              rw [hS.out]
              simp only [↓reduceIte]
              rw [show put st nLimit k = { st with limit := k } from rfl]
              exact hp4.out.setAns 7 (.bool false) (by simp [hrt]) rfl rfl
          by_cases n1 : nmv = nLeft
          · subst n1
            have hpl : place w.heap.size nLeft = some ⟨w.heap.size + 1, 3, none⟩ := rfl
            rcases Bool.eq_false_or_eq_true st.retry with hrt | hrt
            · skip
              gi_wp2_with (refine ⟨trivial, ?_⟩; (first | gi_at_call 17; refine (CallsIn.inRound l (callsIn_wide.2 (HCD.out W))).mono ?_; rintro e w2 ⟨rfl, hb2⟩; refine Hid.out ?_ | gi_at_call 18; refine (CallsIn.inRound l (callsIn_wide.2 (HNU.out _ hm2))).mono ?_; rintro e w3 ⟨rfl, hb3⟩; refine Hid.out ?_))
              obtain ⟨hp2, hd2, hm2⟩ := hH2.out w2 hb2
              have e0 : w2.cell? ⟨w.heap.size + 1, 0, none⟩ = some (.int .u8 (st.code : Nat)) := hp2.ans.cell 0
              have f0 := hp2.ans.frozen 0
              refine Lib.hid ?_
              gi_wp2_with (refine ⟨trivial, ?_⟩; (first | gi_at_call 17; refine (CallsIn.inRound l (callsIn_wide.2 (HCD.out W))).mono ?_; rintro e w2 ⟨rfl, hb2⟩; refine Hid.out ?_ | gi_at_call 18; refine (CallsIn.inRound l (callsIn_wide.2 (HNU.out _ hm2))).mono ?_; rintro e w3 ⟨rfl, hb3⟩; refine Hid.out ?_))
              obtain ⟨hp3, hd3⟩ := hH3.out w2 w3 hb2 hb3
              have hl := hlk.out w3 hp3
              rw [hpl] at hl
              have ht := hp3.to.cell
              clear e0 f0
              have e1 := hp3.ans.cell 3
              have f1 := hp3.ans.frozen 3
              have e7 : w3.cell? ⟨w.heap.size + 1, 7, none⟩ = some (.bool st.retry) := hp3.ans.cell 7
              have f7 := hp3.ans.frozen 7
              rw [hrt] at e7
              have hp4 := Lib.hid (hp3.setAns (s' := { st with left := k }) 3 (.int .u64 k) rfl rfl rfl)
              have hq := run_eql_ptr_other (P := Try.prog) (w3.setCell ⟨w.heap.size + 1, 3, none⟩ (.int .u64 k)) (a := ⟨w.heap.size + 1, 3, none⟩) (b := ⟨w.heap.size + 1, 6, none⟩) (tp := 48) (by kernel_rfl) HI.out HJ.out (by simp) hp4.out.ans hp4.out.ans
              refine Lib.hid ?_
              gi_wp2
              refine hfin.out _ ((hd3.set_ hg ⟨w.heap.size + 1, 3, none⟩ (by simp; try omega) (by simp; try omega) _).set_ hg ⟨w.heap.size + 1, 7, none⟩ (by simp) (by simp; try omega) _) ?_
              rw [hS.out]
              simp only [↓reduceIte]
              rw [show put st nLeft k = { st with left := k } from rfl]
              exact hp4.out.setAns 7 (.bool true) (by simp [hrt]) rfl rfl
            · skip
              gi_wp2_with (refine ⟨trivial, ?_⟩; (first | gi_at_call 17; refine (CallsIn.inRound l (callsIn_wide.2 (HCD.out W))).mono ?_; rintro e w2 ⟨rfl, hb2⟩; refine Hid.out ?_ | gi_at_call 18; refine (CallsIn.inRound l (callsIn_wide.2 (HNU.out _ hm2))).mono ?_; rintro e w3 ⟨rfl, hb3⟩; refine Hid.out ?_))
              obtain ⟨hp2, hd2, hm2⟩ := hH2.out w2 hb2
              have e0 : w2.cell? ⟨w.heap.size + 1, 0, none⟩ = some (.int .u8 (st.code : Nat)) := hp2.ans.cell 0
              have f0 := hp2.ans.frozen 0
              refine Lib.hid ?_
              gi_wp2_with (refine ⟨trivial, ?_⟩; (first | gi_at_call 17; refine (CallsIn.inRound l (callsIn_wide.2 (HCD.out W))).mono ?_; rintro e w2 ⟨rfl, hb2⟩; refine Hid.out ?_ | gi_at_call 18; refine (CallsIn.inRound l (callsIn_wide.2 (HNU.out _ hm2))).mono ?_; rintro e w3 ⟨rfl, hb3⟩; refine Hid.out ?_))
              obtain ⟨hp3, hd3⟩ := hH3.out w2 w3 hb2 hb3
              have hl := hlk.out w3 hp3
              rw [hpl] at hl
              have ht := hp3.to.cell
              clear e0 f0
              have e1 := hp3.ans.cell 3
              have f1 := hp3.ans.frozen 3
              have e7 : w3.cell? ⟨w.heap.size + 1, 7, none⟩ = some (.bool st.retry) := hp3.ans.cell 7
              have f7 := hp3.ans.frozen 7
              rw [hrt] at e7
              have hp4 := Lib.hid (hp3.setAns (s' := { st with left := k }) 3 (.int .u64 k) rfl rfl rfl)
              have hq := run_eql_ptr_other (P := Try.prog) (w3.setCell ⟨w.heap.size + 1, 3, none⟩ (.int .u64 k)) (a := ⟨w.heap.size + 1, 3, none⟩) (b := ⟨w.heap.size + 1, 6, none⟩) (tp := 48) (by kernel_rfl) HI.out HJ.out (by simp) hp4.out.ans hp4.out.ans
              refine Lib.hid ?_
              gi_wp2
              refine hfin.out _ ((hd3.set_ hg ⟨w.heap.size + 1, 3, none⟩ (by simp; try omega) (by simp; try omega) _).set_ hg ⟨w.heap.size + 1, 7, none⟩ (by simp) (by simp; try omega) _) ?_
              rw [hS.out]
              simp only [↓reduceIte]
              rw [show put st nLeft k = { st with left := k } from rfl]
              exact hp4.out.setAns 7 (.bool false) (by simp [hrt]) rfl rfl
          by_cases n2 : nmv = nReset
          · subst n2
            have hpl : place w.heap.size nReset = some ⟨w.heap.size + 1, 4, none⟩ := rfl
            rcases Bool.eq_false_or_eq_true st.retry with hrt | hrt
            · skip
              gi_wp2_with (refine ⟨trivial, ?_⟩; (first | gi_at_call 17; refine (CallsIn.inRound l (callsIn_wide.2 (HCD.out W))).mono ?_; rintro e w2 ⟨rfl, hb2⟩; refine Hid.out ?_ | gi_at_call 18; refine (CallsIn.inRound l (callsIn_wide.2 (HNU.out _ hm2))).mono ?_; rintro e w3 ⟨rfl, hb3⟩; refine Hid.out ?_))
              obtain ⟨hp2, hd2, hm2⟩ := hH2.out w2 hb2
              have e0 : w2.cell? ⟨w.heap.size + 1, 0, none⟩ = some (.int .u8 (st.code : Nat)) := hp2.ans.cell 0
              have f0 := hp2.ans.frozen 0
              refine Lib.hid ?_
              gi_wp2_with (refine ⟨trivial, ?_⟩; (first | gi_at_call 17; refine (CallsIn.inRound l (callsIn_wide.2 (HCD.out W))).mono ?_; rintro e w2 ⟨rfl, hb2⟩; refine Hid.out ?_ | gi_at_call 18; refine (CallsIn.inRound l (callsIn_wide.2 (HNU.out _ hm2))).mono ?_; rintro e w3 ⟨rfl, hb3⟩; refine Hid.out ?_))
              obtain ⟨hp3, hd3⟩ := hH3.out w2 w3 hb2 hb3
              have hl := hlk.out w3 hp3
              rw [hpl] at hl
              have ht := hp3.to.cell
              clear e0 f0
              have e1 := hp3.ans.cell 4
              have f1 := hp3.ans.frozen 4
              have e7 : w3.cell? ⟨w.heap.size + 1, 7, none⟩ = some (.bool st.retry) := hp3.ans.cell 7
              have f7 := hp3.ans.frozen 7
              rw [hrt] at e7
              have hp4 := Lib.hid (hp3.setAns (s' := { st with reset := k }) 4 (.int .u64 k) rfl rfl rfl)
              have hq := run_eql_ptr_other (P := Try.prog) (w3.setCell ⟨w.heap.size + 1, 4, none⟩ (.int .u64 k)) (a := ⟨w.heap.size + 1, 4, none⟩) (b := ⟨w.heap.size + 1, 6, none⟩) (tp := 48) (by kernel_rfl) HI.out HJ.out (by simp) hp4.out.ans hp4.out.ans
              refine Lib.hid ?_
              gi_wp2
              refine hfin.out _ ((hd3.set_ hg ⟨w.heap.size + 1, 4, none⟩ (by simp; try omega) (by simp; try omega) _).set_ hg ⟨w.heap.size + 1, 7, none⟩ (by simp) (by simp; try omega) _) ?_
              rw [hS.out]
              simp only [↓reduceIte]
              rw [show put st nReset k = { st with reset := k } from rfl]
              exact hp4.out.setAns 7 (.bool true) (by simp [hrt]) rfl rfl
            · skip
              gi_wp2_with (refine ⟨trivial, ?_⟩; (first | gi_at_call 17; refine (CallsIn.inRound l (callsIn_wide.2 (HCD.out W))).mono ?_; rintro e w2 ⟨rfl, hb2⟩; refine Hid.out ?_ | gi_at_call 18; refine (CallsIn.inRound l (callsIn_wide.2 (HNU.out _ hm2))).mono ?_; rintro e w3 ⟨rfl, hb3⟩; refine Hid.out ?_))
              obtain ⟨hp2, hd2, hm2⟩ := hH2.out w2 hb2
              have e0 : w2.cell? ⟨w.heap.size + 1, 0, none⟩ = some (.int .u8 (st.code : Nat)) := hp2.ans.cell 0
              have f0 := hp2.ans.frozen 0
              refine Lib.hid ?_
              gi_wp2_with (refine ⟨trivial, ?_⟩; (first | gi_at_call 17; refine (CallsIn.inRound l (callsIn_wide.2 (HCD.out W))).mono ?_; rintro e w2 ⟨rfl, hb2⟩; refine Hid.out ?_ | gi_at_call 18; refine (CallsIn.inRound l (callsIn_wide.2 (HNU.out _ hm2))).mono ?_; rintro e w3 ⟨rfl, hb3⟩; refine Hid.out ?_))
              obtain ⟨hp3, hd3⟩ := hH3.out w2 w3 hb2 hb3
              have hl := hlk.out w3 hp3
              rw [hpl] at hl
              have ht := hp3.to.cell
              clear e0 f0
              have e1 := hp3.ans.cell 4
              have f1 := hp3.ans.frozen 4
              have e7 : w3.cell? ⟨w.heap.size + 1, 7, none⟩ = some (.bool st.retry) := hp3.ans.cell 7
              have f7 := hp3.ans.frozen 7
              rw [hrt] at e7
              have hp4 := Lib.hid (hp3.setAns (s' := { st with reset := k }) 4 (.int .u64 k) rfl rfl rfl)
              have hq := run_eql_ptr_other (P := Try.prog) (w3.setCell ⟨w.heap.size + 1, 4, none⟩ (.int .u64 k)) (a := ⟨w.heap.size + 1, 4, none⟩) (b := ⟨w.heap.size + 1, 6, none⟩) (tp := 48) (by kernel_rfl) HI.out HJ.out (by simp) hp4.out.ans hp4.out.ans
              refine Lib.hid ?_
              gi_wp2
              refine hfin.out _ ((hd3.set_ hg ⟨w.heap.size + 1, 4, none⟩ (by simp; try omega) (by simp; try omega) _).set_ hg ⟨w.heap.size + 1, 7, none⟩ (by simp) (by simp; try omega) _) ?_
              rw [hS.out]
              simp only [↓reduceIte]
              rw [show put st nReset k = { st with reset := k } from rfl]
              exact hp4.out.setAns 7 (.bool false) (by simp [hrt]) rfl rfl
          by_cases n3 : nmv = nAfter
          · subst n3
            have hpl : place w.heap.size nAfter = some ⟨w.heap.size + 1, 5, none⟩ := rfl
            rcases Bool.eq_false_or_eq_true st.retry with hrt | hrt
            · skip
              gi_wp2_with (refine ⟨trivial, ?_⟩; (first | gi_at_call 17; refine (CallsIn.inRound l (callsIn_wide.2 (HCD.out W))).mono ?_; rintro e w2 ⟨rfl, hb2⟩; refine Hid.out ?_ | gi_at_call 18; refine (CallsIn.inRound l (callsIn_wide.2 (HNU.out _ hm2))).mono ?_; rintro e w3 ⟨rfl, hb3⟩; refine Hid.out ?_))
              obtain ⟨hp2, hd2, hm2⟩ := hH2.out w2 hb2
              have e0 : w2.cell? ⟨w.heap.size + 1, 0, none⟩ = some (.int .u8 (st.code : Nat)) := hp2.ans.cell 0
              have f0 := hp2.ans.frozen 0
              refine Lib.hid ?_
              gi_wp2_with (refine ⟨trivial, ?_⟩; (first | gi_at_call 17; refine (CallsIn.inRound l (callsIn_wide.2 (HCD.out W))).mono ?_; rintro e w2 ⟨rfl, hb2⟩; refine Hid.out ?_ | gi_at_call 18; refine (CallsIn.inRound l (callsIn_wide.2 (HNU.out _ hm2))).mono ?_; rintro e w3 ⟨rfl, hb3⟩; refine Hid.out ?_))
              obtain ⟨hp3, hd3⟩ := hH3.out w2 w3 hb2 hb3
              have hl := hlk.out w3 hp3
              rw [hpl] at hl
              have ht := hp3.to.cell
              clear e0 f0
              have e1 := hp3.ans.cell 5
              have f1 := hp3.ans.frozen 5
              have e7 : w3.cell? ⟨w.heap.size + 1, 7, none⟩ = some (.bool st.retry) := hp3.ans.cell 7
              have f7 := hp3.ans.frozen 7
              rw [hrt] at e7
              have hp4 := Lib.hid (hp3.setAns (s' := { st with after := k }) 5 (.int .u64 k) rfl rfl rfl)
              have hq := run_eql_ptr_other (P := Try.prog) (w3.setCell ⟨w.heap.size + 1, 5, none⟩ (.int .u64 k)) (a := ⟨w.heap.size + 1, 5, none⟩) (b := ⟨w.heap.size + 1, 6, none⟩) (tp := 48) (by kernel_rfl) HI.out HJ.out (by simp) hp4.out.ans hp4.out.ans
              refine Lib.hid ?_
              gi_wp2
              refine hfin.out _ ((hd3.set_ hg ⟨w.heap.size + 1, 5, none⟩ (by simp; try omega) (by simp; try omega) _).set_ hg ⟨w.heap.size + 1, 7, none⟩ (by simp) (by simp; try omega) _) ?_
              rw [hS.out]
              simp only [↓reduceIte]
              rw [show put st nAfter k = { st with after := k } from rfl]
              exact hp4.out.setAns 7 (.bool true) (by simp [hrt]) rfl rfl
            · skip
              gi_wp2_with (refine ⟨trivial, ?_⟩; (first | gi_at_call 17; refine (CallsIn.inRound l (callsIn_wide.2 (HCD.out W))).mono ?_; rintro e w2 ⟨rfl, hb2⟩; refine Hid.out ?_ | gi_at_call 18; refine (CallsIn.inRound l (callsIn_wide.2 (HNU.out _ hm2))).mono ?_; rintro e w3 ⟨rfl, hb3⟩; refine Hid.out ?_))
              obtain ⟨hp2, hd2, hm2⟩ := hH2.out w2 hb2
              have e0 : w2.cell? ⟨w.heap.size + 1, 0, none⟩ = some (.int .u8 (st.code : Nat)) := hp2.ans.cell 0
              have f0 := hp2.ans.frozen 0
              refine Lib.hid ?_
              gi_wp2_with (refine ⟨trivial, ?_⟩; (first | gi_at_call 17; refine (CallsIn.inRound l (callsIn_wide.2 (HCD.out W))).mono ?_; rintro e w2 ⟨rfl, hb2⟩; refine Hid.out ?_ | gi_at_call 18; refine (CallsIn.inRound l (callsIn_wide.2 (HNU.out _ hm2))).mono ?_; rintro e w3 ⟨rfl, hb3⟩; refine Hid.out ?_))
              obtain ⟨hp3, hd3⟩ := hH3.out w2 w3 hb2 hb3
              have hl := hlk.out w3 hp3
              rw [hpl] at hl
              have ht := hp3.to.cell
              clear e0 f0
              have e1 := hp3.ans.cell 5
              have f1 := hp3.ans.frozen 5
              have e7 : w3.cell? ⟨w.heap.size + 1, 7, none⟩ = some (.bool st.retry) := hp3.ans.cell 7
              have f7 := hp3.ans.frozen 7
              rw [hrt] at e7
              have hp4 := Lib.hid (hp3.setAns (s' := { st with after := k }) 5 (.int .u64 k) rfl rfl rfl)
              have hq := run_eql_ptr_other (P := Try.prog) (w3.setCell ⟨w.heap.size + 1, 5, none⟩ (.int .u64 k)) (a := ⟨w.heap.size + 1, 5, none⟩) (b := ⟨w.heap.size + 1, 6, none⟩) (tp := 48) (by kernel_rfl) HI.out HJ.out (by simp) hp4.out.ans hp4.out.ans
              refine Lib.hid ?_
              gi_wp2
              refine hfin.out _ ((hd3.set_ hg ⟨w.heap.size + 1, 5, none⟩ (by simp; try omega) (by simp; try omega) _).set_ hg ⟨w.heap.size + 1, 7, none⟩ (by simp) (by simp; try omega) _) ?_
              rw [hS.out]
              simp only [↓reduceIte]
              rw [show put st nAfter k = { st with after := k } from rfl]
              exact hp4.out.setAns 7 (.bool false) (by simp [hrt]) rfl rfl
          by_cases n4 : nmv = nNanos
          · subst n4
            have hpl : place w.heap.size nNanos = some ⟨w.heap.size + 1, 6, none⟩ := rfl
            rcases Bool.eq_false_or_eq_true st.retry with hrt | hrt
            · skip
              gi_wp2_with (refine ⟨trivial, ?_⟩; (first | gi_at_call 17; refine (CallsIn.inRound l (callsIn_wide.2 (HCD.out W))).mono ?_; rintro e w2 ⟨rfl, hb2⟩; refine Hid.out ?_ | gi_at_call 18; refine (CallsIn.inRound l (callsIn_wide.2 (HNU.out _ hm2))).mono ?_; rintro e w3 ⟨rfl, hb3⟩; refine Hid.out ?_))
              obtain ⟨hp2, hd2, hm2⟩ := hH2.out w2 hb2
              have e0 : w2.cell? ⟨w.heap.size + 1, 0, none⟩ = some (.int .u8 (st.code : Nat)) := hp2.ans.cell 0
              have f0 := hp2.ans.frozen 0
              refine Lib.hid ?_
              gi_wp2_with (refine ⟨trivial, ?_⟩; (first | gi_at_call 17; refine (CallsIn.inRound l (callsIn_wide.2 (HCD.out W))).mono ?_; rintro e w2 ⟨rfl, hb2⟩; refine Hid.out ?_ | gi_at_call 18; refine (CallsIn.inRound l (callsIn_wide.2 (HNU.out _ hm2))).mono ?_; rintro e w3 ⟨rfl, hb3⟩; refine Hid.out ?_))
              obtain ⟨hp3, hd3⟩ := hH3.out w2 w3 hb2 hb3
              have hl := hlk.out w3 hp3
              rw [hpl] at hl
              have ht := hp3.to.cell
              clear e0 f0
              have e1 := hp3.ans.cell 6
              have f1 := hp3.ans.frozen 6
              have e7 : w3.cell? ⟨w.heap.size + 1, 7, none⟩ = some (.bool st.retry) := hp3.ans.cell 7
              have f7 := hp3.ans.frozen 7
              rw [hrt] at e7
              have hp4 := Lib.hid (hp3.setAns (s' := { st with nanos := k }) 6 (.int .u64 k) rfl rfl rfl)
              have hq := run_eql_ptr_same (P := Try.prog) (w3.setCell ⟨w.heap.size + 1, 6, none⟩ (.int .u64 k)) ⟨w.heap.size + 1, 6, none⟩ (tp := 48) (by kernel_rfl) HI.out
              refine Lib.hid ?_
              gi_wp2
              refine hfin.out _ ((hd3.set_ hg ⟨w.heap.size + 1, 6, none⟩ (by simp; try omega) (by simp; try omega) _).set_ hg ⟨w.heap.size + 1, 7, none⟩ (by simp) (by simp; try omega) _) ?_
              rw [hS.out]
              simp only [↓reduceIte]
              rw [show put st nNanos k = { st with nanos := k, retry := true } from rfl]
              exact hp4.out.setAns 7 (.bool true) (by simp [hrt]) rfl rfl
            · skip
              gi_wp2_with (refine ⟨trivial, ?_⟩; (first | gi_at_call 17; refine (CallsIn.inRound l (callsIn_wide.2 (HCD.out W))).mono ?_; rintro e w2 ⟨rfl, hb2⟩; refine Hid.out ?_ | gi_at_call 18; refine (CallsIn.inRound l (callsIn_wide.2 (HNU.out _ hm2))).mono ?_; rintro e w3 ⟨rfl, hb3⟩; refine Hid.out ?_))
              obtain ⟨hp2, hd2, hm2⟩ := hH2.out w2 hb2
              have e0 : w2.cell? ⟨w.heap.size + 1, 0, none⟩ = some (.int .u8 (st.code : Nat)) := hp2.ans.cell 0
              have f0 := hp2.ans.frozen 0
              refine Lib.hid ?_
              gi_wp2_with (refine ⟨trivial, ?_⟩; (first | gi_at_call 17; refine (CallsIn.inRound l (callsIn_wide.2 (HCD.out W))).mono ?_; rintro e w2 ⟨rfl, hb2⟩; refine Hid.out ?_ | gi_at_call 18; refine (CallsIn.inRound l (callsIn_wide.2 (HNU.out _ hm2))).mono ?_; rintro e w3 ⟨rfl, hb3⟩; refine Hid.out ?_))
              obtain ⟨hp3, hd3⟩ := hH3.out w2 w3 hb2 hb3
              have hl := hlk.out w3 hp3
              rw [hpl] at hl
              have ht := hp3.to.cell
              clear e0 f0
              have e1 := hp3.ans.cell 6
              have f1 := hp3.ans.frozen 6
              have e7 : w3.cell? ⟨w.heap.size + 1, 7, none⟩ = some (.bool st.retry) := hp3.ans.cell 7
              have f7 := hp3.ans.frozen 7
              rw [hrt] at e7
              have hp4 := Lib.hid (hp3.setAns (s' := { st with nanos := k }) 6 (.int .u64 k) rfl rfl rfl)
              have hq := run_eql_ptr_same (P := Try.prog) (w3.setCell ⟨w.heap.size + 1, 6, none⟩ (.int .u64 k)) ⟨w.heap.size + 1, 6, none⟩ (tp := 48) (by kernel_rfl) HI.out
              refine Lib.hid ?_
              gi_wp2
              refine hfin.out _ ((hd3.set_ hg ⟨w.heap.size + 1, 6, none⟩ (by simp; try omega) (by simp; try omega) _).set_ hg ⟨w.heap.size + 1, 7, none⟩ (by simp) (by simp; try omega) _) ?_
              rw [hS.out]
              simp only [↓reduceIte]
              rw [show put st nNanos k = { st with nanos := k, retry := true } from rfl]
              exact hp4.out.setAns 7 (.bool true) (by simp [hrt]) rfl rfl
          by_cases n5 : nmv = nError
          · subst n5
            have hpl : place w.heap.size nError = some ⟨w.heap.size + 1 + 1, 0, none⟩ := rfl
            rcases Bool.eq_false_or_eq_true st.retry with hrt | hrt
            · skip
              gi_wp2_with (refine ⟨trivial, ?_⟩; (first | gi_at_call 17; refine (CallsIn.inRound l (callsIn_wide.2 (HCD.out W))).mono ?_; rintro e w2 ⟨rfl, hb2⟩; refine Hid.out ?_ | gi_at_call 18; refine (CallsIn.inRound l (callsIn_wide.2 (HNU.out _ hm2))).mono ?_; rintro e w3 ⟨rfl, hb3⟩; refine Hid.out ?_))
              obtain ⟨hp2, hd2, hm2⟩ := hH2.out w2 hb2
              have e0 : w2.cell? ⟨w.heap.size + 1, 0, none⟩ = some (.int .u8 (st.code : Nat)) := hp2.ans.cell 0
              have f0 := hp2.ans.frozen 0
              refine Lib.hid ?_
              gi_wp2_with (refine ⟨trivial, ?_⟩; (first | gi_at_call 17; refine (CallsIn.inRound l (callsIn_wide.2 (HCD.out W))).mono ?_; rintro e w2 ⟨rfl, hb2⟩; refine Hid.out ?_ | gi_at_call 18; refine (CallsIn.inRound l (callsIn_wide.2 (HNU.out _ hm2))).mono ?_; rintro e w3 ⟨rfl, hb3⟩; refine Hid.out ?_))
              obtain ⟨hp3, hd3⟩ := hH3.out w2 w3 hb2 hb3
              have hl := hlk.out w3 hp3
              rw [hpl] at hl
              have ht := hp3.to.cell
              clear e0 f0
              have e1 := hp3.wrong.cell
              have f1 := hp3.wrong.frozen
              have e7 : w3.cell? ⟨w.heap.size + 1, 7, none⟩ = some (.bool st.retry) := hp3.ans.cell 7
              have f7 := hp3.ans.frozen 7
              rw [hrt] at e7
              have hp4 := Lib.hid (hp3.setWrong (s' := { st with wrong := k }) k rfl rfl rfl)
              have hq := run_eql_ptr_other (P := Try.prog) (w3.setCell ⟨w.heap.size + 1 + 1, 0, none⟩ (.int .u64 k)) (a := ⟨w.heap.size + 1 + 1, 0, none⟩) (b := ⟨w.heap.size + 1, 6, none⟩) (tp := 48) (by kernel_rfl) HI.out HJ.out (by simp) hp4.out.wrong hp4.out.ans
              refine Lib.hid ?_
              gi_wp2
              refine hfin.out _ ((hd3.set_ hg ⟨w.heap.size + 1 + 1, 0, none⟩ (by simp; try omega) (by simp; try omega) _).set_ hg ⟨w.heap.size + 1, 7, none⟩ (by simp) (by simp; try omega) _) ?_
              rw [hS.out]
              simp only [↓reduceIte]
              rw [show put st nError k = { st with wrong := k } from rfl]
              exact hp4.out.setAns 7 (.bool true) (by simp [hrt]) rfl rfl
            · skip
              gi_wp2_with (refine ⟨trivial, ?_⟩; (first | gi_at_call 17; refine (CallsIn.inRound l (callsIn_wide.2 (HCD.out W))).mono ?_; rintro e w2 ⟨rfl, hb2⟩; refine Hid.out ?_ | gi_at_call 18; refine (CallsIn.inRound l (callsIn_wide.2 (HNU.out _ hm2))).mono ?_; rintro e w3 ⟨rfl, hb3⟩; refine Hid.out ?_))
              obtain ⟨hp2, hd2, hm2⟩ := hH2.out w2 hb2
              have e0 : w2.cell? ⟨w.heap.size + 1, 0, none⟩ = some (.int .u8 (st.code : Nat)) := hp2.ans.cell 0
              have f0 := hp2.ans.frozen 0
              refine Lib.hid ?_
              gi_wp2_with (refine ⟨trivial, ?_⟩; (first | gi_at_call 17; refine (CallsIn.inRound l (callsIn_wide.2 (HCD.out W))).mono ?_; rintro e w2 ⟨rfl, hb2⟩; refine Hid.out ?_ | gi_at_call 18; refine (CallsIn.inRound l (callsIn_wide.2 (HNU.out _ hm2))).mono ?_; rintro e w3 ⟨rfl, hb3⟩; refine Hid.out ?_))
              obtain ⟨hp3, hd3⟩ := hH3.out w2 w3 hb2 hb3
              have hl := hlk.out w3 hp3
              rw [hpl] at hl
              have ht := hp3.to.cell
              clear e0 f0
              have e1 := hp3.wrong.cell
              have f1 := hp3.wrong.frozen
              have e7 : w3.cell? ⟨w.heap.size + 1, 7, none⟩ = some (.bool st.retry) := hp3.ans.cell 7
              have f7 := hp3.ans.frozen 7
              rw [hrt] at e7
              have hp4 := Lib.hid (hp3.setWrong (s' := { st with wrong := k }) k rfl rfl rfl)
              have hq := run_eql_ptr_other (P := Try.prog) (w3.setCell ⟨w.heap.size + 1 + 1, 0, none⟩ (.int .u64 k)) (a := ⟨w.heap.size + 1 + 1, 0, none⟩) (b := ⟨w.heap.size + 1, 6, none⟩) (tp := 48) (by kernel_rfl) HI.out HJ.out (by simp) hp4.out.wrong hp4.out.ans
              refine Lib.hid ?_
              gi_wp2
              refine hfin.out _ ((hd3.set_ hg ⟨w.heap.size + 1 + 1, 0, none⟩ (by simp; try omega) (by simp; try omega) _).set_ hg ⟨w.heap.size + 1, 7, none⟩ (by simp) (by simp; try omega) _) ?_
              rw [hS.out]
              simp only [↓reduceIte]
              rw [show put st nError k = { st with wrong := k } from rfl]
              exact hp4.out.setAns 7 (.bool false) (by simp [hrt]) rfl rfl
          by_cases n6 : nmv = nCount
          · subst n6
            have hpl : place w.heap.size nCount = some ⟨w.heap.size + 1 + 1 + 1, 0, none⟩ := rfl
            rcases Bool.eq_false_or_eq_true st.retry with hrt | hrt
            · skip
              gi_wp2_with (refine ⟨trivial, ?_⟩; (first | gi_at_call 17; refine (CallsIn.inRound l (callsIn_wide.2 (HCD.out W))).mono ?_; rintro e w2 ⟨rfl, hb2⟩; refine Hid.out ?_ | gi_at_call 18; refine (CallsIn.inRound l (callsIn_wide.2 (HNU.out _ hm2))).mono ?_; rintro e w3 ⟨rfl, hb3⟩; refine Hid.out ?_))
              obtain ⟨hp2, hd2, hm2⟩ := hH2.out w2 hb2
              have e0 : w2.cell? ⟨w.heap.size + 1, 0, none⟩ = some (.int .u8 (st.code : Nat)) := hp2.ans.cell 0
              have f0 := hp2.ans.frozen 0
              refine Lib.hid ?_
              gi_wp2_with (refine ⟨trivial, ?_⟩; (first | gi_at_call 17; refine (CallsIn.inRound l (callsIn_wide.2 (HCD.out W))).mono ?_; rintro e w2 ⟨rfl, hb2⟩; refine Hid.out ?_ | gi_at_call 18; refine (CallsIn.inRound l (callsIn_wide.2 (HNU.out _ hm2))).mono ?_; rintro e w3 ⟨rfl, hb3⟩; refine Hid.out ?_))
              obtain ⟨hp3, hd3⟩ := hH3.out w2 w3 hb2 hb3
              have hl := hlk.out w3 hp3
              rw [hpl] at hl
              have ht := hp3.to.cell
              clear e0 f0
              have e1 := hp3.many.cell
              have f1 := hp3.many.frozen
              have e7 : w3.cell? ⟨w.heap.size + 1, 7, none⟩ = some (.bool st.retry) := hp3.ans.cell 7
              have f7 := hp3.ans.frozen 7
              rw [hrt] at e7
              have hp4 := Lib.hid (hp3.setMany (s' := { st with many := k }) k rfl rfl rfl)
              have hq := run_eql_ptr_other (P := Try.prog) (w3.setCell ⟨w.heap.size + 1 + 1 + 1, 0, none⟩ (.int .u64 k)) (a := ⟨w.heap.size + 1 + 1 + 1, 0, none⟩) (b := ⟨w.heap.size + 1, 6, none⟩) (tp := 48) (by kernel_rfl) HI.out HJ.out (by simp) hp4.out.many hp4.out.ans
              refine Lib.hid ?_
              gi_wp2
              refine hfin.out _ ((hd3.set_ hg ⟨w.heap.size + 1 + 1 + 1, 0, none⟩ (by simp; try omega) (by simp; try omega) _).set_ hg ⟨w.heap.size + 1, 7, none⟩ (by simp) (by simp; try omega) _) ?_
              rw [hS.out]
              simp only [↓reduceIte]
              rw [show put st nCount k = { st with many := k } from rfl]
              exact hp4.out.setAns 7 (.bool true) (by simp [hrt]) rfl rfl
            · skip
              gi_wp2_with (refine ⟨trivial, ?_⟩; (first | gi_at_call 17; refine (CallsIn.inRound l (callsIn_wide.2 (HCD.out W))).mono ?_; rintro e w2 ⟨rfl, hb2⟩; refine Hid.out ?_ | gi_at_call 18; refine (CallsIn.inRound l (callsIn_wide.2 (HNU.out _ hm2))).mono ?_; rintro e w3 ⟨rfl, hb3⟩; refine Hid.out ?_))
              obtain ⟨hp2, hd2, hm2⟩ := hH2.out w2 hb2
              have e0 : w2.cell? ⟨w.heap.size + 1, 0, none⟩ = some (.int .u8 (st.code : Nat)) := hp2.ans.cell 0
              have f0 := hp2.ans.frozen 0
              refine Lib.hid ?_
              gi_wp2_with (refine ⟨trivial, ?_⟩; (first | gi_at_call 17; refine (CallsIn.inRound l (callsIn_wide.2 (HCD.out W))).mono ?_; rintro e w2 ⟨rfl, hb2⟩; refine Hid.out ?_ | gi_at_call 18; refine (CallsIn.inRound l (callsIn_wide.2 (HNU.out _ hm2))).mono ?_; rintro e w3 ⟨rfl, hb3⟩; refine Hid.out ?_))
              obtain ⟨hp3, hd3⟩ := hH3.out w2 w3 hb2 hb3
              have hl := hlk.out w3 hp3
              rw [hpl] at hl
              have ht := hp3.to.cell
              clear e0 f0
              have e1 := hp3.many.cell
              have f1 := hp3.many.frozen
              have e7 : w3.cell? ⟨w.heap.size + 1, 7, none⟩ = some (.bool st.retry) := hp3.ans.cell 7
              have f7 := hp3.ans.frozen 7
              rw [hrt] at e7
              have hp4 := Lib.hid (hp3.setMany (s' := { st with many := k }) k rfl rfl rfl)
              have hq := run_eql_ptr_other (P := Try.prog) (w3.setCell ⟨w.heap.size + 1 + 1 + 1, 0, none⟩ (.int .u64 k)) (a := ⟨w.heap.size + 1 + 1 + 1, 0, none⟩) (b := ⟨w.heap.size + 1, 6, none⟩) (tp := 48) (by kernel_rfl) HI.out HJ.out (by simp) hp4.out.many hp4.out.ans
              refine Lib.hid ?_
              gi_wp2
              refine hfin.out _ ((hd3.set_ hg ⟨w.heap.size + 1 + 1 + 1, 0, none⟩ (by simp; try omega) (by simp; try omega) _).set_ hg ⟨w.heap.size + 1, 7, none⟩ (by simp) (by simp; try omega) _) ?_
              rw [hS.out]
              simp only [↓reduceIte]
              rw [show put st nCount k = { st with many := k } from rfl]
              exact hp4.out.setAns 7 (.bool false) (by simp [hrt]) rfl rfl
          · have hpl : place w.heap.size nmv = none := by simp [place, n0, n1, n2, n3, n4, n5, n6]
            gi_wp2_with (refine ⟨trivial, ?_⟩; (first | gi_at_call 17; refine (CallsIn.inRound l (callsIn_wide.2 (HCD.out W))).mono ?_; rintro e w2 ⟨rfl, hb2⟩; refine Hid.out ?_ | gi_at_call 18; refine (CallsIn.inRound l (callsIn_wide.2 (HNU.out _ hm2))).mono ?_; rintro e w3 ⟨rfl, hb3⟩; refine Hid.out ?_))
            obtain ⟨hp2, hd2, hm2⟩ := hH2.out w2 hb2
            have e0 : w2.cell? ⟨w.heap.size + 1, 0, none⟩ = some (.int .u8 (st.code : Nat)) := hp2.ans.cell 0
            have f0 := hp2.ans.frozen 0
            refine Lib.hid ?_
            gi_wp2_with (refine ⟨trivial, ?_⟩; (first | gi_at_call 17; refine (CallsIn.inRound l (callsIn_wide.2 (HCD.out W))).mono ?_; rintro e w2 ⟨rfl, hb2⟩; refine Hid.out ?_ | gi_at_call 18; refine (CallsIn.inRound l (callsIn_wide.2 (HNU.out _ hm2))).mono ?_; rintro e w3 ⟨rfl, hb3⟩; refine Hid.out ?_))
            obtain ⟨hp3, hd3⟩ := hH3.out w2 w3 hb2 hb3
            have hl := hlk.out w3 hp3
            rw [hpl] at hl
            have ht := hp3.to.cell
            clear e0 f0
            refine Lib.hid ?_
            gi_wp2
            exact hfin.out _ hd3 (by rw [hS.out]; simp only [↓reduceIte]; rw [put_none hpl]; exact hp3)
  case done =>
    rintro D xs W hD rfl ⟨hb, hB⟩ hK
    change PBox w.heap.size (seen s) W at hb
    have hm1 := (hB.cell (p := ⟨0, 0, none⟩) hg).trans hm
    have hsf := seen_fine s
    have hbs := body_short s
    obtain ⟨st, hst⟩ : ∃ st, st = seen s := ⟨_, rfl⟩
    obtain ⟨bd, hbd⟩ : ∃ bd, bd = body s := ⟨_, rfl⟩
    have hpar : Hid (parse s = if (clean (told st bd)).code = 0 ∨ render (clean (told st bd)) ≠ s then (zero, 60) else (clean (told st bd), 0)) := Lib.hid (by rw [hst, hbd]; rfl)
    rw [← hst] at hb hsf
    rw [← hbd] at hbs
    have hbs2 : bd.length ≤ 140737488351232 := by omega
    have HTF := Lib.hid (told_fine hsf bd hbs2)
    have HBO := Lib.hid (fun W h => body_any s hs m W h)
    rw [← hbd] at HBO
    have hfar : Hid (w.heap.size + 1 < D) := Lib.hid (by omega)
    have hlow : Hid (D < W.heap.size) := Lib.hid (Array.getElem?_eq_some_iff.1 hK).1
    have HCOL := Lib.hid hK
    have hrow2 : (convert 25 9 (.slice A s.length c)).run Try.prog W.drew = .ok (.string ⟨s.toArray⟩) W.drew := row_string (((hr.below hB).more hB.size).below (Below.refl _ _).drew)
    have HROW := Lib.hid (fun W' (h : Below w.heap.size w W') => row_string (c := c) ((hr.below h).more h.size))
    obtain ⟨cp, bw, hcv, hbw⟩ := str_bytes bd
    have hbc : ∀ W b o, b < W.heap.size → (bw W).cell? ⟨b, o, none⟩ = W.cell? ⟨b, o, none⟩ := fun W b o h => (hbw W).2.2.1.cell (p := ⟨b, o, none⟩) h
    have hbf : ∀ W b o, b < W.heap.size → (bw W).frozen? ⟨b, o, none⟩ = W.frozen? ⟨b, o, none⟩ := fun W b o h => (hbw W).2.2.1.frozen (p := ⟨b, o, none⟩) h
    have HBW := Lib.hid hbw
    have HPB := Lib.hid hb
    have cw := hb.wrong.cell
    have cm := hb.many.cell
    have HHB := Lib.hid hB
    clear hbw hst hbd hsz hb hF hB1 bA hB hm0 hr hm hsf hbs hbs2 hK hD
    gi_wp2_with fail
    rename_i K0 hK0
    have HK0 := Lib.hid hK0
    clear hK0
    have htail : TailOK K0 w s A c D st bd := (by
      intro N cc W1 hend
      have hgb : GB w.heap.size D #[.int .u8 (told st bd).code, .int .u16 (told st bd).err, .int .u64 (told st bd).limit, .int .u64 (told st bd).left, .int .u64 (told st bd).reset, .int .u64 (told st bd).after, .int .u64 (told st bd).nanos, .bool (told st bd).retry, .int .i64 (told st bd).many, .slice (some ⟨N, 0, none⟩) (told st bd).body.length cc] w W1 := by
        have h := hend.1
        rw [u16_wrap] at h
        exact h
      obtain ⟨-, hcc, hlie, hN⟩ := hend
      have HCL := Lib.hid (clean_any (told st bd) HTF.out.2.2.2.2.2.2.2.2 (some ⟨N, 0, none⟩) cc W1 (lie_row' hlie hN))
      have HKF := Lib.hid (clean_fine HTF.out)
      obtain ⟨e0, e1, e2, e3, e4, e5, e6, e7, e8, e9⟩ := Blk.ten hgb.ans
      have HGB := Lib.hid hgb
      have HRB : Hid (w.heap.size + 1 < W1.heap.size) := Lib.hid (by have := hgb.far; have := hgb.low; omega)
      have HRC : Hid (w.heap.size < W1.heap.size ∧ D < W1.heap.size) := Lib.hid (by have := hgb.far; have := hgb.low; omega)
      have HB3 : Hid ((told st bd).body = bd) := Lib.hid rfl
      obtain ⟨t, ht⟩ : ∃ t, t = told st bd := ⟨_, rfl⟩
      have hstw : IntKind.u16.wrap (st.wrong : Nat) = t.err := by rw [ht, u16_wrap]; rfl
      have hstm : IntKind.i64.wrap (st.many : Nat) = t.many := by rw [ht]; rfl
      rw [← ht] at HCL HKF HB3 hpar HGB e0 e1 e2 e3 e4 e5 e6 e7 e8 e9
      rw [hstw, hstm]
      obtain ⟨k, hk⟩ : ∃ k, k = clean t := ⟨_, rfl⟩
      rw [← hk] at HCL HKF hpar
      obtain ⟨t0, t1, t2, t3, t4, t5, t6, t7, t8, t9⟩ := t
      obtain ⟨k0, k1, k2, k3, k4, k5, k6, k7, k8, k9⟩ := k
      simp only at HB3 e0 e1 e2 e3 e4 e5 e6 e7 e8 e9 hpar ⊢
      obtain rfl : t9 = bd := HB3.out
      clear hgb ht hstw hstm hk hlie hN hcc HTF HBO HPB HHB hrow2 hcv hbc hbf cw cm hm1 HB3
      refine HK0.out _ _ ?_
      gi_wp2_with (refine ⟨trivial, ?_⟩; gi_at_call 20; refine (callsIn_wide.2 HCL.out).mono ?_; rintro e w3 ⟨A3, c3, rfl, hcp, hb3⟩; refine Hid.out ?_)
      have hg3 := HGB.out.below hb3
      have hst3 := Lib.hid (GB.store (u0 := .int .u8 k0) (u1 := .int .u16 k1) (u2 := .int .u64 k2) (u3 := .int .u64 k3) (u4 := .int .u64 k4) (u5 := .int .u64 k5) (u6 := .int .u64 k6) (u7 := .bool k7) (u8 := .int .i64 k8) (u9 := .slice A3 k9.length c3) hg3)
      clear e0 e1 e2 e3 e4 e5 e6 e7 e8 e9
      obtain ⟨e0, e1, e2, e3, e4, e5, e6, e7, e8, e9⟩ := Blk.ten hg3.ans
      obtain ⟨f0, f1, f2, f3, f4, f5, f6, f7, f8, f9⟩ := Blk.froz hg3.ans
      have HCY := Lib.hid ((((((((((hcp.setCell ⟨w.heap.size + 1, 0, none⟩ HRB.out (.int .u8 k0)).setCell ⟨w.heap.size + 1, 1, none⟩ HRB.out (.int .u16 k1)).setCell ⟨w.heap.size + 1, 2, none⟩ HRB.out (.int .u64 k2)).setCell ⟨w.heap.size + 1, 3, none⟩ HRB.out (.int .u64 k3)).setCell ⟨w.heap.size + 1, 4, none⟩ HRB.out (.int .u64 k4)).setCell ⟨w.heap.size + 1, 5, none⟩ HRB.out (.int .u64 k5)).setCell ⟨w.heap.size + 1, 6, none⟩ HRB.out (.int .u64 k6)).setCell ⟨w.heap.size + 1, 7, none⟩ HRB.out (.bool k7)).setCell ⟨w.heap.size + 1, 8, none⟩ HRB.out (.int .i64 k8)).setCell ⟨w.heap.size + 1, 9, none⟩ HRB.out (.slice A3 k9.length c3))
      have hrow3 := Lib.hid (Copy.row HCY.out)
      have HRE := Lib.hid (render_any ⟨k0, k1, k2, k3, k4, k5, k6, k7, k8, k9⟩ HKF.out A3 c3 _ hrow3.out)
      have HC3 := Lib.hid hcp
      have HG3 := Lib.hid hg3
      clear hcp hg3 hb3
      obtain ⟨l4, hl4⟩ : ∃ l4, l4 = render ⟨k0, k1, k2, k3, k4, k5, k6, k7, k8, k9⟩ := ⟨_, rfl⟩
      rw [← hl4] at HRE hpar
      by_cases hz : k0 = 0
      · subst hz
        have hp0 : Hid (parse s = (zero, 60)) := Lib.hid (by rw [hpar.out]; simp)
        clear hl4
        have hyg := Lib.hid hst3.out
        clear HRE hrow3 HC3
        obtain ⟨g0, g1, g2, g3, g4, g5, g6, g7, g8, g9⟩ := Blk.ten HG3.out.res
        obtain ⟨q0, q1, q2, q3, q4, q5, q6, q7, q8, q9⟩ := Blk.froz HG3.out.res
        refine Lib.hid ?_
        gi_wp2_with (refine ⟨trivial, ?_⟩)
        obtain ⟨hend1, hend2, hend3, hend4⟩ := hyg.out.end_ (.int .u8 0) (.int .u16 0) (.int .u64 0) (.int .u64 0) (.int .u64 0) (.int .u64 0) (.int .u64 0) (.bool false) (.int .i64 0) (.slice none 0 0)
        refine ⟨by simp, .inl ⟨_, _, rfl, run_takeDeferred hend1, ?_⟩⟩
        obtain ⟨r0, r1, r2, r3, r4, r5, r6, r7, r8, r9⟩ := Blk.ten hend2
        refine ⟨.tuple #[ansV zero none 0, .int .u16 60], ?_, ?_⟩
        · simp [results, Try.f9, go_sem, r0, r1, r2, r3, r4, r5, r6, r7, r8, r9, zero]
        · rw [hp0.out]
          exact ⟨none, 0, rfl, Nat.le_refl _, Row.nil_, hend3⟩
      · have hz2 : (k0 == 0) = false := by simpa using hz
        have hz3 : Hid (¬ k0 = 0) := Lib.hid hz
        clear hz
        have hbe : ((ByteArray.mk l4.toArray).toList == (ByteArray.mk s.toArray).toList) = decide (l4 = s) := by
          rw [ByteArray.toList_eq, ByteArray.toList_eq, Bool.eq_iff_iff]
          simp
        have HBE := Lib.hid hbe
        clear hbe hl4
        refine Lib.hid ?_
        gi_wp2_with (refine ⟨trivial, ?_⟩; gi_at_call 22; refine (callsIn_wide.2 HRE.out).mono ?_; rintro e w4 ⟨A4, c4, rfl, hc4, hr4, hb4⟩; refine Hid.out ?_)
        have hg4 := Lib.hid (hst3.out.below hb4)
        have HEQ := Lib.hid (Try.bytes_Equal_strs (.slice A4 l4.length c4) (.slice A s.length c) ⟨l4.toArray⟩ ⟨s.toArray⟩ w4 (row_string hr4) (HROW.out _ hg4.out.bel))
        rw [HBE.out] at HEQ
        have hcp4 := Lib.hid (Copy.below (HCY.out) hb4)
        clear hb4 hr4 e0 e1 e2 e3 e4 e5 e6 e7 e8 e9 f0 f1 f2 f3 f4 f5 f6 f7 f8 f9
        obtain ⟨e0, e1, e2, e3, e4, e5, e6, e7, e8, e9⟩ := Blk.ten hg4.out.ans
        obtain ⟨g0, g1, g2, g3, g4, g5, g6, g7, g8, g9⟩ := Blk.ten hg4.out.res
        obtain ⟨f0, f1, f2, f3, f4, f5, f6, f7, f8, f9⟩ := Blk.froz hg4.out.res
        by_cases hls : l4 = s
        · have hd : decide (l4 = s) = true := by simpa using hls
          rw [hd] at HEQ
          have hp0 : Hid (parse s = (⟨k0, k1, k2, k3, k4, k5, k6, k7, k8, k9⟩, 0)) := Lib.hid (by rw [hpar.out, if_neg]; simp only [not_or]; exact ⟨hz3.out, fun h => h hls⟩)
          clear hd hls
          refine Lib.hid ?_
          gi_wp2_with (refine ⟨trivial, ?_⟩; gi_at_call 21; refine (callsIn_wide.2 HEQ.out).mono ?_; rintro e w5 ⟨rfl, rfl⟩)
          obtain ⟨hend1, hend2, hend3, hend4⟩ := hg4.out.end_ (.int .u8 k0) (.int .u16 k1) (.int .u64 k2) (.int .u64 k3) (.int .u64 k4) (.int .u64 k5) (.int .u64 k6) (.bool k7) (.int .i64 k8) (.slice A3 k9.length c3)
          refine ⟨by simp, .inl ⟨_, _, rfl, run_takeDeferred hend1, ?_⟩⟩
          obtain ⟨r0, r1, r2, r3, r4, r5, r6, r7, r8, r9⟩ := Blk.ten hend2
          refine ⟨.tuple #[ansV ⟨k0, k1, k2, k3, k4, k5, k6, k7, k8, k9⟩ A3 c3, .int .u16 0], ?_, ?_⟩
          · simp [results, Try.f9, go_sem, r0, r1, r2, r3, r4, r5, r6, r7, r8, r9, zero]
          · rw [hp0.out]
            exact ⟨A3, c3, rfl, (hend4 _ _ _ _ HRC.out.1 HRC.out.2 hcp4.out).1, (hend4 _ _ _ _ HRC.out.1 HRC.out.2 hcp4.out).row, hend3⟩
        · have hd : decide (l4 = s) = false := by simpa using hls
          rw [hd] at HEQ
          have hp0 : Hid (parse s = (zero, 60)) := Lib.hid (by rw [hpar.out, if_pos (.inr hls)])
          clear hd hls
          refine Lib.hid ?_
          gi_wp2_with (refine ⟨trivial, ?_⟩; gi_at_call 21; refine (callsIn_wide.2 HEQ.out).mono ?_; rintro e w5 ⟨rfl, rfl⟩)
          obtain ⟨hend1, hend2, hend3, hend4⟩ := hg4.out.end_ (.int .u8 0) (.int .u16 0) (.int .u64 0) (.int .u64 0) (.int .u64 0) (.int .u64 0) (.int .u64 0) (.bool false) (.int .i64 0) (.slice none 0 0)
          refine ⟨by simp, .inl ⟨_, _, rfl, run_takeDeferred hend1, ?_⟩⟩
          obtain ⟨r0, r1, r2, r3, r4, r5, r6, r7, r8, r9⟩ := Blk.ten hend2
          refine ⟨.tuple #[ansV zero none 0, .int .u16 60], ?_, ?_⟩
          · simp [results, Try.f9, go_sem, r0, r1, r2, r3, r4, r5, r6, r7, r8, r9, zero]
          · rw [hp0.out]
            exact ⟨none, 0, rfl, Nat.le_refl _, Row.nil_, hend3⟩)
    have hgbW := Lib.hid (show GB w.heap.size D (seenCells st) w W from ⟨rfl, HPB.out.res, HPB.out.ans, HHB.out, HCOL.out, hfar.out, hlow.out⟩)
    have hdone1 : Hid (∀ W2, GB w.heap.size D (seenCells st) w W2 → K0 { tmps := (List.toArray ((.slice A s.length c) :: undef :: (.pointer (some ⟨w.heap.size, 0, none⟩)) :: (.int .u16 0) :: (.pointer (some ⟨w.heap.size + 1, 0, none⟩)) :: (.pointer (some ⟨w.heap.size + 1 + 1, 0, none⟩)) :: (.pointer (some ⟨w.heap.size + 1 + 1 + 1, 0, none⟩)) :: (.pointer (some ⟨w.heap.size + 1 + 1 + 1 + 1 + 1, 0, none⟩)) :: undef :: undef :: undef :: undef :: undef :: undef :: (.map (some (w.heap.size + 1 + 1 + 1 + 1))) :: (.pointer (some ⟨w.heap.size + 1, 2, none⟩)) :: (.pointer (some ⟨w.heap.size + 1, 3, none⟩)) :: (.pointer (some ⟨w.heap.size + 1, 4, none⟩)) :: (.pointer (some ⟨w.heap.size + 1, 5, none⟩)) :: (.pointer (some ⟨w.heap.size + 1, 6, none⟩)) :: (.map (some (w.heap.size + 1 + 1 + 1 + 1))) :: (.slice A s.length c) :: (.string ⟨s.toArray⟩) :: (.func (.func 23) #[] #[.pointer (some ⟨w.heap.size + 1 + 1 + 1 + 1 + 1 + 1, 0, none⟩)]) :: undef :: undef :: undef :: undef :: undef :: undef :: undef :: undef :: undef :: undef :: undef :: undef :: undef :: undef :: undef :: undef :: undef :: undef :: undef :: undef :: undef :: undef :: undef :: undef :: undef :: undef :: undef :: undef :: undef :: undef :: undef :: undef :: undef :: undef :: undef :: undef :: undef :: undef :: (.int .u64 (st.wrong : Nat)) :: (.int .u16 (IntKind.u16.wrap (st.wrong : Nat))) :: (.int .u64 (st.many : Nat)) :: (.int .i64 (IntKind.i64.wrap (st.many : Nat))) :: (.slice A s.length c) :: (.string ⟨s.toArray⟩) :: (.string ⟨bd.toArray⟩) :: (.slice (some ⟨W2.heap.size, 0, none⟩) bd.length (cp W2)) :: (.pointer (some ⟨w.heap.size + 1, 1, none⟩)) :: (.pointer (some ⟨w.heap.size + 1, 8, none⟩)) :: (.pointer (some ⟨w.heap.size + 1, 9, none⟩)) :: undef :: undef :: undef :: undef :: undef :: undef :: undef :: undef :: undef :: undef :: undef :: undef :: undef :: undef :: [])), defers := [{ target := .collected D, args := #[] }] } ((((bw W2).setCell ⟨w.heap.size + 1, 1, none⟩ (.int .u16 (IntKind.u16.wrap (st.wrong : Nat)))).setCell ⟨w.heap.size + 1, 8, none⟩ (.int .i64 (IntKind.i64.wrap (st.many : Nat)))).setCell ⟨w.heap.size + 1, 9, none⟩ (.slice (some ⟨W2.heap.size, 0, none⟩) bd.length (cp W2)))) := Lib.hid fun W2 h => htail _ _ _ (h.form1 HBW.out _ _ _)
    have hdone2 : Hid (∀ W2, GB w.heap.size D (seenCells st) w W2 → K0 { tmps := (List.toArray ((.slice A s.length c) :: undef :: (.pointer (some ⟨w.heap.size, 0, none⟩)) :: (.int .u16 0) :: (.pointer (some ⟨w.heap.size + 1, 0, none⟩)) :: (.pointer (some ⟨w.heap.size + 1 + 1, 0, none⟩)) :: (.pointer (some ⟨w.heap.size + 1 + 1 + 1, 0, none⟩)) :: (.pointer (some ⟨w.heap.size + 1 + 1 + 1 + 1 + 1, 0, none⟩)) :: undef :: undef :: undef :: undef :: undef :: undef :: (.map (some (w.heap.size + 1 + 1 + 1 + 1))) :: (.pointer (some ⟨w.heap.size + 1, 2, none⟩)) :: (.pointer (some ⟨w.heap.size + 1, 3, none⟩)) :: (.pointer (some ⟨w.heap.size + 1, 4, none⟩)) :: (.pointer (some ⟨w.heap.size + 1, 5, none⟩)) :: (.pointer (some ⟨w.heap.size + 1, 6, none⟩)) :: (.map (some (w.heap.size + 1 + 1 + 1 + 1))) :: (.slice A s.length c) :: (.string ⟨s.toArray⟩) :: (.func (.func 23) #[] #[.pointer (some ⟨w.heap.size + 1 + 1 + 1 + 1 + 1 + 1, 0, none⟩)]) :: undef :: undef :: undef :: undef :: undef :: undef :: undef :: undef :: undef :: undef :: undef :: undef :: undef :: undef :: undef :: undef :: undef :: undef :: undef :: undef :: undef :: undef :: undef :: undef :: undef :: undef :: undef :: undef :: undef :: undef :: undef :: undef :: undef :: undef :: undef :: undef :: undef :: undef :: (.int .u64 (st.wrong : Nat)) :: (.int .u16 (IntKind.u16.wrap (st.wrong : Nat))) :: (.int .u64 (st.many : Nat)) :: (.int .i64 (IntKind.i64.wrap (st.many : Nat))) :: (.slice A s.length c) :: (.string ⟨s.toArray⟩) :: (.string ⟨bd.toArray⟩) :: (.slice (some ⟨W2.heap.size, 0, none⟩) bd.length (cp (W2.setCell ⟨w.heap.size + 1, 1, none⟩ (.int .u16 (IntKind.u16.wrap (st.wrong : Nat)))))) :: (.pointer (some ⟨w.heap.size + 1, 1, none⟩)) :: (.pointer (some ⟨w.heap.size + 1, 8, none⟩)) :: (.pointer (some ⟨w.heap.size + 1, 9, none⟩)) :: undef :: undef :: undef :: undef :: undef :: undef :: undef :: undef :: undef :: undef :: undef :: undef :: undef :: undef :: [])), defers := [{ target := .collected D, args := #[] }] } (((bw (W2.setCell ⟨w.heap.size + 1, 1, none⟩ (.int .u16 (IntKind.u16.wrap (st.wrong : Nat))))).setCell ⟨w.heap.size + 1, 8, none⟩ (.int .i64 (IntKind.i64.wrap (st.many : Nat)))).setCell ⟨w.heap.size + 1, 9, none⟩ (.slice (some ⟨W2.heap.size, 0, none⟩) bd.length (cp (W2.setCell ⟨w.heap.size + 1, 1, none⟩ (.int .u16 (IntKind.u16.wrap (st.wrong : Nat)))))))) := Lib.hid fun W2 h => htail _ _ _ (h.form2 HBW.out _ _ _)
    have hdone3 : Hid (∀ W2, GB w.heap.size D (seenCells st) w W2 → K0 { tmps := (List.toArray ((.slice A s.length c) :: undef :: (.pointer (some ⟨w.heap.size, 0, none⟩)) :: (.int .u16 0) :: (.pointer (some ⟨w.heap.size + 1, 0, none⟩)) :: (.pointer (some ⟨w.heap.size + 1 + 1, 0, none⟩)) :: (.pointer (some ⟨w.heap.size + 1 + 1 + 1, 0, none⟩)) :: (.pointer (some ⟨w.heap.size + 1 + 1 + 1 + 1 + 1, 0, none⟩)) :: undef :: undef :: undef :: undef :: undef :: undef :: (.map (some (w.heap.size + 1 + 1 + 1 + 1))) :: (.pointer (some ⟨w.heap.size + 1, 2, none⟩)) :: (.pointer (some ⟨w.heap.size + 1, 3, none⟩)) :: (.pointer (some ⟨w.heap.size + 1, 4, none⟩)) :: (.pointer (some ⟨w.heap.size + 1, 5, none⟩)) :: (.pointer (some ⟨w.heap.size + 1, 6, none⟩)) :: (.map (some (w.heap.size + 1 + 1 + 1 + 1))) :: (.slice A s.length c) :: (.string ⟨s.toArray⟩) :: (.func (.func 23) #[] #[.pointer (some ⟨w.heap.size + 1 + 1 + 1 + 1 + 1 + 1, 0, none⟩)]) :: undef :: undef :: undef :: undef :: undef :: undef :: undef :: undef :: undef :: undef :: undef :: undef :: undef :: undef :: undef :: undef :: undef :: undef :: undef :: undef :: undef :: undef :: undef :: undef :: undef :: undef :: undef :: undef :: undef :: undef :: undef :: undef :: undef :: undef :: undef :: undef :: undef :: undef :: (.int .u64 (st.wrong : Nat)) :: (.int .u16 (IntKind.u16.wrap (st.wrong : Nat))) :: (.int .u64 (st.many : Nat)) :: (.int .i64 (IntKind.i64.wrap (st.many : Nat))) :: (.slice A s.length c) :: (.string ⟨s.toArray⟩) :: (.string ⟨bd.toArray⟩) :: (.slice (some ⟨W2.heap.size, 0, none⟩) bd.length (cp ((W2.setCell ⟨w.heap.size + 1, 1, none⟩ (.int .u16 (IntKind.u16.wrap (st.wrong : Nat)))).setCell ⟨w.heap.size + 1, 8, none⟩ (.int .i64 (IntKind.i64.wrap (st.many : Nat)))))) :: (.pointer (some ⟨w.heap.size + 1, 1, none⟩)) :: (.pointer (some ⟨w.heap.size + 1, 8, none⟩)) :: (.pointer (some ⟨w.heap.size + 1, 9, none⟩)) :: undef :: undef :: undef :: undef :: undef :: undef :: undef :: undef :: undef :: undef :: undef :: undef :: undef :: undef :: [])), defers := [{ target := .collected D, args := #[] }] } ((bw ((W2.setCell ⟨w.heap.size + 1, 1, none⟩ (.int .u16 (IntKind.u16.wrap (st.wrong : Nat)))).setCell ⟨w.heap.size + 1, 8, none⟩ (.int .i64 (IntKind.i64.wrap (st.many : Nat))))).setCell ⟨w.heap.size + 1, 9, none⟩ (.slice (some ⟨W2.heap.size, 0, none⟩) bd.length (cp ((W2.setCell ⟨w.heap.size + 1, 1, none⟩ (.int .u16 (IntKind.u16.wrap (st.wrong : Nat)))).setCell ⟨w.heap.size + 1, 8, none⟩ (.int .i64 (IntKind.i64.wrap (st.many : Nat)))))))) := Lib.hid fun W2 h => htail _ _ _ (h.form3 HBW.out _ _ _)
    clear htail
    refine wpIn_mono (Q := Exit.then K0 (fun _ _ _ => False)) ?_ (by rintro e a3 W3 hp; cases e <;> first | exact hp | exact hp.elim)
    clear HK0 hpar HTF HROW hfar hlow HCOL HHB h2 hs hn
    gi_region_with ((refine ⟨trivial, ?_⟩; gi_at_call 19; refine (callsIn_wide.2 (HBO.out W.drew hm1)).mono ?_; rintro e w2 ⟨rfl, hb2⟩; have hp2 := Lib.hid (PBox.below HPB.out.drew hb2); have hgb2 := Lib.hid (hgbW.out.below ((Below.refl _ _).drew.trans hb2)); have e1 := hp2.out.ans.cell 1; have e8 := hp2.out.ans.cell 8; have e9 := hp2.out.ans.cell 9; have f1 := hp2.out.ans.frozen 1; have f8 := hp2.out.ans.frozen 8; have f9 := hp2.out.ans.frozen 9; have c2 := hp2.out.wrong.cell; have c3 := hp2.out.many.cell; have hl2 : w.heap.size + 1 < w2.heap.size := (by have := hp2.out.more; omega); have hl3 : w.heap.size + 1 + 1 < w2.heap.size := (by have := hp2.out.more; omega); have hl4 : w.heap.size + 1 + 1 + 1 < w2.heap.size := (by have := hp2.out.more; omega); clear hb2))
    all_goals
      change K0 _ _
      first
        | with_reducible exact hdone1.out _ hgb2.out
        | with_reducible exact hdone2.out _ hgb2.out
        | with_reducible exact hdone3.out _ hgb2.out
end Go.Proofs.Ytalehfdcebabnaa.back
