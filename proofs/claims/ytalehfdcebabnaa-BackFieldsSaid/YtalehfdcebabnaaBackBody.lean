/- back.body: what is behind the head. -/
import Derived.Test.YtalehfdcebabnaaBackLines
import Derived.RangeFuncWrites
namespace Go.Proofs.Ytalehfdcebabnaa.back
open Go.RowKit Go.Shelf
open Go.Proofs.Ytalehfdcebabnaa.head
open Go.Proofs.Ytalehfdcebabnaa.aid

attribute [local go_sem] Oper.semAt_some

theorem kpL_b {B : Nat} {w : World} (hB : B < w.heap.size) (hg : 0 < w.heap.size) (W : World) (l : Nat) (o o' : Obj) (hl : w.heap.size ≤ l) (_ : W.heap[l]? = some o) (_ : o.isCells = false) (_ : o.isWalk = false) : KpL B W (W.putObj l o') :=
  ⟨World.putObj_heap_other (by omega), World.putObj_heap_other (by omega)⟩
theorem body_none {s : List UInt8} (h : ∀ x ∈ lines s, x.1 ≠ []) : body s = [] := by
  unfold body
  rw [List.find?_eq_none.2 (fun x hx => by simpa using h x hx)]
theorem body_some {s : List UInt8} {ini : List (List UInt8 × List UInt8)} {last : List UInt8 × List UInt8} (hp : ini ++ [last] <+: lines s) (hi : ∀ x ∈ ini, x.1 ≠ []) (hl : last.1 = []) : body s = last.2 := by
  obtain ⟨t, ht⟩ := hp
  unfold body
  rw [← ht, List.append_assoc, List.find?_append, List.find?_eq_none.2 (fun x hx => by simpa using hi x hx)]
  simp [hl]

set_option maxRecDepth 100000 in
set_option maxHeartbeats 2000000 in
theorem body_in (n : Nat) (hn : 3 ≤ n) (s : List UInt8) (hs : s.length < 4294967281) (m : Int) (w : World) (hm : w.cell? ⟨0, 0, none⟩ = some (.int .i64 m)) :
    CallsIn Fence.wide n Try.prog 19 #[.string ⟨s.toArray⟩] w fun e W' => e = .returned (.string ⟨(body s).toArray⟩) ∧ Below w.heap.size w W' := by
  have h1 : 1 ≤ n := by omega
  have hg := block_lt_of_cell hm
  refine callsIn_of_wp_marks Try.func19 rfl trivial ?_ rfl
  simp only [Try.ntmps19, List.size_toArray, List.length_cons, List.length_nil, Nat.reduceAdd, Nat.reduceSub, Array.replicate_succ, Array.replicate_zero, List.push_toArray, List.append_toArray, List.nil_append, List.cons_append]
  gi_wp2_with (refine ⟨trivial, ?_⟩; gi_at_call 14; refine (lines_in (n - 1) _ _).mono ?_; rintro e w' ⟨rfl, rfl⟩)
  have bR := Boxed.new w 9 (.string ⟨#[]⟩)
  have bA := Boxed.new (w.alloc (.cells #[.string ⟨#[]⟩] 9)) 9 (.string ⟨s.toArray⟩)
  simp only [World.size_alloc] at bA
  have hB0 : Below w.heap.size w ((w.alloc (.cells #[.string ⟨#[]⟩] 9)).alloc (.cells #[.string ⟨s.toArray⟩] 9)) := ((Below.refl _ w).alloc (Nat.le_refl _) _).alloc (by simp) _
  have hm0 := (hB0.cell (p := ⟨0, 0, none⟩) hg).trans hm
  refine wpIn_rangeFunc_box rfl h1 (gf := 23) (lb := #[.pointer (some ⟨w.heap.size + 1, 0, none⟩)]) rfl trivial (enters_of Try.func23 (by kernel_rfl) rfl)
    (lines_box (n - 1) (by omega) (w.heap.size + 1) s hs m _ (by simp) (by omega) bA hm0) KpL.trans (kpL_b (by simp) (by simp; try omega)) (Below.refl _ _) (fun _ => rfl) (fun b hb => by subst hb; simp)
    (fun pre W => ((∀ x ∈ pre, x.1 ≠ []) ∧ W.cell? ⟨w.heap.size, 0, none⟩ = some (.string ⟨#[]⟩) ∧ W.frozen? ⟨w.heap.size, 0, none⟩ = false) ∧ Below w.heap.size w W)
    (fun c pre W => (c = .ret ∧ ∃ ini last, pre = ini ++ [last] ∧ (∀ x ∈ ini, x.1 ≠ []) ∧ last.1 = [] ∧ W.cell? ⟨w.heap.size, 0, none⟩ = some (.string ⟨last.2.toArray⟩)) ∧ Below w.heap.size w W)
    (OwnFrom.and (Own.from (fun s A B row hs hg hr => ⟨hs.1, cell_kept hs.2.1 hg hr, (frozen_kept hs.2.1 hg hr).trans hs.2.2⟩) _) (ownFrom_below (Nat.le_refl _) (by simp; omega)))
    (fun c => OwnFrom.and (Own.from (fun s A B row hs hg hr => by obtain ⟨hc, ini, last, e1, e2, e3, e4⟩ := hs; exact ⟨hc, ini, last, e1, e2, e3, cell_kept e4 hg hr⟩) _) (ownFrom_below (Nat.le_refl _) (by simp; omega)))
    (fun pre W b u hb h => by
      subst hb
      exact ⟨⟨h.1.1, (World.cell?_setCell_other _ _ _ _ (by intro e; injection e with e; omega)).trans h.1.2.1, (World.frozen?_setCell _ _ _ _).trans h.1.2.2⟩, h.2.setCell (by simp) _⟩)
    (fun c pre W b u hb h => by
      subst hb
      obtain ⟨⟨hc, ini, last, e1, e2, e3, e4⟩, h2⟩ := h
      exact ⟨⟨hc, ini, last, e1, e2, e3, (World.cell?_setCell_other _ _ _ _ (by intro e; injection e with e; omega)).trans e4⟩, h2.setCell (by simp) _⟩)
    ⟨⟨by simp, (bR.alloc _).cell, (bR.alloc _).frozen⟩, hB0⟩
    (fun x => { tmps := #[.string ⟨s.toArray⟩, undef, .pointer (some ⟨w.heap.size, 0, none⟩), .string ⟨x.1.toArray⟩, .string ⟨x.2.toArray⟩, .string ⟨s.toArray⟩, .func (.func 23) #[] #[.pointer (some ⟨w.heap.size + 1, 0, none⟩)], .string ⟨x.1.toArray⟩, .string ⟨x.2.toArray⟩, undef, undef, undef], defers := [] }) ?assign ?body ?done ?stop
  case assign =>
    intro l x W K hK
    gi_wp2
    exact hK
  case body =>
    rintro l pre ⟨x, y⟩ W - ⟨⟨hp, hcr, hfr⟩, hB⟩
    cases x with
    | cons c x =>
      have HP := Lib.hid hp
      clear hp
      gi_wp2
      refine ⟨KeepsFrom.refl _ _, KpL.refl _ _, ⟨?_, hcr, hfr⟩, hB⟩
      intro z hz
      rcases List.mem_append.1 hz with h | h
      · exact HP.out z h
      · rw [List.mem_singleton.1 h]
        exact List.cons_ne_nil _ _
    | nil =>
      have HP := Lib.hid hp
      clear hp
      gi_wp2
      refine ⟨(KeepsOthers.setCell _ _ _).from _, ⟨rfl, pre, _, rfl, HP.out, rfl, ?_⟩, hB.setCell (p := ⟨w.heap.size, 0, none⟩) (Nat.le_refl _) _⟩
      refine World.cell?_setCell_same' _ _ _ (by rw [hcr]; rfl)
  case done =>
    rintro D ys W hD rfl ⟨⟨hne, hcr, hfr⟩, hB⟩ hK
    have HN := Lib.hid (body_none hne)
    clear hne
    gi_wp2
    have hK' := (KeepsOthers.setCell W ⟨w.heap.size, 0, none⟩ (.string ⟨#[]⟩)).same D _ hK rfl
    refine ⟨by simp, .inl ⟨_, _, rfl, run_takeDeferred hK', ?_⟩⟩
    have hc5 := cell_kept (World.cell?_setCell_same' W ⟨w.heap.size, 0, none⟩ (.string ⟨#[]⟩) (by rw [hcr]; rfl)) (grownBy_putObj' _ D (.deferred none)) (fun r e => by cases e; exact ⟨_, hK', rfl⟩)
    refine ⟨.string ⟨#[]⟩, ?_, ?_, (hB.setCell (p := ⟨w.heap.size, 0, none⟩) (Nat.le_refl _) _).trans (belowK_b (w := w) (Nat.le_refl _) _ D _ _ (by simp at hD; omega) hK' rfl rfl)⟩
    · simp [results, Try.f19, go_sem, hc5]
    · rw [HN.out]
  case stop =>
    rintro D c pre W hD hpre ⟨⟨rfl, ini, last, e1, e2, e3, hcr⟩, hB⟩ hK
    have HN := Lib.hid (body_some (e1 ▸ hpre) e2 e3)
    clear hpre e1 e2 e3
    gi_wp2
    refine ⟨by simp, .inl ⟨_, _, rfl, run_takeDeferred hK, ?_⟩⟩
    have hc5 := cell_kept hcr (grownBy_putObj' _ D (.deferred none)) (fun r e => by cases e; exact ⟨_, hK, rfl⟩)
    refine ⟨.string ⟨last.2.toArray⟩, ?_, ?_, hB.trans (belowK_b (w := w) (Nat.le_refl _) W D _ _ (by simp at hD; omega) hK rfl rfl)⟩
    · simp [results, Try.f19, go_sem, hc5]
    · rw [HN.out]

theorem body_any (s : List UInt8) (hs : s.length < 4294967281) (m : Int) (w : World) (hm : w.cell? ⟨0, 0, none⟩ = some (.int .i64 m)) :
    Calls Try.prog 19 #[.string ⟨s.toArray⟩] w fun e W' => e = .returned (.string ⟨(body s).toArray⟩) ∧ Below w.heap.size w W' :=
  callsIn_wide.1 (body_in 3 (Nat.le_refl _) s hs m w hm)
end Go.Proofs.Ytalehfdcebabnaa.back
