/- key.Less and key.Common, walked. -/
import Derived.Test.YthlaigpopplafaaDoorKeyIter
import Derived.RangeFuncWrites
namespace Go.Proofs.YthlaigpopplafaaDoor.key
open Go.RowKit Go.Shelf
open Go.Proofs.YthlaigpopplafaaDoor.aid

attribute [local go_sem] Oper.semAt_some

theorem kpB_b {B : Nat} {w : World} (hB : B + 1 < w.heap.size) (W : World) (l : Nat) (o o' : Obj) (hl : w.heap.size ≤ l) (h : W.heap[l]? = some o) (_ : o.isCells = false) (_ : o.isWalk = false) : KpB B W (W.putObj l o') := by
  have hlt : l < W.heap.size := (Array.getElem?_eq_some_iff.1 h).1
  exact ⟨(grownBy_putObj' W l o').block B (by omega) (fun e => by injection e with e; omega), (grownBy_putObj' W l o').block (B + 1) (by omega) (fun e => by injection e with e; omega)⟩

set_option maxRecDepth 100000 in
set_option maxHeartbeats 2000000 in
theorem less_in (n : Nat) (hn : 3 ≤ n) (a b : ByteArray) (ha : a.size ≤ 9223372036854775807) (hb : b.size ≤ 9223372036854775807) (w : World) :
    CallsIn Fence.wide n Tryd.prog 42 #[.string a, .string b] w fun e W' => e = .returned (.bool (less a.data.toList b.data.toList)) ∧ Below w.heap.size w W' := by
  have h1 : 1 ≤ n := by omega
  refine callsIn_of_wp_marks Tryd.func42 rfl trivial ?_ rfl
  simp only [Tryd.ntmps42, List.size_toArray, List.length_cons, List.length_nil, Nat.reduceAdd, Nat.reduceSub, Array.replicate_succ, Array.replicate_zero, List.push_toArray, List.append_toArray, List.nil_append, List.cons_append]
  gi_wp2_with (refine ⟨trivial, ?_⟩; gi_at_call 46; refine (both_in (n - 1) _ _ _).mono ?_; rintro e w' ⟨rfl, rfl⟩)
  have bR := Boxed.new w 4 (.bool false)
  have bA := Boxed.new (w.alloc (.cells #[.bool false] 4)) 9 (.string a)
  have bB := Boxed.new ((w.alloc (.cells #[.bool false] 4)).alloc (.cells #[.string a] 9)) 9 (.string b)
  simp only [World.size_alloc] at bA bB
  have hB0 : Below w.heap.size w (((w.alloc (.cells #[.bool false] 4)).alloc (.cells #[.string a] 9)).alloc (.cells #[.string b] 9)) := (((Below.refl _ w).alloc (Nat.le_refl _) _).alloc (by simp) _).alloc (by simp; omega) _
  refine wpIn_rangeFunc_ownG rfl h1 (gf := 50) (lb := #[.pointer (some ⟨w.heap.size + 1, 0, none⟩), .pointer (some ⟨w.heap.size + 1 + 1, 0, none⟩)]) rfl trivial (enters_of Tryd.func50 (by kernel_rfl) rfl)
    (both_stops (n - 1) (by omega) (w.heap.size + 1) a b ha hb _ (by simp) (bA.alloc _).cell bB.cell) KpB.trans (kpB_b (by simp)) (Below.refl _ _) (fun _ => rfl)
    (fun pre W => (alike pre ∧ W.cell? ⟨w.heap.size, 0, none⟩ = some (.bool false) ∧ W.frozen? ⟨w.heap.size, 0, none⟩ = false) ∧ Below w.heap.size w W)
    (fun c pre W => (c = .ret ∧ ∃ ini last, pre = ini ++ [last] ∧ alike ini ∧ last.1 ≠ last.2 ∧ W.cell? ⟨w.heap.size, 0, none⟩ = some (.bool (decide (last.1 < last.2)))) ∧ Below w.heap.size w W)
    (OwnFrom.and (Own.from (fun s A B row hs hg hr => ⟨hs.1, cell_kept hs.2.1 hg hr, (frozen_kept hs.2.1 hg hr).trans hs.2.2⟩) _) (ownFrom_below (Nat.le_refl _) (by simp; omega)))
    (fun c => OwnFrom.and (Own.from (fun s A B row hs hg hr => by obtain ⟨hc, ini, last, e1, e2, e3, e4⟩ := hs; exact ⟨hc, ini, last, e1, e2, e3, cell_kept e4 hg hr⟩) _) (ownFrom_below (Nat.le_refl _) (by simp; omega)))
    ⟨⟨alike_nil, ((bR.alloc _).alloc _).cell, ((bR.alloc _).alloc _).frozen⟩, hB0⟩
    (fun x => { tmps := #[.string a, .string b, undef, undef, .pointer (some ⟨w.heap.size, 0, none⟩), .int .u8 (x.1.toNat : Int), .int .u8 (x.2.toNat : Int), .string a, .string b, .func (.func 50) #[] #[.pointer (some ⟨w.heap.size + 1, 0, none⟩), .pointer (some ⟨w.heap.size + 1 + 1, 0, none⟩)], .int .u8 (x.1.toNat : Int), .int .u8 (x.2.toNat : Int), undef, undef, undef, undef, undef, undef, undef, undef, undef, undef, undef], defers := [] }) ?assign ?body ?done ?stop
  case assign =>
    intro l x W K hK
    gi_wp2
    exact hK
  case body =>
    rintro l pre x W ⟨⟨hp, hcr, hfr⟩, hB⟩ _
    by_cases hx : x.1 = x.2
    · have hx' : ((x.1.toNat : Int) != x.2.toNat) = false := by rw [hx]; simp
      gi_wp2
      exact ⟨KeepsFrom.refl _ _, KpB.refl _ _, ⟨alike_snoc hp hx, hcr, hfr⟩, hB⟩
    · have hx' : ((x.1.toNat : Int) != x.2.toNat) = true := by
        rw [bne_iff_ne]
        intro h
        exact hx (UInt8.toNat_inj.1 (by omega))
      gi_wp2
      refine ⟨(KeepsOthers.setCell _ _ _).from _, ⟨rfl, pre, x, rfl, hp, hx, ?_⟩, hB.setCell (p := ⟨w.heap.size, 0, none⟩) (Nat.le_refl _) _⟩
      refine World.cell?_setCell_same' _ _ _ (by rw [hcr]; rfl)
  case done =>
    rintro D ys W hD rfl ⟨⟨hne, hcr, hfr⟩, hB⟩ hK
    gi_wp2
    have hK' := (KeepsOthers.setCell W ⟨w.heap.size, 0, none⟩ (.bool (decide (a.size < b.size)))).same D _ hK rfl
    refine ⟨by simp, .inl ⟨_, _, rfl, run_takeDeferred hK', ?_⟩⟩
    have hc5 := cell_kept (World.cell?_setCell_same' W ⟨w.heap.size, 0, none⟩ (.bool (decide (a.size < b.size))) (by rw [hcr]; rfl)) (grownBy_putObj' _ D (.deferred none)) (fun r e => by cases e; exact ⟨_, hK', rfl⟩)
    refine ⟨.bool (decide (a.size < b.size)), ?_, ?_, (hB.setCell (p := ⟨w.heap.size, 0, none⟩) (Nat.le_refl _) _).trans (belowK_b (w := w) (Nat.le_refl _) _ D _ _ (by simp at hD; omega) hK' rfl rfl)⟩
    · simp [results, Tryd.f42, go_sem, hc5]
    · rw [alike_all_less _ _ hne]
      rfl
  case stop =>
    rintro D c pre W hD hpre ⟨⟨rfl, ini, last, e1, e2, e3, hcr⟩, hB⟩ hK
    gi_wp2
    refine ⟨by simp, .inl ⟨_, _, rfl, run_takeDeferred hK, ?_⟩⟩
    have hc5 := cell_kept hcr (grownBy_putObj' _ D (.deferred none)) (fun r e => by cases e; exact ⟨_, hK, rfl⟩)
    refine ⟨.bool (decide (last.1 < last.2)), ?_, ?_, hB.trans (belowK_b (w := w) (Nat.le_refl _) W D _ _ (by simp at hD; omega) hK rfl rfl)⟩
    · simp [results, Tryd.f42, go_sem, hc5]
    · rw [e1] at hpre
      exact ret_bool (unlike_less _ _ ini last hpre e2 e3).symm

theorem less_any (a b : ByteArray) (ha : a.size ≤ 9223372036854775807) (hb : b.size ≤ 9223372036854775807) (w : World) :
    Calls Tryd.prog 42 #[.string a, .string b] w fun e W' => e = .returned (.bool (less a.data.toList b.data.toList)) ∧ Below w.heap.size w W' :=
  callsIn_wide.1 (less_in 3 (Nat.le_refl _) a b ha hb w)
end Go.Proofs.YthlaigpopplafaaDoor.key
