/- key.Common, walked. -/
import Derived.Test.YtdjhjgimlpdckaaKeyIter
import Derived.RangeFuncWrites
namespace Go.Proofs.Ytdjhjgimlpdckaa.key
open Go.RowKit Go.Shelf
open Go.Proofs.Ytdjhjgimlpdckaa.aid

attribute [local go_sem] Oper.semAt_some

theorem kpB_b {B : Nat} {w : World} (hB : B + 1 < w.heap.size) (W : World) (l : Nat) (o o' : Obj) (hl : w.heap.size ≤ l) (h : W.heap[l]? = some o) (_ : o.isCells = false) (_ : o.isWalk = false) : KpB B W (W.putObj l o') := by
  have hlt : l < W.heap.size := (Array.getElem?_eq_some_iff.1 h).1
  exact ⟨(grownBy_putObj' W l o').block B (by omega) (fun e => by injection e with e; omega), (grownBy_putObj' W l o').block (B + 1) (by omega) (fun e => by injection e with e; omega)⟩

set_option maxRecDepth 100000 in
set_option maxHeartbeats 2000000 in
theorem common_in (n : Nat) (hn : 3 ≤ n) (a b : ByteArray) (ha : a.size ≤ 9223372036854775807) (hb : b.size ≤ 9223372036854775807) (w : World) :
    CallsIn Fence.wide n Try.prog 20 #[.string a, .string b] w fun e W' => e = .returned (.int .i64 (common a.data.toList b.data.toList)) ∧ Below w.heap.size w W' := by
  have h1 : 1 ≤ n := by omega
  refine callsIn_of_wp_marks Try.func20 rfl trivial ?_ rfl
  simp only [Try.ntmps20, List.size_toArray, List.length_cons, List.length_nil, Nat.reduceAdd, Nat.reduceSub, Array.replicate_succ, Array.replicate_zero, List.push_toArray, List.append_toArray, List.nil_append, List.cons_append]
  gi_wp2_with (refine ⟨trivial, ?_⟩; gi_at_call 25; refine (both_in (n - 1) _ _ _).mono ?_; rintro e w' ⟨rfl, rfl⟩)
  have bR := Boxed.new w 3 (.int .i64 0)
  have bA := Boxed.new (w.alloc (.cells #[.int .i64 0] 3)) 9 (.string a)
  have bB := Boxed.new ((w.alloc (.cells #[.int .i64 0] 3)).alloc (.cells #[.string a] 9)) 9 (.string b)
  simp only [World.size_alloc] at bA bB
  have hB0 : Below w.heap.size w (((w.alloc (.cells #[.int .i64 0] 3)).alloc (.cells #[.string a] 9)).alloc (.cells #[.string b] 9)) := (((Below.refl _ w).alloc (Nat.le_refl _) _).alloc (by simp) _).alloc (by simp; omega) _
  refine wpIn_rangeFunc_ownG rfl h1 (gf := 27) (lb := #[.pointer (some ⟨w.heap.size + 1, 0, none⟩), .pointer (some ⟨w.heap.size + 1 + 1, 0, none⟩)]) rfl trivial (enters_of Try.func27 (by kernel_rfl) rfl)
    (both_stops (n - 1) (by omega) (w.heap.size + 1) a b ha hb _ (by simp) (bA.alloc _).cell bB.cell) KpB.trans (kpB_b (by simp)) (Below.refl _ _) (fun _ => rfl)
    (fun pre W => (alike pre ∧ W.cell? ⟨w.heap.size, 0, none⟩ = some (.int .i64 (pre.length : Int)) ∧ W.frozen? ⟨w.heap.size, 0, none⟩ = false) ∧ Below w.heap.size w W)
    (fun c pre W => (c = .exit 0 ∧ ∃ ini last, pre = ini ++ [last] ∧ alike ini ∧ last.1 ≠ last.2 ∧ W.cell? ⟨w.heap.size, 0, none⟩ = some (.int .i64 (ini.length : Int))) ∧ Below w.heap.size w W)
    (OwnFrom.and (Own.from (fun s A B row hs hg hr => ⟨hs.1, cell_kept hs.2.1 hg hr, (frozen_kept hs.2.1 hg hr).trans hs.2.2⟩) _) (ownFrom_below (Nat.le_refl _) (by simp; omega)))
    (fun c => OwnFrom.and (Own.from (fun s A B row hs hg hr => by obtain ⟨hc, ini, last, e1, e2, e3, e4⟩ := hs; exact ⟨hc, ini, last, e1, e2, e3, cell_kept e4 hg hr⟩) _) (ownFrom_below (Nat.le_refl _) (by simp; omega)))
    ⟨⟨alike_nil, ((bR.alloc _).alloc _).cell, ((bR.alloc _).alloc _).frozen⟩, hB0⟩
    (fun x => { tmps := #[.string a, .string b, undef, undef, .int .i64 0, .pointer (some ⟨w.heap.size, 0, none⟩), .int .u8 (x.1.toNat : Int), .int .u8 (x.2.toNat : Int), .string a, .string b, .func (.func 27) #[] #[.pointer (some ⟨w.heap.size + 1, 0, none⟩), .pointer (some ⟨w.heap.size + 1 + 1, 0, none⟩)], .int .u8 (x.1.toNat : Int), .int .u8 (x.2.toNat : Int), undef, undef, undef, undef, undef, undef], defers := [] }) ?assign ?body ?done ?stop
  case assign =>
    intro l x W K hK
    gi_wp2
    exact hK
  case body =>
    rintro l pre x W ⟨⟨hp, hcr, hfr⟩, hB⟩ hlen
    have hlen2 : (pre.length : Int) ≤ 9223372036854775806 := by
      rw [pairs_len] at hlen
      have h1 : a.data.toList.length = a.size := rfl
      omega
    clear hlen
    by_cases hx : x.1 = x.2
    · have hx' : ((x.1.toNat : Int) != x.2.toNat) = false := by rw [hx]; simp
      gi_wp2
      refine ⟨(KeepsOthers.setCell _ _ _).from _, ?_, ⟨alike_snoc hp hx, ?_, ?_⟩, hB.setCell (p := ⟨w.heap.size, 0, none⟩) (Nat.le_refl _) _⟩
      · exact ⟨Below.heap_setCell W _ _ _ (by simp), Below.heap_setCell W _ _ _ (by simp; omega)⟩
      · rw [show ((pre ++ [x]).length : Int) = (pre.length : Int) + 1 from by simp]
        exact World.cell?_setCell_same' _ _ _ (by rw [hcr]; rfl)
      · rw [World.frozen?_setCell]; exact hfr
    · have hx' : ((x.1.toNat : Int) != x.2.toNat) = true := by
        rw [bne_iff_ne]
        intro h
        exact hx (UInt8.toNat_inj.1 (by omega))
      gi_wp2
      exact ⟨KeepsFrom.refl _ _, ⟨rfl, pre, x, rfl, hp, hx, hcr⟩, hB⟩
  case done =>
    rintro D ys W hD rfl ⟨⟨hne, hcr, hfr⟩, hB⟩ hK
    gi_wp2
    refine ⟨by simp, .inl ⟨_, _, rfl, run_takeDeferred hK, ?_⟩⟩
    refine ⟨_, results_tmp rfl _ _ _, ?_, hB.trans (belowK_b (w := w) (Nat.le_refl _) W D _ _ (by simp at hD; omega) hK rfl rfl)⟩
    rw [alike_all_common _ _ hne, pairs_len]
    rfl
  case stop =>
    rintro D c pre W hD hpre ⟨⟨rfl, ini, last, e1, e2, e3, hcr⟩, hB⟩ hK
    gi_wp2
    refine ⟨by simp, .inl ⟨_, _, rfl, run_takeDeferred hK, ?_⟩⟩
    refine ⟨_, results_tmp rfl _ _ _, ?_, hB.trans (belowK_b (w := w) (Nat.le_refl _) W D _ _ (by simp at hD; omega) hK rfl rfl)⟩
    rw [e1] at hpre
    rw [unlike_common _ _ ini last hpre e2 e3]
    rfl

theorem common_any (a b : ByteArray) (ha : a.size ≤ 9223372036854775807) (hb : b.size ≤ 9223372036854775807) (w : World) :
    Calls Try.prog 20 #[.string a, .string b] w fun e W' => e = .returned (.int .i64 (common a.data.toList b.data.toList)) ∧ Below w.heap.size w W' :=
  callsIn_wide.1 (common_in 3 (Nat.le_refl _) a b ha hb w)
end Go.Proofs.Ytdjhjgimlpdckaa.key
