/- the reference's Entry and Same, walked. -/
import Derived.Test.YthlaigpopplafaaDoorPackEs
import Derived.Deep.QuietTactic
import Derived.BigQuiet
namespace Go.Proofs.YthlaigpopplafaaDoor.pack
open Go.RowKit
open Go.Proofs.YthlaigpopplafaaDoor.aid

def pr (e : Ent) : List UInt8 × Nat := (e.key, e.till)
def sameE (a b : List Ent) : Bool := decide (a.map pr = b.map pr)
theorem pr_inj {a b : Ent} (h : pr a = pr b) : a = b := by
  cases a; cases b
  simp only [pr, Prod.mk.injEq] at h
  obtain ⟨rfl, rfl⟩ := h
  rfl
theorem sameE_iff (a b : List Ent) : sameE a b = true ↔ a = b := by
  simp only [sameE, decide_eq_true_eq]
  constructor
  · intro h
    exact (List.map_inj_right (fun _ _ => pr_inj)).1 h
  · rintro rfl; rfl
theorem sameE_refl (a : List Ent) : sameE a a = true := (sameE_iff a a).2 rfl
theorem sameE_ne {a b : List Ent} (h : a ≠ b) : sameE a b = false := by
  rw [Bool.eq_false_iff]
  intro h2
  exact h ((sameE_iff a b).1 h2)

theorem neq_ent (x y : Ent) (W : World) : (binOp .neq 31 (.agg #[.string ⟨x.key.toArray⟩, .int .u64 (x.till : Nat)]) (.agg #[.string ⟨y.key.toArray⟩, .int .u64 (y.till : Nat)])).run Tryd.prog W = .ok (.bool (!decide (pr x = pr y))) W := by
  have e1 : ((ByteArray.mk x.key.toArray).toList == (ByteArray.mk y.key.toArray).toList) = decide (x.key = y.key) := by
    rw [ByteArray.toList_eq, ByteArray.toList_eq, Bool.eq_iff_iff]
    simp
  have e2 : (((x.till : Nat) : Int) == ((y.till : Nat) : Int)) = decide (x.till = y.till) := by
    rw [Bool.eq_iff_iff]
    simp only [beq_iff_eq, decide_eq_true_eq]
    omega
  have e3 : decide (pr x = pr y) = (decide (x.key = y.key) && decide (x.till = y.till)) := by simp [pr]
  rw [e3]
  by_cases h1 : x.key = y.key
  · by_cases h2 : x.till = y.till
    · simp [go_sem, e1, e2, h1, h2]
    · simp [go_sem, e1, e2, h1, h2]
  · simp [go_sem, e1, e2, h1]
set_option maxHeartbeats 1000000 in
theorem entry_same (xs ys : List Ent) (A A2 : Option Addr) (c c2 : Nat) (ha : xs.length ≤ 1000000000) (hb : ys.length ≤ 1000000000) (w : World) (hr : Row w w.heap.size A (ecells xs)) (hr2 : Row w w.heap.size A2 (ecells ys)) :
    Calls Tryd.prog 37 #[.slice A xs.length c, .slice A2 ys.length c2] w fun e w' => e = .returned (.bool (sameE xs ys)) ∧ Below w.heap.size w w' := by
  have HR := Lib.hid hr
  have HR2 := Lib.hid hr2
  clear hr hr2
  by_cases hlen : xs.length = ys.length
  · go_enter Tryd.func37, Tryd.ntmps37
    go_wp2_with fail
    go_loopw [5] (fun i wr => ∃ k : Nat, k ≤ xs.length ∧ i = .int .i64 k ∧ xs.take k = ys.take k ∧ Below w.heap.size w wr) (fun i _ => xs.length - (intOf i).toNat)
    case atStart => exact ⟨0, by omega, rfl, rfl, Below.refl _ _⟩
    case round =>
      obtain ⟨k, hk, rfl, heq, hB⟩ := hrel
      have HEQ := Lib.hid heq
      have HB := Lib.hid hB
      clear heq hB
      by_cases hlt : k < xs.length
      · obtain ⟨b, off, rfl, hb1, hc0, hc1⟩ := ent_at (HR.out.below HB.out) hlt
        obtain ⟨b2, off2, rfl, hb2, hd0, hd1⟩ := ent_at (HR2.out.below HB.out) (show k < ys.length by omega)
        have hlt2 : k < ys.length := by omega
        by_cases hx : xs[k] = ys[k]
        · have hq := fun W => neq_ent xs[k] ys[k] W
          rw [show (!decide (pr xs[k] = pr ys[k])) = false from by simp [hx]] at hq
          have hnew : xs.take (k + 1) = ys.take (k + 1) := by rw [List.take_succ_eq_append_getElem hlt, List.take_succ_eq_append_getElem hlt2, HEQ.out, hx]
          have HN := Lib.hid hnew
          clear hnew hx
          generalize xs[k].key = k1 at *
          generalize xs[k].till = t1 at *
          generalize ys[k].key = k2 at *
          generalize ys[k].till = t2 at *
          go_wp2
          go_quiet (fail)
          go_wp2
          go_roundw
          case rel => exact ⟨k + 1, by omega, by go_num, HN.out, below_drewN HB.out _⟩
          case measure => simp [intOf]; omega
        · have hq := fun W => neq_ent xs[k] ys[k] W
          rw [show (!decide (pr xs[k] = pr ys[k])) = true from by simp; exact fun h => hx (pr_inj h)] at hq
          have hne := sameE_ne (a := xs) (b := ys) (fun e => hx (by subst e; rfl))
          have HNE := Lib.hid hne
          clear hne hx
          generalize xs[k].key = k1 at *
          generalize xs[k].till = t1 at *
          generalize ys[k].key = k2 at *
          generalize ys[k].till = t2 at *
          go_wp2
          go_quiet (fail)
          go_wp2
          go_ret
          exact ⟨by rw [HNE.out]; rfl, below_drewN HB.out _⟩
      · obtain rfl : k = xs.length := by omega
        have he : xs = ys := by
          have := HEQ.out
          rw [List.take_length] at this
          rw [this, hlen, List.take_length]
        go_wp2
        go_ret
        exact ⟨by rw [(sameE_iff _ _).2 he]; rfl, HB.out⟩
  · have hne : sameE xs ys = false := sameE_ne (fun e => hlen (by rw [e]))
    rw [hne]
    go_enter Tryd.func37, Tryd.ntmps37
    go_wp2
    go_ret
    exact ⟨rfl, Below.refl _ _⟩

def same (a b : Snap) : Bool := a.clock == b.clock && sameE a.es b.es
theorem same_refl (a : Snap) : same a a = true := by simp [same, sameE_refl]
set_option maxHeartbeats 1000000 in
theorem same_any (s t : Snap) (A A2 : Option Addr) (c c2 : Nat) (ha : s.es.length ≤ 1000000000) (hb : t.es.length ≤ 1000000000) (w : World) (hr : Row w w.heap.size A (ecells s.es)) (hr2 : Row w w.heap.size A2 (ecells t.es)) :
    Calls Tryd.prog 18 #[.agg #[.int .u64 (s.clock : Nat), .slice A s.es.length c], .agg #[.int .u64 (t.clock : Nat), .slice A2 t.es.length c2]] w fun e w' => e = .returned (.bool (same s t)) ∧ Below w.heap.size w w' := by
  obtain ⟨x, xs⟩ := s
  obtain ⟨y, ys⟩ := t
  simp only at ha hb hr hr2 ⊢
  obtain ⟨W, hW⟩ : ∃ W, W = (w.alloc (.cells #[.int .u64 (x : Nat), .slice A xs.length c] 25)).alloc (.cells #[.int .u64 (y : Nat), .slice A2 ys.length c2] 25) := ⟨_, rfl⟩
  have h1 : Blk W w.heap.size 25 #[.int .u64 (x : Nat), .slice A xs.length c] := by rw [hW]; exact (Blk.new w _ _).alloc _
  have h2 : Blk W (w.heap.size + 1) 25 #[.int .u64 (y : Nat), .slice A2 ys.length c2] := by
    rw [hW]
    have := Blk.new (w.alloc (.cells #[.int .u64 (x : Nat), .slice A xs.length c] 25)) 25 #[.int .u64 (y : Nat), .slice A2 ys.length c2]
    simpa using this
  have hb0 : Below w.heap.size w W := by rw [hW]; exact ((Below.refl _ _).alloc (Nat.le_refl _) _).alloc (by simp) _
  have c0 : W.cell? ⟨w.heap.size, 0, none⟩ = some (.int .u64 (x : Nat)) := h1.cell 0
  have c1 : W.cell? ⟨w.heap.size, 1, none⟩ = some (.slice A xs.length c) := h1.cell 1
  have d0 : W.cell? ⟨w.heap.size + 1, 0, none⟩ = some (.int .u64 (y : Nat)) := h2.cell 0
  have d1 : W.cell? ⟨w.heap.size + 1, 1, none⟩ = some (.slice A2 ys.length c2) := h2.cell 1
  have HC := Lib.hid (entry_same xs ys A A2 c c2 ha hb W ((hr.below hb0).more hb0.size) ((hr2.below hb0).more hb0.size))
  have HW := Lib.hid hW
  have HB := Lib.hid hb0
  clear hW h1 h2 hb0 hr hr2
  by_cases hxy : x = y
  · have he : ((x : Int) == (y : Int)) = true := by simp [hxy]
    have hs : same ⟨x, xs⟩ ⟨y, ys⟩ = sameE xs ys := by simp [same, hxy]
    rw [hs]
    clear hs hxy
    go_enter Tryd.func18, Tryd.ntmps18
    go_wp2_with fail
    rw [← HW.out]
    go_wp2_with fail
    refine HC.out.mono ?_
    rintro e w1 ⟨rfl, hb1⟩
    go_wp2
    go_ret
    exact ⟨rfl, HB.out.trans (hb1.mono HB.out.size)⟩
  · have he : ((x : Int) == (y : Int)) = false := by simp; omega
    have hs : same ⟨x, xs⟩ ⟨y, ys⟩ = false := by simp [same, hxy]
    rw [hs]
    clear hs hxy HC
    go_enter Tryd.func18, Tryd.ntmps18
    go_wp2_with fail
    rw [← HW.out]
    go_wp2
    go_ret
    exact ⟨rfl, HB.out⟩
end Go.Proofs.YthlaigpopplafaaDoor.pack
