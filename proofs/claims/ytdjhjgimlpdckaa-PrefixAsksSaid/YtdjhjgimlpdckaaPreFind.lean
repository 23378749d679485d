/- prefix.Find and Len, walked. -/
import Derived.Test.YtdjhjgimlpdckaaPreIter
namespace Go.Proofs.Ytdjhjgimlpdckaa.pre
open Go.RowKit Go.Shelf
open Go.Proofs.Ytdjhjgimlpdckaa.aid

attribute [local go_sem] Oper.semAt_some

theorem way_in (n : Nat) (x : Option Addr) (k : ByteArray) (w : World) :
    CallsIn Fence.wide n Try.prog 18 #[.pointer x, .string k] w fun e w' =>
      e = .returned (.func (.func 22) #[] #[.pointer (some ⟨w.heap.size, 0, none⟩), .pointer (some ⟨w.heap.size + 1, 0, none⟩)]) ∧
      w' = (w.alloc (.cells #[.pointer x] 57)).alloc (.cells #[.string k] 9) := by
  refine callsIn_of_wp Try.func18 rfl trivial ?_ rfl
  simp only [Try.ntmps18, List.size_toArray, List.length_cons, List.length_nil, Nat.reduceAdd, Nat.reduceSub, Array.replicate_succ, Array.replicate_zero, List.push_toArray, List.append_toArray, List.nil_append, List.cons_append]
  gi_wp2
  go_ret
  exact ⟨rfl, rfl⟩

def zeroRul : Rul := ⟨[], 0, 0, 0⟩
/-- the two results -/
def found : Option Rul → Value
  | none => .tuple #[.agg zeroRul.cells, .bool false]
  | some x => .tuple #[.agg x.cells, .bool true]

set_option maxRecDepth 100000 in
set_option maxHeartbeats 2000000 in
theorem find_in (n : Nat) (hn : 3 ≤ n) (w : World) (base root : Nat) (L : List Rul) (h : Tr w base root L) (k : List UInt8) (hk : k.length ≤ big) :
    CallsIn Fence.wide n Try.prog 13 #[.pointer (some ⟨root, 0, none⟩), .string ⟨k.toArray⟩] w fun e w' => ∃ o, e = .returned (found o) ∧ IsFind L k o ∧ Below w.heap.size w w' := by
  obtain ⟨G, T, R, M⟩ := h
  obtain ⟨vs, hv⟩ := way_ex T.shape k
  have hfind := tree_find T R hv
  have h1 : 1 ≤ n := by omega
  have HF := Lib.hid hfind
  have HT := Lib.hid T
  have HV := Lib.hid hv
  clear hfind T hv M
  refine callsIn_of_wp_marks Try.func13 rfl trivial ?_ rfl
  simp only [Try.ntmps13, List.size_toArray, List.length_cons, List.length_nil, Nat.reduceAdd, Nat.reduceSub, Array.replicate_succ, Array.replicate_zero, List.push_toArray, List.append_toArray, List.nil_append, List.cons_append]
  gi_wp2_with (refine ⟨trivial, ?_⟩; gi_at_call 18; refine (way_in (n - 1) _ _ _).mono ?_; rintro e w' ⟨rfl, rfl⟩)
  generalize hW0 : ((((w.alloc (.cells #[.string ⟨#[]⟩, .int .u64 0, .int .u64 0, .int .u8 0] 28)).alloc (.cells #[.pointer none] 52)).alloc (.cells #[.pointer (some ⟨root, 0, none⟩)] 57)).alloc (.cells #[.string ⟨k.toArray⟩] 9)) = W0
  have zW : W0.heap.size = w.heap.size + 1 + 1 + 1 + 1 := by rw [← hW0]; simp
  have hb0 : Below w.heap.size w W0 := by
    rw [← hW0]
    exact ((((Below.refl _ w).alloc (Nat.le_refl _) _).alloc (by simp) _).alloc (by simp; omega) _).alloc (by simp; omega) _
  have bR : Blk W0 w.heap.size 28 zeroRul.cells := by
    rw [← hW0]
    exact (((Blk.new w 28 zeroRul.cells).alloc _).alloc _).alloc _
  have bL : Boxed W0 (w.heap.size + 1) 52 (ptr none) := by
    rw [← hW0]
    have := Boxed.new (w.alloc (.cells zeroRul.cells 28)) 52 (ptr none)
    simp only [World.size_alloc] at this
    exact (this.alloc _).alloc _
  have bN : Boxed W0 (w.heap.size + 1 + 1) 57 (ptr (some root)) := by
    rw [← hW0]
    have := Boxed.new ((w.alloc (.cells zeroRul.cells 28)).alloc (.cells #[.pointer none] 52)) 57 (ptr (some root))
    simp only [World.size_alloc] at this
    exact this.alloc _
  have bK : Boxed W0 (w.heap.size + 1 + 1 + 1) 9 (.string ⟨k.toArray⟩) := by
    rw [← hW0]
    have := Boxed.new (((w.alloc (.cells zeroRul.cells 28)).alloc (.cells #[.pointer none] 52)).alloc (.cells #[.pointer (some ⟨root, 0, none⟩)] 57)) 9 (.string ⟨k.toArray⟩)
    simp only [World.size_alloc] at this
    exact this
  clear hW0
  refine range_box rfl h1 (gf := 22) (lb := #[.pointer (some ⟨w.heap.size + 1 + 1, 0, none⟩), .pointer (some ⟨w.heap.size + 1 + 1 + 1, 0, none⟩)]) rfl trivial (enters_of Try.func22 (by kernel_rfl) rfl)
    (fun x : Nat => #[.pointer (some ⟨x, 0, none⟩)]) (fun _ => rfl)
    (fun pre W => Boxed W (w.heap.size + 1) 52 (ptr (lastRule G pre)) ∧ Blk W w.heap.size 28 zeroRul.cells ∧ Below w.heap.size w W)
    (KpT w.heap.size (w.heap.size + 1 + 1)) (fun xs => xs = vs) (fun b => b = w.heap.size + 1 + 1 ∨ b = w.heap.size + 1 + 1 + 1) (fun x => ∃ r, G x = some r)
    (fun h k => ⟨fun i hi => (k.1 i hi).trans (h.1 i hi), k.2.1.trans h.2.1, k.2.2.trans h.2.2⟩)
    (fun W l o o' hl ho _ => ⟨fun i hi => World.putObj_heap_other (by omega), World.putObj_heap_other (by omega), World.putObj_heap_other (by omega)⟩)
    (fun pre W o h => ⟨h.1.alloc o, h.2.1.alloc o, h.2.2.alloc h.2.2.size o⟩)
    (fun pre W l o o' h hl ho hc => ?_)
    (fun b hb => by omega)
    (fun pre W W' b h hb hg => ⟨h.1.kept hg (fun e => by injection e with e; omega), h.2.1.grown hg (fun e => by injection e with e; omega), h.2.2.grown hg h.2.2.size (fun j hj => by injection hj with hj; omega)⟩)
    (fun pre W h => ⟨h.1, h.2.1, h.2.2.drew⟩)
    (fun l J W hW hJ hD hY h0 => ?_)
    ⟨bL, bR, hb0⟩
    (fun x => { tmps := #[.pointer (some ⟨root, 0, none⟩), .string ⟨k.toArray⟩, undef, undef, .pointer (some ⟨w.heap.size, 0, none⟩), .bool false, .pointer (some ⟨w.heap.size + 1, 0, none⟩), .pointer (some ⟨x, 0, none⟩), .pointer (some ⟨root, 0, none⟩), .bool true, .pointer (some ⟨root, 0, none⟩), .pointer (some ⟨root, 0, none⟩), .pointer (some ⟨root, 0, none⟩), .string ⟨k.toArray⟩, .func (.func 22) #[] #[.pointer (some ⟨w.heap.size + 1 + 1, 0, none⟩), .pointer (some ⟨w.heap.size + 1 + 1 + 1, 0, none⟩)], .pointer (some ⟨x, 0, none⟩), undef, undef, undef, undef, undef, undef, undef, undef, undef, undef, undef, undef, undef, undef, undef], defers := [] })
    ?assign ?body ?done
  · have hg := grownBy_putObj' W l o'
    exact ⟨h.1.kept hg (fun e => by injection e with e; omega), h.2.1.grown hg (fun e => by injection e with e; omega), h.2.2.grown hg h.2.2.size (fun j hj => by injection hj with hj; omega)⟩
  · refine (way1_in (n - 1) (by omega) l w.heap.size (w.heap.size + 1 + 1) (by omega) w base root G HT.out (Nat.le_refl _) k hk vs HV.out J hJ hD hY W (fun i hi => (hW.block i (by omega)).trans (hb0.block i hi)) ((hW.block _ (by omega)).trans bN) ((hW.block _ (by omega)).trans bK) h0).mono ?_
    rintro e W' ⟨hv, hj⟩
    exact ⟨hv, vs, rfl, hj⟩
  case assign =>
    intro l x W K hK
    gi_wp2
    exact hK
  case body =>
    rintro l pre x W ⟨r, hx⟩ ⟨hL, hRb, hB⟩
    have hn0 := HT.out.node x r hx
    have hn := hn0.same (hB.block x hn0.lt)
    have c1 := hn.cells.2.1
    have cl := hL.cell
    have fl := hL.frozen
    have hsn := lastRule_snoc G pre x
    rw [hx] at hsn
    cases hrr : r.rule with
    | none =>
      rw [hrr] at c1
      have c1' : W.cell? ⟨x, 1, none⟩ = some (.pointer none) := c1
      simp only [Option.bind_some, hrr] at hsn
      have HS := Lib.hid hsn
      have HL := Lib.hid hL
      have HR := Lib.hid hRb
      have HB := Lib.hid hB
      clear c1 hsn hL hRb hB hn hn0 hrr
      gi_wp2
      exact ⟨KeepsFrom.refl _ _, ⟨fun _ _ => rfl, rfl, rfl⟩, by rw [HS.out]; exact HL.out, HR.out, HB.out⟩
    | some ρ =>
      rw [hrr] at c1
      have c1' : W.cell? ⟨x, 1, none⟩ = some (.pointer (some ⟨ρ, 0, none⟩)) := c1
      simp only [Option.bind_some, hrr] at hsn
      have HS := Lib.hid hsn
      have HL := Lib.hid hL
      have HR := Lib.hid hRb
      have HB := Lib.hid hB
      clear c1 hsn hL hRb hB hn hn0 hrr
      gi_wp2
      exact ⟨(KeepsOthers.setCell _ _ _).from _, ⟨fun i hi => Below.heap_setCell W _ _ i (show i ≠ w.heap.size + 1 by omega), Below.heap_setCell W _ _ _ (show w.heap.size + 1 + 1 ≠ w.heap.size + 1 by omega), Below.heap_setCell W _ _ _ (show w.heap.size + 1 + 1 + 1 ≠ w.heap.size + 1 by omega)⟩,
        by rw [HS.out]; exact HL.out.set _, HR.out.far (p := ⟨w.heap.size + 1, 0, none⟩) (show w.heap.size ≠ w.heap.size + 1 by omega) _, HB.out.setCell (p := ⟨w.heap.size + 1, 0, none⟩) (show w.heap.size ≤ w.heap.size + 1 by omega) _⟩
  case done =>
    rintro D ys W hD rfl ⟨hL, hRb, hB⟩ hK
    obtain ⟨f1, f2⟩ := HF.out
    have cl := hL.cell
    have d0 := hRb.cell 0
    have d1 := hRb.cell 1
    have d2 := hRb.cell 2
    have d3 := hRb.cell 3
    have g0 := hRb.frozen 0
    have g1 := hRb.frozen 1
    have g2 := hRb.frozen 2
    have g3 := hRb.frozen 3
    simp only [zeroRul, Rul.cells, List.getElem?_toArray, List.getElem?_cons_zero, List.getElem?_cons_succ] at d0 d1 d2 d3
    cases hl : lastRule G ys with
    | none =>
      rw [hl] at cl
      have cl' : W.cell? ⟨w.heap.size + 1, 0, none⟩ = some (.pointer none) := cl
      have F1 := Lib.hid (f1 hl)
      have HR := Lib.hid hRb
      have HB := Lib.hid hB
      clear cl f1 f2 hl hL hRb hB
      gi_wp2
      have hD' : w.heap.size + 4 ≤ D := by omega
      have q := (((HR.out.set_ 0 (.string ⟨#[]⟩)).set_ 1 (.int .u64 0)).set_ 2 (.int .u64 0)).set_ 3 (.int .u8 0)
      have hK' := ((((KeepsOthers.setCell W ⟨w.heap.size, 0, none⟩ (.string ⟨#[]⟩)).trans (KeepsOthers.setCell _ ⟨w.heap.size, 1, none⟩ (.int .u64 0))).trans (KeepsOthers.setCell _ ⟨w.heap.size, 2, none⟩ (.int .u64 0))).trans (KeepsOthers.setCell _ ⟨w.heap.size, 3, none⟩ (.int .u8 0))).same D _ hK rfl
      have hB4 := ((((HB.out.setCell (p := ⟨w.heap.size, 0, none⟩) (Nat.le_refl _) (.string ⟨#[]⟩)).setCell (p := ⟨w.heap.size, 1, none⟩) (Nat.le_refl _) (.int .u64 0)).setCell (p := ⟨w.heap.size, 2, none⟩) (Nat.le_refl _) (.int .u64 0)).setCell (p := ⟨w.heap.size, 3, none⟩) (Nat.le_refl _) (.int .u8 0))
      refine ⟨by simp, .inl ⟨_, _, rfl, run_takeDeferred hK', ?_⟩⟩
      generalize ((((W.setCell ⟨w.heap.size, 0, none⟩ (.string ⟨#[]⟩)).setCell ⟨w.heap.size, 1, none⟩ (.int .u64 0)).setCell ⟨w.heap.size, 2, none⟩ (.int .u64 0)).setCell ⟨w.heap.size, 3, none⟩ (.int .u8 0)) = W4 at q hK' hB4 ⊢
      have qD : Blk (W4.putObj D (.deferred none)) w.heap.size 28 _ := (World.putObj_heap_other (by omega)).trans q
      have r0 := qD.cell 0
      have r1 := qD.cell 1
      have r2 := qD.cell 2
      have r3 := qD.cell 3
      simp [zeroRul, Rul.cells] at r0 r1 r2 r3
      refine ⟨found none, ?_, none, rfl, F1.out, hB4.trans (belowK_b (w := w) (Nat.le_refl _) W4 D _ _ (by omega) hK' rfl rfl)⟩
      simp [results, Try.f13, go_sem, r0, r1, r2, r3, found, zeroRul, Rul.cells]
    | some ρ =>
      rw [hl] at cl
      have cl' : W.cell? ⟨w.heap.size + 1, 0, none⟩ = some (.pointer (some ⟨ρ, 0, none⟩)) := cl
      obtain ⟨x, hx, hblk⟩ := f2 ρ hl
      have hρ := hblk.lt
      have hbW : Blk W ρ 28 x.cells := (hB.block ρ hρ).trans hblk
      have e0 := hbW.cell 0
      have e1 := hbW.cell 1
      have e2 := hbW.cell 2
      have e3 := hbW.cell 3
      simp only [Rul.cells, List.getElem?_toArray, List.getElem?_cons_zero, List.getElem?_cons_succ] at e0 e1 e2 e3
      have F1 := Lib.hid hx
      have HR := Lib.hid hRb
      have HB := Lib.hid hB
      clear cl f1 f2 hl hL hRb hB hblk hbW
      gi_wp2
      have hD' : w.heap.size + 4 ≤ D := by omega
      have q := (((HR.out.set_ 0 (.string ⟨x.pre.toArray⟩)).set_ 1 (.int .u64 x.every)).set_ 2 (.int .u64 x.burst)).set_ 3 (.int .u8 x.kind)
      have hK' := ((((KeepsOthers.setCell W ⟨w.heap.size, 0, none⟩ (.string ⟨x.pre.toArray⟩)).trans (KeepsOthers.setCell _ ⟨w.heap.size, 1, none⟩ (.int .u64 x.every))).trans (KeepsOthers.setCell _ ⟨w.heap.size, 2, none⟩ (.int .u64 x.burst))).trans (KeepsOthers.setCell _ ⟨w.heap.size, 3, none⟩ (.int .u8 x.kind))).same D _ hK rfl
      have hB4 := ((((HB.out.setCell (p := ⟨w.heap.size, 0, none⟩) (Nat.le_refl _) (.string ⟨x.pre.toArray⟩)).setCell (p := ⟨w.heap.size, 1, none⟩) (Nat.le_refl _) (.int .u64 x.every)).setCell (p := ⟨w.heap.size, 2, none⟩) (Nat.le_refl _) (.int .u64 x.burst)).setCell (p := ⟨w.heap.size, 3, none⟩) (Nat.le_refl _) (.int .u8 x.kind))
      refine ⟨by simp, .inl ⟨_, _, rfl, run_takeDeferred hK', ?_⟩⟩
      generalize ((((W.setCell ⟨w.heap.size, 0, none⟩ (.string ⟨x.pre.toArray⟩)).setCell ⟨w.heap.size, 1, none⟩ (.int .u64 x.every)).setCell ⟨w.heap.size, 2, none⟩ (.int .u64 x.burst)).setCell ⟨w.heap.size, 3, none⟩ (.int .u8 x.kind)) = W4 at q hK' hB4 ⊢
      have qD : Blk (W4.putObj D (.deferred none)) w.heap.size 28 _ := (World.putObj_heap_other (by omega)).trans q
      have r0 := qD.cell 0
      have r1 := qD.cell 1
      have r2 := qD.cell 2
      have r3 := qD.cell 3
      simp [zeroRul, Rul.cells] at r0 r1 r2 r3
      refine ⟨found (some x), ?_, (some x), rfl, F1.out, hB4.trans (belowK_b (w := w) (Nat.le_refl _) W4 D _ _ (by omega) hK' rfl rfl)⟩
      simp [results, Try.f13, go_sem, r0, r1, r2, r3, found, zeroRul, Rul.cells]
end Go.Proofs.Ytdjhjgimlpdckaa.pre
