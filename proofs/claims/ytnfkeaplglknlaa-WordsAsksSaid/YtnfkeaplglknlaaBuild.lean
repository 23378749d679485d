/- a strings.Builder by itself: its writers, walked. -/
import Derived.Test.YtnfkeaplglknlaaRow
import Derived.Test.YtnfkeaplglknlaaAppendStr
import Derived.Lib.UnsafeStr
import Derived.Lib.Builder
import Derived.Laws.Externs
import Derived.Laws.BitsLemmas
import Derived.Shelf.RegionOpenPlain
namespace Go.Proofs.Ytnfkeaplglknlaa.words
open Go.RowKit
open Go.Proofs.Ytnfkeaplglknlaa.aid

/-- the page in block b holds the bytes l; its row lies from B on -/
def Page (B b : Nat) (p : Value) (l : List UInt8) (w : World) : Prop :=
  B ≤ b ∧ ∃ v, Blk w b 54 #[p, v] ∧ w.ownsRow B 5 1 v l.length (u8s l) ∧ v.ownBlock ≠ some b
def self (b : Nat) : Value := .pointer (some ⟨b, 0, none⟩)

/-- block k is neither the page's nor its row's -/
def Apart (b k : Nat) (w : World) : Prop := k < w.heap.size ∧ k ≠ b ∧ ∀ p v, Blk w b 54 #[p, v] → v.ownBlock ≠ some k
/-- what is apart from the page stands, and stays apart -/
def PK (b : Nat) (w w' : World) : Prop := ∀ k, Apart b k w → Apart b k w' ∧ w'.heap[k]? = w.heap[k]?
theorem PK.refl (b : Nat) (w : World) : PK b w w := fun _ h => ⟨h, rfl⟩
theorem PK.trans {b : Nat} {w w1 w2 : World} (h : PK b w w1) (h' : PK b w1 w2) : PK b w w2 := fun k hk => by
  obtain ⟨a1, e1⟩ := h k hk
  obtain ⟨a2, e2⟩ := h' k a1
  exact ⟨a2, e2.trans e1⟩
theorem blk_some {w : World} {b : Nat} {t : TypeId} {cs : Array Value} (h : Blk w b t cs) : b < w.heap.size := h.lt
theorem Apart.below {b k : Nat} {w w' : World} (h : Apart b k w) (hb : Below w.heap.size w w') (hlt : b < w.heap.size) : Apart b k w' := by
  refine ⟨Nat.lt_of_lt_of_le h.1 hb.size, h.2.1, fun p v hv => h.2.2 p v ?_⟩
  exact (hb.block b hlt).symm.trans hv
theorem PK.below {b : Nat} {w w' : World} (hb : Below w.heap.size w w') (hlt : b < w.heap.size) : PK b w w' := fun k h => ⟨h.below hb hlt, hb.block k h.1⟩
theorem Apart.blk {b k : Nat} {w w' : World} (h : Apart b k w) (hk : PK b w w') {t : TypeId} {cs : Array Value} (hb : Blk w k t cs) : Blk w' k t cs := (hk k h).2.trans hb
theorem Blk.two {w : World} {b : Nat} {t : TypeId} {p v p' v' : Value} (h : Blk w b t #[p, v]) (h' : Blk w b t #[p', v']) : p = p' ∧ v = v' := by
  have e := h.symm.trans h'
  injection e with e
  injection e with e _ _
  simpa using e
theorem Page.lt {B b : Nat} {p : Value} {l : List UInt8} {w : World} (h : Page B b p l w) : b < w.heap.size := by
  obtain ⟨_, v, hv, _⟩ := h
  exact hv.lt
theorem Apart.new {B b : Nat} {p : Value} {l : List UInt8} {w : World} (h : Page B b p l w) (o : Obj) : Apart b w.heap.size (w.alloc o) := by
  have hlt := h.lt
  obtain ⟨hB, v, hv, hown, hne⟩ := h
  refine ⟨by simp, by omega, fun p' v' hv' => ?_⟩
  obtain ⟨-, rfl⟩ := Blk.two (hv.alloc o) hv'
  intro e
  have := (hown.lt _ e).2
  omega

theorem ptr_info : (Try.prog.info? 54).map (·.size) = some 2 := by kernel_rfl
theorem byte_info : (Try.prog.info? 5).map (fun i => (i.zero, i.size, i.bytes)) = some (some (.int .u8 0), 1, 1) := by kernel_rfl
theorem lies : liesAt Try.prog Try.prog.depth 54 (2 / Try.prog.cellsOf 54) 0 54 1 = true := by kernel_rfl
theorem Blk.shape {w : World} {g : Nat} {t : TypeId} {cs : Array Value} (h : Blk w g t cs) : w.shape? g = some (t, cs.size) := by
  unfold Blk at h
  simp [World.shape?, h]

set_option maxHeartbeats 400000 in
theorem check_used (b : Nat) (v : Value) (w : World) (h : Blk w b 54 #[self b, v]) :
    Calls Try.prog 29 #[self b] w fun e w' => e = .returned (.tuple #[]) ∧ w = w' := by
  obtain ⟨j, hj, hjs⟩ := Option.map_eq_some_iff.1 ptr_info
  have h0 : w.cell? ⟨b, 0, none⟩ = some (self b) := h.cell 0
  clear h
  unfold self at *
  go_enter Try.func29, Try.ntmps29
  go_wp2
  rw [Lib.run_neq_ptr_same w _ Try.underlying52 hj]
  go_wp2
  go_end0
  exact ⟨rfl, rfl⟩

set_option maxHeartbeats 400000 in
theorem check_fresh (b : Nat) (v : Value) (w : World) (h : Blk w b 54 #[.pointer none, v]) :
    Calls Try.prog 29 #[self b] w fun e w' => e = .returned (.tuple #[]) ∧ w.setCell ⟨b, 0, none⟩ (self b) = w' := by
  obtain ⟨j, hj, hjs⟩ := Option.map_eq_some_iff.1 ptr_info
  have h0 : w.cell? ⟨b, 0, none⟩ = some (.pointer none) := h.cell 0
  have hf : w.frozen? ⟨b, 0, none⟩ = false := h.frozen 0
  have hsh : w.shape? b = some (54, 2) := Blk.shape h
  clear h
  unfold self at *
  go_enter Try.func29, Try.ntmps29
  go_wp2
  rw [Lib.run_to_unsafe w ⟨b, 0, none⟩ Try.underlying52 Try.underlying65 hj (by rw [hjs]; decide) hsh (Nat.zero_lt_succ 1)]
  simp only [Result.andThen]
  rw [Oper.upon_value]
  go_wp2
  rw [run_callFunc_extern Try.func31 (by kernel_rfl) (by kernel_rfl) (by kernel_rfl) (e := Extern.AbiNoEscape.same) (by kernel_rfl)]
  rw [Lib.run_noEscape]
  simp only [Result.andThen]
  rw [Oper.upon_value]
  go_wp2
  rw [Lib.run_from_unsafe w ⟨b, 0, none⟩ Try.underlying65 Try.underlying52 hj hsh lies]
  simp only [Result.andThen]
  rw [Oper.upon_value]
  go_wp2
  go_end0
  exact ⟨rfl, rfl⟩

theorem check_any (B b : Nat) (p : Value) (hp : p = .pointer none ∨ p = self b) (l : List UInt8) (w : World) (h : Page B b p l w) :
    Calls Try.prog 29 #[self b] w fun e w' => e = .returned (.tuple #[]) ∧ Page B b (self b) l w' ∧ Below B w w' ∧ PK b w w' := by
  obtain ⟨hB, v, hb, hown, hne⟩ := h
  rcases hp with rfl | rfl
  · refine (check_fresh b v w hb).mono ?_
    rintro e w' ⟨rfl, rfl⟩
    refine ⟨rfl, ⟨hB, v, hb.set_ 0 _, ?_, hne⟩, (Below.refl B w).setCell (p := ⟨b, 0, none⟩) hB _, fun k hk => ⟨⟨by simpa using hk.1, hk.2.1, fun p' v' hv' => ?_⟩, Below.heap_setCell _ _ _ _ hk.2.1⟩⟩
    · exact hown.kept (row := some b) ⟨rfl, rfl, rfl, by simp [World.setCell], fun k _ hk => Below.heap_setCell _ _ _ _ (fun e => hk (by simp [e]))⟩ (Or.inr hne)
    · obtain ⟨-, rfl⟩ := Blk.two (p := self b) (v := v) (hb.set_ 0 _) hv'
      exact hk.2.2 _ _ hb
  · refine (check_used b v w hb).mono ?_
    rintro e w' ⟨rfl, rfl⟩
    exact ⟨rfl, ⟨hB, v, hb, hown, hne⟩, Below.refl B _, PK.refl _ _⟩

theorem strCells_list (l : List UInt8) : Lib.strCells ⟨l.toArray⟩ = u8s l := by
  simp [Lib.strCells, u8s]

set_option maxHeartbeats 1000000 in
theorem write_any (B b : Nat) (p : Value) (hp : p = .pointer none ∨ p = self b) (l s : List UInt8) (w : World) (h : Page B b p l w) (hlen : l.length + s.length ≤ 140737488355328) (hBw : B ≤ w.heap.size) :
    Calls Try.prog 24 #[self b, .string ⟨s.toArray⟩] w fun e w' => ∃ n : Int, e = .returned (.tuple #[.int .i64 n, .nilIface]) ∧ Page B b (self b) (l ++ s) w' ∧ Below B w w' ∧ PK b w w' := by
  obtain ⟨i0, hi, hz0, hz1, hz2⟩ := info_parts byte_info
  have hC := Lib.hid (check_any B b p hp l w h)
  have hs : (ByteArray.mk s.toArray).size = s.length := by simp [ByteArray.size]
  have hS := Lib.hid hs
  obtain ⟨S, hSS⟩ : ∃ S : ByteArray, S = ⟨s.toArray⟩ := ⟨_, rfl⟩
  rw [← hSS]
  rw [← hSS] at hs hS
  have HSS := Lib.hid hSS
  clear hSS h hs
  unfold self at *
  go_enter Try.func24, Try.ntmps24
  go_wp2_with fail
  refine hC.out.mono ?_
  rintro e w1 ⟨rfl, h1, hb1, hk1⟩
  obtain ⟨hB, v, hbk, hown, hne⟩ := h1
  have c0 : w1.cell? ⟨b, 0, none⟩ = some (.pointer (some ⟨b, 0, none⟩)) := hbk.cell 0
  have c1 : w1.cell? ⟨b, 1, none⟩ = some v := hbk.cell 1
  clear hC
  go_wp2_with (at_builtin; refine wpList_append_str_at _ rfl _ _ 22 9 rfl B 5 i0 Try.underlying22 Try.underlying9 hi hz0 hz1 hz2 _ _ _ rfl hown S rfl ?c3 ?c4 ?c5 ?_)
  case c3 => have := hS.out; unfold maxLen; omega
  case c4 => have := hS.out; omega
  case c5 => have := hb1.size; omega
  intro v' w2 hown' hgrow hat
  have hlt := hbk.lt
  have hb2 : Blk w2 b 54 #[.pointer (some ⟨b, 0, none⟩), v] := hbk.grown hgrow (fun e => hne e.symm)
  have d0 : w2.cell? ⟨b, 0, none⟩ = some (.pointer (some ⟨b, 0, none⟩)) := hb2.cell 0
  have d1 : w2.cell? ⟨b, 1, none⟩ = some v := hb2.cell 1
  have f1 : w2.frozen? ⟨b, 1, none⟩ = false := hb2.frozen 1
  have hlt1 := hbk.lt
  have hk2 : ∀ k, Apart b k w → k < w1.heap.size ∧ k ≠ b ∧ v'.ownBlock ≠ some k ∧ w2.heap[k]? = w.heap[k]? := fun k hk => by
    obtain ⟨a1, e1⟩ := hk1 k hk
    have hnv := a1.2.2 _ _ hbk
    refine ⟨a1.1, a1.2.1, ?_, (hgrow.block k a1.1 (fun e => hnv e.symm)).trans e1⟩
    rcases hat with h | h
    · rw [h]; exact hnv
    · rw [h]
      intro e
      injection e with e
      have := a1.1
      omega
  have hbl2 : Below B w w2 := hb1.grown hgrow (by have := hb1.size; omega) (fun k hk => (hown.lt k hk).1)
  have hne' : v'.ownBlock ≠ some b := by
    intro e
    rcases hown'.2 with ⟨rfl, _⟩ | ⟨g', cap, cur, rfl, _, hgg, _⟩
    · simp [Value.ownBlock] at e
    · simp [Value.ownBlock] at e
      subst e
      rw [show w2.heap[g']? = _ from hb2] at hgg
      injection hgg with hgg
      injection hgg with _ hgg _
      revert hgg
      decide
  obtain ⟨ao, n', cap, rfl⟩ : ∃ ao n' cap, v' = .slice ao n' cap := by
    rcases hown'.2 with ⟨hv, _⟩ | ⟨g, cap, cur, hv, _⟩
    · exact ⟨_, _, _, hv⟩
    · exact ⟨_, _, _, hv⟩
  have H1 := Lib.hid hown'
  have H2 := Lib.hid hne'
  have H3 := Lib.hid hk2
  have hsz2 := hgrow.size
  clear hown' hne' hown hbk hgrow hne hat hk2 hk1
  go_wp2
  go_ret2
  have hs := hS.out
  have hSS := HSS.out
  subst hSS
  refine ⟨_, rfl, ⟨hB, _, hb2.set_ 1 _, ?_, H2.out⟩, hbl2.setCell (p := ⟨b, 1, none⟩) hB _, fun k hk => ?_⟩
  · have h3 := H1.out
    rw [hs, strCells_list, show u8s l ++ u8s s = u8s (l ++ s) from by simp [u8s], show l.length + s.length = (l ++ s).length from by simp] at h3
    exact h3.kept (row := some b) ⟨rfl, rfl, rfl, by simp [World.setCell], fun k _ hk => Below.heap_setCell _ _ _ _ (fun e => hk (by simp [e]))⟩ (Or.inr H2.out)
  · obtain ⟨k1, k2, k3, k4⟩ := H3.out k hk
    refine ⟨⟨by simp; omega, k2, fun p' v' hv' => ?_⟩, (Below.heap_setCell _ _ _ _ k2).trans k4⟩
    obtain ⟨-, rfl⟩ := Blk.two (hb2.set_ 1 _) hv'
    exact k3

set_option maxHeartbeats 400000 in
theorem string_any (B b : Nat) (p : Value) (l : List UInt8) (w : World) (h : Page B b p l w) (h0 : l ≠ []) :
    Calls Try.prog 26 #[self b] w fun e w' => e = .returned (.string ⟨l.toArray⟩) ∧ Below B w w' := by
  obtain ⟨hB, v, hbk, hown, hne⟩ := h
  have hl0 : l.length ≠ 0 := by simpa using h0
  obtain ⟨g, cap, cur, rfl, hbg, hg, hnc, hcm, hcs, htake⟩ : ∃ g cap cur, v = .slice (some ⟨g, 0, none⟩) l.length cap ∧ B ≤ g ∧ w.heap[g]? = some (.cells cur 5 (0, 0)) ∧ l.length ≤ cap ∧ cap ≤ maxLen ∧ cur.size = cap * 1 ∧ cur.toList.take (l.length * 1) = u8s l := by
    rcases hown.2 with ⟨_, hz⟩ | ⟨g, cap, cur, hv, r⟩
    · exact absurd hz hl0
    · exact ⟨g, cap, cur, hv, r⟩
  have c1 : w.drew.cell? ⟨b, 1, none⟩ = some (.slice (some ⟨g, 0, none⟩) l.length cap) := hbk.drew.cell 1
  have hSD : (Builtin.unsafeSliceData_ #[22] 64 #[.slice (some ⟨g, 0, none⟩) l.length cap]).run Try.prog w.drew = .ok (.pointer (some ⟨g, 0, none⟩)) w.drew :=
    Lib.run_unsafeSliceData_row _ _ _ _ _ _ (by omega)
  have hUS : (Builtin.unsafeString_ #[64, 3] 9 #[.pointer (some ⟨g, 0, none⟩), .int .i64 l.length]).run Try.prog w.drew = .ok (.string ⟨l.toArray⟩) (w.drew.freeze ⟨g, 0, none⟩ l.length) := by
    refine Lib.run_unsafeString_row w.drew 64 3 9 5 Try.underlying64 (by kernel_rfl) g cur.size (by have hg' : w.drew.heap[g]? = some (.cells cur 5 (0, 0)) := hg; simp [World.shape?, hg']) l h0 (by omega) (by unfold maxLen at hcm; omega) ?_
    intro j x hx
    have := hown.cells (g := g) rfl j (.int .u8 x.toNat) (by simp [u8s, hx])
    exact this
  clear hown htake hcs hcm hnc hl0 h0
  unfold self
  go_enter Try.func26, Try.ntmps26
  go_wp2
  go_region
  all_goals (go_wp2; go_ret; exact ⟨rfl, Lib.below_freeze (Below.drew (Below.refl B w)) (p := ⟨g, 0, none⟩) hbg _⟩)
end Go.Proofs.Ytnfkeaplglknlaa.words
