/- back.lines: the lines of a head: the iterator's contract. -/
import Derived.Test.YtalehfdcebabnaaRangeBox
import Derived.Test.YtalehfdcebabnaaBackPlainB
import Derived.Test.YtalehfdcebabnaaShelf
namespace Go.Proofs.Ytalehfdcebabnaa.back
open Go.RowKit Go.Shelf
open Go.Proofs.Ytalehfdcebabnaa.head
open Go.Proofs.Ytalehfdcebabnaa.aid

attribute [local go_sem] Oper.semAt_some

theorem cut_calls (rem : List UInt8) (x y : UInt8) (hrem : rem.length < 4294967281) (m : Int) (W : World) (hm : W.cell? ⟨0, 0, none⟩ = some (.int .i64 m)) :
    Calls Try.prog 24 #[.string ⟨rem.toArray⟩, .string ⟨#[x, y]⟩] W fun e w' => e = .returned (.tuple #[.string ⟨(Lib.cut rem [x, y]).1.toArray⟩, .string ⟨(Lib.cut rem [x, y]).2.1.toArray⟩, .bool (Lib.cut rem [x, y]).2.2]) ∧ ∃ n, w' = W.drewN n := by
  have h := Try.strings_Cut ⟨rem.toArray⟩ ⟨#[x, y]⟩ m W (by simpa [ByteArray.size] using hrem) hm
  simpa using h

/-- the iterator's box, and the library's variable, lie as they lay -/
def KpL (B : Nat) (W W' : World) : Prop := W'.heap[B]? = W.heap[B]? ∧ W'.heap[0]? = W.heap[0]?
theorem KpL.refl (B : Nat) (W : World) : KpL B W W := ⟨rfl, rfl⟩
theorem KpL.trans {B : Nat} {A C D : World} (h : KpL B A C) (k : KpL B C D) : KpL B A D := ⟨k.1.trans h.1, k.2.trans h.2⟩
abbrev encs (x : List UInt8 × List UInt8) : Array Value := #[.string ⟨x.1.toArray⟩, .string ⟨x.2.toArray⟩]
/-- how long the box's text is -/
def boxLen (W : World) (B : Nat) : Nat := match W.cell? ⟨B, 0, none⟩ with
  | some (.string t) => t.size
  | _ => 0
theorem boxLen_of {W : World} {B : Nat} {l : List UInt8} (h : Boxed W B 9 (.string ⟨l.toArray⟩)) : boxLen W B = l.length := by
  unfold boxLen
  rw [h.cell]
  simp [ByteArray.size]
/-- what a round has left -/
def Came (B : Nat) (J Jx : List (List UInt8 × List UInt8) → World → Prop) (pre : List (List UInt8 × List UInt8)) (W : World) (t : Bool) (W' : World) : Prop :=
  (t = true ∧ J pre W' ∧ KpL B W W') ∨ (t = false ∧ Jx pre W')

set_option maxRecDepth 100000 in
set_option maxHeartbeats 2000000 in
theorem lines1_in (n : Nat) (hn : 1 ≤ n) (l B : Nat) (s : List UInt8) (hs : s.length < 4294967281) (m : Int) (J Jx : List (List UInt8 × List UInt8) → World → Prop) (hD : ∀ pre W k, J pre W → J pre (W.drewN k)) (bJ : Blind (· = B) J)
    (hY : ∀ pre x W, pre ++ [x] <+: lines s → J pre W → YieldAt Fence.wide (n - 1) Try.prog l (encs x) W fun e W' => (e = .returned (.bool true) ∧ J (pre ++ [x]) W' ∧ KpL B W W') ∨ (e = .returned (.bool false) ∧ Jx (pre ++ [x]) W'))
    (W : World) (h0 : Boxed W B 9 (.string ⟨s.toArray⟩)) (hm : W.cell? ⟨0, 0, none⟩ = some (.int .i64 m)) (hB : 0 < B) (hJ : J [] W) :
    CallsIn Fence.wide n Try.prog 23 #[.func (.yield l) #[] #[], .pointer (some ⟨B, 0, none⟩)] W fun e W' => (∃ v, e = .returned v) ∧
      ((∃ ys, ys = lines s ∧ J ys W') ∨ (∃ pre, pre <+: lines s ∧ Jx pre W')) := by
  refine callsIn_of_wp Try.func23 rfl trivial ?_ rfl
  simp only [Try.ntmps23, List.size_toArray, List.length_cons, List.length_nil, Nat.reduceAdd, Nat.reduceSub, Array.replicate_succ, Array.replicate_zero, List.push_toArray, List.append_toArray, List.nil_append, List.cons_append]
  have HY := Lib.hid hY
  have HD := Lib.hid hD
  have HBJ := Lib.hid bJ
  have H0 := Lib.hid h0
  clear hY hD bJ h0
  gi_wp2
  gi_loopw [] (fun wr => ∃ pre rem, Boxed wr B 9 (.string ⟨rem.toArray⟩) ∧ lines s = pre ++ lines rem ∧ rem.length ≤ s.length ∧ J pre wr ∧ wr.cell? ⟨0, 0, none⟩ = some (.int .i64 m)) (fun wr => boxLen wr B)
  case atStart => exact ⟨[], s, H0.out, rfl, Nat.le_refl _, hJ, hm⟩
  case round =>
    obtain ⟨pre, rem, hb, hl, hle, hJs, hmc⟩ := hrel
    have hstep := lines_step rem
    have hcs := cut_short (l := rem) (s := crlf) (by simp [crlf])
    have hC := cut_calls rem 13 10 (by omega) m wr hmc
    change Calls _ _ _ _ (fun e w' => e = .returned (.tuple #[.string ⟨(Lib.cut rem crlf).1.toArray⟩, .string ⟨(Lib.cut rem crlf).2.1.toArray⟩, .bool (Lib.cut rem crlf).2.2]) ∧ ∃ n, w' = wr.drewN n) at hC
    have HC := Lib.hid hC
    clear hC
    generalize Lib.cut rem crlf = cu at *
    obtain ⟨a, r, f⟩ := cu
    have hbx := boxLen_of hb
    have HBX := Lib.hid hbx
    have HB0 := Lib.hid hb
    have hc0 := hb.cell
    have hf0 := hb.frozen
    clear hbx hb hJ hm H0
    cases f
    · have hl' : lines s = pre := by rw [hl, hstep]; simp
      have HL := Lib.hid hl'
      clear hl hl' hstep hcs
      gi_wp2_with (refine ⟨trivial, ?_⟩; gi_at_call 24; refine (callsIn_wide.2 HC.out).mono ?_; rintro e w2 ⟨rfl, k, rfl⟩)
      refine ⟨fun _ h => (by cases h), ?_⟩
      gi_wp2
      refine bodyPost_ret (results_none rfl _ _ _) rfl ?_
      exact ⟨⟨_, rfl⟩, .inl ⟨_, rfl, by rw [HL.out]; exact HD.out _ _ k hJs⟩⟩
    · have hcs := hcs rfl
      simp only at hcs hstep
      have HL := Lib.hid hl
      have HS := Lib.hid hstep
      clear hl hstep
      gi_wp2_with (refine ⟨trivial, ?_⟩; gi_at_call 24; refine (callsIn_wide.2 HC.out).mono ?_; rintro e w2 ⟨rfl, k, rfl⟩; refine Hid.out ?_)
      refine Lib.hid ?_
      obtain ⟨fn, tmps, assign, body, hy, hR⟩ := HY.out pre (a, r) (wr.drewN k) (by rw [HL.out, HS.out]; simp) (HD.out _ _ k hJs)
      have hR' := hR.mono (R' := fun e W' => ∃ t : Bool, e = .returned (.bool t) ∧ Came B J Jx (pre ++ [(a, r)]) (wr.drewN k) t W') (by
        rintro e W3 (⟨rfl, hJ3, hk3⟩ | ⟨rfl, hJx3⟩)
        · exact ⟨true, rfl, .inl ⟨rfl, hJ3, hk3⟩⟩
        · exact ⟨false, rfl, .inr ⟨rfl, hJx3⟩⟩)
      clear hR
      have HR := Lib.hid hR'
      clear hR'
      gi_wp2
      refine HR.out.mono ?_
      rintro e W3 ⟨t, rfl, ht⟩
      rcases ht with ⟨rfl, hJ3, hk3⟩ | ⟨rfl, hJx3⟩
      · have hb3 : Boxed W3 B 9 (.string ⟨rem.toArray⟩) := hk3.1.trans HB0.out
        have hm3 : W3.cell? ⟨0, 0, none⟩ = some (.int .i64 m) := (World.cell?_of_block (a := ⟨0, 0, none⟩) hk3.2).trans hmc
        have hc3 := hb3.cell
        have hf3 := hb3.frozen
        cases a with
        | nil =>
          have hl : Hid (lines s = pre ++ [([], r)]) := Lib.hid (by rw [HL.out, HS.out]; simp)
          gi_wp2
          refine bodyPost_ret (results_none rfl _ _ _) rfl ?_
          exact ⟨⟨_, rfl⟩, .inl ⟨_, rfl, by rw [hl.out]; exact hJ3⟩⟩
        | cons c a =>
          gi_wp2
          go_roundw
          case rel => exact ⟨pre ++ [(c :: a, r)], r, hb3.set _, by rw [HL.out, HS.out]; simp, by omega, HBJ.out _ _ B _ rfl hJ3, (World.cell?_setCell_other _ _ _ _ (by intro e; injection e with e; omega)).trans hm3⟩
          case measure =>
            rw [boxLen_of (hb3.set (.string ⟨r.toArray⟩)), HBX.out]
            exact (hcs trivial).1
      · gi_wp2
        refine bodyPost_ret (results_none rfl _ _ _) rfl ?_
        exact ⟨⟨_, rfl⟩, .inr ⟨_, by rw [HL.out, HS.out]; simp, hJx3⟩⟩

/-- back.lines(s): the text is boxed; the function value captures the box -/
theorem lines_in (n : Nat) (s : ByteArray) (w : World) :
    CallsIn Fence.wide n Try.prog 14 #[.string s] w fun e w' => e = .returned (.func (.func 23) #[] #[.pointer (some ⟨w.heap.size, 0, none⟩)]) ∧ w' = w.alloc (.cells #[.string s] 9) := by
  refine callsIn_of_wp Try.func14 rfl trivial ?_ rfl
  simp only [Try.ntmps14, List.size_toArray, List.length_cons, List.length_nil, Nat.reduceAdd, Nat.reduceSub, Array.replicate_succ, Array.replicate_zero, List.push_toArray, List.append_toArray, List.nil_append, List.cons_append]
  gi_wp2
  go_ret
  exact ⟨rfl, rfl⟩

/-- the closure's contract: all lines, or as many as a round lets come -/
theorem lines_box (n : Nat) (hn : 1 ≤ n) (B : Nat) (s : List UInt8) (hs : s.length < 4294967281) (m : Int) (w : World) (hlt : B < w.heap.size) (hB : 0 < B) (h0 : Boxed w B 9 (.string ⟨s.toArray⟩)) (hm : w.cell? ⟨0, 0, none⟩ = some (.int .i64 m)) :
    SeqBox Fence.wide n Try.prog 23 #[.pointer (some ⟨B, 0, none⟩)] encs (· = B) (KpL B) (fun ys => ys = lines s) (fun pre => pre <+: lines s) w := fun l J Jx W hW hJ _ bJ _ hY h => by
  refine lines1_in n hn l B s hs m J Jx (fun pre W1 k hj => hJ pre W1 (W1.drewN k) none hj ⟨rfl, rfl, rfl, Nat.le_refl _, fun _ _ _ => rfl⟩ (fun r e => by cases e)) bJ hY W ?_ ?_ hB h
  · exact (hW.block B hlt).trans h0
  · exact (hW.cell (p := ⟨0, 0, none⟩) (by show 0 < _; omega)).trans hm
end Go.Proofs.Ytalehfdcebabnaa.back
