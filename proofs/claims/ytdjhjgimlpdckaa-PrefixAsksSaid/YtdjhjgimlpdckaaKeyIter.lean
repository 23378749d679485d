/- key.both: two texts' bytes, place by place: the iterator's contract. -/
import Derived.RangeFuncNested
import Derived.RangeFuncBound
import Derived.RangeFuncCalls
import Derived.RangeFuncLeaves
import Derived.RangeFuncFrom
import Derived.RangeFuncBox
import Derived.Shelf.Abstract
import Derived.Shelf.RegionOpen
import Derived.WalkKit
import Derived.OwnWalkIn
import Derived.TacticsInMore
import Derived.LoopNIn
import Derived.LoopIn
import Derived.Stop.RegionWithIn
import Derived.Test.YtdjhjgimlpdckaaAid
import Derived.Test.YtdjhjgimlpdckaaKeyPlain
namespace Go.Proofs.Ytdjhjgimlpdckaa.key
open Go.RowKit Go.Shelf
open Go.Proofs.Ytdjhjgimlpdckaa.aid

attribute [local go_sem] Oper.semAt_some

/-- the iterator's two boxes lie as they lay -/
def KpB (B : Nat) (W W' : World) : Prop := W'.heap[B]? = W.heap[B]? ∧ W'.heap[B + 1]? = W.heap[B + 1]?
theorem KpB.refl (B : Nat) (W : World) : KpB B W W := ⟨rfl, rfl⟩
theorem KpB.trans {B : Nat} {A C D : World} (h : KpB B A C) (k : KpB B C D) : KpB B A D := ⟨k.1.trans h.1, k.2.trans h.2⟩
theorem KpB.cell0 {B : Nat} {W W' : World} (h : KpB B W W') : W'.cell? ⟨B, 0, none⟩ = W.cell? ⟨B, 0, none⟩ := World.cell?_of_block (a := ⟨B, 0, none⟩) h.1
theorem KpB.cell1 {B : Nat} {W W' : World} (h : KpB B W W') : W'.cell? ⟨B + 1, 0, none⟩ = W.cell? ⟨B + 1, 0, none⟩ := World.cell?_of_block (a := ⟨B + 1, 0, none⟩) h.2

/-- what a round has left -/
def Came (B : Nat) (J Jx : List (UInt8 × UInt8) → World → Prop) (pre : List (UInt8 × UInt8)) (W : World) (t : Bool) (W' : World) : Prop :=
  (t = true ∧ J pre W' ∧ KpB B W W') ∨ (t = false ∧ Jx pre W')

abbrev encs (x : UInt8 × UInt8) : Array Value := #[.int .u8 (x.1.toNat : Int), .int .u8 (x.2.toNat : Int)]

theorem pairs_take (a b : ByteArray) (k : Nat) (ha : k < a.size) (hb : k < b.size) :
    (pairs a.data.toList b.data.toList).take (k + 1) = (pairs a.data.toList b.data.toList).take k ++ [(a[k], b[k])] := by
  have hl : k < (pairs a.data.toList b.data.toList).length := by
    rw [pairs_len]
    have h1 : a.data.toList.length = a.size := rfl
    have h2 : b.data.toList.length = b.size := rfl
    omega
  rw [List.take_succ_eq_append_getElem hl]
  congr 2
  simp only [pairs, List.getElem_zip]
  rfl

theorem pairs_all (a b : ByteArray) (k : Nat) (h : min a.size b.size ≤ k) : (pairs a.data.toList b.data.toList).take k = pairs a.data.toList b.data.toList := by
  refine List.take_of_length_le ?_
  rw [pairs_len]
  exact h

set_option maxRecDepth 100000 in
set_option maxHeartbeats 2000000 in
theorem both1_in (n : Nat) (hn : 1 ≤ n) (l B : Nat) (a b : ByteArray) (ha : a.size ≤ 9223372036854775807) (hb : b.size ≤ 9223372036854775807) (J Jx : List (UInt8 × UInt8) → World → Prop) (hD : ∀ pre W, J pre W → J pre W.drew)
    (hY : ∀ pre x W, J pre W → pre.length < (pairs a.data.toList b.data.toList).length → YieldAt Fence.wide (n - 1) Try.prog l (encs x) W fun e W' =>
      (e = .returned (.bool true) ∧ J (pre ++ [x]) W' ∧ KpB B W W') ∨ (e = .returned (.bool false) ∧ Jx (pre ++ [x]) W'))
    (W : World) (h0a : W.cell? ⟨B, 0, none⟩ = some (.string a)) (h0b : W.cell? ⟨B + 1, 0, none⟩ = some (.string b)) (h0 : J [] W) :
    CallsIn Fence.wide n Try.prog 27 #[.func (.yield l) #[] #[], .pointer (some ⟨B, 0, none⟩), .pointer (some ⟨B + 1, 0, none⟩)] W fun e W' => (∃ v, e = .returned v) ∧
      ((∃ ys, ys = pairs a.data.toList b.data.toList ∧ J ys W') ∨ (∃ pre, pre <+: pairs a.data.toList b.data.toList ∧ Jx pre W')) := by
  refine callsIn_of_wp Try.func27 rfl trivial ?_ rfl
  simp only [Try.ntmps27, List.size_toArray, List.length_cons, List.length_nil, Nat.reduceAdd, Nat.reduceSub, Array.replicate_succ, Array.replicate_zero, List.push_toArray, List.append_toArray, List.nil_append, List.cons_append]
  have HY := Lib.hid hY
  have HD := Lib.hid hD
  clear hY hD
  by_cases hab : b.size < a.size
  · have hm : min a.size b.size = b.size := by omega
    gi_wp2
    gi_loopw [10] (fun i wr => ∃ k : Nat, k ≤ b.size ∧ i = .int .i64 k ∧ J ((pairs a.data.toList b.data.toList).take k) wr ∧ KpB B W wr)
      (fun i _ => b.size - (intOf i).toNat)
    case atStart => exact ⟨0, Nat.zero_le _, rfl, h0, KpB.refl _ _⟩
    case round =>
      obtain ⟨k, hk, rfl, hJs, hkp⟩ := hrel
      have hca := hkp.cell0.trans h0a
      have hcb := hkp.cell1.trans h0b
      by_cases hlt : k < b.size
      · have hka : k < a.size := by omega
        have hkb : k < b.size := by omega
        obtain ⟨fn, tmps, assign, body, hy, hR⟩ := HY.out _ (a[k], b[k]) wr.drew (HD.out _ _ hJs) (by simp [pairs_len]; omega)
        have hR' := hR.mono (R' := fun e W' => ∃ t : Bool, e = .returned (.bool t) ∧ Came B J Jx ((pairs a.data.toList b.data.toList).take k ++ [(a[k], b[k])]) wr t W') (by
          rintro e W3 (⟨rfl, hJ3, hk3⟩ | ⟨rfl, hJx3⟩)
          · exact ⟨true, rfl, .inl ⟨rfl, hJ3, hk3⟩⟩
          · exact ⟨false, rfl, .inr ⟨rfl, hJx3⟩⟩)
        clear hR
        have HR := Lib.hid hR'
        clear hR'
        gi_wp2
        gi_region_with ((with_reducible refine HR.out.mono ?_); rintro e W3 ⟨t, rfl, ht⟩)
        all_goals
          rcases ht with ⟨rfl, hJ3, hk3⟩ | ⟨rfl, hJx3⟩
          · gi_wp2
            go_roundw
            case rel => exact ⟨k + 1, by omega, by go_num, by rw [pairs_take _ _ k hka hkb]; exact hJ3, hkp.trans hk3⟩
            case measure => simp [intOf]; omega
          · gi_wp2
            refine bodyPost_ret (results_none rfl _ _ _) rfl ?_
            exact ⟨⟨_, rfl⟩, .inr ⟨_, by rw [← pairs_take _ _ k hka hkb]; exact List.take_prefix _ _, hJx3⟩⟩
      · obtain rfl : k = b.size := by omega
        rw [pairs_all a b b.size (by omega)] at hJs
        gi_wp2
        go_end0
        exact ⟨⟨_, rfl⟩, .inl ⟨_, rfl, hJs⟩⟩
  · have hm : min a.size b.size = a.size := by omega
    gi_wp2
    gi_loopw [10] (fun i wr => ∃ k : Nat, k ≤ a.size ∧ i = .int .i64 k ∧ J ((pairs a.data.toList b.data.toList).take k) wr ∧ KpB B W wr)
      (fun i _ => a.size - (intOf i).toNat)
    case atStart => exact ⟨0, Nat.zero_le _, rfl, h0, KpB.refl _ _⟩
    case round =>
      obtain ⟨k, hk, rfl, hJs, hkp⟩ := hrel
      have hca := hkp.cell0.trans h0a
      have hcb := hkp.cell1.trans h0b
      by_cases hlt : k < a.size
      · have hka : k < a.size := by omega
        have hkb : k < b.size := by omega
        obtain ⟨fn, tmps, assign, body, hy, hR⟩ := HY.out _ (a[k], b[k]) wr.drew (HD.out _ _ hJs) (by simp [pairs_len]; omega)
        have hR' := hR.mono (R' := fun e W' => ∃ t : Bool, e = .returned (.bool t) ∧ Came B J Jx ((pairs a.data.toList b.data.toList).take k ++ [(a[k], b[k])]) wr t W') (by
          rintro e W3 (⟨rfl, hJ3, hk3⟩ | ⟨rfl, hJx3⟩)
          · exact ⟨true, rfl, .inl ⟨rfl, hJ3, hk3⟩⟩
          · exact ⟨false, rfl, .inr ⟨rfl, hJx3⟩⟩)
        clear hR
        have HR := Lib.hid hR'
        clear hR'
        gi_wp2
        gi_region_with ((with_reducible refine HR.out.mono ?_); rintro e W3 ⟨t, rfl, ht⟩)
        all_goals
          rcases ht with ⟨rfl, hJ3, hk3⟩ | ⟨rfl, hJx3⟩
          · gi_wp2
            go_roundw
            case rel => exact ⟨k + 1, by omega, by go_num, by rw [pairs_take _ _ k hka hkb]; exact hJ3, hkp.trans hk3⟩
            case measure => simp [intOf]; omega
          · gi_wp2
            refine bodyPost_ret (results_none rfl _ _ _) rfl ?_
            exact ⟨⟨_, rfl⟩, .inr ⟨_, by rw [← pairs_take _ _ k hka hkb]; exact List.take_prefix _ _, hJx3⟩⟩
      · obtain rfl : k = a.size := by omega
        rw [pairs_all a b a.size (by omega)] at hJs
        gi_wp2
        go_end0
        exact ⟨⟨_, rfl⟩, .inl ⟨_, rfl, hJs⟩⟩

/-- key.both(a, b): the texts are boxed; the function value captures the boxes -/
theorem both_in (n : Nat) (a b : ByteArray) (w : World) :
    CallsIn Fence.wide n Try.prog 25 #[.string a, .string b] w fun e w' =>
      e = .returned (.func (.func 27) #[] #[.pointer (some ⟨w.heap.size, 0, none⟩), .pointer (some ⟨w.heap.size + 1, 0, none⟩)]) ∧
      w' = (w.alloc (.cells #[.string a] 9)).alloc (.cells #[.string b] 9) := by
  refine callsIn_of_wp Try.func25 rfl trivial ?_ rfl
  simp only [Try.ntmps25, List.size_toArray, List.length_cons, List.length_nil, Nat.reduceAdd, Nat.reduceSub, Array.replicate_succ, Array.replicate_zero, List.push_toArray, List.append_toArray, List.nil_append, List.cons_append]
  gi_wp2
  go_ret
  exact ⟨rfl, rfl⟩

/-- the closure's contract: all pairs, or as many as a round lets come -/
theorem both_stops (n : Nat) (hn : 1 ≤ n) (B : Nat) (a b : ByteArray) (ha : a.size ≤ 9223372036854775807) (hb : b.size ≤ 9223372036854775807) (w : World) (hB : B + 1 < w.heap.size)
    (h0a : w.cell? ⟨B, 0, none⟩ = some (.string a)) (h0b : w.cell? ⟨B + 1, 0, none⟩ = some (.string b)) :
    SeqStopsK Fence.wide n Try.prog 27 #[.pointer (some ⟨B, 0, none⟩), .pointer (some ⟨B + 1, 0, none⟩)] encs (KpB B) (fun ys => ys = pairs a.data.toList b.data.toList)
      (fun pre => pre <+: pairs a.data.toList b.data.toList) (pairs a.data.toList b.data.toList).length w := fun l J Jx W hW hJ _ hY h0 => by
  refine both1_in n hn l B a b ha hb J Jx (fun pre W1 h => hJ pre W1 W1.drew none h ⟨rfl, rfl, rfl, Nat.le_refl _, fun _ _ _ => rfl⟩ (fun r e => by cases e)) hY W ?_ ?_ h0
  · exact (hW.cell (p := ⟨B, 0, none⟩) (by show B < _; omega)).trans h0a
  · exact (hW.cell (p := ⟨B + 1, 0, none⟩) hB).trans h0b
end Go.Proofs.Ytdjhjgimlpdckaa.key
