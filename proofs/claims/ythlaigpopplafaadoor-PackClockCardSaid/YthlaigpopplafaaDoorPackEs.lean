/- entries in memory; pack.Size and the reference's, walked. -/
import Derived.Test.YthlaigpopplafaaDoorPackDecode
import Derived.Test.YthlaigpopplafaaDoorPackMade
namespace Go.Proofs.YthlaigpopplafaaDoor.pack
open Go.RowKit
open Go.Proofs.YthlaigpopplafaaDoor.aid

theorem ecells_at : ∀ (es : List Ent) (k : Nat) (h : k < es.length), (ecells es)[2 * k]? = some (.string ⟨es[k].key.toArray⟩) ∧ (ecells es)[2 * k + 1]? = some (.int .u64 (es[k].till : Nat))
  | [], _, h => by simp at h
  | e :: r, 0, _ => ⟨rfl, rfl⟩
  | e :: r, k + 1, h => by
    obtain ⟨h1, h2⟩ := ecells_at r k (by simpa using h)
    have e1 : ecells (e :: r) = .string ⟨e.key.toArray⟩ :: .int .u64 (e.till : Nat) :: ecells r := rfl
    rw [e1, show 2 * (k + 1) = 2 * k + 1 + 1 from by omega]
    simp only [List.getElem?_cons_succ, List.getElem_cons_succ]
    exact ⟨h1, h2⟩
theorem ecells_len : ∀ es : List Ent, (ecells es).length = 2 * es.length
  | [] => rfl
  | e :: r => by
    have := ecells_len r
    have e1 : ecells (e :: r) = .string ⟨e.key.toArray⟩ :: .int .u64 (e.till : Nat) :: ecells r := rfl
    rw [e1]
    simp only [List.length_cons]
    omega
theorem ent_at {w : World} {B : Nat} {A : Option Addr} {es : List Ent} (h : Row w B A (ecells es)) {k : Nat} (hk : k < es.length) : ∃ b off, A = some ⟨b, off, none⟩ ∧ b < B ∧ w.cell? ⟨b, off + k * 2, none⟩ = some (.string ⟨es[k].key.toArray⟩) ∧ w.cell? ⟨b, off + k * 2 + 1, none⟩ = some (.int .u64 (es[k].till : Nat)) := by
  obtain ⟨b, off, e, hlt, hc⟩ := h.at_ (k := 2 * k) (by rw [ecells_len]; omega)
  obtain ⟨h1, h2⟩ := ecells_at es k hk
  rw [Nat.mul_comm k 2]
  exact ⟨b, off, e, hlt, hc _ _ h1, by rw [Nat.add_assoc]; exact hc _ _ h2⟩
theorem es_le : ∀ l : List Ent, l.length ≤ sizeOf l := by
  intro l
  rw [sizeOf_encs]
  have : ∀ l : List Ent, l.length ≤ (encs l).length := by
    intro l
    induction l with
    | nil => simp [encs]
    | cons e r ih =>
      have h3 : encs (e :: r) = encE e ++ encs r := by simp [encs]
      rw [h3, List.length_append, encE_len, List.length_cons]
      omega
  have := this l
  omega
theorem size_take (es : List Ent) (k : Nat) (h : k < es.length) : sizeOf (es.take (k + 1)) = sizeOf (es.take k) + (9 + es[k].key.length) := by
  unfold sizeOf
  rw [List.take_succ_eq_append_getElem h, List.foldl_append]
  rfl
theorem size_le (es : List Ent) (k : Nat) : sizeOf (es.take k) ≤ sizeOf es := by
  rw [sizeOf_encs, sizeOf_encs]
  have : encs es = encs (es.take k) ++ encs (es.drop k) := by
    unfold encs
    rw [← List.flatMap_append, List.take_append_drop]
  rw [this, List.length_append]
  omega

set_option maxHeartbeats 1000000 in
theorem size_any (t : Nat) (es : List Ent) (A : Option Addr) (c : Nat) (hs : sizeOf es ≤ 1000000000) (w : World) (hr : Row w w.heap.size A (ecells es)) :
    Calls Tryd.prog 19 #[.agg #[.int .u64 t, .slice A es.length c]] w fun e w' => e = .returned (.int .i64 (sizeOf es : Nat)) ∧ Below w.heap.size w w' := by
  have HR := Lib.hid hr
  have hn := es_le es
  have HS := Lib.hid hs
  clear hr hs
  go_enter Tryd.func19, Tryd.ntmps19
  go_wp2_with fail
  go_loopw [3, 9] (fun n i wr => ∃ k : Nat, k ≤ es.length ∧ i = .int .i64 k ∧ n = .int .i64 (sizeOf (es.take k) : Nat) ∧ Below w.heap.size w wr) (fun _ i _ => es.length - (intOf i).toNat)
  case atStart => exact ⟨0, by omega, rfl, rfl, (Below.refl _ _).alloc (Nat.le_refl _) _⟩
  case round =>
    obtain ⟨k, hk, rfl, rfl, hB⟩ := hrel
    by_cases hlt : k < es.length
    · obtain ⟨b, off, rfl, hb, hc0, hc1⟩ := ent_at (HR.out.below hB) hlt
      have hst := size_take es k hlt
      have hle := size_le es (k + 1)
      have hHS := HS.out
      rw [hst] at hle
      have HST := Lib.hid hst
      have HB := Lib.hid hB
      clear hst hB
      obtain ⟨m, hm⟩ : ∃ m, m = sizeOf (es.take k) := ⟨_, rfl⟩
      rw [← hm] at hle ⊢
      have HM := Lib.hid hm
      clear hm
      go_wp2_with fail
      refine ⟨⟨k + 1, by omega, by go_num, ?_, HB.out.alloc HB.out.size _⟩, by simp [intOf]; omega⟩
      rw [HST.out, ← HM.out]
      congr 1
      omega
    · obtain rfl : k = es.length := by omega
      go_wp2_with fail
      go_ret
      refine ⟨?_, hB⟩
      rw [List.take_length]
      rfl

set_option maxHeartbeats 1000000 in
theorem refsize_any (t : Nat) (es : List Ent) (A : Option Addr) (c : Nat) (hs : sizeOf es ≤ 1000000000) (w : World) (hr : Row w w.heap.size A (ecells es)) :
    Calls Tryd.prog 25 #[.agg #[.int .u64 t, .slice A es.length c]] w fun e w' => e = .returned (.int .i64 (sizeOf es : Nat)) ∧ Below w.heap.size w w' := by
  have hn := es_le es
  have HR := Lib.hid (Row.below hr ((Below.refl w.heap.size w).alloc (Nat.le_refl _) (.cells #[.int .u64 t, .slice A es.length c] 25)))
  have HS := Lib.hid hs
  have hx := Blk.new w 25 #[.int .u64 t, .slice A es.length c]
  obtain ⟨W, hW⟩ : ∃ W, W = w.alloc (.cells #[.int .u64 t, .slice A es.length c] 25) := ⟨_, rfl⟩
  have HW := Lib.hid hW
  rw [← hW] at HR hx
  have c1 : W.cell? ⟨w.heap.size, 1, none⟩ = some (.slice A es.length c) := hx.cell 1
  clear hr hs hW hx
  go_enter Tryd.func25, Tryd.ntmps25
  go_wp2_with fail
  rw [← HW.out]
  go_loop [3, 4] (fun n i => ∃ k : Nat, k ≤ es.length ∧ i = .int .i64 k ∧ n = .int .i64 (sizeOf (es.take k) : Nat)) (fun _ i => es.length - (intOf i).toNat)
  case atStart => exact ⟨0, by omega, rfl, rfl⟩
  case round =>
    obtain ⟨k, hk, rfl, rfl⟩ := hrel
    by_cases hlt : k < es.length
    · obtain ⟨b, off, rfl, hb, hc0, hc1⟩ := ent_at HR.out hlt
      have hst := size_take es k hlt
      have hle := size_le es (k + 1)
      have hHS := HS.out
      rw [hst] at hle
      have HST := Lib.hid hst
      clear hst
      obtain ⟨m, hm⟩ : ∃ m, m = sizeOf (es.take k) := ⟨_, rfl⟩
      rw [← hm] at hle ⊢
      have HM := Lib.hid hm
      clear hm
      go_wp2_with fail
      refine ⟨⟨k + 1, by omega, by go_num, ?_⟩, by simp [intOf]; omega⟩
      rw [HST.out, ← HM.out]
      congr 1
    · obtain rfl : k = es.length := by omega
      go_wp2_with fail
      go_ret
      refine ⟨?_, by rw [HW.out]; exact (Below.refl _ _).alloc (Nat.le_refl _) _⟩
      rfl
end Go.Proofs.YthlaigpopplafaaDoor.pack
