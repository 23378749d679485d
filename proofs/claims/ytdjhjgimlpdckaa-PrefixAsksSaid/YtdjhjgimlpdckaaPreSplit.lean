/- prefix.split, walked. -/
import Derived.Test.YtdjhjgimlpdckaaPreMem
import Derived.Lib.Hide
import Derived.Carry
import Derived.Maps.OwnOps
import Derived.Deep.QuietTactic
namespace Go.Proofs.Ytdjhjgimlpdckaa.pre
open Go.RowKit
open Go.Proofs.Ytdjhjgimlpdckaa.aid

set_option maxHeartbeats 1600000 in
theorem split_any (w : World) (base root : Nat) (G : Gr) (T : TreeW w base root G) (hbase : base ≤ w.heap.size) (b : Nat) (r : Rec) (c : UInt8) (ob : Nat) (ro : Rec) (p1 p2 : List UInt8) (d : UInt8) (hb : G b = some r) (hk : r.kid c = some ob) (ho : G ob = some ro)
    (hp : ro.part = (c :: p1) ++ (d :: p2)) :
    Calls Try.prog 21 #[.pointer (some ⟨b, 0, none⟩), .pointer (some ⟨ob, 0, none⟩), .int .i64 ((p1.length + 1 : Nat) : Int)] w fun e w' =>
      e = .returned (.pointer (some ⟨w.heap.size + 1, 0, none⟩)) ∧ TreeW w' base root (split G b r c ob ro (c :: p1) (d :: p2) d (w.heap.size + 1) w.heap.size) ∧
        Step w root G w' (split G b r c ob ro (c :: p1) (d :: p2) d (w.heap.size + 1) w.heap.size) := by
  have hfit := (T.shape.fit ob ro ho)
  obtain ⟨⟨q, hq⟩, hlen⟩ := hfit
  rw [hq, hp] at hlen
  simp [big] at hlen
  have hbn := T.node b r hb
  have hon := T.node ob ro ho
  have hbl := hbn.lt
  have hol := hon.lt
  have hml := (T.kids b r hb).lt
  obtain ⟨s0, s1, s2⟩ := hon.cells
  obtain ⟨m0, m1, m2⟩ := hbn.cells
  obtain ⟨S, hS⟩ : ∃ S : ByteArray, S = ⟨ro.part.toArray⟩ := ⟨_, rfl⟩
  rw [← hS] at s0
  have hSn : S.size = p1.length + 1 + (p2.length + 1) := by rw [hS, hp]; simp [ByteArray.size]; omega
  obtain ⟨k, hkn⟩ : ∃ k : Nat, k = p1.length + 1 := ⟨_, rfl⟩
  rw [← hkn]
  have hat : (k : Int) ≤ S.size := by omega
  have hat' : (k : Int) < S.size := by omega
  have hmk := run_makeMap (P := Try.prog) 51 w.drew
  have hkS : k < S.size := by omega
  obtain ⟨w1, hrun1, K1, g1, z1⟩ := KidW.put (w := (w.alloc (.map #[] 0)).drew) ((KidW.new w).same rfl) S[k] ob
  have z1' : w1.heap.size = w.heap.size + 1 := by rw [z1]; simp [World.drew]
  have old : ∀ i, i < w.heap.size → w1.heap[i]? = w.heap[i]? := fun i hi =>
    (g1.block i (by simp [World.drew]; omega) (by intro e; injection e with e; omega)).trans (Below.heap_alloc w _ i hi)
  have c0 := (World.cell?_of_block (a := ⟨ob, 0, none⟩) (old ob hol)).trans s0
  have c2 := (World.cell?_of_block (a := ⟨b, 2, none⟩) (old b hbl)).trans m2
  have f0 := (World.frozen?_of_block (a := ⟨ob, 0, none⟩) (old ob hol)).trans (hon.frozen 0)
  have hob1 : ob < w1.heap.size := by omega
  have hbb1 : b < w1.heap.size := by omega
  have HO := Lib.hid old
  clear old
  have HK1 := Lib.hid K1
  have HG1 := Lib.hid g1
  clear K1 g1 z1
  have HT := Lib.hid T
  have HS := Lib.hid hS
  have HN := Lib.hid hkn
  clear T hS hkn hSn hlen hq
  go_enter Try.func21, Try.ntmps21
  go_wp2
  go_region
  all_goals go_wp2
  all_goals
    rename_i KC hKC
    have HKC := Lib.hid hKC
    clear hKC
    generalize hP1 : S.extract 0 k = P1
    generalize hP2 : S.extract k S.size = P2
    generalize hW2 : ((w1.setCell ⟨ob, 0, none⟩ (.string P2)).alloc (.cells #[.string P1, .pointer none, .map (some w.heap.size)] 54)) = W2
    have eP1 : P1 = ⟨(c :: p1).toArray⟩ := by
      rw [← hP1, HS.out, hp, extract_mk, HN.out]
      congr 2
      simp
    have eP2 : P2 = ⟨(d :: p2).toArray⟩ := by
      rw [← hP2]
      have : S.size = ro.part.length := by rw [HS.out]; simp [ByteArray.size]
      rw [this, HS.out, hp, extract_mk, HN.out]
      congr 2
      simp
      rw [List.take_of_length_le (by simp), List.drop_left]
    have eSk : S[k] = d := by
      have h1 : S.data[k]? = some d := by
        rw [HS.out, hp, HN.out]
        simp
      have h2 : S.data[k]? = some S[k] := Array.getElem?_eq_getElem hkS
      rw [h1] at h2
      exact (Option.some.inj h2).symm
    have h0P : 0 < P1.size := by rw [eP1]; simp [ByteArray.size]
    have eP0 : P1[0] = c := by
      have h1 : P1.data[0]? = some c := by
        rw [eP1]
        simp
      have h2 : P1.data[0]? = some P1[0] := Array.getElem?_eq_getElem h0P
      rw [h1] at h2
      exact (Option.some.inj h2).symm
    have h0P' : (0 : Int) < P1.size := by omega
    have zW2 : W2.heap.size = w.heap.size + 2 := by rw [← hW2]; simp [World.setCell, Array.size_modify, z1']
    have blk : ∀ i, i < w.heap.size → i ≠ ob → W2.heap[i]? = w.heap[i]? := fun i hi hio => by
      rw [← hW2]
      exact (Below.heap_alloc _ _ i (by simp [World.setCell, Array.size_modify]; omega)).trans ((Below.heap_setCell w1 ⟨ob, 0, none⟩ _ i hio).trans (HO.out i hi))
    have hmo : r.map ≠ ob := fun e => (hon.ne_map (HT.out.kids b r hb)) e.symm
    have hbo : b ≠ ob := fun e => (shape_split (nb := w.heap.size) (nm := 0) HT.out.shape hb hk ho hp (by
      cases h : G w.heap.size with
      | none => rfl
      | some q => exact absurd (HT.out.node _ _ h).lt (by omega))).1 e.symm
    have d2 : W2.cell? ⟨b, 2, none⟩ = some (.map (some r.map)) := (World.cell?_of_block (a := ⟨b, 2, none⟩) (blk b hbl hbo)).trans m2
    have hnewB : Blk W2 (w.heap.size + 1) 54 #[.string P1, .pointer none, .map (some w.heap.size)] := by
      rw [← hW2]
      have := Blk.new (w1.setCell ⟨ob, 0, none⟩ (.string P2)) 54 #[.string P1, .pointer none, .map (some w.heap.size)]
      simp only [World.setCell, Array.size_modify, z1'] at this ⊢
      exact this
    have d0 : W2.cell? ⟨w.heap.size + 1, 0, none⟩ = some (.string P1) := hnewB.cell 0
    obtain ⟨W3, hrun3, K3, g3, z3⟩ := KidW.put (w := W2.drew) ((HT.out.kids b r hb).same (blk _ hml hmo)) P1[0] (w.heap.size + 1)
    have HK3 := Lib.hid K3
    have HG3 := Lib.hid g3
    have HB := Lib.hid blk
    have HNB := Lib.hid hnewB
    have E0 := Lib.hid eP0
    have E1 := Lib.hid eP1
    have E2 := Lib.hid eP2
    have EK := Lib.hid eSk
    have HW2 := Lib.hid hW2
    clear K3 g3 z3 blk hnewB eP0 eP1 eP2 eSk hW2 hP1 hP2
    go_region
  all_goals
    change KC _ _
    refine HKC.out _ _ ?_
    go_wp2
    go_ret
    have g3 := HG3.out
    have g1 := HG1.out
    have zz : W2.drew.heap.size = w.heap.size + 2 := zW2
    have keep3 : ∀ i, i < w.heap.size + 2 → i ≠ r.map → W3.heap[i]? = W2.heap[i]? := fun i hi hir => g3.block i (by omega) (by intro e; injection e with e; exact hir e)
    have e1 : W2 = (w1.setCell ⟨ob, 0, none⟩ (.string P2)).alloc (.cells #[.string P1, .pointer none, .map (some w.heap.size)] 54) := HW2.out.symm
    have k1 : KidW W3 w.heap.size (kidSet (fun _ => none) d ob) := by
      rw [← EK.out]
      refine HK1.out.same ((keep3 _ (by omega) (by omega)).trans ?_)
      rw [e1]
      exact (Below.heap_alloc _ _ _ (by simp [World.setCell, Array.size_modify]; omega)).trans (Below.heap_setCell w1 ⟨ob, 0, none⟩ _ _ (show w.heap.size ≠ ob by omega))
    have k2 : NodeW W3 ob { ro with part := d :: p2 } := by
      have n1 := ((hon.same (HO.out ob hol)).part (d :: p2))
      rw [← E2.out] at n1
      refine n1.same ((keep3 _ (by omega) (fun e => hmo e.symm)).trans ?_)
      rw [e1]
      exact Below.heap_alloc _ _ _ (by simp [World.setCell, Array.size_modify]; omega)
    have k3 : NodeW W3 (w.heap.size + 1) ⟨r.path ++ c :: p1, c :: p1, none, w.heap.size, kidSet (fun _ => none) d ob⟩ :=
      ⟨_, 54, ((keep3 _ (by omega) (by omega)).trans HNB.out : W3.heap[w.heap.size + 1]? = _), by decide, by simp [E1.out], rfl, rfl⟩
    refine ⟨rfl, tree_split HT.out hb hk ho hp hbase (by omega) (by omega) (g3.os.trans ?_) (g3.tape.trans ?_) (g3.output.trans ?_) (by have := g3.size; omega) ?_ k3 k2 k1 ?_⟩
    · rw [e1]
      exact g1.os
    · rw [e1]
      exact g1.tape
    · rw [e1]
      exact g1.output
    · intro i hi hir hio
      exact (keep3 i (by omega) hir).trans (HB.out i hi hio)
    · have := HK3.out
      rw [E0.out] at this
      exact this
end Go.Proofs.Ytdjhjgimlpdckaa.pre
