/- What a law's arguments read as: slices of numbers and of texts. -/
import Derived.Test.YtdjhjgimlpdckaaFrame
import Derived.Test.YtdjhjgimlpdckaaRow
import Derived.SizedLaws
namespace Go.Proofs.Ytdjhjgimlpdckaa.frame
open Go.ChangeShapes Go.WideShapes Go.ChangeAt Go.RowKit
open Go.ChangeMaps (open_string shut_string)
open Go.Proofs.Ytdjhjgimlpdckaa.aid

section
variable {H : Type} {enc : TypeId × Value → H} {W : World} {base : Nat} {sp : Nat → Bool} {hd : Bool} {fuel : Nat}

/-- the cells that a slice's numbers lie in, as a row -/
theorem row_of {x : Addr} {n : Nat} {f : Nat → Value} (h : ∀ i, i < n → W.cell? (x.add i) = some (f i)) (vs : List Value) (hl : vs.length ≤ n) (hv : ∀ i v, vs[i]? = some v → f i = v) : Row W W.heap.size (some x) vs := by
  intro hne
  have hp : 0 < n := by
    have := List.length_pos_iff.2 hne
    omega
  obtain ⟨b, off, spot⟩ := x
  have hspot : spot = none := by simpa [Addr.add] using World.cell?_spot (h 0 hp)
  subst hspot
  have h' : ∀ i, i < n → W.cell? ⟨b, off + i, none⟩ = some (f i) := fun i hi => by rw [← Go.WideShapes.add_plain]; exact h i hi
  refine ⟨b, off, rfl, block_lt_of_cell (h' 0 hp), fun j v hj => ?_⟩
  have hlt : j < vs.length := (List.getElem?_eq_some_iff.1 hj).1
  rw [h' j (by omega), hv j v hj]

theorem u8_back {n : Int} (h : (Lit.int .u8 n).wf = true) : ((UInt8.ofNat n.toNat).toNat : Int) = n := by
  have := in_u8 h
  rw [UInt8.toNat_ofNat']
  omega
theorem open_u8s {A : Option Addr} {len cap : Nat} {x : DataW H × List MemPlace} (hf : DataW.trod enc Try.prog W base (fun _ => true) hd fuel 25 (Value.slice A len cap).cells.toList = some x) :
    ∃ l : List UInt8, len = l.length ∧ len ≤ 9223372036854775807 ∧ Row W W.heap.size A (u8s l) := by
  rcases open_ints (e := 5) (by kernel_rfl) (by kernel_rfl) (by kernel_rfl) hf with ⟨hcs, _⟩ | ⟨x, l, c, zs, hcs, _, hl, hm, hz, _, hcell, hwz⟩
  · simp [Value.cells] at hcs
    obtain ⟨rfl, rfl, rfl⟩ := hcs
    exact ⟨[], rfl, by omega, Row.nil_⟩
  · simp [Value.cells] at hcs
    obtain ⟨rfl, rfl, rfl⟩ := hcs
    have hz' : zs.length = cap := by simpa using hz
    unfold maxLen at hm
    refine ⟨(zs.take len).map fun n => UInt8.ofNat n.toNat, by simp; omega, by omega, ?_⟩
    refine row_of hcell _ (by simp; omega) ?_
    intro i v hv
    simp only [u8s, List.map_map, List.getElem?_map, Option.map_eq_some_iff, Function.comp] at hv
    obtain ⟨n, hn, rfl⟩ := hv
    have hn2 : zs[i]? = some n := by
      rw [List.getElem?_take] at hn
      split at hn
      · exact hn
      · cases hn
    rw [u8_back (hwz n (List.mem_of_getElem? hn2))]
    simp [List.getD, hn2]
/-- how great an argument's texts and slices are: none is greater than the form's reach -/
def Small (t : TypeId) (d : DataW H) : Prop := ∀ n ∈ d.weights Try.prog t, n ≤ 140737488351232
theorem small_of {ts : List TypeId} {ds : List (DataW H)} (h : (DataW.weightsEach Try.prog ts ds).all (· ≤ reachBytes) = true) {j : Nat} {t : TypeId} {d : DataW H} (ht : ts[j]? = some t) (hd : ds[j]? = some d) : Small t d := fun n hn => by
  have := List.all_eq_true.1 h _ (DataW.weights_mem_each ht hd n hn)
  exact Nat.le_trans (of_decide_eq_true this) (by decide)
end
end Go.Proofs.Ytdjhjgimlpdckaa.frame
