/- What a law's arguments read as: a slice's room. -/
import Derived.Test.YtnfkeaplglknlaaOpen
namespace Go.Proofs.Ytnfkeaplglknlaa.frame
open Go.ChangeShapes Go.WideShapes Go.ChangeAt Go.RowKit
open Go.Proofs.Ytnfkeaplglknlaa.aid
section
variable {H : Type} {enc : TypeId × Value → H} {W : World} {base : Nat} {hd : Bool} {fuel : Nat}
theorem cap_u8s {A : Option Addr} {len cap : Nat} {x : DataW H × List MemPlace} (hf : DataW.trod enc Try.prog W base (fun _ => true) hd fuel 22 (Value.slice A len cap).cells.toList = some x) : len ≤ cap := by
  rcases open_ints (e := 5) (k := .u8) (by kernel_rfl) (by kernel_rfl) (by kernel_rfl) hf with ⟨hcs, _⟩ | ⟨x, l, c, zs, hcs, _, hl, _⟩
  · simp [Value.cells] at hcs
    obtain ⟨rfl, rfl, rfl⟩ := hcs
    exact Nat.le_refl _
  · simp [Value.cells] at hcs
    obtain ⟨rfl, rfl, rfl⟩ := hcs
    exact hl
end
end Go.Proofs.Ytnfkeaplglknlaa.frame
