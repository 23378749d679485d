/- how long a slice of bytes is at most: no longer than the form's reach. -/
import Derived.Test.YtcgcfgomakaacaaOpen
namespace Go.Proofs.Ytcgcfgomakaacaa.frame
open Go.ChangeShapes Go.WideShapes Go.ChangeAt Go.RowKit

theorem small_u8s {H : Type} {enc : TypeId × Value → H} {W : World} {base : Nat} {hd : Bool} {fuel : Nat} {A : Option Addr} {len cap : Nat} {d : DataW H} {p : List MemPlace} (hs : Small 25 d)
    (hf : DataW.trod enc Try.prog W base (fun _ => true) hd fuel 25 (Value.slice A len cap).cells.toList = some (d, p)) : len ≤ 140737488351232 := by
  rcases open_ints (e := 5) (k := .u8) (by kernel_rfl) (by kernel_rfl) (by kernel_rfl) hf with ⟨hcs, _⟩ | ⟨x, l, c, zs, hcs, _, hl, hm, hz, hx, _, _⟩
  · simp [Value.cells] at hcs
    omega
  · simp [Value.cells] at hcs
    obtain ⟨rfl, rfl, rfl⟩ := hcs
    have hz' : zs.length = cap := by simpa using hz
    injection hx with hx _
    rw [hx] at hs
    have hu : Try.prog.underlying 25 = some (.slice 5) := by kernel_rfl
    have hb : Try.prog.bytesOf 5 = 1 := by kernel_rfl
    have h := hs _ (by simp only [DataW.weights, hu]; exact List.mem_cons_self ..)
    rw [hb] at h
    simp [lits] at h
    omega
end Go.Proofs.Ytcgcfgomakaacaa.frame
