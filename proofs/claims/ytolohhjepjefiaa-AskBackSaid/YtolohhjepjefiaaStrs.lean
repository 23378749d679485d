/- slices of texts, of the call's own. -/
import Derived.Test.YtolohhjepjefiaaAppend
namespace Go.Proofs.Ytolohhjepjefiaa.aid
open Go.RowKit

theorem str_info : (Try.prog.info? 9).map (fun i => (i.zero, i.size, i.bytes)) = some (some (.string ByteArray.empty), 1, 16) := by kernel_rfl

theorem row_val {w : World} {v : Value} {base : Nat} {e : TypeId} {n : Nat} {xs : List Value} (h : w.ownsRow base e 1 v n xs) : ∃ A c, v = .slice A n c ∧ n ≤ c ∧ Row w w.heap.size A xs := by
  obtain ⟨A, c, rfl, h1, -⟩ := own_form h
  exact ⟨A, c, rfl, h1, Row.of_own h⟩

theorem own_below {w w' : World} {base : Nat} {e : TypeId} {v : Value} {n : Nat} {xs : List Value} (h : w.ownsRow base e 1 v n xs) (hb : Below w.heap.size w w') : w'.ownsRow base e 1 v n xs := by
  refine ⟨h.1, ?_⟩
  rcases h.2 with h | ⟨g, cap, cur, hv, hg, hblk, hr⟩
  · exact .inl h
  · have hlt : g < w.heap.size := (Array.getElem?_eq_some_iff.1 hblk).1
    exact .inr ⟨g, cap, cur, hv, hg, (hb.block g hlt).trans hblk, hr⟩
end Go.Proofs.Ytolohhjepjefiaa.aid
