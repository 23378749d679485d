/- an owned row's form. -/
import Derived.Test.YtnfkeaplglknlaaBytes
namespace Go.Proofs.Ytnfkeaplglknlaa.words
open Go.RowKit
theorem own_slice {w : World} {base : Nat} {e : TypeId} {size : Nat} {v : Value} {n : Nat} {xs : List Value} (h : w.ownsRow base e size v n xs) : ∃ A c, v = .slice A n c := by
  rcases h.2 with ⟨rfl, rfl⟩ | ⟨g, cap, cur, rfl, _⟩
  · exact ⟨_, _, rfl⟩
  · exact ⟨_, _, rfl⟩
end Go.Proofs.Ytnfkeaplglknlaa.words
