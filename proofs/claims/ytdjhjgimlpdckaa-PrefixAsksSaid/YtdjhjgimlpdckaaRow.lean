/- Slices whose elements are one cell each, nil let in: which values they read as. -/
import Derived.Test.YtdjhjgimlpdckaaAid
import Derived.StillTailTactics
namespace Go.Proofs.Ytdjhjgimlpdckaa.aid
open Go.RowKit

/-- the slice's cells are vs; they lie below block B -/
def Row (w : World) (B : Nat) (A : Option Addr) (vs : List Value) : Prop :=
  vs ≠ [] → ∃ b off, A = some ⟨b, off, none⟩ ∧ b < B ∧ ∀ j v, vs[j]? = some v → w.cell? ⟨b, off + j, none⟩ = some v
section
variable {w w' : World} {B B' : Nat} {A : Option Addr} {vs : List Value}
theorem Row.nil_ : Row w B A [] := fun h => absurd rfl h
theorem Row.at_ (h : Row w B A vs) {k : Nat} (hk : k < vs.length) : ∃ b off, A = some ⟨b, off, none⟩ ∧ b < B ∧ ∀ j v, vs[j]? = some v → w.cell? ⟨b, off + j, none⟩ = some v :=
  h (fun e => by rw [e] at hk; simp at hk)
theorem Row.below (h : Row w B A vs) (hb : Below B w w') : Row w' B A vs := fun hn => by
  obtain ⟨b, off, e, hlt, hc⟩ := h hn
  exact ⟨b, off, e, hlt, fun j v hv => (hb.cell (p := ⟨b, off + j, none⟩) hlt).trans (hc j v hv)⟩
theorem Row.more (h : Row w B A vs) (hB : B ≤ B') : Row w B' A vs := fun hn => by
  obtain ⟨b, off, e, hlt, hc⟩ := h hn
  exact ⟨b, off, e, by omega, hc⟩
theorem Row.take (h : Row w B A vs) (k : Nat) : Row w B A (vs.take k) := fun hn => by
  obtain ⟨b, off, e, hlt, hc⟩ := h (fun e => hn (by rw [e]; simp))
  refine ⟨b, off, e, hlt, fun j v hv => hc j v ?_⟩
  rw [List.getElem?_take] at hv
  split at hv
  · exact hv
  · cases hv
theorem Row.drop (h : Row w B A vs) {k cap : Nat} (hk : vs.length ≤ cap) : Row w B (if cap = k then A else A.map (·.add k)) (vs.drop k) := fun hn => by
  have hlt2 : k < vs.length := by
    rcases Nat.lt_or_ge k vs.length with h | h
    · exact h
    · exact absurd (List.drop_eq_nil_of_le h) hn
  obtain ⟨b, off, rfl, hlt, hc⟩ := h.at_ hlt2
  rw [if_neg (by omega)]
  refine ⟨b, off + k, ?_, hlt, fun j v hv => ?_⟩
  · simp only [Option.map_some, Addr.add]
    split <;> simp_all
  · rw [Nat.add_assoc]
    exact hc (k + j) v (by rw [← hv, List.getElem?_drop])
theorem Row.of_own {base : Nat} {e : TypeId} {n c : Nat} (h : w.ownsRow base e 1 (.slice A n c) n vs) : Row w w.heap.size A vs := fun hn => by
  have hlen := h.1
  rcases h.2 with ⟨hv, h0⟩ | ⟨g, cap, cur, hv, hbase, hblk, hn1, hcap, hsz, htake⟩
  · exact absurd (List.eq_nil_of_length_eq_zero (by omega)) hn
  · have hA : A = some ⟨g, 0, none⟩ := by injection hv
    subst hA
    have hlt : g < w.heap.size := (Array.getElem?_eq_some_iff.1 hblk).1
    refine ⟨g, 0, rfl, hlt, fun j v hj => ?_⟩
    rw [Nat.zero_add, cell_of_row w g j cur e (0, 0) hblk]
    rw [← htake, List.getElem?_take] at hj
    split at hj
    · simpa using hj
    · cases hj
theorem Row.new (w : World) (t : TypeId) (cs : Array Value) : Row (w.alloc (.cells cs t)) (w.alloc (.cells cs t)).heap.size (some ⟨w.heap.size, 0, none⟩) cs.toList := fun _ =>
  ⟨w.heap.size, 0, rfl, by simp, fun j v hv => by rw [Nat.zero_add, (Blk.new w t cs).cell j]; simpa using hv⟩
end
/-- bytes as a slice's cells -/
abbrev u8s (l : List UInt8) : List Value := l.map fun c => Value.int .u8 (c.toNat : Int)
theorem u8s_at (l : List UInt8) (k : Nat) (h : k < l.length) : (u8s l)[k]? = some (.int .u8 (l[k].toNat : Int)) := by
  simp [u8s, h]
end Go.Proofs.Ytdjhjgimlpdckaa.aid
