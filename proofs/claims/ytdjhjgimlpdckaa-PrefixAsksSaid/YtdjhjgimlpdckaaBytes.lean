/- bytes as texts: 'string(b)' of a slice that may be nil; what lies in a block of its own. -/
import Derived.Test.YtdjhjgimlpdckaaRow
import Derived.Maps.AppendAt
namespace Go.Proofs.Ytdjhjgimlpdckaa.aid
open Go.RowKit

theorem row_string {w : World} {B : Nat} {A : Option Addr} {l : List UInt8} {c : Nat} (h : Row w B A (u8s l)) :
    (convert 25 9 (.slice A l.length c)).run Try.prog w = .ok (.string ⟨l.toArray⟩) w := by
  by_cases hl : l = []
  · subst hl
    cases A with
    | none =>
      rw [run_convert_bytes_string w 25 9 5 none _ c rfl rfl rfl]
      simp [Conv.bytesToString]
      rfl
    | some a => exact run_convert_bytes_back w 25 9 5 a c [] rfl rfl rfl (fun j hj => by simp at hj)
  · obtain ⟨b, off, rfl, -, hc⟩ := h (by simpa using hl)
    refine run_convert_bytes_back w 25 9 5 ⟨b, off, none⟩ c l rfl rfl rfl ?_
    intro j hj
    have e : (⟨b, off, none⟩ : Addr).add j = ⟨b, off + j, none⟩ := by
      simp only [Addr.add]
      split <;> simp_all
    rw [e]
    exact hc j _ (u8s_at l j hj)
theorem nil_string (w : World) : (convert 25 9 (.slice none 0 0)).run Try.prog w = .ok (.string ⟨#[]⟩) w := row_string (c := 0) (A := none) (l := []) (B := 0) Row.nil_
theorem lie_row {w : World} {b : Nat} {l : List UInt8} (h : Lie w b l) (hb : b < w.heap.size) : Row w w.heap.size (some ⟨b, 0, none⟩) (u8s l) := fun _ => ⟨b, 0, rfl, hb, fun j v hv => by
  rw [List.getElem?_map] at hv
  obtain ⟨c, hc, rfl⟩ := Option.map_eq_some_iff.1 hv
  obtain ⟨hj, rfl⟩ := List.getElem?_eq_some_iff.1 hc
  rw [Nat.zero_add]
  exact h j hj⟩
/-- only block b, and what is new, has turned -/
theorem grown_set (w : World) (b i : Nat) (v : Value) : w.grownBy (w.setCell ⟨b, i, none⟩ v) (some b) :=
  ⟨rfl, rfl, rfl, by simp [World.setCell], fun k _ hk => Below.heap_setCell _ _ _ _ (by intro e; exact hk (by rw [e]))⟩
theorem grown_none {w w' : World} (h : Below w.heap.size w w') (row : Option Nat) : w.grownBy w' row := ⟨h.os, h.tape, h.output, h.size, fun k hk _ => h.block k hk⟩
theorem grown_new {w W : World} {row : Option Nat} (h : w.grownBy W row) (p : Addr) (hp : w.heap.size ≤ p.block) (v : Value) : w.grownBy (W.setCell p v) row :=
  ⟨h.os, h.tape, h.output, by simpa [World.setCell] using h.size, fun k hk hr => (Below.heap_setCell _ _ _ _ (by omega)).trans (h.block k hk hr)⟩
theorem grown_alloc {w W : World} {row : Option Nat} (h : w.grownBy W row) (o : Obj) : w.grownBy (W.alloc o) row := h.trans (World.grownBy_alloc W o row)
theorem grown_old {w w' : World} {row : Option Nat} {B : Nat} (h : w.grownBy w' row) (hB : B ≤ w.heap.size) (hr : ∀ k, row = some k → B ≤ k) : Below B w w' := (Below.refl B w).grown h hB hr
theorem Row.grown {w w' : World} {B b : Nat} {A : Option Addr} {vs : List Value} (h : Row w B A vs) (hg : w.grownBy w' (some b)) (hB : B ≤ b) : Row w' B A vs := fun hn => by
  obtain ⟨g, off, rfl, hlt, hc⟩ := h hn
  exact ⟨g, off, rfl, hlt, fun j v hv => hg.cell (hc j v hv) (by simp; omega)⟩
theorem Blk.ne_ {w : World} {g g' : Nat} {t t' : TypeId} {cs cs' : Array Value} (h : Blk w g t cs) (h' : Blk w g' t' cs') (hne : t ≠ t') : g ≠ g' := by
  rintro rfl
  unfold Blk at h h'
  rw [h] at h'
  injection h' with h'
  injection h' with _ ht
  exact hne ht
theorem own_blk_ne {w : World} {g : Nat} {t : TypeId} {cs : Array Value} {base : Nat} {e : TypeId} {size n : Nat} {v : Value} {xs : List Value} (h : w.ownsRow base e size v n xs) (hg : Blk w g t cs) (hne : e ≠ t) : v.ownBlock ≠ some g := by
  rcases h.2 with ⟨rfl, _⟩ | ⟨g', cap, cur, rfl, _, hh, _⟩
  · simp [Value.ownBlock]
  · intro he
    have : g' = g := by simpa [Value.ownBlock] using he
    subst this
    exact Blk.ne_ (t := e) hh hg hne rfl
theorem own_lt {w : World} {base : Nat} {e : TypeId} {size n : Nat} {v : Value} {xs : List Value} (h : w.ownsRow base e size v n xs) {g : Nat} (hg : v.ownBlock = some g) : base ≤ g ∧ g < w.heap.size := by
  rcases h.2 with ⟨rfl, _⟩ | ⟨g', cap, cur, rfl, hb, hh, _⟩
  · simp [Value.ownBlock] at hg
  · have : g' = g := by simpa [Value.ownBlock] using hg
    subst this
    exact ⟨hb, (Array.getElem?_eq_some_iff.1 hh).1⟩
theorem own_kept {w w' : World} {base : Nat} {e : TypeId} {size n : Nat} {v : Value} {xs : List Value} {row : Nat} (h : w.ownsRow base e size v n xs) (hg : w.grownBy w' (some row)) (hne : v.ownBlock ≠ some row) : w'.ownsRow base e size v n xs := h.kept hg (.inr hne)
theorem own_new {w : World} {base : Nat} {e : TypeId} {size n : Nat} {v : Value} {xs : List Value} (h : w.ownsRow base e size v n xs) : v.ownBlock ≠ some w.heap.size := fun hg => by
  have := (own_lt h hg).2
  omega
end Go.Proofs.Ytdjhjgimlpdckaa.aid
