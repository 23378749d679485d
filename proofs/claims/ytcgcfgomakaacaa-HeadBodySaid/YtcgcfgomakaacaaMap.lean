/- maps of the call's own, whose entries are known: a store of a new key, a look-up. -/
import Derived.Test.YtcgcfgomakaacaaAid
import Derived.MapKept
import Derived.Carry
namespace Go.Proofs.Ytcgcfgomakaacaa.aid
open Go.RowKit

/-- block b is a map with just these entries -/
def MBlk (w : World) (b : Nat) (es : Array MapEntry) (clock : Nat) : Prop := w.heap[b]? = some (.map es clock)
section
variable {w w' : World} {b : Nat} {es : Array MapEntry} {clock : Nat}
theorem MBlk.lt (h : MBlk w b es clock) : b < w.heap.size := by
  rcases Nat.lt_or_ge b w.heap.size with hlt | hge
  · exact hlt
  · unfold MBlk at h; rw [Array.getElem?_eq_none hge] at h; cases h
theorem MBlk.new (w : World) (es : Array MapEntry) (clock : Nat) : MBlk (w.alloc (.map es clock)) w.heap.size es clock := heap_alloc_new w _
theorem MBlk.below {B : Nat} (h : MBlk w b es clock) (hb : Below B w w') (hg : b < B) : MBlk w' b es clock := (hb.block b hg).trans h
theorem set_push (h : Array Obj) (o o' : Obj) : (h.push o).setIfInBounds h.size o' = h.push o' := by
  apply Array.ext
  · simp
  · intro i h1 h2
    simp at h1 h2
    rw [Array.getElem_setIfInBounds]
    · split
      · subst_vars
        simp
      · rw [Array.getElem_push_lt (by omega), Array.getElem_push_lt (by omega)]
    · simpa using h1
theorem run_insert_at {P : Program} (mty kt et : TypeId) (d : TypeDesc) (key val : Value) (hm : P.underlying mty = some (.map kt et)) (hk : P.underlying kt = some d) (hi : MapKept.IsKey d key) (h : MBlk w b es clock) (hf : Instr.findNow d key es.toList 0 = some none) :
    (Instr.mapUpdate mty (.map (some b)) key val).run P w = .ok () { w with heap := w.heap.setIfInBounds b (.map (es.push { key := key, val := val, born := clock }) (clock + 1)) } := by
  have hc : (Instr.checkKey false 10000 kt key).run P w = .ok () w := MapKept.run_checkKey hk hi false 9999
  simp [Instr.mapUpdate, run_underlying hm, MapKept.run_getObj_map h, hc, MapKept.run_findKey hk hf, MapKept.run_setObj_map _ h, Result.andThen]
theorem run_insert_new {P : Program} (w : World) (es : Array MapEntry) (clock : Nat) (mty kt et : TypeId) (d : TypeDesc) (key val : Value) (hm : P.underlying mty = some (.map kt et)) (hk : P.underlying kt = some d) (hi : MapKept.IsKey d key) (hf : Instr.findNow d key es.toList 0 = some none) :
    (Instr.mapUpdate mty (.map (some w.heap.size)) key val).run P (w.alloc (.map es clock)) = .ok () (w.alloc (.map (es.push { key := key, val := val, born := clock }) (clock + 1))) := by
  rw [run_insert_at mty kt et d key val hm hk hi (MBlk.new w es clock) hf]
  unfold World.alloc
  simp only [set_push]
theorem run_lookup_found {P : Program} (mty kt et : TypeId) (d : TypeDesc) (key : Value) (i : Nat) (v : Value) (hm : P.underlying mty = some (.map kt et)) (hk : P.underlying kt = some d) (hi : MapKept.IsKey d key) (h : MBlk w b es clock) (hf : Instr.findNow d key es.toList 0 = some (some (i, v))) :
    (Instr.lookup mty (.map (some b)) key false).run P w = .ok v w := by
  have hc : (Instr.checkKey es.isEmpty 10000 kt key).run P w = .ok () w := MapKept.run_checkKey hk hi _ 9999
  simp [Instr.lookup, run_underlying hm, MapKept.run_getObj_map h, hc, MapKept.run_findKey hk hf, Result.andThen]
theorem run_lookup_none {P : Program} (mty kt et : TypeId) (d : TypeDesc) (key z : Value) (hm : P.underlying mty = some (.map kt et)) (hk : P.underlying kt = some d) (hi : MapKept.IsKey d key) (h : MBlk w b es clock) (hf : Instr.findNow d key es.toList 0 = some none)
    (hz : (zeroValue et).run P w = .ok z w) : (Instr.lookup mty (.map (some b)) key false).run P w = .ok z w := by
  have hc : (Instr.checkKey es.isEmpty 10000 kt key).run P w = .ok () w := MapKept.run_checkKey hk hi _ 9999
  simp [Instr.lookup, run_underlying hm, MapKept.run_getObj_map h, hc, MapKept.run_findKey hk hf, hz, Result.andThen]
end
end Go.Proofs.Ytcgcfgomakaacaa.aid
