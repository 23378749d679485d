/- Lemmas for walks that every text of this seat may use: a scope with one label; a block known whole; results. -/
import Derived.Test.YtdjhjgimlpdckaaRows
import Derived.WalkKit
import Derived.WalkLawsBesides
import Derived.WalkSpells
import Derived.BigQuiet
import Derived.Lib.Hide
import Derived.Lib.QuietBelow
namespace Go.Proofs.Ytdjhjgimlpdckaa.aid
open Go.RowKit

theorem jump_mono {l : Nat} {J J' : Act → World → Prop} {Q : Exit → Act → World → Prop} (h : ∀ a w, J a w → J' a w) : ∀ e a w, Exit.jump l J Q e a w → Exit.jump l J' Q e a w := by
  intro e a w hq
  cases e <;> first | exact ⟨hq.1, h _ _ hq.2⟩ | exact hq

section
variable {l : Nat} {J : Act → World → Prop} {Q : Exit → Act → World → Prop} {a : Act} {w : World}
theorem jump_ret : Exit.jump l J Q .ret a w = Q .ret a w := rfl
theorem jump_normal : Exit.jump l J Q .normal a w = Q .normal a w := rfl
theorem jump_exit (n : Nat) : Exit.jump l J Q (.exit n) a w = Q (.exit n) a w := rfl
theorem jump_panic (ch : List PanicEntry) : Exit.jump l J Q (.panic ch) a w = Q (.panic ch) a w := rfl
end

/-- a scope with one label to which the run jumps back: what stands behind the label is walked once -/
theorem wp_scope_once {P : Program} {a : Act} {w : World} {Q : Exit → Act → World → Prop} {c rest : Code} (l : Nat) (J : Act → World → Prop) (m : Act → World → Nat) (hf : findLabel c l = some (.seq .skip rest))
    (pass : ∀ a w, J a w → rest.wp P (Exit.jump l (fun a' w' => J a' w' ∧ m a' w' < m a w) Q) a w)
    (first : Hid (∀ a w, J a w → rest.wp P (Exit.jump l J Q) a w) → c.wp P (Exit.jump l J Q) a w) : (Code.scope c).wp P Q a w := by
  refine wp_scope_jumps l J m hf (first ?_) (fun a w h => wp_seq (wp_skip (pass a w h)))
  exact Lib.hid fun a w h => Code.wp_mono (jump_mono fun _ _ h => h.1) (pass a w h)

/-- block g is just the cells cs -/
def Blk (w : World) (g : Nat) (t : TypeId) (cs : Array Value) : Prop := w.heap[g]? = some (.cells cs t (0, 0))
section
variable {w w' : World} {g : Nat} {t : TypeId} {cs : Array Value}
theorem Blk.lt (h : Blk w g t cs) : g < w.heap.size := by
  rcases Nat.lt_or_ge g w.heap.size with hlt | hge
  · exact hlt
  · unfold Blk at h; rw [Array.getElem?_eq_none hge] at h; cases h
theorem Blk.cell (h : Blk w g t cs) (i : Nat) : w.cell? ⟨g, i, none⟩ = cs[i]? := cell_of_row w g i cs t (0, 0) h
theorem Blk.frozen (h : Blk w g t cs) (i : Nat) : w.frozen? ⟨g, i, none⟩ = false := by
  unfold Blk at h
  simp [World.frozen?, h]
theorem Blk.new (w : World) (t : TypeId) (cs : Array Value) : Blk (w.alloc (.cells cs t)) w.heap.size t cs := heap_alloc_new w _
theorem Blk.drew (h : Blk w g t cs) : Blk w.drew g t cs := h
theorem Blk.drewN (h : Blk w g t cs) (n : Nat) : Blk (w.drewN n) g t cs := h
theorem Blk.alloc (h : Blk w g t cs) (o : Obj) : Blk (w.alloc o) g t cs := (Below.heap_alloc w o g h.lt).trans h
theorem Blk.set_ (h : Blk w g t cs) (i : Nat) (u : Value) : Blk (w.setCell ⟨g, i, none⟩ u) g t (cs.setIfInBounds i u) := by
  unfold Blk at h ⊢
  simp [World.setCell, Array.getElem?_modify, h]
theorem Blk.far (h : Blk w g t cs) {p : Addr} (hp : g ≠ p.block) (u : Value) : Blk (w.setCell p u) g t cs := (Below.heap_setCell w p u g hp).trans h
theorem Blk.below {B : Nat} (h : Blk w g t cs) (hb : Below B w w') (hg : g < B) : Blk w' g t cs := (hb.block g hg).trans h
theorem Blk.grown {row : Option Nat} (h : Blk w g t cs) (hb : w.grownBy w' row) (hg : some g ≠ row) : Blk w' g t cs := (hb.block g h.lt hg).trans h
end
theorem below_drewN {B : Nat} {a w : World} (h : Below B a w) (n : Nat) : Below B a (w.drewN n) := ⟨h.os, h.tape, h.output, h.size, h.block⟩

theorem ret_str {a b : List UInt8} (h : a = b) : Ending.returned (.string ⟨a.toArray⟩) = .returned (.string ⟨b.toArray⟩) := by rw [h]
theorem ret_int {k : IntKind} {a b : Int} (h : a = b) : Ending.returned (.int k a) = .returned (.int k b) := by rw [h]
theorem ret_bool {a b : Bool} (h : a = b) : Ending.returned (.bool a) = .returned (.bool b) := by rw [h]

/-- 'string([]byte{x})': the one byte -/
def byteOf (x : Int) : UInt8 := UInt8.ofNat x.toNat
theorem byteOf_toNat {x : Int} (h0 : 0 ≤ x) (h1 : x ≤ 255) : ((byteOf x).toNat : Int) = x := by
  unfold byteOf
  rw [UInt8.toNat_ofNat']
  omega
theorem one_byte (W : World) (b : Nat) (x : Int) (h0 : 0 ≤ x) (h1 : x ≤ 255) (hc : W.cell? ⟨b, 0, none⟩ = some (.int .u8 x)) :
    (convert 25 9 (.slice (some ⟨b, 0, none⟩) 1 1)).run Try.prog W = .ok (.string ⟨[byteOf x].toArray⟩) W := by
  refine run_convert_bytes_back W 25 9 5 ⟨b, 0, none⟩ 1 [byteOf x] rfl rfl rfl ?_
  intro j hj
  have : j = 0 := by simp at hj; omega
  subst this
  rw [show (⟨b, 0, none⟩ : Addr).add 0 = ⟨b, 0, none⟩ from rfl, hc]
  simp only [List.getElem_cons_zero, byteOf_toNat h0 h1]
theorem one_byte_new (w : World) (x : Int) (h0 : 0 ≤ x) (h1 : x ≤ 255) :
    (convert 25 9 (.slice (some ⟨w.heap.size, 0, none⟩) 1 1)).run Try.prog (w.alloc (.cells #[.int .u8 x] 5)) = .ok (.string ⟨[byteOf x].toArray⟩) (w.alloc (.cells #[.int .u8 x] 5)) :=
  one_byte _ _ _ h0 h1 ((Blk.new w 5 #[.int .u8 x]).cell 0)
theorem one_byte_drew (w : World) (x : Int) (h0 : 0 ≤ x) (h1 : x ≤ 255) :
    (convert 25 9 (.slice (some ⟨w.heap.size, 0, none⟩) 1 1)).run Try.prog (w.alloc (.cells #[.int .u8 x] 5)).drew = .ok (.string ⟨[byteOf x].toArray⟩) (w.alloc (.cells #[.int .u8 x] 5)).drew :=
  one_byte _ _ _ h0 h1 ((Blk.new w 5 #[.int .u8 x]).cell 0)

theorem extract_mk (l : List UInt8) (a b : Nat) : (ByteArray.mk l.toArray).extract a b = ⟨((l.take b).drop a).toArray⟩ := by
  apply ByteArray.ext
  rw [ByteArray.data_extract]
  simp [List.drop_take]
theorem bent_mk (l : List UInt8) (i j : Nat) (b : UInt8) :
    (ByteArray.mk l.toArray).extract 0 i ++ ByteArray.mk #[b] ++ (ByteArray.mk l.toArray).extract j l.length = ⟨(l.take i ++ [b] ++ l.drop j).toArray⟩ := by
  rw [extract_mk, extract_mk, show ByteArray.mk #[b] = ⟨[b].toArray⟩ from rfl, ByteArray.mk_append_mk, ByteArray.mk_append_mk]
  simp

/-- the bytes lie in block b, from its start on -/
def Lie (w : World) (b : Nat) (l : List UInt8) : Prop := ∀ i (h : i < l.length), w.cell? ⟨b, i, none⟩ = some (.int .u8 (l[i].toNat : Int))
/-- '[]byte(s)': a new block -/
theorem to_bytes (w : World) (s : ByteArray) : ∃ c w', (convert 9 25 (.string s)).run Try.prog w = .ok (.slice (some ⟨w.heap.size, 0, none⟩) s.size c) w' ∧ s.size ≤ c ∧
    Lie w' w.heap.size s.data.toList ∧ Below w.heap.size w w' ∧ w'.heap.size = w.heap.size + 1 ∧ ∀ i, i < s.size → w'.frozen? ⟨w.heap.size, i, none⟩ = false := by
  have hrun := run_bytes_of_string (P := Try.prog) w 9 25 5 s rfl rfl rfl
  refine ⟨_, _, hrun, ?_, ?_, ?_, ?_, ?_⟩
  · exact grownCap_ge _ _ _ _
  · intro i hi
    have := World.cell?_alloc_mark w.drew (bytesRow s (grownCap w s.size 0 5)) 5 ((bytesRow s (grownCap w s.size 0 5)).size, (bytesRow s (grownCap w s.size 0 5)).size + 1) i
    refine this.trans ?_
    rw [bytesRow_at s _ i hi]
    rfl
  · exact ((Below.refl w.heap.size w).drew).alloc (Nat.le_refl _) _
  · exact World.size_alloc _ _
  · intro i hi
    have := World.frozen?_alloc_mark w.drew (bytesRow s (grownCap w s.size 0 5)) 5 (bytesRow s (grownCap w s.size 0 5)).size ((bytesRow s (grownCap w s.size 0 5)).size + 1) i
    refine this.trans ?_
    have hsz : s.size ≤ (bytesRow s (grownCap w s.size 0 5)).size := by
      unfold bytesRow
      simp
    simp
    omega
end Go.Proofs.Ytdjhjgimlpdckaa.aid
