/- back.Parse: its map of places, its boxes. -/
import Derived.Test.YtalehfdcebabnaaBackFieldW
import Derived.Test.YtalehfdcebabnaaBackNumber
import Derived.Test.YtalehfdcebabnaaBackCode
import Derived.Test.YtalehfdcebabnaaHeadRenderC
import Derived.Test.YtalehfdcebabnaaHeadCleanB
import Derived.Test.YtalehfdcebabnaaBackPlainB
namespace Go.Proofs.Ytalehfdcebabnaa.back
open Go.RowKit Go.Shelf
open Go.Proofs.Ytalehfdcebabnaa.head
open Go.Proofs.Ytalehfdcebabnaa.aid

attribute [local go_sem] Oper.semAt_some

abbrev pent (k : ByteArray) (b o n : Nat) : MapEntry := { key := .string k, val := .pointer (some ⟨b, o, none⟩), born := n }
abbrev bLimit : ByteArray := ⟨#[82, 97, 116, 101, 76, 105, 109, 105, 116, 45, 76, 105, 109, 105, 116]⟩
abbrev bLeft : ByteArray := ⟨#[82, 97, 116, 101, 76, 105, 109, 105, 116, 45, 82, 101, 109, 97, 105, 110, 105, 110, 103]⟩
abbrev bReset : ByteArray := ⟨#[82, 97, 116, 101, 76, 105, 109, 105, 116, 45, 82, 101, 115, 101, 116]⟩
abbrev bAfter : ByteArray := ⟨#[82, 101, 116, 114, 121, 45, 65, 102, 116, 101, 114]⟩
abbrev bNanos : ByteArray := ⟨#[82, 101, 116, 114, 121, 45, 65, 102, 116, 101, 114, 45, 78, 97, 110, 111, 115]⟩
abbrev bError : ByteArray := ⟨#[88, 45, 69, 114, 114, 111, 114]⟩
abbrev bCount : ByteArray := ⟨#[88, 45, 67, 111, 117, 110, 116]⟩
abbrev ps0 : Array MapEntry := #[]
abbrev ps1 (r : Nat) : Array MapEntry := #[pent bLimit (r + 1) 2 0]
abbrev ps2 (r : Nat) : Array MapEntry := #[pent bLimit (r + 1) 2 0, pent bLeft (r + 1) 3 1]
abbrev ps3 (r : Nat) : Array MapEntry := #[pent bLimit (r + 1) 2 0, pent bLeft (r + 1) 3 1, pent bReset (r + 1) 4 2]
abbrev ps4 (r : Nat) : Array MapEntry := #[pent bLimit (r + 1) 2 0, pent bLeft (r + 1) 3 1, pent bReset (r + 1) 4 2, pent bAfter (r + 1) 5 3]
abbrev ps5 (r : Nat) : Array MapEntry := #[pent bLimit (r + 1) 2 0, pent bLeft (r + 1) 3 1, pent bReset (r + 1) 4 2, pent bAfter (r + 1) 5 3, pent bNanos (r + 1) 6 4]
abbrev ps6 (r : Nat) : Array MapEntry := #[pent bLimit (r + 1) 2 0, pent bLeft (r + 1) 3 1, pent bReset (r + 1) 4 2, pent bAfter (r + 1) 5 3, pent bNanos (r + 1) 6 4, pent bError (r + 1 + 1) 0 5]
abbrev ps7 (r : Nat) : Array MapEntry := #[pent bLimit (r + 1) 2 0, pent bLeft (r + 1) 3 1, pent bReset (r + 1) 4 2, pent bAfter (r + 1) 5 3, pent bNanos (r + 1) 6 4, pent bError (r + 1 + 1) 0 5, pent bCount (r + 1 + 1 + 1) 0 6]
/-- where a number of a name belongs -/
def place (r : Nat) (nm : List UInt8) : Option Addr :=
  if nm = nLimit then some ⟨r + 1, 2, none⟩ else if nm = nLeft then some ⟨r + 1, 3, none⟩ else if nm = nReset then some ⟨r + 1, 4, none⟩ else if nm = nAfter then some ⟨r + 1, 5, none⟩ else
  if nm = nNanos then some ⟨r + 1, 6, none⟩ else if nm = nError then some ⟨r + 1 + 1, 0, none⟩ else if nm = nCount then some ⟨r + 1 + 1 + 1, 0, none⟩ else none
theorem key_ne {a b : List UInt8} (h : a ≠ b) : (ByteArray.mk a.toArray == ByteArray.mk b.toArray) = false := by
  rw [Bool.eq_false_iff]
  intro e
  have := (MapKept.bytes_beq _ _).1 e
  injection this with this
  exact h (by simpa using this)
theorem zero_ptr (w : World) : (zeroValue 48).run Try.prog w = .ok (.pointer none) w := by kernel_rfl
theorem look_place (r : Nat) (nm : List UInt8) {w : World} {b : Nat} (h : MBlk w b (ps7 r) 7) : (Instr.lookup 49 (.map (some b)) (.string ⟨nm.toArray⟩) false).run Try.prog w = .ok (.pointer (place r nm)) w := by
  by_cases h1 : nm = nLimit
  · subst h1
    exact run_lookup_found 49 9 48 .string _ 0 _ (by kernel_rfl) (by kernel_rfl) trivial h rfl
  by_cases h2 : nm = nLeft
  · subst h2
    exact run_lookup_found 49 9 48 .string _ 1 _ (by kernel_rfl) (by kernel_rfl) trivial h rfl
  by_cases h3 : nm = nReset
  · subst h3
    exact run_lookup_found 49 9 48 .string _ 2 _ (by kernel_rfl) (by kernel_rfl) trivial h rfl
  by_cases h4 : nm = nAfter
  · subst h4
    exact run_lookup_found 49 9 48 .string _ 3 _ (by kernel_rfl) (by kernel_rfl) trivial h rfl
  by_cases h5 : nm = nNanos
  · subst h5
    exact run_lookup_found 49 9 48 .string _ 4 _ (by kernel_rfl) (by kernel_rfl) trivial h rfl
  by_cases h6 : nm = nError
  · subst h6
    exact run_lookup_found 49 9 48 .string _ 5 _ (by kernel_rfl) (by kernel_rfl) trivial h rfl
  by_cases h7 : nm = nCount
  · subst h7
    exact run_lookup_found 49 9 48 .string _ 6 _ (by kernel_rfl) (by kernel_rfl) trivial h rfl
  · rw [show place r nm = none from by simp [place, h1, h2, h3, h4, h5, h6, h7]]
    refine run_lookup_none 49 9 48 .string _ _ (by kernel_rfl) (by kernel_rfl) trivial h ?_ (zero_ptr _)
    have k1 : (ByteArray.mk nm.toArray == bLimit) = false := key_ne h1
    have k2 : (ByteArray.mk nm.toArray == bLeft) = false := key_ne h2
    have k3 : (ByteArray.mk nm.toArray == bReset) = false := key_ne h3
    have k4 : (ByteArray.mk nm.toArray == bAfter) = false := key_ne h4
    have k5 : (ByteArray.mk nm.toArray == bNanos) = false := key_ne h5
    have k6 : (ByteArray.mk nm.toArray == bError) = false := key_ne h6
    have k7 : (ByteArray.mk nm.toArray == bCount) = false := key_ne h7
    simp only [Instr.findNow, Instr.sameNow, k1, k2, k3, k4, k5, k6, k7]

abbrev zeroCells : Array Value := #[.int .u8 0, .int .u16 0, .int .u64 0, .int .u64 0, .int .u64 0, .int .u64 0, .int .u64 0, .bool false, .int .i64 0, .slice none 0 0]
abbrev seenCells (s : Seen) : Array Value := #[.int .u8 (s.code : Nat), .int .u16 0, .int .u64 (s.limit : Nat), .int .u64 (s.left : Nat), .int .u64 (s.reset : Nat), .int .u64 (s.after : Nat), .int .u64 (s.nanos : Nat), .bool s.retry, .int .i64 0, .slice none 0 0]
/-- what lies in Parse's boxes -/
structure PBox (r : Nat) (s : Seen) (W : World) : Prop where
  res : Blk W r 27 zeroCells
  ans : Blk W (r + 1) 27 (seenCells s)
  wrong : Boxed W (r + 1 + 1) 24 (.int .u64 (s.wrong : Nat))
  many : Boxed W (r + 1 + 1 + 1) 24 (.int .u64 (s.many : Nat))
  mp : MBlk W (r + 1 + 1 + 1 + 1) (ps7 r) 7
  to : Boxed W (r + 1 + 1 + 1 + 1 + 1) 49 (.map (some (r + 1 + 1 + 1 + 1)))
  more : r + 1 + 1 + 1 + 1 + 1 + 1 < W.heap.size
theorem PBox.same {r : Nat} {s : Seen} {W W' : World} (h : PBox r s W) (hs : W.heap.size ≤ W'.heap.size) (hb : ∀ b, b < r + 1 + 1 + 1 + 1 + 1 + 1 → W'.heap[b]? = W.heap[b]?) : PBox r s W' :=
  ⟨(hb _ (by omega)).trans h.res, (hb _ (by omega)).trans h.ans, (hb _ (by omega)).trans h.wrong, (hb _ (by omega)).trans h.many, (hb _ (by omega)).trans h.mp, (hb _ (by omega)).trans h.to, by have := h.more; omega⟩
theorem PBox.below {r : Nat} {s : Seen} {W W' : World} (h : PBox r s W) (hb : Below W.heap.size W W') : PBox r s W' :=
  h.same hb.size (fun b hlt => hb.block b (by have := h.more; omega))
theorem PBox.far {r : Nat} {s : Seen} {W : World} (h : PBox r s W) (p : Addr) (hp : r + 1 + 1 + 1 + 1 + 1 < p.block) (v : Value) : PBox r s (W.setCell p v) :=
  h.same (by simp [World.setCell]) (fun b hlt => Below.heap_setCell _ _ _ _ (by omega))
theorem PBox.own {r B : Nat} (hB : r + 1 + 1 + 1 + 1 + 1 + 1 ≤ B) {β : Type} (g : β → Seen) : OwnFrom B (fun (x : β) W => PBox r (g x) W) := by
  intro x W W' row h hg hr
  refine h.same hg.size (fun b hlt => hg.block b (by have := h.more; omega) ?_)
  intro e
  have := (hr b e.symm).1
  omega
theorem PBox.setAns {r : Nat} {s s' : Seen} {W : World} (h : PBox r s W) (i : Nat) (v : Value) (he : (seenCells s).setIfInBounds i v = seenCells s') (hw : s'.wrong = s.wrong) (hm : s'.many = s.many) : PBox r s' (W.setCell ⟨r + 1, i, none⟩ v) := by
  have hx := h.ans.set_ i v
  rw [he] at hx
  have hne : ∀ b, b ≠ r + 1 → (W.setCell ⟨r + 1, i, none⟩ v).heap[b]? = W.heap[b]? := fun b hb => Below.heap_setCell _ _ _ _ hb
  exact ⟨(hne _ (by omega)).trans h.res, hx, by rw [hw]; exact (hne _ (by omega)).trans h.wrong, by rw [hm]; exact (hne _ (by omega)).trans h.many, (hne _ (by omega)).trans h.mp, (hne _ (by omega)).trans h.to, by have := h.more; simpa [World.setCell] using this⟩
theorem PBox.setWrong {r : Nat} {s s' : Seen} {W : World} (h : PBox r s W) (k : Nat) (he : seenCells s' = seenCells s) (hw : s'.wrong = k) (hm : s'.many = s.many) : PBox r s' (W.setCell ⟨r + 1 + 1, 0, none⟩ (.int .u64 k)) := by
  have hne : ∀ b, b ≠ r + 1 + 1 → (W.setCell ⟨r + 1 + 1, 0, none⟩ (.int .u64 k)).heap[b]? = W.heap[b]? := fun b hb => Below.heap_setCell _ _ _ _ hb
  exact ⟨(hne _ (by omega)).trans h.res, by rw [he]; exact (hne _ (by omega)).trans h.ans, by rw [hw]; exact h.wrong.set _, by rw [hm]; exact (hne _ (by omega)).trans h.many, (hne _ (by omega)).trans h.mp, (hne _ (by omega)).trans h.to, by have := h.more; simpa [World.setCell] using this⟩
theorem PBox.setMany {r : Nat} {s s' : Seen} {W : World} (h : PBox r s W) (k : Nat) (he : seenCells s' = seenCells s) (hw : s'.wrong = s.wrong) (hm : s'.many = k) : PBox r s' (W.setCell ⟨r + 1 + 1 + 1, 0, none⟩ (.int .u64 k)) := by
  have hne : ∀ b, b ≠ r + 1 + 1 + 1 → (W.setCell ⟨r + 1 + 1 + 1, 0, none⟩ (.int .u64 k)).heap[b]? = W.heap[b]? := fun b hb => Below.heap_setCell _ _ _ _ hb
  exact ⟨(hne _ (by omega)).trans h.res, by rw [he]; exact (hne _ (by omega)).trans h.ans, by rw [hw]; exact (hne _ (by omega)).trans h.wrong, by rw [hm]; exact h.many.set _, (hne _ (by omega)).trans h.mp, (hne _ (by omega)).trans h.to, by have := h.more; simpa [World.setCell] using this⟩
/-- what a round leaves as it was -/
def Held (r : Nat) (W W' : World) : Prop := KeepsFrom (r + 1 + 1 + 1 + 1 + 1 + 1 + 1) W W' ∧ KpL (r + 1 + 1 + 1 + 1 + 1 + 1) W W' ∧ Below r W W'
theorem Held.below {r : Nat} {W W' : World} (hr : 0 < r) (hm : r + 1 + 1 + 1 + 1 + 1 + 1 < W.heap.size) (h : Below W.heap.size W W') : Held r W W' :=
  ⟨⟨h.size, fun k o _ hk _ => (h.block k (Array.getElem?_eq_some_iff.1 hk).1).trans hk⟩, ⟨h.block _ hm, h.block _ (by omega)⟩, h.mono (by omega)⟩
theorem Held.trans {r : Nat} {A B C : World} (h : Held r A B) (k : Held r B C) : Held r A C := ⟨h.1.trans k.1, h.2.1.trans k.2.1, h.2.2.trans k.2.2⟩
theorem Held.set_ {r : Nat} {W W' : World} (hr : 0 < r) (h : Held r W W') (p : Addr) (h0 : r ≤ p.block) (h1 : p.block < r + 1 + 1 + 1 + 1 + 1) (v : Value) : Held r W (W'.setCell p v) :=
  h.trans ⟨(KeepsOthers.setCell _ _ _).from _, ⟨Below.heap_setCell _ _ _ _ (by omega), Below.heap_setCell _ _ _ _ (by omega)⟩, (Below.refl _ _).setCell h0 _⟩

theorem step_code {s : Seen} {x : List UInt8} (h : 0 < codeOf x) (h0 : s.code = 0) : step s x = { s with code := codeOf x } := by
  unfold step
  rw [if_pos ⟨h, h0⟩]
theorem step_rest {s : Seen} {x nm : List UInt8} {k : Nat} {b : Bool} (h : ¬ (0 < codeOf x ∧ s.code = 0)) (hn : nm = (Lib.cut x colon).1) (hk : k = (dig.parse (Lib.cut x colon).2.1).1) (hb : b = ((Lib.cut x colon).2.2 && (dig.parse (Lib.cut x colon).2.1).2 == 0)) :
    step s x = if b = true then put s nm k else s := by
  unfold step
  rw [if_neg h, hn, hk, hb]
  simp
theorem put_none {r : Nat} {s : Seen} {nm : List UInt8} {k : Nat} (h : place r nm = none) : put s nm k = s := by
  unfold place at h
  unfold put
  repeat' split at h
  all_goals first | cases h | skip
  rename_i h1 h2 h3 h4 h5 h6 h7
  rw [if_neg h1, if_neg h2, if_neg h3, if_neg h4, if_neg h5, if_neg h6, if_neg h7]
theorem codeOf_le (x : List UInt8) : codeOf x ≤ 8 := by
  unfold codeOf
  repeat' split
  all_goals omega
end Go.Proofs.Ytalehfdcebabnaa.back
