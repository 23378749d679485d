/- what Render's walk wants. -/
import Derived.Test.YtcgcfgomakaacaaHeadPut
import Derived.Test.YtcgcfgomakaacaaHeadCleanB
namespace Go.Proofs.Ytcgcfgomakaacaa.head
open Go.RowKit
open Go.Proofs.Ytcgcfgomakaacaa.aid

theorem row_string {w : World} {B : Nat} {A : Option Addr} {l : List UInt8} {c : Nat} (h : Row w B A (u8s l)) :
    (convert 25 9 (.slice A l.length c)).run Try.prog w = .ok (.string ⟨l.toArray⟩) w := by
  by_cases hl : l = []
  · subst hl
    cases A with
    | none =>
      rw [run_convert_bytes_string w 25 9 5 none _ c rfl rfl rfl]
      simp [Conv.bytesToString]
      rfl
    | some a => exact run_convert_bytes_back w 25 9 5 a c [] rfl rfl rfl (fun j hj => by simp at hj)
  · obtain ⟨b, off, rfl, -, hc⟩ := h (by simpa using hl)
    refine run_convert_bytes_back w 25 9 5 ⟨b, off, none⟩ c l rfl rfl rfl ?_
    intro j hj
    have e : (⟨b, off, none⟩ : Addr).add j = ⟨b, off + j, none⟩ := by
      simp only [Addr.add]
      split <;> simp_all
    rw [e]
    exact hc j _ (u8s_at l j hj)
theorem nil_string (w : World) : (convert 25 9 (.slice none 0 0)).run Try.prog w = .ok (.string ⟨#[]⟩) w := row_string (c := 0) (A := none) (l := []) (B := 0) Row.nil_
theorem lie_row {w : World} {b : Nat} {l : List UInt8} (h : Lie w b l) (hb : b < w.heap.size) : Row w w.heap.size (some ⟨b, 0, none⟩) (u8s l) := fun _ => ⟨b, 0, rfl, hb, fun j v hv => by
  rw [List.getElem?_map] at hv
  obtain ⟨c, hc, rfl⟩ := Option.map_eq_some_iff.1 hv
  obtain ⟨hj, rfl⟩ := List.getElem?_eq_some_iff.1 hc
  rw [Nat.zero_add]
  exact h j hj⟩

theorem Blk.ten {w : World} {g : Nat} {t : TypeId} {v0 v1 v2 v3 v4 v5 v6 v7 v8 v9 : Value} (h : Blk w g t #[v0, v1, v2, v3, v4, v5, v6, v7, v8, v9]) : w.cell? ⟨g, 0, none⟩ = some v0 ∧ w.cell? ⟨g, 1, none⟩ = some v1 ∧ w.cell? ⟨g, 2, none⟩ = some v2 ∧ w.cell? ⟨g, 3, none⟩ = some v3 ∧ w.cell? ⟨g, 4, none⟩ = some v4 ∧ w.cell? ⟨g, 5, none⟩ = some v5 ∧ w.cell? ⟨g, 6, none⟩ = some v6 ∧ w.cell? ⟨g, 7, none⟩ = some v7 ∧ w.cell? ⟨g, 8, none⟩ = some v8 ∧ w.cell? ⟨g, 9, none⟩ = some v9 :=
  ⟨h.cell 0, h.cell 1, h.cell 2, h.cell 3, h.cell 4, h.cell 5, h.cell 6, h.cell 7, h.cell 8, h.cell 9⟩
theorem Blk.froz {w : World} {g : Nat} {t : TypeId} {cs : Array Value} (h : Blk w g t cs) : w.frozen? ⟨g, 0, none⟩ = false ∧ w.frozen? ⟨g, 1, none⟩ = false ∧ w.frozen? ⟨g, 2, none⟩ = false ∧ w.frozen? ⟨g, 3, none⟩ = false ∧ w.frozen? ⟨g, 4, none⟩ = false ∧ w.frozen? ⟨g, 5, none⟩ = false ∧ w.frozen? ⟨g, 6, none⟩ = false ∧ w.frozen? ⟨g, 7, none⟩ = false ∧ w.frozen? ⟨g, 8, none⟩ = false ∧ w.frozen? ⟨g, 9, none⟩ = false :=
  ⟨h.frozen 0, h.frozen 1, h.frozen 2, h.frozen 3, h.frozen 4, h.frozen 5, h.frozen 6, h.frozen 7, h.frozen 8, h.frozen 9⟩

/-- the bytes l come back, in a slice of whatever place -/
def Bytes (l : List UInt8) (w : World) (e : Ending) (w' : World) : Prop := ∃ A c, e = .returned (.slice A l.length c) ∧ l.length ≤ c ∧ Row w' w'.heap.size A (u8s l) ∧ Below w.heap.size w w'

theorem Page.setCell {B b : Nat} {p : Value} {l : List UInt8} {w : World} (h : Page B b p l w) (q : Addr) (hq : q.block < B) (u : Value) : Page B b p l (w.setCell q u) := by
  obtain ⟨hB, v, hv, hown, hne⟩ := h
  refine ⟨hB, v, hv.far (by omega) u, ⟨hown.1, ?_⟩, hne⟩
  rcases hown.2 with h | ⟨g, cap, cur, hv, hg, hblk, hr⟩
  · exact .inl h
  · exact .inr ⟨g, cap, cur, hv, hg, (Below.heap_setCell _ _ _ _ (by omega)).trans hblk, hr⟩
theorem Page.alloc {B b : Nat} {p : Value} {l : List UInt8} {w : World} (h : Page B b p l w) (o : Obj) : Page B b p l (w.alloc o) := page_below h ((Below.refl _ _).alloc (Nat.le_refl _) _)
theorem Page.new (w : World) : Page w.heap.size w.heap.size (.pointer none) [] (w.alloc (.cells #[.pointer none, .slice none 0 0] 46)) :=
  ⟨Nat.le_refl _, _, Blk.new w _ _, World.ownsRow_nil _ _ _ _, by simp [Value.ownBlock]⟩
theorem write_str {B b : Nat} {p : Value} (hp : p = .pointer none ∨ p = self b) {acc : List UInt8} (s : List UInt8) {X : World} (hX : Page B b p acc X) (hlen : acc.length + s.length ≤ 140737488355328) (S : ByteArray) (hS : S = ⟨s.toArray⟩) :
    Calls Try.prog 21 #[.pointer (some ⟨b, 0, none⟩), .string S] X fun e w' => ∃ n : Int, e = .returned (.tuple #[.int .i64 n, .nilIface]) ∧ Page B b (self b) (acc ++ s) w' ∧ Below B X w' ∧ PK b X w' := by
  subst hS
  exact write_any B b p hp acc s X hX hlen (page_base hX)
theorem put_at {B b : Nat} {l : List UInt8} (ls : List (List UInt8 × Int)) {Y : World} (hY : Page B b (self b) l Y) (hf : ∀ x ∈ ls, 0 ≤ x.2 ∧ x.2 ≤ 18446744073709551615) (hn5 : ls.length ≤ 5) (hlen : l.length + (linesOf ls).length ≤ 1000000)
    (k n : Nat) (hk : k = Y.heap.size) (hn : n = ls.length) (cs : Array Value) (hcs : cs = (lineCells ls).toArray) :
    Calls Try.prog 22 #[.pointer (some ⟨b, 0, none⟩), .slice (some ⟨k, 0, none⟩) n n] (Y.alloc (.cells cs 52)) fun e w' => e = .returned (.tuple #[]) ∧ Page B b (self b) (l ++ linesOf ls) w' ∧ Below B Y w' ∧ PK b Y w' := by
  subst hk
  subst hn
  subst hcs
  have hB : Below Y.heap.size Y (Y.alloc (.cells (lineCells ls).toArray 52)) := (Below.refl _ _).alloc (Nat.le_refl _) _
  have h1 := hY.alloc (.cells (lineCells ls).toArray 52)
  refine (put_any B b Y.heap.size l ls _ h1 (Blk.new Y _ _) (Apart.new hY _) hf hn5 hlen (page_base h1)).mono ?_
  rintro e w' ⟨rfl, hp, hb, hk⟩
  exact ⟨rfl, hp, (hB.mono (page_base hY)).trans hb, (PK.below hB hY.lt).trans hk⟩
theorem bytes_of {l : List UInt8} {w W : World} (hl : l ≠ []) (hb : Below w.heap.size w W) : ∃ c w', (convert 9 25 (.string ⟨l.toArray⟩)).run Try.prog W = .ok (.slice (some ⟨W.heap.size, 0, none⟩) l.length c) w' ∧ l.length ≤ c ∧ Row w' w'.heap.size (some ⟨W.heap.size, 0, none⟩) (u8s l) ∧ Below w.heap.size w w' := by
  obtain ⟨c, w', hrun, hc, hlie, hbw, hsz, -⟩ := to_bytes W ⟨l.toArray⟩
  have hs : (ByteArray.mk l.toArray).size = l.length := by simp [ByteArray.size]
  rw [hs] at hrun hc
  exact ⟨c, w', hrun, hc, lie_row hlie (by omega), hb.trans (hbw.mono hb.size)⟩
theorem lines_small : ∀ (ls : List (List UInt8 × Int)), (∀ x ∈ ls, x.1.length ≤ 40) → (linesOf ls).length ≤ 64 * ls.length
  | [], _ => by simp [linesOf]
  | x :: r, h => by
    have h1 := lines_small r (fun y hy => h y (by simp [hy]))
    have h2 := line_len x.1 x.2
    have h3 := h x (by simp)
    have e : linesOf (x :: r) = line x.1 x.2 ++ linesOf r := rfl
    rw [e, List.length_append, List.length_cons]
    omega
theorem Apart.setCell {b k : Nat} {w : World} (h : Apart b k w) (q : Addr) (hq : q.block ≠ b) (u : Value) : Apart b k (w.setCell q u) :=
  ⟨by simpa using h.1, h.2.1, fun p v hv => h.2.2 p v ((Below.heap_setCell _ _ _ _ (Ne.symm hq)).symm.trans hv)⟩
theorem Apart.alloc {b k : Nat} {w : World} (h : Apart b k w) (hb : b < w.heap.size) (o : Obj) : Apart b k (w.alloc o) := h.below ((Below.refl _ _).alloc (Nat.le_refl _) _) hb
/-- a copy that lies apart from the page -/
def CopyA (b : Nat) (w : World) (B : Nat) (A : Option Addr) (c : Nat) (l : List UInt8) : Prop := B < w.heap.size + 1 ∧ b < B ∧ Copy w B A c l ∧ (l ≠ [] → ∀ g, (Value.slice A l.length c).ownBlock = some g → Apart b g w)
theorem CopyA.setCell {b : Nat} {w : World} {B : Nat} {A : Option Addr} {c : Nat} {l : List UInt8} (h : CopyA b w B A c l) (p : Addr) (hp : p.block < b) (u : Value) : CopyA b (w.setCell p u) B A c l :=
  ⟨by simpa using h.1, h.2.1, h.2.2.1.setCell p (Nat.lt_trans hp h.2.1) u, fun hl g hg => (h.2.2.2 hl g hg).setCell p (Nat.ne_of_lt hp) u⟩
theorem CopyA.alloc {b : Nat} {w : World} {B : Nat} {A : Option Addr} {c : Nat} {l : List UInt8} (h : CopyA b w B A c l) (o : Obj) : CopyA b (w.alloc o) B A c l :=
  ⟨by have := h.1; simp; omega, h.2.1, h.2.2.1.alloc o, fun hl g hg => (h.2.2.2 hl g hg).alloc (by have := h.1; have := h.2.1; omega) o⟩
theorem CopyA.pk {b : Nat} {w w' : World} {B : Nat} {A : Option Addr} {c : Nat} {l : List UInt8} (h : CopyA b w B A c l) (hk : PK b w w') : Row w' w'.heap.size A (u8s l) := by
  by_cases hl : l = []
  · subst hl
    exact Row.nil_
  · have ho := h.2.2.1.2 hl
    have ha := h.2.2.2 hl
    have ho' : w'.ownsRow B 5 1 (.slice A l.length c) l.length (u8s l) := by
      refine ⟨ho.1, ?_⟩
      rcases ho.2 with h | ⟨g, cap, cur, hv, hg, hblk, hr⟩
      · exact .inl h
      · refine .inr ⟨g, cap, cur, hv, hg, (hk g (ha g ?_)).2.trans hblk, hr⟩
        rw [hv]
        rfl
    exact Row.of_own ho'
theorem CopyA.of {Bp b : Nat} {p : Value} {acc : List UInt8} {w w' : World} {A : Option Addr} {c : Nat} {l : List UInt8} (hp : Page Bp b p acc w) (hb : Below w.heap.size w w') (h : Copy w' w.heap.size A c l) : CopyA b w' w.heap.size A c l := by
  have hlt := hp.lt
  refine ⟨by have := hb.size; omega, hlt, h, fun hl g hg => ?_⟩
  have hglt := (h.2 hl).lt g hg
  obtain ⟨_, v, hv, hown, hne⟩ := hp
  refine ⟨hglt.2, by omega, fun p' v' hv' => ?_⟩
  obtain ⟨-, rfl⟩ := Blk.two (hv.below hb hlt) hv'
  intro e
  have := (hown.lt g e).2
  omega
theorem clean_neg (err limit left reset after nanos many : Int) (retry : Bool) (body : List UInt8) (hm : many < 0) : clean ⟨6, err, limit, left, reset, after, nanos, retry, many, body⟩ = ⟨6, 0, 0, 0, 0, 0, 0, false, 0, []⟩ := by
  have : max 0 many = 0 := by omega
  simp [clean, zero, this]
theorem clean_pos (err limit left reset after nanos many : Int) (retry : Bool) (body : List UInt8) (hm : 0 ≤ many) : clean ⟨6, err, limit, left, reset, after, nanos, retry, many, body⟩ = ⟨6, 0, 0, 0, 0, 0, 0, false, many, []⟩ := by
  simp [clean, zero, Int.max_eq_right hm]
theorem Blk.store {w : World} {g : Nat} {t : TypeId} {u0 u1 u2 u3 u4 u5 u6 u7 u8 u9 v0 v1 v2 v3 v4 v5 v6 v7 v8 v9 : Value} (h : Blk w g t #[v0, v1, v2, v3, v4, v5, v6, v7, v8, v9]) : Blk ((((((((((w.setCell ⟨g, 0, none⟩ u0).setCell ⟨g, 1, none⟩ u1).setCell ⟨g, 2, none⟩ u2).setCell ⟨g, 3, none⟩ u3).setCell ⟨g, 4, none⟩ u4).setCell ⟨g, 5, none⟩ u5).setCell ⟨g, 6, none⟩ u6).setCell ⟨g, 7, none⟩ u7).setCell ⟨g, 8, none⟩ u8).setCell ⟨g, 9, none⟩ u9) g t #[u0, u1, u2, u3, u4, u5, u6, u7, u8, u9] := by
  have h : Blk _ g t #[u0, v1, v2, v3, v4, v5, v6, v7, v8, v9] := h.set_ 0 u0
  have h : Blk _ g t #[u0, u1, v2, v3, v4, v5, v6, v7, v8, v9] := h.set_ 1 u1
  have h : Blk _ g t #[u0, u1, u2, v3, v4, v5, v6, v7, v8, v9] := h.set_ 2 u2
  have h : Blk _ g t #[u0, u1, u2, u3, v4, v5, v6, v7, v8, v9] := h.set_ 3 u3
  have h : Blk _ g t #[u0, u1, u2, u3, u4, v5, v6, v7, v8, v9] := h.set_ 4 u4
  have h : Blk _ g t #[u0, u1, u2, u3, u4, u5, v6, v7, v8, v9] := h.set_ 5 u5
  have h : Blk _ g t #[u0, u1, u2, u3, u4, u5, u6, v7, v8, v9] := h.set_ 6 u6
  have h : Blk _ g t #[u0, u1, u2, u3, u4, u5, u6, u7, v8, v9] := h.set_ 7 u7
  have h : Blk _ g t #[u0, u1, u2, u3, u4, u5, u6, u7, u8, v9] := h.set_ 8 u8
  have h : Blk _ g t #[u0, u1, u2, u3, u4, u5, u6, u7, u8, u9] := h.set_ 9 u9
  exact h
end Go.Proofs.Ytcgcfgomakaacaa.head
