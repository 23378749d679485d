/- back.Parse's end: what a head's numbers may be; the boxes behind the loop. -/
import Derived.Test.YtalehfdcebabnaaBackParse
namespace Go.Proofs.Ytalehfdcebabnaa.back
open Go.RowKit Go.Shelf
open Go.Proofs.Ytalehfdcebabnaa.head
open Go.Proofs.Ytalehfdcebabnaa.aid

/-- numbers that fit -/
def SeenFine (s : Seen) : Prop := s.code ≤ 8 ∧ s.limit ≤ 18446744073709551615 ∧ s.left ≤ 18446744073709551615 ∧ s.reset ≤ 18446744073709551615 ∧ s.after ≤ 18446744073709551615 ∧ s.nanos ≤ 18446744073709551615
theorem put_fine {s : Seen} (h : SeenFine s) (nm : List UInt8) {k : Nat} (hk : k ≤ 18446744073709551615) : SeenFine (put s nm k) := by
  obtain ⟨h0, h1, h2, h3, h4, h5⟩ := h
  unfold put
  repeat' split
  all_goals exact ⟨by assumption, by assumption, by assumption, by assumption, by assumption, by assumption⟩
theorem step_fine {s : Seen} (h : SeenFine s) (x : List UInt8) : SeenFine (step s x) := by
  unfold step
  split
  · exact ⟨codeOf_le x, h.2⟩
  · split
    · exact put_fine h _ (dig.parse_le _)
    · exact h
theorem fold_fine : ∀ (ls : List (List UInt8 × List UInt8)) (s : Seen), SeenFine s → SeenFine (ls.foldl (fun s x => step s x.1) s)
  | [], _, h => h
  | x :: r, s, h => fold_fine r _ (step_fine h x.1)
theorem seen_fine (l : List UInt8) : SeenFine (seen l) := fold_fine _ _ (by unfold SeenFine blank; simp)
theorem wrap_fine (n : Nat) : -9223372036854775808 ≤ IntKind.i64.wrap (n : Int) ∧ IntKind.i64.wrap (n : Int) ≤ 9223372036854775807 := by
  unfold IntKind.wrap
  simp [IntKind.signed, IntKind.bits]
  have h1 := @Int.le_bmod (x := (n : Int)) (m := 18446744073709551616) (by omega)
  have h2 := @Int.bmod_lt (x := (n : Int)) (m := 18446744073709551616) (by omega)
  omega
theorem u16_wrap (n : Nat) : IntKind.u16.wrap (n : Int) = ((n % 65536 : Nat) : Int) := by
  unfold IntKind.wrap
  simp [IntKind.signed, IntKind.bits]
theorem told_fine {s : Seen} (h : SeenFine s) (b : List UInt8) (hb : b.length ≤ 140737488351232) : Fine (told s b) := by
  obtain ⟨h0, h1, h2, h3, h4, h5⟩ := h
  have hw := wrap_fine s.many
  unfold told Fine
  simp only
  omega
theorem body_short (l : List UInt8) : (body l).length ≤ l.length := by
  unfold body
  split
  · rename_i x hx
    have hm := List.mem_of_find?_eq_some hx
    have : ∀ (f : Nat) (l : List UInt8) (x : List UInt8 × List UInt8), x ∈ linesF f l → x.2.length ≤ l.length := by
      intro f
      induction f with
      | zero => intro l x h; simp [linesF] at h
      | succ f ih =>
        intro l x h
        unfold linesF at h
        split at h
        · have hs := (cut_le l crlf).2
          rcases List.mem_cons.1 h with rfl | h
          · exact hs
          · split at h
            · simp at h
            · have := ih _ x h
              omega
        · simp at h
    exact this _ _ _ hm
  · simp
theorem PBox.drew {r : Nat} {s : Seen} {W : World} (h : PBox r s W) : PBox r s W.drew := ⟨h.res, h.ans, h.wrong, h.many, h.mp, h.to, h.more⟩
/-- '[]byte(s)': where, and how great, as functions of the world -/
theorem str_bytes (l : List UInt8) : ∃ (cp : World → Nat) (bw : World → World), (∀ W, (convert 9 25 (.string ⟨l.toArray⟩)).run Try.prog W = .ok (.slice (some ⟨W.heap.size, 0, none⟩) l.length (cp W)) (bw W)) ∧
    ∀ W, l.length ≤ cp W ∧ Lie (bw W) W.heap.size l ∧ Below W.heap.size W (bw W) ∧ (bw W).heap.size = W.heap.size + 1 := by
  have h := fun W => to_bytes W ⟨l.toArray⟩
  refine ⟨fun W => Classical.choose (h W), fun W => Classical.choose (Classical.choose_spec (h W)), fun W => ?_, fun W => ?_⟩
  · exact (Classical.choose_spec (Classical.choose_spec (h W))).1
  · obtain ⟨-, h1, h2, h3, h4, -⟩ := Classical.choose_spec (Classical.choose_spec (h W))
    exact ⟨h1, h2, h3, h4⟩
theorem u64_info : (Try.prog.info? 24).map (fun i => (i.zero, i.size, i.bytes)) = some (some (.int .u64 0), 1, 8) := by kernel_rfl

/-- behind the loop: the two answers, the loop's deferred calls -/
structure GB (r D : Nat) (cs : Array Value) (w W : World) : Prop where
  base : r = w.heap.size
  res : Blk W r 27 zeroCells
  ans : Blk W (r + 1) 27 cs
  bel : Below r w W
  col : W.heap[D]? = some (.deferred (some []))
  far : r + 1 < D
  low : D < W.heap.size
theorem GB.set_ {r D : Nat} {cs : Array Value} {w W : World} (h : GB r D cs w W) (i : Nat) (v : Value) : GB r D (cs.setIfInBounds i v) w (W.setCell ⟨r + 1, i, none⟩ v) := by
  have hne : ∀ b, b ≠ r + 1 → (W.setCell ⟨r + 1, i, none⟩ v).heap[b]? = W.heap[b]? := fun b hb => Below.heap_setCell _ _ _ _ hb
  exact ⟨h.base, (hne _ (by omega)).trans h.res, h.ans.set_ i v, h.bel.setCell (by simp) _, (hne _ (by have := h.far; omega)).trans h.col, h.far, by have := h.low; simpa [World.setCell] using this⟩
theorem GB.below {r D : Nat} {cs : Array Value} {w W W' : World} (h : GB r D cs w W) (hb : Below W.heap.size W W') : GB r D cs w W' := by
  have h1 := h.far
  have h2 := h.low
  have h3 := h.bel.size
  exact ⟨h.base, h.res.below hb h.res.lt, h.ans.below hb h.ans.lt, h.bel.trans (hb.mono (by have := h.res.lt; omega)), (hb.block _ h2).trans h.col, h1, by have := hb.size; omega⟩
theorem GB.store {r D : Nat} {w W : World} {u0 u1 u2 u3 u4 u5 u6 u7 u8 u9 v0 v1 v2 v3 v4 v5 v6 v7 v8 v9 : Value} (h : GB r D #[v0, v1, v2, v3, v4, v5, v6, v7, v8, v9] w W) : GB r D #[u0, u1, u2, u3, u4, u5, u6, u7, u8, u9] w ((((((((((W.setCell ⟨r + 1, 0, none⟩ u0).setCell ⟨r + 1, 1, none⟩ u1).setCell ⟨r + 1, 2, none⟩ u2).setCell ⟨r + 1, 3, none⟩ u3).setCell ⟨r + 1, 4, none⟩ u4).setCell ⟨r + 1, 5, none⟩ u5).setCell ⟨r + 1, 6, none⟩ u6).setCell ⟨r + 1, 7, none⟩ u7).setCell ⟨r + 1, 8, none⟩ u8).setCell ⟨r + 1, 9, none⟩ u9) := by
  have h : GB r D #[u0, v1, v2, v3, v4, v5, v6, v7, v8, v9] w _ := h.set_ 0 u0
  have h : GB r D #[u0, u1, v2, v3, v4, v5, v6, v7, v8, v9] w _ := h.set_ 1 u1
  have h : GB r D #[u0, u1, u2, v3, v4, v5, v6, v7, v8, v9] w _ := h.set_ 2 u2
  have h : GB r D #[u0, u1, u2, u3, v4, v5, v6, v7, v8, v9] w _ := h.set_ 3 u3
  have h : GB r D #[u0, u1, u2, u3, u4, v5, v6, v7, v8, v9] w _ := h.set_ 4 u4
  have h : GB r D #[u0, u1, u2, u3, u4, u5, v6, v7, v8, v9] w _ := h.set_ 5 u5
  have h : GB r D #[u0, u1, u2, u3, u4, u5, u6, v7, v8, v9] w _ := h.set_ 6 u6
  have h : GB r D #[u0, u1, u2, u3, u4, u5, u6, u7, v8, v9] w _ := h.set_ 7 u7
  have h : GB r D #[u0, u1, u2, u3, u4, u5, u6, u7, u8, v9] w _ := h.set_ 8 u8
  have h : GB r D #[u0, u1, u2, u3, u4, u5, u6, u7, u8, u9] w _ := h.set_ 9 u9
  exact h
theorem GB.end_ {r D : Nat} {cs : Array Value} {w W : World} (h : GB r D cs w W) (u0 u1 u2 u3 u4 u5 u6 u7 u8 u9 : Value) : ((((((((((W.setCell ⟨r, 0, none⟩ u0).setCell ⟨r, 1, none⟩ u1).setCell ⟨r, 2, none⟩ u2).setCell ⟨r, 3, none⟩ u3).setCell ⟨r, 4, none⟩ u4).setCell ⟨r, 5, none⟩ u5).setCell ⟨r, 6, none⟩ u6).setCell ⟨r, 7, none⟩ u7).setCell ⟨r, 8, none⟩ u8).setCell ⟨r, 9, none⟩ u9).heap[D]? = some (.deferred (some [])) ∧ Blk (((((((((((W.setCell ⟨r, 0, none⟩ u0).setCell ⟨r, 1, none⟩ u1).setCell ⟨r, 2, none⟩ u2).setCell ⟨r, 3, none⟩ u3).setCell ⟨r, 4, none⟩ u4).setCell ⟨r, 5, none⟩ u5).setCell ⟨r, 6, none⟩ u6).setCell ⟨r, 7, none⟩ u7).setCell ⟨r, 8, none⟩ u8).setCell ⟨r, 9, none⟩ u9).putObj D (.deferred none)) r 27 #[u0, u1, u2, u3, u4, u5, u6, u7, u8, u9] ∧ Below r w (((((((((((W.setCell ⟨r, 0, none⟩ u0).setCell ⟨r, 1, none⟩ u1).setCell ⟨r, 2, none⟩ u2).setCell ⟨r, 3, none⟩ u3).setCell ⟨r, 4, none⟩ u4).setCell ⟨r, 5, none⟩ u5).setCell ⟨r, 6, none⟩ u6).setCell ⟨r, 7, none⟩ u7).setCell ⟨r, 8, none⟩ u8).setCell ⟨r, 9, none⟩ u9).putObj D (.deferred none)) ∧
    ∀ (B : Nat) (A : Option Addr) (c : Nat) (l : List UInt8), r < B → D < B → Copy W B A c l → Copy (((((((((((W.setCell ⟨r, 0, none⟩ u0).setCell ⟨r, 1, none⟩ u1).setCell ⟨r, 2, none⟩ u2).setCell ⟨r, 3, none⟩ u3).setCell ⟨r, 4, none⟩ u4).setCell ⟨r, 5, none⟩ u5).setCell ⟨r, 6, none⟩ u6).setCell ⟨r, 7, none⟩ u7).setCell ⟨r, 8, none⟩ u8).setCell ⟨r, 9, none⟩ u9).putObj D (.deferred none)) B A c l := by
  have hfar := h.far
  have hlow := h.low
  have hD : ((((((((((W.setCell ⟨r, 0, none⟩ u0).setCell ⟨r, 1, none⟩ u1).setCell ⟨r, 2, none⟩ u2).setCell ⟨r, 3, none⟩ u3).setCell ⟨r, 4, none⟩ u4).setCell ⟨r, 5, none⟩ u5).setCell ⟨r, 6, none⟩ u6).setCell ⟨r, 7, none⟩ u7).setCell ⟨r, 8, none⟩ u8).setCell ⟨r, 9, none⟩ u9).heap[D]? = some (.deferred (some [])) := by
    repeat rw [Below.heap_setCell _ _ _ _ (show D ≠ r by omega)]
    exact h.col
  refine ⟨hD, ?_, ?_, ?_⟩
  · refine (World.putObj_heap_other (by omega)).trans ?_
    exact Blk.store h.res
  · refine Below.trans ?_ (belowK_b (w := w) (n₀ := r) ?_ _ D _ _ ?_ hD rfl rfl)
    · repeat' (first | (with_reducible exact h.bel) | (with_reducible refine Below.setCell ?_ ?_ _))
      all_goals simp
    · exact Nat.le_of_eq h.base
    · have := h.base
      omega
  · intro B A c l h1 h2 hc
    refine Copy.kept ?_ (grownBy_putObj' _ D _) h2
    repeat' (first | (with_reducible exact hc) | (with_reducible refine Copy.setCell ?_ _ ?_ _))
    all_goals exact h1
theorem Lie.set_ {W : World} {N : Nat} {l : List UInt8} (h : Lie W N l) {p : Addr} (hp : N ≠ p.block) (v : Value) : Lie (W.setCell p v) N l := fun i hi => by
  rw [World.cell?_setCell_other]
  · exact h i hi
  · intro e
    exact hp (by rw [e])
def EndB (r D : Nat) (cs : Array Value) (w : World) (bd : List UInt8) (N cc : Nat) (W : World) : Prop := GB r D cs w W ∧ bd.length ≤ cc ∧ Lie W N bd ∧ N < W.heap.size
theorem size_set (W : World) (p : Addr) (v : Value) : (W.setCell p v).heap.size = W.heap.size := by simp [World.setCell]
theorem EndB.set_ {r D : Nat} {cs : Array Value} {w W : World} {bd : List UInt8} {N cc : Nat} (h : EndB r D cs w bd N cc W) (hN : r + 1 < N) (i : Nat) (v : Value) : EndB r D (cs.setIfInBounds i v) w bd N cc (W.setCell ⟨r + 1, i, none⟩ v) :=
  ⟨h.1.set_ i v, h.2.1, Lie.set_ h.2.2.1 (by simp; omega) v, by rw [size_set]; exact h.2.2.2⟩
section
variable {r D : Nat} {cs : Array Value} {w W : World} {bd : List UInt8} {cp : World → Nat} {bw : World → World}
theorem GB.bytes (h : GB r D cs w W) (hbw : ∀ W, bd.length ≤ cp W ∧ Lie (bw W) W.heap.size bd ∧ Below W.heap.size W (bw W) ∧ (bw W).heap.size = W.heap.size + 1) {N : Nat} (hN : W.heap.size = N) : EndB r D cs w bd N (cp W) (bw W) := by
  obtain ⟨h1, h2, h3, h4⟩ := hbw W
  subst hN
  exact ⟨h.below h3, h1, h2, by omega⟩
theorem GB.form1 (h : GB r D cs w W) (hbw : ∀ W, bd.length ≤ cp W ∧ Lie (bw W) W.heap.size bd ∧ Below W.heap.size W (bw W) ∧ (bw W).heap.size = W.heap.size + 1) (a b c : Value) :
    EndB r D (((cs.setIfInBounds 1 a).setIfInBounds 8 b).setIfInBounds 9 c) w bd W.heap.size (cp W) ((((bw W).setCell ⟨r + 1, 1, none⟩ a).setCell ⟨r + 1, 8, none⟩ b).setCell ⟨r + 1, 9, none⟩ c) := by
  have hN : r + 1 < W.heap.size := by have := h.far; have := h.low; omega
  exact (((h.bytes hbw rfl).set_ hN 1 a).set_ hN 8 b).set_ hN 9 c
theorem GB.form2 (h : GB r D cs w W) (hbw : ∀ W, bd.length ≤ cp W ∧ Lie (bw W) W.heap.size bd ∧ Below W.heap.size W (bw W) ∧ (bw W).heap.size = W.heap.size + 1) (a b c : Value) :
    EndB r D (((cs.setIfInBounds 1 a).setIfInBounds 8 b).setIfInBounds 9 c) w bd W.heap.size (cp (W.setCell ⟨r + 1, 1, none⟩ a)) (((bw (W.setCell ⟨r + 1, 1, none⟩ a)).setCell ⟨r + 1, 8, none⟩ b).setCell ⟨r + 1, 9, none⟩ c) := by
  have hN : r + 1 < W.heap.size := by have := h.far; have := h.low; omega
  exact (((h.set_ 1 a).bytes hbw (size_set _ _ _)).set_ hN 8 b).set_ hN 9 c
theorem GB.form3 (h : GB r D cs w W) (hbw : ∀ W, bd.length ≤ cp W ∧ Lie (bw W) W.heap.size bd ∧ Below W.heap.size W (bw W) ∧ (bw W).heap.size = W.heap.size + 1) (a b c : Value) :
    EndB r D (((cs.setIfInBounds 1 a).setIfInBounds 8 b).setIfInBounds 9 c) w bd W.heap.size (cp ((W.setCell ⟨r + 1, 1, none⟩ a).setCell ⟨r + 1, 8, none⟩ b)) ((bw ((W.setCell ⟨r + 1, 1, none⟩ a).setCell ⟨r + 1, 8, none⟩ b)).setCell ⟨r + 1, 9, none⟩ c) := by
  have hN : r + 1 < W.heap.size := by have := h.far; have := h.low; omega
  exact (((h.set_ 1 a).set_ 8 b).bytes hbw ((size_set _ _ _).trans (size_set _ _ _))).set_ hN 9 c
theorem GB.form1' (h : GB r D cs w W) (hbw : ∀ W, bd.length ≤ cp W ∧ Lie (bw W) W.heap.size bd ∧ Below W.heap.size W (bw W) ∧ (bw W).heap.size = W.heap.size + 1) {a b c : Value} {cs' : Array Value} {N cc : Nat} {W' : World} (hW : W' = ((((bw W).setCell ⟨r + 1, 1, none⟩ a).setCell ⟨r + 1, 8, none⟩ b).setCell ⟨r + 1, 9, none⟩ c)) (hN : N = W.heap.size) (hcc : cc = cp W) (hcs : ((cs.setIfInBounds 1 a).setIfInBounds 8 b).setIfInBounds 9 c = cs') : EndB r D cs' w bd N cc W' := by
  subst hW hN hcc hcs
  exact h.form1 hbw a b c
theorem GB.form2' (h : GB r D cs w W) (hbw : ∀ W, bd.length ≤ cp W ∧ Lie (bw W) W.heap.size bd ∧ Below W.heap.size W (bw W) ∧ (bw W).heap.size = W.heap.size + 1) {a b c : Value} {cs' : Array Value} {N cc : Nat} {W' : World} (hW : W' = (((bw (W.setCell ⟨r + 1, 1, none⟩ a)).setCell ⟨r + 1, 8, none⟩ b).setCell ⟨r + 1, 9, none⟩ c)) (hN : N = W.heap.size) (hcc : cc = cp (W.setCell ⟨r + 1, 1, none⟩ a)) (hcs : ((cs.setIfInBounds 1 a).setIfInBounds 8 b).setIfInBounds 9 c = cs') : EndB r D cs' w bd N cc W' := by
  subst hW hN hcc hcs
  exact h.form2 hbw a b c
theorem GB.form3' (h : GB r D cs w W) (hbw : ∀ W, bd.length ≤ cp W ∧ Lie (bw W) W.heap.size bd ∧ Below W.heap.size W (bw W) ∧ (bw W).heap.size = W.heap.size + 1) {a b c : Value} {cs' : Array Value} {N cc : Nat} {W' : World} (hW : W' = ((bw ((W.setCell ⟨r + 1, 1, none⟩ a).setCell ⟨r + 1, 8, none⟩ b)).setCell ⟨r + 1, 9, none⟩ c)) (hN : N = W.heap.size) (hcc : cc = cp ((W.setCell ⟨r + 1, 1, none⟩ a).setCell ⟨r + 1, 8, none⟩ b)) (hcs : ((cs.setIfInBounds 1 a).setIfInBounds 8 b).setIfInBounds 9 c = cs') : EndB r D cs' w bd N cc W' := by
  subst hW hN hcc hcs
  exact h.form3 hbw a b c
end
theorem lie_row' {W : World} {N : Nat} {l : List UInt8} (h : Lie W N l) (hN : N < W.heap.size) : Row W W.heap.size (some ⟨N, 0, none⟩) (u8s l) := lie_row h hN
end Go.Proofs.Ytalehfdcebabnaa.back
