/- words.Split: what its variables are, in memory. -/
import Derived.Test.YtnfkeaplglknlaaWordsPlace
import Derived.Test.YtnfkeaplglknlaaWordsLines
namespace Go.Proofs.Ytnfkeaplglknlaa.words
open Go.RowKit
open Go.Proofs.Ytnfkeaplglknlaa.aid

/-- words in memory -/
def wcells (row : List Wd) : List Value := row.flatMap fun w => [.string ⟨w.text.toArray⟩, .int .i64 (w.line : Nat), .int .i64 (w.col : Nat)]
theorem wcells_snoc (row : List Wd) (w : Wd) : wcells (row ++ [w]) = wcells row ++ [.string ⟨w.text.toArray⟩, .int .i64 (w.line : Nat), .int .i64 (w.col : Nat)] := by simp [wcells]
theorem wcells_len : ∀ row : List Wd, (wcells row).length = row.length * 3
  | [] => rfl
  | w :: r => by
    have h : wcells (w :: r) = .string ⟨w.text.toArray⟩ :: .int .i64 (w.line : Nat) :: .int .i64 (w.col : Nat) :: wcells r := rfl
    rw [h]
    simp only [List.length_cons, wcells_len r]
    omega
theorem wcells_at : ∀ (row : List Wd) (k : Nat) (h : k < row.length), (wcells row)[k * 3]? = some (.string ⟨row[k].text.toArray⟩) ∧ (wcells row)[k * 3 + 1]? = some (.int .i64 (row[k].line : Nat)) ∧ (wcells row)[k * 3 + 2]? = some (.int .i64 (row[k].col : Nat))
  | w :: r, 0, _ => ⟨rfl, rfl, rfl⟩
  | w :: r, k + 1, h => by
    obtain ⟨h1, h2, h3⟩ := wcells_at r k (by simpa using h)
    have e : wcells (w :: r) = .string ⟨w.text.toArray⟩ :: .int .i64 (w.line : Nat) :: .int .i64 (w.col : Nat) :: wcells r := rfl
    rw [e, show (k + 1) * 3 = k * 3 + 1 + 1 + 1 from by omega]
    simp only [List.getElem?_cons_succ, List.getElem_cons_succ, Nat.add_right_comm _ 1]
    exact ⟨h1, h2, h3⟩

/-- the boxes of words.Split's variables -/
structure Bx (b : Nat) (T O R F K P S : Value) (W : World) : Prop where
  t : Blk W b 22 #[T]
  p : Blk W (b + 1) 31 #[.int .i64 0, .int .i64 0]
  o : Blk W (b + 2) 27 #[O]
  r : Blk W (b + 3) 37 #[R]
  f : Blk W (b + 4) 3 #[F]
  k : Blk W (b + 5) 3 #[K]
  a : Blk W (b + 6) 45 #[P]
  s : Blk W (b + 7) 3 #[S]
section
variable {b : Nat} {T O R F K P S V : Value} {W W' : World}
theorem Bx.lt (h : Bx b T O R F K P S W) : b + 8 ≤ W.heap.size := h.s.lt
theorem Bx.grow {row : Option Nat} (h : Bx b T O R F K P S W) (hg : W.grownBy W' row) (hr : ∀ k, row = some k → b + 8 ≤ k) : Bx b T O R F K P S W' :=
  ⟨h.t.grown hg (fun e => by have := hr _ e.symm; omega), h.p.grown hg (fun e => by have := hr _ e.symm; omega), h.o.grown hg (fun e => by have := hr _ e.symm; omega), h.r.grown hg (fun e => by have := hr _ e.symm; omega), h.f.grown hg (fun e => by have := hr _ e.symm; omega), h.k.grown hg (fun e => by have := hr _ e.symm; omega), h.a.grown hg (fun e => by have := hr _ e.symm; omega), h.s.grown hg (fun e => by have := hr _ e.symm; omega)⟩
theorem Bx.below (h : Bx b T O R F K P S W) (hb : Below W.heap.size W W') : Bx b T O R F K P S W' := h.grow (grown_none hb none) (by simp)
theorem Bx.setO (h : Bx b T O R F K P S W) : Bx b T V R F K P S (W.setCell ⟨b + 2, 0, none⟩ V) :=
  ⟨h.t.far (by simp) _, h.p.far (by simp) _, h.o.set_ 0 V, h.r.far (by simp) _, h.f.far (by simp) _, h.k.far (by simp) _, h.a.far (by simp) _, h.s.far (by simp) _⟩
theorem Bx.setR (h : Bx b T O R F K P S W) : Bx b T O V F K P S (W.setCell ⟨b + 3, 0, none⟩ V) :=
  ⟨h.t.far (by simp) _, h.p.far (by simp) _, h.o.far (by simp) _, h.r.set_ 0 V, h.f.far (by simp) _, h.k.far (by simp) _, h.a.far (by simp) _, h.s.far (by simp) _⟩
theorem Bx.setF (h : Bx b T O R F K P S W) : Bx b T O R V K P S (W.setCell ⟨b + 4, 0, none⟩ V) :=
  ⟨h.t.far (by simp) _, h.p.far (by simp) _, h.o.far (by simp) _, h.r.far (by simp) _, h.f.set_ 0 V, h.k.far (by simp) _, h.a.far (by simp) _, h.s.far (by simp) _⟩
theorem Bx.setK (h : Bx b T O R F K P S W) : Bx b T O R F V P S (W.setCell ⟨b + 5, 0, none⟩ V) :=
  ⟨h.t.far (by simp) _, h.p.far (by simp) _, h.o.far (by simp) _, h.r.far (by simp) _, h.f.far (by simp) _, h.k.set_ 0 V, h.a.far (by simp) _, h.s.far (by simp) _⟩
theorem Bx.setA (h : Bx b T O R F K P S W) : Bx b T O R F K V S (W.setCell ⟨b + 6, 0, none⟩ V) :=
  ⟨h.t.far (by simp) _, h.p.far (by simp) _, h.o.far (by simp) _, h.r.far (by simp) _, h.f.far (by simp) _, h.k.far (by simp) _, h.a.set_ 0 V, h.s.far (by simp) _⟩
theorem Bx.setS (h : Bx b T O R F K P S W) : Bx b T O R F K P V (W.setCell ⟨b + 7, 0, none⟩ V) :=
  ⟨h.t.far (by simp) _, h.p.far (by simp) _, h.o.far (by simp) _, h.r.far (by simp) _, h.f.far (by simp) _, h.k.far (by simp) _, h.a.far (by simp) _, h.s.set_ 0 V⟩
end

/-- rows that are told: each whole in a block of its own -/
def TR (W : World) (lo B : Nat) (hs : List Value) (rows : List (List Wd)) : Prop :=
  hs.length = rows.length ∧ ∀ j (h : j < rows.length), ∃ g c cur, hs[j]? = some (.slice (some ⟨g, 0, none⟩) rows[j].length c) ∧ rows[j].length ≤ c ∧ lo ≤ g ∧ g < B ∧ Blk W g 36 cur ∧ cur.toList.take (rows[j].length * 3) = wcells rows[j]
theorem TR.keep {W W' : World} {lo B : Nat} {hs : List Value} {rows : List (List Wd)} {row : Option Nat} (h : TR W lo B hs rows) (hg : W.grownBy W' row) (hr : ∀ k, row = some k → k < lo ∨ B ≤ k ∨ ∃ t cs, t ≠ 36 ∧ Blk W k t cs) : TR W' lo B hs rows := by
  refine ⟨h.1, fun j hj => ?_⟩
  obtain ⟨g, c, cur, h1, h2, h3, h4, h5, h6⟩ := h.2 j hj
  refine ⟨g, c, cur, h1, h2, h3, h4, h5.grown hg (fun e => ?_), h6⟩
  rcases hr g e.symm with h | h | ⟨t, cs, hne, hb⟩
  · omega
  · omega
  · exact Blk.ne_ hb h5 hne rfl
theorem TR.more {W : World} {lo B B' : Nat} {hs : List Value} {rows : List (List Wd)} (h : TR W lo B hs rows) (hB : B ≤ B') : TR W lo B' hs rows :=
  ⟨h.1, fun j hj => by obtain ⟨g, c, cur, h1, h2, h3, h4, h5⟩ := h.2 j hj; exact ⟨g, c, cur, h1, h2, h3, by omega, h5⟩⟩
theorem TR.nil (W : World) (lo B : Nat) : TR W lo B [] [] := ⟨rfl, fun j h => by simp at h⟩
theorem TR.add {W : World} {lo B : Nat} {hs : List Value} {rows : List (List Wd)} (h : TR W lo B hs rows) {g c : Nat} {cur : Array Value} {row : List Wd} (hc : row.length ≤ c) (h1 : lo ≤ g) (h2 : g < B) (h3 : Blk W g 36 cur) (h4 : cur.toList.take (row.length * 3) = wcells row) :
    TR W lo B (hs ++ [.slice (some ⟨g, 0, none⟩) row.length c]) (rows ++ [row]) := by
  refine ⟨by simp [h.1], fun j hj => ?_⟩
  rcases Nat.lt_or_ge j rows.length with hlt | hge
  · obtain ⟨g, c, cur, p1, p2⟩ := h.2 j hlt
    have e : (rows ++ [row])[j] = rows[j] := List.getElem_append_left hlt
    rw [e]
    exact ⟨g, c, cur, by rw [List.getElem?_append_left (by rw [h.1]; exact hlt)]; exact p1, p2⟩
  · have hj2 : j = rows.length := by simp at hj; omega
    subst hj2
    have e : (rows ++ [row])[rows.length] = row := by simp
    rw [e]
    exact ⟨g, c, cur, by rw [← h.1]; simp, hc, h1, h2, h3, h4⟩

/-- an owned row's block, if it has one -/
theorem own_has {w : World} {base : Nat} {e : TypeId} {size n : Nat} {v : Value} {xs : List Value} (h : w.ownsRow base e size v n xs) {k : Nat} (hk : v.ownBlock = some k) : ∃ cur, Blk w k e cur ∧ base ≤ k ∧ k < w.heap.size := by
  rcases h.2 with ⟨rfl, _⟩ | ⟨g, cap, cur, rfl, hb, hh, _⟩
  · simp [Value.ownBlock] at hk
  · have : g = k := by simpa [Value.ownBlock] using hk
    subst this
    exact ⟨cur, hh, hb, (Array.getElem?_eq_some_iff.1 hh).1⟩
theorem own_apart {w : World} {base base' : Nat} {e e' : TypeId} {size size' n n' : Nat} {v v' : Value} {xs xs' : List Value} (h : w.ownsRow base e size v n xs) (h' : w.ownsRow base' e' size' v' n' xs') (hne : e ≠ e') : v.ownBlock = none ∨ v.ownBlock ≠ v'.ownBlock := by
  cases hv : v.ownBlock with
  | none => exact .inl rfl
  | some k =>
    refine .inr fun hk => ?_
    obtain ⟨c1, h1, _⟩ := own_has h hv
    obtain ⟨c2, h2, _⟩ := own_has h' hk.symm
    exact Blk.ne_ h1 h2 hne rfl
theorem own_rebase {w : World} {base base' : Nat} {e : TypeId} {size n : Nat} {v : Value} {xs : List Value} (h : w.ownsRow base e size v n xs) (hb : base' ≤ base) : w.ownsRow base' e size v n xs := by
  refine ⟨h.1, ?_⟩
  rcases h.2 with hn | ⟨g, cap, cur, rfl, hb2, rest⟩
  · exact .inl hn
  · exact .inr ⟨g, cap, cur, rfl, by omega, rest⟩

/-- what is told, and the row under way: memory of the call's own -/
structure Own (b Br : Nat) (hs : List Value) (R O : Value) (row : List Wd) (told : List (List Wd)) (W : World) : Prop where
  lo : b + 8 ≤ Br
  hi : Br ≤ W.heap.size
  r : W.ownsRow Br 36 3 R row.length (wcells row)
  o : W.ownsRow (b + 8) 37 1 O told.length hs
  t : TR W (b + 8) Br hs told
section
variable {b Br : Nat} {hs : List Value} {R O : Value} {row : List Wd} {told : List (List Wd)} {W W' : World}
theorem Own.box (h : Own b Br hs R O row told W) {k : Nat} (hg : W.grownBy W' (some k)) (hk : k < b + 8) : Own b Br hs R O row told W' :=
  ⟨h.lo, Nat.le_trans h.hi hg.size, h.r.kept hg (.inr fun e => by have := (own_lt h.r e).1; have := h.lo; omega), h.o.kept hg (.inr fun e => by have := (own_lt h.o e).1; omega), h.t.keep hg (fun k' e => by cases e; exact .inl hk)⟩
theorem Own.set_ (h : Own b Br hs R O row told W) (i : Nat) (hi : i < 8) (v : Value) : Own b Br hs R O row told (W.setCell ⟨b + i, 0, none⟩ v) := h.box (grown_set W (b + i) 0 v) (by omega)
theorem Own.below (h : Own b Br hs R O row told W) (hb : Below W.heap.size W W') : Own b Br hs R O row told W' :=
  ⟨h.lo, Nat.le_trans h.hi hb.size, h.r.kept (grown_none hb none) (by cases hv : R.ownBlock <;> simp), h.o.kept (grown_none hb none) (by cases hv : O.ownBlock <;> simp), h.t.keep (grown_none hb none) (by simp)⟩
theorem Own.push (h : Own b Br hs R O row told W) (hg : W.grownBy W' R.ownBlock) {R' : Value} {w : Wd} (hr : W'.ownsRow Br 36 3 R' (row.length + 1) (wcells row ++ [.string ⟨w.text.toArray⟩, .int .i64 (w.line : Nat), .int .i64 (w.col : Nat)])) : Own b Br hs R' O (row ++ [w]) told W' :=
  ⟨h.lo, Nat.le_trans h.hi hg.size, by rw [wcells_snoc, List.length_append]; exact hr, h.o.kept hg (own_apart h.o h.r (by decide)), h.t.keep hg (fun k e => .inr (.inl (own_lt h.r e).1))⟩
theorem Own.lay (h : Own b Br hs R O row told W) (hg : W.grownBy W' O.ownBlock) (hne : row ≠ []) {O' : Value} (ho : W'.ownsRow (b + 8) 37 1 O' (told.length + 1) (hs ++ [R])) : Own b W'.heap.size (hs ++ [R]) (.slice none 0 0) O' [] (told ++ [row]) W' := by
  have hr := h.r.kept hg (own_apart h.r h.o (by decide))
  have ht := h.t.keep (W' := W') hg (fun k e => by obtain ⟨cur, h1, _⟩ := own_has h.o e; exact .inr (.inr ⟨_, cur, by decide, h1⟩))
  refine ⟨by have := h.lo; have := h.hi; have := hg.size; omega, Nat.le_refl _, World.ownsRow_nil _ _ _ _, by rw [List.length_append]; exact ho, ?_⟩
  have hl := hr.1
  rcases hr.2 with ⟨rfl, h0⟩ | ⟨g, cap, cur, rfl, hb, hh, hn, _, _, htk⟩
  · exact absurd (List.eq_nil_of_length_eq_zero h0) hne
  · exact (ht.more (Nat.le_trans h.hi hg.size)).add hn (by have := h.lo; omega) (Array.getElem?_eq_some_iff.1 hh).1 hh htk
theorem Own.none_ (h : Own b Br hs R O row told W) : Own b Br hs (.slice none 0 0) O [] told W := ⟨h.lo, h.hi, World.ownsRow_nil _ _ _ _, h.o, h.t⟩
end
end Go.Proofs.Ytnfkeaplglknlaa.words
