/- the tree of prefixes in memory. -/
import Derived.Test.YtdjhjgimlpdckaaPreTree
namespace Go.Proofs.Ytdjhjgimlpdckaa.pre
open Go.RowKit Go.ChangeMaps Go.MapKept
open Go.WideElems (Fit rd rg pl rd_val elemAt)
open Go.Maps (Keyed)
open Go.Proofs.Ytdjhjgimlpdckaa.aid

/-- how a node's pointer reads -/
def enc : Option Nat → DataW Unit
  | none => .lit (.int .i64 (-1))
  | some b => .lit (.int .i64 (b : Int))
theorem enc_inj {a b : Option Nat} (h : enc a = enc b) : a = b := by
  cases a <;> cases b <;> simp [enc] at h ⊢ <;> omega
def ptr (o : Option Nat) : Value := .pointer (o.map fun b => ⟨b, 0, none⟩)
def ptrElem : Value → Option (DataW Unit × List MemPlace)
  | .pointer none => some (enc none, [])
  | .pointer (some ⟨b, 0, none⟩) => some (enc (some b), [])
  | _ => none
theorem ptrElem_mk (o : Option Nat) : ptrElem (ptr o) = some (enc o, []) := by cases o <;> rfl
theorem ptrElem_inv {v : Value} {o : Option Nat} {ps : List MemPlace} (h : ptrElem v = some (enc o, ps)) : v = ptr o := by
  unfold ptrElem at h
  split at h
  · simp only [Option.some.injEq, Prod.mk.injEq] at h
    rw [← enc_inj h.1]
    rfl
  · simp only [Option.some.injEq, Prod.mk.injEq] at h
    rw [← enc_inj h.1]
    rfl
  · cases h

theorem law5 : Keyed Try.prog 5 := Maps.int_keyed Try.underlying5
theorem zeroNode (w : World) : (zeroValue 57).run Try.prog w = .ok (.pointer none) w := by kernel_rfl
theorem wf8 (c : UInt8) : (Lit.int .u8 (c.toNat : Int)).wf = true := by
  have := c.toNat_lt
  simp [Lit.wf, IntKind.min, IntKind.max, IntKind.signed, IntKind.bits]
  omega
theorem key8 (c : UInt8) : keyOf Try.prog 5 (.int .u8 (c.toNat : Int)) = some (.int .u8 (c.toNat : Int)) := Maps.keyOf_int_mk Try.underlying5 (wf8 c)

theorem nodup_le : ∀ (n : Nat) (l : List Nat), l.Nodup → (∀ x ∈ l, x < n) → l.length ≤ n
  | 0, l, _, h => by
    cases l with
    | nil => simp
    | cons x l => exact absurd (h x (by simp)) (by omega)
  | n + 1, l, hn, h => by
    have := nodup_le n (l.erase n) (hn.erase n) (fun x hx => by
      have h1 := (List.Nodup.mem_erase_iff hn).1 hx
      have := h x h1.2
      omega)
    by_cases hm : n ∈ l
    · rw [List.length_erase_of_mem hm] at this
      omega
    · rw [List.erase_of_not_mem hm] at this
      omega

theorem few {w : World} {R : Value → Option (DataW Unit × List MemPlace)} {b n : Nat} {D : DataW Unit} (h : w.ownsMap Try.prog 5 R b n D) : w.ownsMap Try.prog 5 R b 256 D := by
  obtain ⟨es, clock, hb, F, hs, hD⟩ := h
  refine ⟨es, clock, hb, F, ?_, hD⟩
  have hn : es.toList.Pairwise (fun x y => x.key ≠ y.key) := ((stamped_iff es clock).1 F.stamped).2.2
  have hr : ∀ x ∈ es.toList, ∃ a : Int, x.key = .int .u8 a ∧ 0 ≤ a ∧ a < 256 := fun x hx => by
    obtain ⟨y, hy⟩ := F.reads x hx
    unfold WideElems.rd at hy
    cases hk : keyOf Try.prog 5 x.key with
    | none => rw [hk] at hy; cases hy
    | some l =>
      obtain ⟨a, e, _, hw⟩ := Maps.keyOf_int_inv Try.underlying5 hk
      refine ⟨a, e, ?_⟩
      simp [Lit.wf, IntKind.min, IntKind.max, IntKind.signed, IntKind.bits] at hw
      omega
  have hl : es.size = (es.toList.map fun x => match x.key with | .int _ a => a.toNat | _ => 0).length := by simp
  rw [hl]
  refine nodup_le 256 _ ?_ ?_
  · rw [List.nodup_iff_pairwise_ne, List.pairwise_map]
    refine List.Pairwise.imp_of_mem ?_ hn
    intro x y hx hy hne e
    obtain ⟨a, ea, a1, a2⟩ := hr x hx
    obtain ⟨c, ec, c1, c2⟩ := hr y hy
    simp only [ea, ec] at e
    exact hne (by rw [ea, ec]; congr 1; omega)
  · intro x hx
    obtain ⟨y, hy, rfl⟩ := List.mem_map.1 hx
    obtain ⟨a, ea, a1, a2⟩ := hr y hy
    simp only [ea]
    omega

/-- block m is a map of nodes by bytes -/
def KidW (w : World) (m : Nat) (f : UInt8 → Option Nat) : Prop :=
  ∃ D, w.ownsMap Try.prog 5 ptrElem m 256 D ∧ ∀ c : UInt8, D.atKey (.int .u8 (c.toNat : Int)) (enc none) = enc (f c)
section
variable {w w' : World} {m : Nat} {f : UInt8 → Option Nat}
theorem KidW.map (h : KidW w m f) : ∃ es clock, w.heap[m]? = some (.map es clock) := by
  obtain ⟨D, ⟨es, clock, hb, _⟩, _⟩ := h
  exact ⟨es, clock, hb⟩
theorem KidW.lt (h : KidW w m f) : m < w.heap.size := by
  obtain ⟨D, h, _⟩ := h
  exact h.lt
theorem KidW.same (h : KidW w m f) (he : w'.heap[m]? = w.heap[m]?) : KidW w' m f := by
  obtain ⟨D, ⟨es, clock, hb, r⟩, hf⟩ := h
  exact ⟨D, ⟨es, clock, he.trans hb, r⟩, hf⟩
theorem KidW.new (w : World) : KidW (w.alloc (.map #[] 0)) w.heap.size (fun _ => none) :=
  ⟨_, (World.ownsMap_made w _ _ _).mono (by omega), fun _ => rfl⟩
theorem KidW.look (h : KidW w m f) (c : UInt8) : (Instr.lookup 51 (.map (some m)) (.int .u8 (c.toNat : Int)) false).run Try.prog w = .ok (ptr (f c)) w := by
  obtain ⟨D, h, hf⟩ := h
  obtain ⟨v, ps, hrun, hv⟩ := h.lookup law5 Try.underlying51 (zeroNode w) (ptrElem_mk none) (key8 c)
  rw [hf] at hv
  rw [hrun, ptrElem_inv hv]
theorem KidW.put (h : KidW w m f) (c : UInt8) (b : Nat) : ∃ w', (Instr.mapUpdate 51 (.map (some m)) (.int .u8 (c.toNat : Int)) (.pointer (some ⟨b, 0, none⟩))).run Try.prog w = .ok () w' ∧ KidW w' m (kidSet f c b) ∧ w.grownBy w' (some m) ∧ w'.heap.size = w.heap.size := by
  obtain ⟨D, h, hf⟩ := h
  obtain ⟨w', hrun, hown, ht⟩ := h.store law5 Try.underlying51 (by unfold maxLen; omega) (key8 c) (ptrElem_mk (some b))
  refine ⟨w', hrun, ⟨_, few hown, fun x => ?_⟩, ht.grown, by obtain ⟨_, _, _, _, _, rfl⟩ := ht; simp [setBlock]⟩
  unfold kidSet
  split
  · next e =>
    subst e
    exact Maps.atKey_put_same h.isMap (law5.key (key8 x)) _ _
  · next e =>
    rw [Maps.atKey_put_other]
    · exact hf x
    · intro e'
      injection e' with _ e'
      exact e (UInt8.toNat_inj.1 (by omega))
end

/-- block b is a node -/
def NodeW (w : World) (b : Nat) (r : Rec) : Prop :=
  ∃ (cs : Array Value) (t : TypeId), Blk w b t cs ∧ t ≠ 28 ∧ cs[0]? = some (.string ⟨r.part.toArray⟩) ∧ cs[1]? = some (ptr r.rule) ∧ cs[2]? = some (.map (some r.map))
section
variable {w w' : World} {b : Nat} {r : Rec}
theorem NodeW.same (h : NodeW w b r) (he : w'.heap[b]? = w.heap[b]?) : NodeW w' b r := by
  obtain ⟨cs, t, hb, rest⟩ := h
  exact ⟨cs, t, he.trans hb, rest⟩
theorem NodeW.lt (h : NodeW w b r) : b < w.heap.size := by
  obtain ⟨cs, t, hb, _⟩ := h
  exact hb.lt
theorem NodeW.cells (h : NodeW w b r) : w.cell? ⟨b, 0, none⟩ = some (.string ⟨r.part.toArray⟩) ∧ w.cell? ⟨b, 1, none⟩ = some (ptr r.rule) ∧ w.cell? ⟨b, 2, none⟩ = some (.map (some r.map)) := by
  obtain ⟨cs, t, hb, _, h0, h1, h2⟩ := h
  exact ⟨(hb.cell 0).trans h0, (hb.cell 1).trans h1, (hb.cell 2).trans h2⟩
theorem NodeW.frozen (h : NodeW w b r) (i : Nat) : w.frozen? ⟨b, i, none⟩ = false := by
  obtain ⟨cs, t, hb, _⟩ := h
  exact hb.frozen i
theorem NodeW.ne_map {f : UInt8 → Option Nat} {m : Nat} (h : NodeW w b r) (k : KidW w m f) : b ≠ m := by
  rintro rfl
  obtain ⟨cs, t, hb, _⟩ := h
  obtain ⟨es, clock, hm⟩ := k.map
  rw [hb] at hm
  cases hm
/-- a node whose first cell is written -/
theorem NodeW.part (h : NodeW w b r) (p : List UInt8) : NodeW (w.setCell ⟨b, 0, none⟩ (.string ⟨p.toArray⟩)) b { r with part := p } := by
  obtain ⟨cs, t, hb, ht, h0, h1, h2⟩ := h
  have hl : 0 < cs.size := by
    rcases Nat.lt_or_ge 0 cs.size with h | h
    · exact h
    · rw [Array.getElem?_eq_none h] at h0; cases h0
  exact ⟨_, t, hb.set_ 0 _, ht, by simp [hl], by simpa using h1, by simpa using h2⟩
theorem NodeW.rule_ (h : NodeW w b r) (ρ : Nat) : NodeW (w.setCell ⟨b, 1, none⟩ (.pointer (some ⟨ρ, 0, none⟩))) b { r with rule := some ρ } := by
  obtain ⟨cs, t, hb, ht, h0, h1, h2⟩ := h
  have hl : 1 < cs.size := by
    rcases Nat.lt_or_ge 1 cs.size with h | h
    · exact h
    · rw [Array.getElem?_eq_none h] at h1; cases h1
  exact ⟨_, t, hb.set_ 1 _, ht, by simpa using h0, by simp [hl, ptr], by simpa using h2⟩
theorem NodeW.kidOnly (h : NodeW w b r) (f : UInt8 → Option Nat) : NodeW w b { r with kid := f } := h
end

structure TreeW (w : World) (base root : Nat) (G : Gr) : Prop where
  shape : Shape root G
  low : ∀ b r, G b = some r → base ≤ b ∧ base ≤ r.map
  node : ∀ b r, G b = some r → NodeW w b r
  kids : ∀ b r, G b = some r → KidW w r.map r.kid
  apart : ∀ b r b' r', G b = some r → G b' = some r' → r.map = r'.map → b = b'

structure Step (w : World) (root : Nat) (G : Gr) (w' : World) (G' : Gr) : Prop where
  os : w'.os = w.os
  tape : w'.tape = w.tape
  output : w'.output = w.output
  size : w.heap.size ≤ w'.heap.size
  frame : ∀ i, i < w.heap.size → (i = root ∨ ∀ b r, G b = some r → i ≠ b ∧ i ≠ r.map) → w'.heap[i]? = w.heap[i]?
  old : ∀ b r, G b = some r → ∃ r', G' b = some r' ∧ r'.path = r.path ∧ r'.rule = r.rule ∧ r'.map = r.map
  new : ∀ b r', G' b = some r' → (∃ r, G b = some r) ∨ (r'.rule = none ∧ w.heap.size ≤ b ∧ w.heap.size ≤ r'.map)

theorem Step.refl (w : World) (root : Nat) (G : Gr) : Step w root G w G :=
  ⟨rfl, rfl, rfl, Nat.le_refl _, fun _ _ _ => rfl, fun b r h => ⟨r, h, rfl, rfl, rfl⟩, fun b r h => .inl ⟨r, h⟩⟩
theorem Step.trans {a b c : World} {root : Nat} {G G' G'' : Gr} (h : Step a root G b G') (k : Step b root G' c G'') : Step a root G c G'' := by
  refine ⟨k.os.trans h.os, k.tape.trans h.tape, k.output.trans h.output, Nat.le_trans h.size k.size, fun i hi hc => ?_, fun x r hx => ?_, fun x r hx => ?_⟩
  · refine (k.frame i (Nat.lt_of_lt_of_le hi h.size) ?_).trans (h.frame i hi hc)
    rcases hc with hc | hc
    · exact .inl hc
    · refine .inr fun x r' hx => ?_
      rcases h.new x r' hx with ⟨r, hr⟩ | ⟨_, h1, h2⟩
      · obtain ⟨r1, e1, _, _, e2⟩ := h.old x r hr
        rw [hx] at e1
        cases e1
        rw [e2]
        exact hc x r hr
      · omega
  · obtain ⟨r1, e1, p1, p2, p3⟩ := h.old x r hx
    obtain ⟨r2, e2, q1, q2, q3⟩ := k.old x r1 e1
    exact ⟨r2, e2, q1.trans p1, q2.trans p2, q3.trans p3⟩
  · rcases k.new x r hx with ⟨r1, e1⟩ | ⟨h1, h2, h3⟩
    · rcases h.new x r1 e1 with h | ⟨h1, h2, h3⟩
      · exact .inl h
      · obtain ⟨r2, e2, q1, q2, q3⟩ := k.old x r1 e1
        rw [hx] at e2
        cases e2
        exact .inr ⟨q2.trans h1, h2, q3 ▸ h3⟩
    · have := h.size
      exact .inr ⟨h1, by omega, by omega⟩
theorem Step.below {w w' : World} {root : Nat} {G : Gr} (h : Below w.heap.size w w') : Step w root G w' G :=
  ⟨h.os, h.tape, h.output, h.size, fun i hi _ => h.block i hi, fun b r h => ⟨r, h, rfl, rfl, rfl⟩, fun b r h => .inl ⟨r, h⟩⟩

theorem TreeW.same {w w' : World} {base root : Nat} {G : Gr} (T : TreeW w base root G) (h : ∀ b r, G b = some r → w'.heap[b]? = w.heap[b]? ∧ w'.heap[r.map]? = w.heap[r.map]?) : TreeW w' base root G :=
  ⟨T.shape, T.low, fun b r hb => (T.node b r hb).same (h b r hb).1, fun b r hb => (T.kids b r hb).same (h b r hb).2, T.apart⟩
theorem TreeW.below {w w' : World} {base root : Nat} {G : Gr} (T : TreeW w base root G) (h : Below w.heap.size w w') : TreeW w' base root G :=
  T.same fun b r hb => ⟨h.block _ (T.node b r hb).lt, h.block _ (T.kids b r hb).lt⟩

/-- a leaf more -/
theorem tree_leaf {w w' : World} {base root : Nat} {G : Gr} (T : TreeW w base root G) {b : Nat} {r : Rec} {c : UInt8} {t : List UInt8} {nb nm : Nat} (hb : G b = some r) (hk : r.kid c = none) (hlen : (r.path ++ c :: t).length ≤ big)
    (hbase : base ≤ w.heap.size) (hnb : w.heap.size ≤ nb) (hnm : w.heap.size ≤ nm) (os : w'.os = w.os) (tape : w'.tape = w.tape) (output : w'.output = w.output) (size : w.heap.size ≤ w'.heap.size)
    (hkeep : ∀ i, i < w.heap.size → i ≠ r.map → w'.heap[i]? = w.heap[i]?)
    (hnode : NodeW w' nb ⟨r.path ++ c :: t, c :: t, none, nm, fun _ => none⟩) (hkid : KidW w' nm (fun _ => none)) (hput : KidW w' r.map (kidSet r.kid c nb)) :
    TreeW w' base root (leaf G b r c (c :: t) nb nm) ∧ Step w root G w' (leaf G b r c (c :: t) nb nm) := by
  have lt : ∀ {i : Nat} {q : Rec}, G i = some q → i < w.heap.size := fun h => (T.node _ _ h).lt
  have mlt : ∀ {i : Nat} {q : Rec}, G i = some q → q.map < w.heap.size := fun h => (T.kids _ _ h).lt
  have hn : G nb = none := by
    cases h : G nb with
    | none => rfl
    | some q => exact absurd (lt h) (by omega)
  have S := shape_leaf (nm := nm) T.shape hb hk hn hlen
  have hnew : leaf G b r c (c :: t) nb nm nb = some ⟨r.path ++ c :: t, c :: t, none, nm, fun _ => none⟩ := by simp [leaf]
  have mapne : ∀ {i : Nat} {q : Rec}, G i = some q → i ≠ r.map := fun h => (T.node _ _ h).ne_map (T.kids _ _ hb)
  refine ⟨⟨S, ?_, ?_, ?_, ?_⟩, ⟨os, tape, output, size, ?_, ?_, ?_⟩⟩
  · intro i q hi
    by_cases e : i = nb
    · subst e
      rw [hnew] at hi
      cases hi
      exact ⟨by omega, by show base ≤ nm; omega⟩
    · obtain ⟨q0, h0, _, _, _, e4, _⟩ := leaf_at hb e hi
      rw [e4]
      exact T.low _ _ h0
  · intro i q hi
    by_cases e : i = nb
    · subst e
      rw [hnew] at hi
      cases hi
      exact hnode
    · obtain ⟨q0, h0, e1, e2, e3, e4, _⟩ := leaf_at hb e hi
      have := (T.node _ _ h0).same (hkeep i (lt h0) (mapne h0))
      unfold NodeW at this ⊢
      rw [e2, e3, e4]
      exact this
  · intro i q hi
    by_cases e : i = nb
    · subst e
      rw [hnew] at hi
      cases hi
      exact hkid
    · obtain ⟨q0, h0, e1, e2, e3, e4, hkk⟩ := leaf_at hb e hi
      rcases hkk with ⟨eb, ek⟩ | ⟨_, er, ek⟩
      · rw [e4, ek]
        exact (T.kids _ _ h0).same (hkeep _ (mlt h0) (fun h => eb (T.apart _ _ _ _ h0 hb h)))
      · rw [e4, ek, er]
        exact hput
  · intro i q j q' hi hj he
    by_cases ei : i = nb
    · by_cases ej : j = nb
      · rw [ei, ej]
      · subst ei
        rw [hnew] at hi
        cases hi
        obtain ⟨q0, h0, _, _, _, e4, _⟩ := leaf_at hb ej hj
        have := mlt h0
        rw [e4] at he
        have he' : nm = q0.map := he
        omega
    · obtain ⟨q0, h0, _, _, _, e4, _⟩ := leaf_at hb ei hi
      by_cases ej : j = nb
      · subst ej
        rw [hnew] at hj
        cases hj
        have := mlt h0
        rw [e4] at he
        have he' : q0.map = nm := he
        omega
      · obtain ⟨q1, h1, _, _, _, e5, _⟩ := leaf_at hb ej hj
        exact T.apart _ _ _ _ h0 h1 (by rw [← e4, ← e5, he])
  · intro i hi hc
    refine hkeep i hi ?_
    rcases hc with rfl | hc
    · obtain ⟨r0, h0, _⟩ := T.shape.top
      exact mapne h0
    · exact (hc b r hb).2
  · intro i q h
    obtain ⟨q', f1, f2, _, f3, f4⟩ := leaf_of (c := c) (s := c :: t) (nm := nm) hb (show i ≠ nb from fun e => by have := lt h; omega) h
    exact ⟨q', f1, f2, f3, f4⟩
  · intro i q hi
    by_cases e : i = nb
    · subst e
      rw [hnew] at hi
      cases hi
      exact .inr ⟨rfl, hnb, hnm⟩
    · obtain ⟨q0, h0, _⟩ := leaf_at hb e hi
      exact .inl ⟨q0, h0⟩

/-- a node parted -/
theorem tree_split {w w' : World} {base root : Nat} {G : Gr} (T : TreeW w base root G) {b : Nat} {r : Rec} {c : UInt8} {ob : Nat} {ro : Rec} {p1 p2 : List UInt8} {d : UInt8} {nb nm : Nat} (hb : G b = some r) (hk : r.kid c = some ob) (ho : G ob = some ro)
    (hp : ro.part = (c :: p1) ++ (d :: p2)) (hbase : base ≤ w.heap.size) (hnb : w.heap.size ≤ nb) (hnm : w.heap.size ≤ nm) (os : w'.os = w.os) (tape : w'.tape = w.tape) (output : w'.output = w.output) (size : w.heap.size ≤ w'.heap.size)
    (hkeep : ∀ i, i < w.heap.size → i ≠ r.map → i ≠ ob → w'.heap[i]? = w.heap[i]?)
    (hnode : NodeW w' nb ⟨r.path ++ c :: p1, c :: p1, none, nm, kidSet (fun _ => none) d ob⟩) (hold : NodeW w' ob { ro with part := d :: p2 })
    (hkid : KidW w' nm (kidSet (fun _ => none) d ob)) (hput : KidW w' r.map (kidSet r.kid c nb)) :
    TreeW w' base root (split G b r c ob ro (c :: p1) (d :: p2) d nb nm) ∧ Step w root G w' (split G b r c ob ro (c :: p1) (d :: p2) d nb nm) := by
  have lt : ∀ {i : Nat} {q : Rec}, G i = some q → i < w.heap.size := fun h => (T.node _ _ h).lt
  have mlt : ∀ {i : Nat} {q : Rec}, G i = some q → q.map < w.heap.size := fun h => (T.kids _ _ h).lt
  have hn : G nb = none := by
    cases h : G nb with
    | none => rfl
    | some q => exact absurd (lt h) (by omega)
  obtain ⟨hob, hpath, S⟩ := shape_split (nm := nm) T.shape hb hk ho hp hn
  have hnew : split G b r c ob ro (c :: p1) (d :: p2) d nb nm nb = some ⟨r.path ++ c :: p1, c :: p1, none, nm, kidSet (fun _ => none) d ob⟩ := by simp [split]
  have mapne : ∀ {i j : Nat} {q q' : Rec}, G i = some q → G j = some q' → i ≠ q'.map := fun h h' => (T.node _ _ h).ne_map (T.kids _ _ h')
  refine ⟨⟨S, ?_, ?_, ?_, ?_⟩, ⟨os, tape, output, size, ?_, ?_, ?_⟩⟩
  · intro i q hi
    by_cases e : i = nb
    · subst e
      rw [hnew] at hi
      cases hi
      exact ⟨by omega, by show base ≤ nm; omega⟩
    · obtain ⟨q0, h0, _, _, e4, _⟩ := split_at hb ho hob e hi
      rw [e4]
      exact T.low _ _ h0
  · intro i q hi
    by_cases e : i = nb
    · subst e
      rw [hnew] at hi
      cases hi
      exact hnode
    · obtain ⟨q0, h0, e1, e3, e4, hpp, _⟩ := split_at hb ho hob e hi
      rcases hpp with ⟨eo, e2⟩ | ⟨eo, er, e2⟩
      · have := (T.node _ _ h0).same (hkeep i (lt h0) (mapne h0 hb) eo)
        unfold NodeW at this ⊢
        rw [e2, e3, e4]
        exact this
      · subst eo
        subst er
        unfold NodeW at hold ⊢
        rw [e2, e3, e4]
        exact hold
  · intro i q hi
    by_cases e : i = nb
    · subst e
      rw [hnew] at hi
      cases hi
      exact hkid
    · obtain ⟨q0, h0, e1, e3, e4, _, hkk⟩ := split_at hb ho hob e hi
      rcases hkk with ⟨eb, ek⟩ | ⟨_, er, ek⟩
      · rw [e4, ek]
        exact (T.kids _ _ h0).same (hkeep _ (mlt h0) (fun h => eb (T.apart _ _ _ _ h0 hb h)) (fun h => mapne ho h0 h.symm))
      · rw [e4, ek, er]
        exact hput
  · intro i q j q' hi hj he
    by_cases ei : i = nb
    · by_cases ej : j = nb
      · rw [ei, ej]
      · subst ei
        rw [hnew] at hi
        cases hi
        obtain ⟨q0, h0, _, _, e4, _⟩ := split_at hb ho hob ej hj
        have := mlt h0
        rw [e4] at he
        have he' : nm = q0.map := he
        omega
    · obtain ⟨q0, h0, _, _, e4, _⟩ := split_at hb ho hob ei hi
      by_cases ej : j = nb
      · subst ej
        rw [hnew] at hj
        cases hj
        have := mlt h0
        rw [e4] at he
        have he' : q0.map = nm := he
        omega
      · obtain ⟨q1, h1, _, _, e5, _⟩ := split_at hb ho hob ej hj
        exact T.apart _ _ _ _ h0 h1 (by rw [← e4, ← e5, he])
  · intro i hi hc
    obtain ⟨r0, h0, _, h1⟩ := T.shape.top
    rcases hc with rfl | hc
    · refine hkeep _ hi (mapne h0 hb) ?_
      rintro rfl
      rw [ho] at h0
      cases h0
      rw [hp] at h1
      cases h1
    · exact hkeep i hi (hc b r hb).2 (hc ob ro ho).1
  · intro i q h
    obtain ⟨q', f1, f2, f3, f4, _⟩ := split_of (c := c) (p1 := c :: p1) (p2 := d :: p2) (d := d) (nm := nm) hb ho (show i ≠ nb from fun e => by have := lt h; omega) h
    exact ⟨q', f1, f2, f3, f4⟩
  · intro i q hi
    by_cases e : i = nb
    · subst e
      rw [hnew] at hi
      cases hi
      exact .inr ⟨rfl, hnb, hnm⟩
    · obtain ⟨q0, h0, _⟩ := split_at hb ho hob e hi
      exact .inl ⟨q0, h0⟩
end Go.Proofs.Ytdjhjgimlpdckaa.pre
