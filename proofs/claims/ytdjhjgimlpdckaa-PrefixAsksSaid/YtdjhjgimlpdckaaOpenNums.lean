/- What a law's argument reads as: a slice of rules' numbers. -/
import Derived.Test.YtdjhjgimlpdckaaOpen
import Derived.Test.YtdjhjgimlpdckaaPrePolicy
import Derived.Deep.Slices
import Derived.Lib.SmallJoins
namespace Go.Proofs.Ytdjhjgimlpdckaa.frame
open Go.Joins Go.ChangeShapes Go.WideShapes Go.ChangeAt Go.RowKit Go.Deep
open Go.Proofs.Ytdjhjgimlpdckaa.aid
open Go.Proofs.Ytdjhjgimlpdckaa.pre (Num Nums ncells ncells_len ncells_at)

theorem in_u32 {x : Int} (h : (Lit.int .u32 x).wf = true) : 0 ≤ x ∧ x ≤ 4294967295 := by simpa [Lit.wf, IntKind.min, IntKind.max, IntKind.signed, IntKind.bits] using h
theorem list_choose {α : Type} (p : Nat → α → Prop) : ∀ n, (∀ i, i < n → ∃ x, p i x) → ∃ l : List α, l.length = n ∧ ∀ i (h : i < l.length), p i l[i]
  | 0, _ => ⟨[], rfl, fun i h => by simp at h⟩
  | n + 1, h => by
    obtain ⟨l, hl, hp⟩ := list_choose p n fun i hi => h i (by omega)
    obtain ⟨x, hx⟩ := h n (by omega)
    refine ⟨l ++ [x], by simp [hl], fun i hi => ?_⟩
    by_cases hlt : i < l.length
    · rw [List.getElem_append_left hlt]
      exact hp i hlt
    · have : i = l.length := by simp at hi; omega
      subst this
      rw [List.getElem_append_right (Nat.le_refl _)]
      simp only [Nat.sub_self, List.getElem_cons_zero]
      rw [hl]
      exact hx

section
variable {H : Type} {enc : TypeId × Value → H} {W : World} {base : Nat} {hd : Bool} {fuel : Nat}
theorem open_u8s' {cs : List Value} {x : DataW H × List MemPlace} (hf : DataW.trod enc Try.prog W base (fun _ => true) hd fuel 25 cs = some x) :
    ∃ (A : Option Addr) (c : Nat) (l : List UInt8), cs = [.slice A l.length c] ∧ l.length ≤ 9223372036854775807 ∧ Row W W.heap.size A (u8s l) := by
  have hform : ∃ A len c, cs = [.slice A len c] := by
    rcases open_ints (k := .u8) (e := 5) (by kernel_rfl) (by kernel_rfl) (by kernel_rfl) hf with ⟨hcs, _⟩ | ⟨a, len, cap, zs, hcs, _⟩
    · exact ⟨none, 0, 0, hcs⟩
    · exact ⟨some a, len, cap, hcs⟩
  obtain ⟨A, len, c, rfl⟩ := hform
  obtain ⟨l, rfl, hl, hr⟩ := open_u8s (A := A) (len := len) (cap := c) hf
  exact ⟨A, c, l, rfl, hl, hr⟩

theorem open_num {a : Addr} {cs : List Value} {b0 : Nat} {x : DataW H × List MemPlace} (hc : W.cells? b0 a 4 = some cs) (h : DataW.trod enc Try.prog W base (fun _ => true) hd fuel 47 cs = some x) :
    ∃ e : Num, W.cell? (a.add 0) = some (.slice e.A e.pre.length e.c) ∧ W.cell? (a.add 1) = some (.int .u32 (e.every : Nat)) ∧ W.cell? (a.add 2) = some (.int .u16 (e.burst : Nat)) ∧ W.cell? (a.add 3) = some (.int .u8 (e.kind : Nat)) ∧
      Row W W.heap.size e.A (u8s e.pre) ∧ e.pre.length ≤ 9223372036854775807 ∧ e.every < 4294967296 ∧ e.burst < 65536 ∧ e.kind < 256 := by
  obtain ⟨f0, f1, f2, f3, hst, k0, o0, k1, o1, k2, o2, k3, o3, t0, t1, t2, t3⟩ : ∃ f0 f1 f2 f3 : Field, Try.prog.underlying 47 = some (.struct #[f0, f1, f2, f3]) ∧ Try.prog.cellsOf f0.type = 1 ∧ f0.offset = 0 ∧ Try.prog.cellsOf f1.type = 1 ∧ f1.offset = 1 ∧
      Try.prog.cellsOf f2.type = 1 ∧ f2.offset = 2 ∧ Try.prog.cellsOf f3.type = 1 ∧ f3.offset = 3 ∧ f0.type = 25 ∧ f1.type = 45 ∧ f2.type = 23 ∧ f3.type = 5 :=
    ⟨_, _, _, _, Try.underlying47, by kernel_rfl, by kernel_rfl, by kernel_rfl, by kernel_rfl, by kernel_rfl, by kernel_rfl, by kernel_rfl, by kernel_rfl, rfl, rfl, rfl, rfl⟩
  obtain ⟨_, hl, hcell⟩ := World.cells?_some hc
  match cs, hl with
  | [c0, c1, c2, c3], _ =>
    obtain ⟨xs, n, _, hx, _, hlen, hg⟩ := DataW.trod_struct hst h
    match xs, hlen with
    | [y0, y1, y2, y3], _ =>
      have g0 := hg 0 f0 rfl
      have g1 := hg 1 f1 rfl
      have g2 := hg 2 f2 rfl
      have g3 := hg 3 f3 rfl
      rw [o0, k0, t0] at g0
      rw [o1, k1, t1] at g1
      rw [o2, k2, t2] at g2
      rw [o3, k3, t3] at g3
      obtain ⟨A, c, l, e0, hll, hrow⟩ := open_u8s' g0
      obtain ⟨z1, e1, -, w1⟩ := DataW.trod_int (k := .u32) (by kernel_rfl) g1
      obtain ⟨z2, e2, -, w2⟩ := DataW.trod_int (k := .u16) (by kernel_rfl) g2
      obtain ⟨z3, e3, -, w3⟩ := DataW.trod_int (k := .u8) (by kernel_rfl) g3
      simp at e0 e1 e2 e3
      subst e0 e1 e2 e3
      have b1 := in_u32 w1
      have b2 := in_u16 w2
      have b3 := in_u8 w3
      refine ⟨⟨l, A, c, z1.toNat, z2.toNat, z3.toNat⟩, ?_, ?_, ?_, ?_, hrow, hll, by show z1.toNat < _; omega, by show z2.toNat < _; omega, by show z3.toNat < _; omega⟩
      · rw [hcell 0 (by simp)]
        simp
      · rw [hcell 1 (by simp)]
        have : ((z1.toNat : Nat) : Int) = z1 := by omega
        simp [this]
      · rw [hcell 2 (by simp)]
        have : ((z2.toNat : Nat) : Int) = z2 := by omega
        simp [this]
      · rw [hcell 3 (by simp)]
        have : ((z3.toNat : Nat) : Int) = z3 := by omega
        simp [this]

theorem ncells_get {es : List Num} {i : Nat} {v : Value} (h : (ncells es)[i]? = some v) : ∃ k, ∃ hk : k < es.length, (i = k * 4 ∧ v = .slice es[k].A es[k].pre.length es[k].c) ∨ (i = k * 4 + 1 ∧ v = .int .u32 (es[k].every : Nat)) ∨ (i = k * 4 + 2 ∧ v = .int .u16 (es[k].burst : Nat)) ∨ (i = k * 4 + 3 ∧ v = .int .u8 (es[k].kind : Nat)) := by
  have hlt : i < 4 * es.length := by
    rcases Nat.lt_or_ge i (ncells es).length with h2 | h2
    · rwa [ncells_len] at h2
    · rw [List.getElem?_eq_none h2] at h; cases h
  have hk : i / 4 < es.length := by omega
  obtain ⟨h1, h2, h3, h4⟩ := ncells_at es (i / 4) es[i / 4] (List.getElem?_eq_getElem hk)
  refine ⟨i / 4, hk, ?_⟩
  have hm : i % 4 = 0 ∨ i % 4 = 1 ∨ i % 4 = 2 ∨ i % 4 = 3 := by omega
  rcases hm with hm | hm | hm | hm
  · have e : i = 4 * (i / 4) := by omega
    rw [← e, h] at h1
    exact .inl ⟨by omega, Option.some.inj h1⟩
  · have e : i = 4 * (i / 4) + 1 := by omega
    rw [← e, h] at h2
    exact .inr (.inl ⟨by omega, Option.some.inj h2⟩)
  · have e : i = 4 * (i / 4) + 2 := by omega
    rw [← e, h] at h3
    exact .inr (.inr (.inl ⟨by omega, Option.some.inj h3⟩))
  · have e : i = 4 * (i / 4) + 3 := by omega
    rw [← e, h] at h4
    exact .inr (.inr (.inr ⟨by omega, Option.some.inj h4⟩))

theorem open_nums {A : Option Addr} {len cap : Nat} {x : DataW H × List MemPlace} (hf : DataW.trod enc Try.prog W base (fun _ => true) hd fuel 24 (Value.slice A len cap).cells.toList = some x) :
    ∃ ns : List Num, len = ns.length ∧ len ≤ 9223372036854775807 ∧ Nums W W.heap.size A ns := by
  have hu : Try.prog.underlying 24 = some (.slice 47) := by kernel_rfl
  have hC : Try.prog.cellsOf 47 = 4 := by kernel_rfl
  rcases open_slice hu hf with ⟨hcs, _⟩ | ⟨a, l, c, m, n, D, Pl, hcs, _, hl, hm, hmm, hxx, hx⟩
  · simp [Value.cells] at hcs
    obtain ⟨rfl, rfl, rfl⟩ := hcs
    exact ⟨[], rfl, by omega, Row.nil_, fun x h => by cases h⟩
  · simp [Value.cells] at hcs
    obtain ⟨rfl, rfl, rfl⟩ := hcs
    simp only [if_true] at hmm
    subst hmm
    unfold maxLen at hm
    rw [hC] at hx
    obtain ⟨es, hes, hp⟩ := list_choose (fun i (e : Num) => W.cell? ((a.add (i * 4)).add 0) = some (.slice e.A e.pre.length e.c) ∧ W.cell? ((a.add (i * 4)).add 1) = some (.int .u32 (e.every : Nat)) ∧ W.cell? ((a.add (i * 4)).add 2) = some (.int .u16 (e.burst : Nat)) ∧ W.cell? ((a.add (i * 4)).add 3) = some (.int .u8 (e.kind : Nat)) ∧
      Row W W.heap.size e.A (u8s e.pre) ∧ e.pre.length ≤ 9223372036854775807 ∧ e.every < 4294967296 ∧ e.burst < 65536 ∧ e.kind < 256) len (fun i hi => by
      obtain ⟨cs', h1, h2⟩ := hx i (by omega)
      exact open_num h1 h2)
    refine ⟨es, hes.symm, by omega, ?_, ?_⟩
    · refine row_of (n := len * 4) (f := fun i => (W.cell? (a.add i)).getD default) (fun i hi => ?_) _ (by rw [ncells_len]; omega) ?_
      · have hk : i / 4 < es.length := by omega
        obtain ⟨h1, h2, h3, h4, -⟩ := hp (i / 4) hk
        rw [Go.Deep.add_add] at h1 h2 h3 h4
        have hm4 : i % 4 = 0 ∨ i % 4 = 1 ∨ i % 4 = 2 ∨ i % 4 = 3 := by omega
        rcases hm4 with hm2 | hm2 | hm2 | hm2
        · have e : i / 4 * 4 + 0 = i := by omega
          rw [e] at h1
          rw [h1]
          rfl
        · have e : i / 4 * 4 + 1 = i := by omega
          rw [e] at h2
          rw [h2]
          rfl
        · have e : i / 4 * 4 + 2 = i := by omega
          rw [e] at h3
          rw [h3]
          rfl
        · have e : i / 4 * 4 + 3 = i := by omega
          rw [e] at h4
          rw [h4]
          rfl
      · intro i v hv
        obtain ⟨k, hk, h⟩ := ncells_get hv
        obtain ⟨h1, h2, h3, h4, -⟩ := hp k hk
        rw [Go.Deep.add_add] at h1 h2 h3 h4
        rcases h with ⟨rfl, rfl⟩ | ⟨rfl, rfl⟩ | ⟨rfl, rfl⟩ | ⟨rfl, rfl⟩
        · have e : k * 4 + 0 = k * 4 := by omega
          rw [e] at h1
          simp [h1]
        · simp [h2]
        · simp [h3]
        · simp [h4]
    · intro e he
      obtain ⟨j, hj, rfl⟩ := List.getElem_of_mem he
      obtain ⟨_, _, _, _, h5, h6, h7, h8, h9⟩ := hp j hj
      exact ⟨h5, h6, h7, h8, h9⟩
end
end Go.Proofs.Ytdjhjgimlpdckaa.frame
