/- What a law's argument reads as: a slice of rules. -/
import Derived.Test.YtdjhjgimlpdckaaOpenNums
namespace Go.Proofs.Ytdjhjgimlpdckaa.frame
open Go.Joins Go.ChangeShapes Go.WideShapes Go.ChangeAt Go.RowKit Go.Deep
open Go.Proofs.Ytdjhjgimlpdckaa.aid
open Go.Proofs.Ytdjhjgimlpdckaa.pre (Rul rcells rcells_len rcells_at)

section
variable {H : Type} {enc : TypeId × Value → H} {W : World} {base : Nat} {hd : Bool} {fuel : Nat}

theorem weights_part {e : TypeId} {l : List (DataW H)} {d : DataW H} (h : d ∈ l) {n : Nat} (hn : n ∈ d.weights Try.prog e) : n ∈ DataW.weightsAll Try.prog e l := by
  induction l with
  | nil => cases h
  | cons a r ih =>
    simp only [DataW.weightsAll, List.mem_append]
    rcases List.mem_cons.1 h with rfl | h
    · exact .inl hn
    · exact .inr (ih h)

theorem open_rule {a : Addr} {cs : List Value} {b0 : Nat} {x : DataW H × List MemPlace} (hc : W.cells? b0 a 4 = some cs) (hs : Small 28 x.1) (h : DataW.trod enc Try.prog W base (fun _ => true) hd fuel 28 cs = some x) :
    ∃ e : Rul, W.cell? (a.add 0) = some (.string ⟨e.pre.toArray⟩) ∧ W.cell? (a.add 1) = some (.int .u64 e.every) ∧ W.cell? (a.add 2) = some (.int .u64 e.burst) ∧ W.cell? (a.add 3) = some (.int .u8 e.kind) ∧ e.pre.length ≤ 140737488351232 := by
  obtain ⟨f0, f1, f2, f3, hst, k0, o0, k1, o1, k2, o2, k3, o3, t0, t1, t2, t3⟩ : ∃ f0 f1 f2 f3 : Field, Try.prog.underlying 28 = some (.struct #[f0, f1, f2, f3]) ∧ Try.prog.cellsOf f0.type = 1 ∧ f0.offset = 0 ∧ Try.prog.cellsOf f1.type = 1 ∧ f1.offset = 1 ∧
      Try.prog.cellsOf f2.type = 1 ∧ f2.offset = 2 ∧ Try.prog.cellsOf f3.type = 1 ∧ f3.offset = 3 ∧ f0.type = 9 ∧ f1.type = 26 ∧ f2.type = 26 ∧ f3.type = 5 :=
    ⟨_, _, _, _, Try.underlying28, by kernel_rfl, by kernel_rfl, by kernel_rfl, by kernel_rfl, by kernel_rfl, by kernel_rfl, by kernel_rfl, by kernel_rfl, rfl, rfl, rfl, rfl⟩
  obtain ⟨_, hl, hcell⟩ := World.cells?_some hc
  match cs, hl with
  | [c0, c1, c2, c3], _ =>
    obtain ⟨xs, n, _, hx, _, hlen, hg⟩ := DataW.trod_struct hst h
    match xs, hlen with
    | [y0, y1, y2, y3], _ =>
      have g0 := hg 0 f0 rfl
      have g1 := hg 1 f1 rfl
      have g2 := hg 2 f2 rfl
      have g3 := hg 3 f3 rfl
      rw [o0, k0] at g0
      rw [o1, k1, t1] at g1
      rw [o2, k2, t2] at g2
      rw [o3, k3, t3] at g3
      have e0 : x.1 = .agg [y0.1, y1.1, y2.1, y3.1] := by rw [hx]; rfl
      have hw : Small 9 y0.1 := fun m hm => hs m (by
        rw [e0]
        simp only [DataW.weights, hst]
        refine DataW.weights_mem_each (j := 0) (t := 9) (d := y0.1) ?_ rfl m hm
        simp [t0])
      rw [t0] at g0
      obtain ⟨s, e0, hy0, -⟩ := DataW.trod_string (by kernel_rfl) g0
      obtain ⟨z1, e1, -, -⟩ := DataW.trod_int (k := .u64) (by kernel_rfl) g1
      obtain ⟨z2, e2, -, -⟩ := DataW.trod_int (k := .u64) (by kernel_rfl) g2
      obtain ⟨z3, e3, -, -⟩ := DataW.trod_int (k := .u8) (by kernel_rfl) g3
      simp at e0 e1 e2 e3
      subst e0 e1 e2 e3
      have hsz : s.size ≤ 140737488351232 := hw s.size (by
        have : y0.1 = .lit (.string s.data.toList) := by
          have := congrArg Prod.fst hy0
          simpa using this
        rw [this]
        simp [DataW.weights])
      refine ⟨⟨s.data.toList, z1, z2, z3⟩, ?_, ?_, ?_, ?_, by simpa using hsz⟩
      · rw [hcell 0 (by simp)]
        simp
      · rw [hcell 1 (by simp)]
        simp
      · rw [hcell 2 (by simp)]
        simp
      · rw [hcell 3 (by simp)]
        simp

theorem rcells_get {es : List Rul} {i : Nat} {v : Value} (h : (rcells es)[i]? = some v) : ∃ k, ∃ hk : k < es.length, (i = k * 4 ∧ v = .string ⟨es[k].pre.toArray⟩) ∨ (i = k * 4 + 1 ∧ v = .int .u64 es[k].every) ∨ (i = k * 4 + 2 ∧ v = .int .u64 es[k].burst) ∨ (i = k * 4 + 3 ∧ v = .int .u8 es[k].kind) := by
  have hlt : i < 4 * es.length := by
    rcases Nat.lt_or_ge i (rcells es).length with h2 | h2
    · rwa [rcells_len] at h2
    · rw [List.getElem?_eq_none h2] at h; cases h
  have hk : i / 4 < es.length := by omega
  obtain ⟨h1, h2, h3, h4⟩ := rcells_at es (i / 4) es[i / 4] (List.getElem?_eq_getElem hk)
  refine ⟨i / 4, hk, ?_⟩
  have hm : i % 4 = 0 ∨ i % 4 = 1 ∨ i % 4 = 2 ∨ i % 4 = 3 := by omega
  rcases hm with hm | hm | hm | hm
  · have e : i = 4 * (i / 4) := by omega
    rw [← e, h] at h1
    exact .inl ⟨by omega, Option.some.inj h1⟩
  · have e : i = 4 * (i / 4) + 1 := by omega
    rw [← e, h] at h2
    exact .inr (.inl ⟨by omega, Option.some.inj h2⟩)
  · have e : i = 4 * (i / 4) + 2 := by omega
    rw [← e, h] at h3
    exact .inr (.inr (.inl ⟨by omega, Option.some.inj h3⟩))
  · have e : i = 4 * (i / 4) + 3 := by omega
    rw [← e, h] at h4
    exact .inr (.inr (.inr ⟨by omega, Option.some.inj h4⟩))

theorem open_rules {A : Option Addr} {len cap : Nat} {x : DataW H × List MemPlace} (hs : Small 22 x.1) (hf : DataW.trod enc Try.prog W base (fun _ => true) hd fuel 22 (Value.slice A len cap).cells.toList = some x) :
    ∃ es : List Rul, len = es.length ∧ len ≤ 140737488351232 ∧ (∀ e ∈ es, e.pre.length ≤ 140737488351232) ∧ Row W W.heap.size A (rcells es) := by
  have hu : Try.prog.underlying 22 = some (.slice 28) := by kernel_rfl
  have hb : Try.prog.bytesOf 28 = 40 := by kernel_rfl
  have hC : Try.prog.cellsOf 28 = 4 := by kernel_rfl
  rcases open_slice hu hf with ⟨hcs, _⟩ | ⟨a, l, c, m, n, D, Pl, hcs, _, hl, hm, hmm, hxx, hx⟩
  · simp [Value.cells] at hcs
    obtain ⟨rfl, rfl, rfl⟩ := hcs
    exact ⟨[], rfl, by omega, (fun e h => by cases h), Row.nil_⟩
  · simp [Value.cells] at hcs
    obtain ⟨rfl, rfl, rfl⟩ := hcs
    simp only [if_true] at hmm
    subst hmm
    unfold maxLen at hm
    rw [hC] at hx
    rw [hxx] at hs
    have hw : len ≤ 140737488351232 := by
      have h := hs _ (by simp only [DataW.weights, hu]; exact List.mem_cons_self ..)
      rw [hb] at h
      simp at h
      omega
    obtain ⟨es, hes, hp⟩ := list_choose (fun i (e : Rul) => W.cell? ((a.add (i * 4)).add 0) = some (.string ⟨e.pre.toArray⟩) ∧ W.cell? ((a.add (i * 4)).add 1) = some (.int .u64 e.every) ∧ W.cell? ((a.add (i * 4)).add 2) = some (.int .u64 e.burst) ∧ W.cell? ((a.add (i * 4)).add 3) = some (.int .u8 e.kind) ∧ e.pre.length ≤ 140737488351232) len (fun i hi => by
      obtain ⟨cs', h1, h2⟩ := hx i (by omega)
      refine open_rule h1 ?_ h2
      intro n hn
      refine hs n ?_
      simp only [DataW.weights, hu]
      exact List.mem_cons_of_mem _ (List.mem_append_left _ (weights_part (d := D i) (List.mem_map.2 ⟨i, by simpa using hi, rfl⟩) hn)))
    refine ⟨es, hes.symm, by omega, ?_, ?_⟩
    · intro e he
      obtain ⟨j, hj, rfl⟩ := List.getElem_of_mem he
      exact (hp j hj).2.2.2.2
    · refine row_of (n := len * 4) (f := fun i => (W.cell? (a.add i)).getD default) (fun i hi => ?_) _ (by rw [rcells_len]; omega) ?_
      · have hk : i / 4 < es.length := by omega
        obtain ⟨h1, h2, h3, h4, -⟩ := hp (i / 4) hk
        rw [Go.Deep.add_add] at h1 h2 h3 h4
        have hm4 : i % 4 = 0 ∨ i % 4 = 1 ∨ i % 4 = 2 ∨ i % 4 = 3 := by omega
        rcases hm4 with hm2 | hm2 | hm2 | hm2
        · have e : i / 4 * 4 + 0 = i := by omega
          rw [e] at h1
          rw [h1]
          rfl
        · have e : i / 4 * 4 + 1 = i := by omega
          rw [e] at h2
          rw [h2]
          rfl
        · have e : i / 4 * 4 + 2 = i := by omega
          rw [e] at h3
          rw [h3]
          rfl
        · have e : i / 4 * 4 + 3 = i := by omega
          rw [e] at h4
          rw [h4]
          rfl
      · intro i v hv
        obtain ⟨k, hk, h⟩ := rcells_get hv
        obtain ⟨h1, h2, h3, h4, -⟩ := hp k hk
        rw [Go.Deep.add_add] at h1 h2 h3 h4
        rcases h with ⟨rfl, rfl⟩ | ⟨rfl, rfl⟩ | ⟨rfl, rfl⟩ | ⟨rfl, rfl⟩
        · have e : k * 4 + 0 = k * 4 := by omega
          rw [e] at h1
          simp [h1]
        · simp [h2]
        · simp [h3]
        · simp [h4]
end
end Go.Proofs.Ytdjhjgimlpdckaa.frame
