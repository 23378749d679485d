/- What a law's argument reads as: a snapshot. -/
import Derived.Test.YthlaigpopplafaaDoorOpenPack
import Derived.Test.YthlaigpopplafaaDoorPackEs
import Derived.Lib.SmallJoins
namespace Go.Proofs.YthlaigpopplafaaDoor.frame
open Go.Joins Go.ChangeShapes Go.WideShapes Go.ChangeAt Go.RowKit Go.Deep
open Go.Proofs.YthlaigpopplafaaDoor.aid
open Go.Proofs.YthlaigpopplafaaDoor.pack (Ent Snap ecells ecells_len ecells_at)

section
variable {H : Type} {enc : TypeId × Value → H} {W : World} {base : Nat} {hd : Bool} {fuel : Nat}

theorem open_entry {a : Addr} {cs : List Value} {b0 : Nat} {x : DataW H × List MemPlace} (hc : W.cells? b0 a 2 = some cs) (hs : Small 31 x.1) (h : DataW.trod enc Tryd.prog W base (fun _ => true) hd fuel 31 cs = some x) :
    ∃ e : Ent, W.cell? (a.add 0) = some (.string ⟨e.key.toArray⟩) ∧ W.cell? (a.add 1) = some (.int .u64 (e.till : Nat)) ∧ e.till < 18446744073709551616 ∧ e.key.length ≤ 140737488351232 := by
  obtain ⟨f0, f1, hst, k0, o0, k1, o1, t0, t1⟩ : ∃ f0 f1 : Field, Tryd.prog.underlying 31 = some (.struct #[f0, f1]) ∧ Tryd.prog.cellsOf f0.type = 1 ∧ f0.offset = 0 ∧ Tryd.prog.cellsOf f1.type = 1 ∧ f1.offset = 1 ∧ f0.type = 9 ∧ f1.type = 22 :=
    ⟨_, _, Tryd.underlying31, by kernel_rfl, by kernel_rfl, by kernel_rfl, by kernel_rfl, rfl, rfl⟩
  obtain ⟨_, hl, hcell⟩ := World.cells?_some hc
  match cs, hl with
  | [c0, c1], _ =>
    obtain ⟨xs, n, _, hx, _, hlen, hg⟩ := DataW.trod_struct hst h
    match xs, hlen with
    | [y0, y1], _ =>
      have g0 := hg 0 f0 rfl
      have g1 := hg 1 f1 rfl
      rw [o0, k0] at g0
      rw [o1, k1] at g1
      have e0 : x.1 = .agg [y0.1, y1.1] := by rw [hx]; rfl
      have hw : Small 9 y0.1 := fun m hm => hs m (by
        rw [e0]
        simp only [DataW.weights, hst]
        refine DataW.weights_mem_each (j := 0) (t := 9) (d := y0.1) ?_ rfl m hm
        simp [t0])
      rw [t0] at g0
      rw [t1] at g1
      obtain ⟨s, e0, hy0, -⟩ := DataW.trod_string (by kernel_rfl) g0
      obtain ⟨z, e1, -, w1⟩ := DataW.trod_int (k := .u64) (by kernel_rfl) g1
      simp at e0 e1
      subst e0 e1
      have hz := in_u64 w1
      have hsz : s.size ≤ 140737488351232 := hw s.size (by
        have : y0.1 = .lit (.string s.data.toList) := by
          have := congrArg Prod.fst hy0
          simpa using this
        rw [this]
        simp [DataW.weights])
      refine ⟨⟨s.data.toList, z.toNat⟩, ?_, ?_, by show z.toNat < _; omega, by simpa using hsz⟩
      · rw [hcell 0 (by simp)]
        simp
      · rw [hcell 1 (by simp)]
        have : ((z.toNat : Nat) : Int) = z := by omega
        simp [this]

theorem ecells_get {es : List Ent} {i : Nat} {v : Value} (h : (ecells es)[i]? = some v) : ∃ k, ∃ hk : k < es.length, (i = k * 2 ∧ v = .string ⟨es[k].key.toArray⟩) ∨ (i = k * 2 + 1 ∧ v = .int .u64 (es[k].till : Nat)) := by
  have hlt : i < 2 * es.length := by
    rcases Nat.lt_or_ge i (ecells es).length with h2 | h2
    · rwa [ecells_len] at h2
    · rw [List.getElem?_eq_none h2] at h; cases h
  have hk : i / 2 < es.length := by omega
  obtain ⟨h1, h2⟩ := ecells_at es (i / 2) hk
  refine ⟨i / 2, hk, ?_⟩
  rcases Nat.mod_two_eq_zero_or_one i with hm | hm
  · have e : i = 2 * (i / 2) := by omega
    rw [← e, h] at h1
    exact .inl ⟨by omega, Option.some.inj h1⟩
  · have e : i = 2 * (i / 2) + 1 := by omega
    rw [← e, h] at h2
    exact .inr ⟨by omega, Option.some.inj h2⟩

theorem open_entries {v : Value} {x : DataW H × List MemPlace} (hs : Small 23 x.1) (hf : DataW.trod enc Tryd.prog W base (fun _ => true) hd fuel 23 [v] = some x) :
    ∃ (es : List Ent) (A : Option Addr) (c : Nat), v = .slice A es.length c ∧ es.length ≤ 140737488351232 ∧ (∀ e ∈ es, e.till < 18446744073709551616) ∧ (∀ e ∈ es, e.key.length ≤ 140737488351232) ∧ Row W W.heap.size A (ecells es) := by
  have hu : Tryd.prog.underlying 23 = some (.slice 31) := by kernel_rfl
  have hb : Tryd.prog.bytesOf 31 = 24 := by kernel_rfl
  have hC : Tryd.prog.cellsOf 31 = 2 := by kernel_rfl
  rcases open_slice hu hf with ⟨hcs, _⟩ | ⟨a, l, c, m, n, D, Pl, hcs, _, hl, hm, hmm, hxx, hx⟩
  · simp at hcs
    subst hcs
    exact ⟨[], none, 0, rfl, by simp, (fun e h => by cases h), (fun e h => by cases h), Row.nil_⟩
  · simp at hcs
    subst hcs
    simp only [if_true] at hmm
    subst hmm
    unfold maxLen at hm
    rw [hC] at hx
    rw [hxx] at hs
    have hw : l ≤ 140737488351232 := by
      have h := hs _ (by simp only [DataW.weights, hu]; exact List.mem_cons_self ..)
      rw [hb] at h
      simp at h
      omega
    obtain ⟨es, hes, hp⟩ := list_choose (fun i (e : Ent) => W.cell? ((a.add (i * 2)).add 0) = some (.string ⟨e.key.toArray⟩) ∧ W.cell? ((a.add (i * 2)).add 1) = some (.int .u64 (e.till : Nat)) ∧ e.till < 18446744073709551616 ∧ e.key.length ≤ 140737488351232) l (fun i hi => by
      obtain ⟨cs', h1, h2⟩ := hx i (by omega)
      refine open_entry h1 ?_ h2
      intro n hn
      refine hs n ?_
      simp only [DataW.weights, hu]
      exact List.mem_cons_of_mem _ (List.mem_append_left _ (weights_part (d := D i) (List.mem_map.2 ⟨i, by simpa using hi, rfl⟩) hn)))
    refine ⟨es, some a, _, by rw [hes], by omega, ?_, ?_, ?_⟩
    · intro e he
      obtain ⟨j, hj, rfl⟩ := List.getElem_of_mem he
      exact (hp j hj).2.2.1
    · intro e he
      obtain ⟨j, hj, rfl⟩ := List.getElem_of_mem he
      exact (hp j hj).2.2.2
    · refine row_of (n := l * 2) (f := fun i => (W.cell? (a.add i)).getD default) (fun i hi => ?_) _ (by rw [ecells_len]; omega) ?_
      · have hk : i / 2 < es.length := by omega
        obtain ⟨h1, h2, -⟩ := hp (i / 2) hk
        rw [Go.Deep.add_add] at h1 h2
        rcases Nat.mod_two_eq_zero_or_one i with hm2 | hm2
        · have e : i / 2 * 2 + 0 = i := by omega
          rw [e] at h1
          rw [h1]
          rfl
        · have e : i / 2 * 2 + 1 = i := by omega
          rw [e] at h2
          rw [h2]
          rfl
      · intro i v hv
        obtain ⟨k, hk, h⟩ := ecells_get hv
        obtain ⟨h1, h2, -⟩ := hp k hk
        rw [Go.Deep.add_add] at h1 h2
        rcases h with ⟨rfl, rfl⟩ | ⟨rfl, rfl⟩
        · have e : k * 2 + 0 = k * 2 := by omega
          rw [e] at h1
          simp [h1]
        · simp [h2]

theorem open_snap {r : Reach} {b0 : Nat} {v : Value} {d : DataW H} {p : List MemPlace} (hsm : Small 25 d) (hv : Value.okWide Tryd.prog W r b0 25 v) (h : DataW.Trod enc Tryd.prog W base (fun _ => true) hd 25 v d p) :
    ∃ (ck : Nat) (es : List Ent) (A : Option Addr) (c : Nat), v = .agg #[.int .u64 (ck : Nat), .slice A es.length c] ∧ ck < 18446744073709551616 ∧ es.length ≤ 140737488351232 ∧ (∀ e ∈ es, e.till < 18446744073709551616) ∧ (∀ e ∈ es, e.key.length ≤ 140737488351232) ∧ Row W W.heap.size A (ecells es) := by
  obtain ⟨f0, f1, hst, hone, hC, t0, t1⟩ : ∃ f0 f1 : Field, Tryd.prog.underlying 25 = some (.struct #[f0, f1]) ∧ oneCellFields Tryd.prog #[f0, f1] = true ∧ Tryd.prog.cellsOf 25 = 2 ∧ f0.type = 22 ∧ f1.type = 23 :=
    ⟨_, _, Tryd.underlying25, by kernel_rfl, by kernel_rfl, rfl, rfl⟩
  obtain ⟨v0, v1, y0, y1, n, rfl, rfl, rfl, g0, g1⟩ := open_agg2 hst hone hC hv h
  have hw : Small 23 y1.1 := fun m hm => hsm m (by
    simp only [DataW.weights, hst]
    refine DataW.weights_mem_each (j := 1) (t := 23) (d := y1.1) ?_ rfl m hm
    simp [t1])
  rw [t0] at g0
  rw [t1] at g1
  obtain ⟨z, e0, -, w0⟩ := DataW.trod_int (k := .u64) (by kernel_rfl) g0
  obtain ⟨es, A, c, rfl, h1, h2, h3, h4⟩ := open_entries hw g1
  simp at e0
  subst e0
  have hz := in_u64 w0
  refine ⟨z.toNat, es, A, c, ?_, by omega, h1, h2, h3, h4⟩
  have : ((z.toNat : Nat) : Int) = z := by omega
  rw [this]
end
end Go.Proofs.YthlaigpopplafaaDoor.frame
