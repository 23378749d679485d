/- What a law's argument reads as: an answer. -/
import Derived.Test.YtcgcfgomakaacaaOpenLen
import Derived.Test.YtcgcfgomakaacaaHeadClean
import Derived.Lib.SmallJoins
namespace Go.Proofs.Ytcgcfgomakaacaa.frame
open Go.Joins Go.ChangeShapes Go.WideShapes Go.ChangeAt Go.RowKit Go.Deep
open Go.Proofs.Ytcgcfgomakaacaa.aid

section
variable {H : Type} {enc : TypeId × Value → H} {W : World} {base : Nat} {hd : Bool} {fuel : Nat}

theorem open_u8s_cell {v : Value} {x : DataW H × List MemPlace} (hf : DataW.trod enc Try.prog W base (fun _ => true) hd fuel 25 [v] = some x) (hs : Small 25 x.1) :
    ∃ (l : List UInt8) (A : Option Addr) (c : Nat), v = .slice A l.length c ∧ l.length ≤ c ∧ l.length ≤ 140737488351232 ∧ Row W W.heap.size A (u8s l) := by
  have hv : ∃ A len c, v = .slice A len c ∧ len ≤ c := by
    rcases open_ints (e := 5) (k := .u8) (by kernel_rfl) (by kernel_rfl) (by kernel_rfl) hf with ⟨hcs, _⟩ | ⟨y, len, c, zs, hcs, _, hl, _⟩
    · injection hcs with h _
      exact ⟨none, 0, 0, h, Nat.le_refl _⟩
    · injection hcs with h _
      exact ⟨some y, len, c, h, hl⟩
  obtain ⟨A, len, c, rfl, hlc⟩ := hv
  have hf' : DataW.trod enc Try.prog W base (fun _ => true) hd fuel 25 (Value.slice A len c).cells.toList = some x := hf
  have hsm := small_u8s (d := x.1) (p := x.2) hs hf'
  obtain ⟨l, rfl, -, hr⟩ := open_u8s hf'
  exact ⟨l, A, c, rfl, hlc, hsm, hr⟩

theorem in_u16' {x : Int} (h : (Lit.int .u16 x).wf = true) : 0 ≤ x ∧ x ≤ 65535 := in_u16 h

theorem open_ans {r : Reach} {b0 : Nat} {v : Value} {d : DataW H} {p : List MemPlace} (hsm : Small 27 d) (hv : Value.okWide Try.prog W r b0 27 v) (h : DataW.Trod enc Try.prog W base (fun _ => true) hd 27 v d p) :
    ∃ (a : head.Ans) (A : Option Addr) (c : Nat), v = head.ansV a A c ∧ head.Fine a ∧ a.body.length ≤ c ∧ Row W W.heap.size A (u8s a.body) := by
  obtain ⟨f0, f1, f2, f3, f4, f5, f6, f7, f8, f9, hs, hone, hC⟩ : ∃ f0 f1 f2 f3 f4 f5 f6 f7 f8 f9 : Field, Try.prog.underlying 27 = some (.struct #[f0, f1, f2, f3, f4, f5, f6, f7, f8, f9]) ∧ oneCellFields Try.prog #[f0, f1, f2, f3, f4, f5, f6, f7, f8, f9] = true ∧
      (Try.prog.cellsOf 27 = 10 ∧ f0.type = 5 ∧ f1.type = 23 ∧ f2.type = 24 ∧ f3.type = 24 ∧ f4.type = 24 ∧ f5.type = 24 ∧ f6.type = 24 ∧ f7.type = 4 ∧ f8.type = 3 ∧ f9.type = 25) :=
    ⟨_, _, _, _, _, _, _, _, _, _, Try.underlying27, by kernel_rfl, by kernel_rfl, rfl, rfl, rfl, rfl, rfl, rfl, rfl, rfl, rfl, rfl⟩
  obtain ⟨hC, t0, t1, t2, t3, t4, t5, t6, t7, t8, t9⟩ := hC
  obtain ⟨cs, rfl, hsz⟩ := okWide_struct hs hv
  obtain ⟨l⟩ := cs
  match l, hsz.trans hC with
  | [c0, c1, c2, c3, c4, c5, c6, c7, c8, c9], _ =>
    obtain ⟨fuel, hf⟩ := h
    obtain ⟨xs, n, _, hx, _, hlen, hg⟩ := DataW.trod_struct hs hf
    match xs, hlen with
    | [y0, y1, y2, y3, y4, y5, y6, y7, y8, y9], _ =>
      simp only [Prod.mk.injEq] at hx
      have g0 := hg 0 f0 rfl
      have g1 := hg 1 f1 rfl
      have g2 := hg 2 f2 rfl
      have g3 := hg 3 f3 rfl
      have g4 := hg 4 f4 rfl
      have g5 := hg 5 f5 rfl
      have g6 := hg 6 f6 rfl
      have g7 := hg 7 f7 rfl
      have g8 := hg 8 f8 rfl
      have g9 := hg 9 f9 rfl
      obtain ⟨o0, k0⟩ := hone_of hone 0 f0 rfl
      obtain ⟨o1, k1⟩ := hone_of hone 1 f1 rfl
      obtain ⟨o2, k2⟩ := hone_of hone 2 f2 rfl
      obtain ⟨o3, k3⟩ := hone_of hone 3 f3 rfl
      obtain ⟨o4, k4⟩ := hone_of hone 4 f4 rfl
      obtain ⟨o5, k5⟩ := hone_of hone 5 f5 rfl
      obtain ⟨o6, k6⟩ := hone_of hone 6 f6 rfl
      obtain ⟨o7, k7⟩ := hone_of hone 7 f7 rfl
      obtain ⟨o8, k8⟩ := hone_of hone 8 f8 rfl
      obtain ⟨o9, k9⟩ := hone_of hone 9 f9 rfl
      rw [o0, k0] at g0
      rw [o1, k1] at g1
      rw [o2, k2] at g2
      rw [o3, k3] at g3
      rw [o4, k4] at g4
      rw [o5, k5] at g5
      rw [o6, k6] at g6
      rw [o7, k7] at g7
      rw [o8, k8] at g8
      rw [o9, k9] at g9
      have hw : Small 25 y9.1 := fun m hm => hsm m (by
        rw [hx.1]
        simp only [DataW.weights, hs]
        refine DataW.weights_mem_each (j := 9) (t := 25) (d := y9.1) ?_ rfl m hm
        simp [t9])
      rw [t0] at g0
      rw [t1] at g1
      rw [t2] at g2
      rw [t3] at g3
      rw [t4] at g4
      rw [t5] at g5
      rw [t6] at g6
      rw [t7] at g7
      rw [t8] at g8
      rw [t9] at g9
      obtain ⟨a0, e0, -, w0⟩ := DataW.trod_int (k := .u8) (by kernel_rfl) g0
      obtain ⟨a1, e1, -, w1⟩ := DataW.trod_int (k := .u16) (by kernel_rfl) g1
      obtain ⟨a2, e2, -, w2⟩ := DataW.trod_int (k := .u64) (by kernel_rfl) g2
      obtain ⟨a3, e3, -, w3⟩ := DataW.trod_int (k := .u64) (by kernel_rfl) g3
      obtain ⟨a4, e4, -, w4⟩ := DataW.trod_int (k := .u64) (by kernel_rfl) g4
      obtain ⟨a5, e5, -, w5⟩ := DataW.trod_int (k := .u64) (by kernel_rfl) g5
      obtain ⟨a6, e6, -, w6⟩ := DataW.trod_int (k := .u64) (by kernel_rfl) g6
      obtain ⟨a7, e7, -⟩ := DataW.trod_bool (by kernel_rfl) g7
      obtain ⟨a8, e8, -, w8⟩ := DataW.trod_int (k := .i64) (by kernel_rfl) g8
      obtain ⟨l9, A, c, e9, h9c, h9l, h9r⟩ := open_u8s_cell (v := c9) (by simpa [Value.cells] using g9) hw
      simp [Value.cells] at e0 e1 e2 e3 e4 e5 e6 e7 e8
      subst e0 e1 e2 e3 e4 e5 e6 e7 e8 e9
      exact ⟨⟨a0, a1, a2, a3, a4, a5, a6, a7, a8, l9⟩, A, c, rfl, ⟨in_u8 w0, in_u16 w1, in_u64 w2, in_u64 w3, in_u64 w4, in_u64 w5, in_u64 w6, in_i64 w8, h9l⟩, h9c, h9r⟩
end
end Go.Proofs.Ytcgcfgomakaacaa.frame
