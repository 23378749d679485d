/- Numbers by their names in a rendered head, in plain Lean. No program here. -/
import Derived.Test.YtalehfdcebabnaaBackPlainB
namespace Go.Proofs.Ytalehfdcebabnaa.back
open Go.Proofs.Ytalehfdcebabnaa.head

theorem hit_ne {nm n : List UInt8} (hp : nm.all plain = true) (hq : n.all plain = true) (hne : nm ≠ n) (r : List UInt8) : hit nm (n ++ (colon ++ r)) = none := by
  refine hit_not fun h => ?_
  obtain ⟨t, ht⟩ := h
  have c1 := cut_at (x := 58) (y := 32) t (plain_58 hp)
  have c2 := cut_at (x := 58) (y := 32) r (plain_58 hq)
  have e : nm ++ 58 :: 32 :: t = n ++ 58 :: 32 :: r := by simpa [colon] using ht
  rw [e, c2] at c1
  simp only [Prod.mk.injEq] at c1
  exact hne c1.1.symm
theorem hit_lt {n : List UInt8} {v : Int} (hv : 0 ≤ v ∧ v ≤ 18446744073709551615) : hit n (ltext (n, v)) = some v.toNat := hit_line n v.toNat (by omega)
theorem hit_lo {nm n : List UInt8} (v : Int) (hp : nm.all plain = true) (hq : n.all plain = true) (hne : nm ≠ n) : hit nm (ltext (n, v)) = none := hit_ne hp hq hne _

theorem fields_two {a : Ans} (hF : Fine a) (hc : a.code = 2) (hr : a.retry = true) :
    field (render a) nLimit = some a.limit.toNat ∧ field (render a) nNanos = some a.nanos.toNat ∧ field (render a) nAfter = some a.after.toNat ∧ field (render a) nError = none := by
  obtain ⟨p1, p2, p3, p4, p5, p6, p7, p8⟩ := names_plain
  have h := (render_lines (by unfold isCode; omega) hF).1
  obtain ⟨h0, h1, h2, h3, h4, h5, h6, h7, h8⟩ := hF
  have hf : fls a = [(nLimit, a.limit), (nLeft, a.left), (nReset, a.reset), (nAfter, a.after), (nNanos, a.nanos)] := by
    unfold fls
    rw [if_neg (by omega), if_pos hc, hr]
    rfl
  rw [hf] at h
  have hd : ∀ nm, field (render a) nm = List.findSome? (hit nm) [ltext (nLimit, a.limit), ltext (nLeft, a.left), ltext (nReset, a.reset), ltext (nAfter, a.after), ltext (nNanos, a.nanos), []] := by
    intro nm
    rw [field_firsts, h]
    rfl
  refine ⟨?_, ?_, ?_, ?_⟩
  · rw [hd, List.findSome?_cons, hit_lt h2]
  · rw [hd, List.findSome?_cons, hit_lo _ p5 p1 (by decide), List.findSome?_cons, hit_lo _ p5 p2 (by decide), List.findSome?_cons, hit_lo _ p5 p3 (by decide), List.findSome?_cons, hit_lo _ p5 p4 (by decide), List.findSome?_cons, hit_lt h6]
  · rw [hd, List.findSome?_cons, hit_lo _ p4 p1 (by decide), List.findSome?_cons, hit_lo _ p4 p2 (by decide), List.findSome?_cons, hit_lo _ p4 p3 (by decide), List.findSome?_cons, hit_lt h5]
  · rw [hd, List.findSome?_cons, hit_lo _ p6 p1 (by decide), List.findSome?_cons, hit_lo _ p6 p2 (by decide), List.findSome?_cons, hit_lo _ p6 p3 (by decide), List.findSome?_cons, hit_lo _ p6 p4 (by decide), List.findSome?_cons, hit_lo _ p6 p5 (by decide), List.findSome?_cons, hit_nil]
    rfl
theorem fields_eight {a : Ans} (hF : Fine a) (hc : a.code = 8) : field (render a) nError = none ∧ field (render a) nLength = some a.body.length := by
  obtain ⟨p1, p2, p3, p4, p5, p6, p7, p8⟩ := names_plain
  have h := (render_lines (by unfold isCode; omega) hF).1
  obtain ⟨h0, h1, h2, h3, h4, h5, h6, h7, h8⟩ := hF
  have hf : fls a = [(nLength, (a.body.length : Int))] := by
    unfold fls
    rw [if_neg (by omega), if_neg (by omega), if_neg (by omega), if_neg (by omega), if_neg (by omega), if_neg (by omega), if_pos hc]
  rw [hf] at h
  have hd : ∀ nm, field (render a) nm = List.findSome? (hit nm) [ltext (nLength, (a.body.length : Int)), []] := by
    intro nm
    rw [field_firsts, h]
    rfl
  refine ⟨?_, ?_⟩
  · rw [hd, List.findSome?_cons, hit_lo _ p6 p8 (by decide), List.findSome?_cons, hit_nil]
    rfl
  · rw [hd, List.findSome?_cons, hit_lt (by omega)]
    simp
end Go.Proofs.Ytalehfdcebabnaa.back
