/- append onto a row that has no room left, whosever it is; the source a row, nil let in. -/
import Derived.Test.YtalehfdcebabnaaAppend
import Derived.ArgAppend
namespace Go.Proofs.Ytalehfdcebabnaa.aid
open Go.RowKit

section
variable {P : Program} (w : World)
theorem run_append_full (t ty e : TypeId) (i : TypeInfo) (z : Value) (bytes : Nat) (ht : P.underlying t = some (.slice e)) (hi : P.info? e = some i) (hz : i.zero = some z)
    (hsize : i.size = 1) (hby : i.bytes = bytes) (hzs : z.cells.size = 1) (B0 g n : Nat) (olds : List Value) (hn : olds.length = n) (hpos : 0 < n) (hro : Row w B0 (some ⟨g, 0, none⟩) olds) (hB0 : B0 ≤ w.heap.size)
    (B : Nat) (A : Option Addr) (m c : Nat) (news : List Value) (hl : news.length = m) (hr : Row w B A news)
    (h63 : n + m ≤ maxLen) (hbytes : (n + m) * bytes ≤ 140737488355328) :
    ∃ A' c' w', (Builtin.append_ #[t, t] ty #[.slice (some ⟨g, 0, none⟩) n n, .slice A m c]).run P w = .ok (.slice A' (n + m) c') w' ∧ n + m ≤ c' ∧ Row w' w'.heap.size A' (olds ++ news) ∧ Below w.heap.size w w' := by
  by_cases hm : m = 0
  · subst hm
    have hnil : news = [] := List.eq_nil_of_length_eq_zero hl
    subst hnil
    refine ⟨some ⟨g, 0, none⟩, n, w, ?_, Nat.le_refl _, by rw [List.append_nil]; exact hro.more hB0, Below.refl _ _⟩
    cases A <;> simp [Builtin.append_, run_underlying ht, sizeOf, typeInfo, hi, Builtin.lenOf, Builtin.firstCells, storeCells, go_sem]
  · obtain ⟨b, off, rfl, hb, hc⟩ := hr.at_ (k := 0) (by omega)
    have holds : ∀ j u, olds[j]? = some u → w.cell? ((⟨g, 0, none⟩ : Addr).add j) = some u := by
      intro j u hu
      obtain ⟨b', off', e', _, hc'⟩ := hro.at_ (k := 0) (by omega)
      injection e' with e'
      injection e' with e1 e2
      subst e1 e2
      rw [Go.WideShapes.add_plain]
      exact hc' j u hu
    have hnews : ∀ j u, news[j]? = some u → w.cell? ((⟨b, off, none⟩ : Addr).add j) = some u := by
      intro j u hu
      rw [Go.WideShapes.add_plain]
      exact hc j u hu
    obtain ⟨v', w', hrun, hown, hg⟩ := run_append_arg_grows (P := P) w t ty e i z 1 bytes ht hi hz hsize hby hzs (by omega) ⟨g, 0, none⟩ n n olds (by omega) holds ⟨b, off, none⟩ m c news (by omega) hnews (by omega) h63 hbytes
    obtain ⟨A', c', rfl, hcc, -⟩ := own_form hown
    exact ⟨A', c', w', hrun, hcc, Row.of_own hown, (Below.refl _ w).grown hg (Nat.le_refl _) (fun k hk => by cases hk)⟩
theorem wpList_append_full {ops : Array Oper} {rest : List Oper} {o : Oper} {a : Act} {Q : Exit → Act → World → Prop} (hgd : o.guard = none) (s x : Operand) (t : TypeId)
    (ho : o.op = .call { callee := .builtin .append, args := #[s, x], argTypes := #[t, t] })
    (e : TypeId) (i : TypeInfo) (z : Value) (bytes : Nat) (ht : P.underlying t = some (.slice e)) (hi : P.info? e = some i) (hz : i.zero = some z)
    (hsize : i.size = 1) (hby : i.bytes = bytes) (hzs : z.cells.size = 1) (B0 g n : Nat) (olds : List Value) (hs : a.eval s = .slice (some ⟨g, 0, none⟩) n n) (hn : olds.length = n) (hpos : 0 < n) (hro : Row w B0 (some ⟨g, 0, none⟩) olds) (hB0 : B0 ≤ w.heap.size)
    (B : Nat) (A : Option Addr) (m c : Nat) (news : List Value) (hx : a.eval x = .slice A m c) (hl : news.length = m) (hr : Row w B A news)
    (h63 : n + m ≤ maxLen) (hbytes : (n + m) * bytes ≤ 140737488355328)
    (h : ∀ A' c' w', n + m ≤ c' → Row w' w'.heap.size A' (olds ++ news) → Below w.heap.size w w' → wpList P ops Q rest (a.put o.dst (.slice A' (n + m) c')) w') : wpList P ops Q (o :: rest) a w := by
  refine wpList_plain hgd fun K hK => ?_
  obtain ⟨A', c', w', hrun, h2, h3, h4⟩ := run_append_full (P := P) w t o.type e i z bytes ht hi hz hsize hby hzs B0 g n olds hn hpos hro hB0 B A m c news hl hr h63 hbytes
  unfold Oper.wp execOp
  simp only [ho, resolve, invoke, builtin, Sem.run_bind, Sem.run_pure, Result.andThen_ok, List.map_toArray, List.map_cons, List.map_nil, hs, hx, hrun]
  exact hK _ _ (h A' c' w' h2 h3 h4)
end
end Go.Proofs.Ytalehfdcebabnaa.aid
