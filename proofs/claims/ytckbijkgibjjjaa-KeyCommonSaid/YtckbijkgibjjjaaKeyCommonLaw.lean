/- the laws' helper 'common', walked. -/
import Derived.Test.YtckbijkgibjjjaaKeyLawA
namespace Go.Proofs.Ytckbijkgibjjjaa.key
open Go.RowKit
open Go.Sort (grow)
open Go.Proofs.Ytckbijkgibjjjaa.aid

theorem common_comm : ∀ (a b : List UInt8), common a b = common b a
  | [], [] => rfl
  | [], _ :: _ => rfl
  | _ :: _, [] => rfl
  | x :: a, y :: b => by
    by_cases h : x = y
    · subst h; simp [common, common_comm a b]
    · have h2 : ¬ y = x := fun e => h e.symm
      simp [common, h, h2]
theorem common_take : ∀ (a b : List UInt8), a.take (common a b) = b.take (common a b)
  | [], _ => by simp [common]
  | _ :: _, [] => by simp [common]
  | x :: a, y :: b => by
    by_cases h : x = y
    · subst h; simp [common, common_take a b]
    · simp [common, h]
theorem common_next : ∀ (a b : List UInt8) (h : common a b < a.length) (g : common a b < b.length), a[common a b] ≠ b[common a b]
  | [], _, h, _ => by simp at h
  | _ :: _, [], _, g => by simp at g
  | x :: a, y :: b, h, g => by
    by_cases e : x = y
    · subst e
      have e1 : common (x :: a) (x :: b) = common a b + 1 := by simp [common]
      simp only [e1, List.getElem_cons_succ]
      exact common_next a b (by simp [e1] at h; exact h) (by simp [e1] at g; exact g)
    · have e1 : common (x :: a) (y :: b) = 0 := by simp [common, e]
      simp only [e1, List.getElem_cons_zero]
      exact e
theorem dl_extract (a : ByteArray) (n : Nat) : (a.extract 0 n).data.toList = a.data.toList.take n := by
  rw [ByteArray.data_extract]
  simp
theorem calls_below {P : Program} {f : FuncId} {args : Array Value} {w : World} {v : Value} (h : Calls P f args w fun e w' => e = .returned v ∧ w = w') : Calls P f args w fun e w' => e = .returned v ∧ Below w.heap.size w w' :=
  h.mono fun _ _ ⟨he, hw⟩ => ⟨he, by rw [← hw]; exact Below.refl _ _⟩

set_option maxHeartbeats 1000000 in
theorem commonlaw_any (a b : ByteArray) (ha : a.size ≤ 9223372036854775807) (hb : b.size ≤ 9223372036854775807) (w : World) :
    Calls Try.prog 15 #[.string a, .string b] w fun e w' => e = .returned (.bool true) ∧ Below w.heap.size w w' := by
  have hla : (dl a).length = a.size := rfl
  have hlb : (dl b).length = b.size := rfl
  obtain ⟨hn1, hn2⟩ := common_le (dl a) (dl b)
  have HN := Lib.hid (fun W => common_any a b ha hb W)
  have hpre : ((a.extract 0 (common (dl a) (dl b))).toList == (b.extract 0 (common (dl a) (dl b))).toList) = true := by
    rw [ByteArray.toList_eq, ByteArray.toList_eq, dl_extract, dl_extract, beq_iff_eq]
    exact common_take (dl a) (dl b)
  have hnx : ∀ (h : common (dl a) (dl b) < a.size) (g : common (dl a) (dl b) < b.size), a[common (dl a) (dl b)] ≠ b[common (dl a) (dl b)] := common_next (dl a) (dl b)
  have hhas := has_common (dl a) (dl b)
  have hhn : has (dl a) (dl (a.extract 0 (common (dl a) (dl b)))) = true := by
    unfold has dl
    rw [dl_extract, List.isPrefixOf_iff_prefix]
    exact List.take_prefix _ _
  change Hid (∀ W, Calls Try.prog 19 #[.string a, .string b] W fun e W' => e = .returned (.int .i64 (common (dl a) (dl b))) ∧ Below W.heap.size W W') at HN
  have HC : Hid (∀ W, Calls Try.prog 19 #[.string b, .string a] W fun e W' => e = .returned (.int .i64 (common (dl a) (dl b))) ∧ Below W.heap.size W W') := Lib.hid (fun W => by rw [common_comm]; exact common_any b a hb ha W)
  have H1 : Hid (∀ W, Calls Try.prog 18 #[.string a, .string b] W fun e W' => e = .returned (.bool (has (dl a) (dl b))) ∧ Below W.heap.size W W') := Lib.hid (fun W => calls_below (has_any a b ha hb W))
  have H2 : Hid (∀ W, Calls Try.prog 18 #[.string a, .string (a.extract 0 (common (dl a) (dl b)))] W fun e W' => e = .returned (.bool true) ∧ Below W.heap.size W W') := Lib.hid (fun W => calls_below (by rw [← hhn]; exact has_any a _ ha (by rw [ByteArray.size_extract]; omega) W))
  rw [hla] at hn1
  rw [hlb] at hn2
  rw [hlb] at hhas
  clear hhn
  generalize common (dl a) (dl b) = n at *
  generalize has (dl a) (dl b) = hab at *
  have hbe : ((n : Int) == b.size) = hab := by
    rw [hhas, Bool.eq_iff_iff, beq_iff_eq, decide_eq_true_iff]
    omega
  have hn1' : (n : Int) ≤ a.size := by omega
  have hn2' : (n : Int) ≤ b.size := by omega
  by_cases e1 : n = a.size
  · have e1' : ((n : Int) == a.size) = true := beq_iff_eq.2 (by omega)
    clear hhas hnx hla hlb e1
    go_enter Try.func15, Try.ntmps15
    go_wp2_with fail
    refine (HN.out _).mono ?_
    rintro e w1 ⟨rfl, hb1⟩
    go_wp2_with fail
    have c1 : ∀ d os, Calls Try.prog 18 #[.string a, .string b] (grow (redrawn w1 d) os) fun e w'' => e = .returned (.bool hab) ∧ ∃ p : Regrown, w'' = grow (redrawn w1 p.d) p.os := fun d os => Calls.regrown_of (H1.out _)
    have c2 : ∀ d os, Calls Try.prog 18 #[.string a, .string (a.extract 0 n)] (grow (redrawn w1 d) os) fun e w'' => e = .returned (.bool true) ∧ ∃ p : Regrown, w'' = grow (redrawn w1 p.d) p.os := fun d os => Calls.regrown_of (H2.out _)
    have c3 : ∀ d os, Calls Try.prog 19 #[.string b, .string a] (grow (redrawn w1 d) os) fun e w'' => e = .returned (.int .i64 n) ∧ ∃ p : Regrown, w'' = grow (redrawn w1 p.d) p.os := fun d os => Calls.regrown_of (HC.out _)
    have C1 := Lib.hid c1
    have C2 := Lib.hid c2
    have C3 := Lib.hid c3
    clear c1 c2 c3
    refine wp_region_quiet_below (by kernel_rfl) (by kernel_rfl) ?_
    repeat (first | go_big_quiet_step (first | exact C1.out _ _ | exact C2.out _ _ | exact C3.out _ _) | quiet_step (first | exact C1.out _ _ | exact C2.out _ _ | exact C3.out _ _))
    refine wpQuiet_nil ?_
    intro _ hw'
    obtain ⟨⟨dq, osq⟩, hw''⟩ := hw'
    subst hw''
    go_wp2
    go_ret
    exact ⟨rfl, hb1.trans ((below_regrown w1 dq osq).mono hb1.size)⟩
  · have e1' : ((n : Int) == a.size) = false := beq_eq_false_iff_ne.2 (by omega)
    by_cases e2 : n = b.size
    · have e2' : ((n : Int) == b.size) = true := beq_iff_eq.2 (by omega)
      rw [e2'] at hbe
      subst hbe
      clear hhas hnx hla hlb e1 e2
      go_enter Try.func15, Try.ntmps15
      go_wp2_with fail
      refine (HN.out _).mono ?_
      rintro e w1 ⟨rfl, hb1⟩
      go_wp2_with fail
      have c1 : ∀ d os, Calls Try.prog 18 #[.string a, .string b] (grow (redrawn w1 d) os) fun e w'' => e = .returned (.bool true) ∧ ∃ p : Regrown, w'' = grow (redrawn w1 p.d) p.os := fun d os => Calls.regrown_of (H1.out _)
      have c2 : ∀ d os, Calls Try.prog 18 #[.string a, .string (a.extract 0 n)] (grow (redrawn w1 d) os) fun e w'' => e = .returned (.bool true) ∧ ∃ p : Regrown, w'' = grow (redrawn w1 p.d) p.os := fun d os => Calls.regrown_of (H2.out _)
      have c3 : ∀ d os, Calls Try.prog 19 #[.string b, .string a] (grow (redrawn w1 d) os) fun e w'' => e = .returned (.int .i64 n) ∧ ∃ p : Regrown, w'' = grow (redrawn w1 p.d) p.os := fun d os => Calls.regrown_of (HC.out _)
      have C1 := Lib.hid c1
      have C2 := Lib.hid c2
      have C3 := Lib.hid c3
      clear c1 c2 c3
      refine wp_region_quiet_below (by kernel_rfl) (by kernel_rfl) ?_
      repeat (first | go_big_quiet_step (first | exact C1.out _ _ | exact C2.out _ _ | exact C3.out _ _) | quiet_step (first | exact C1.out _ _ | exact C2.out _ _ | exact C3.out _ _))
      refine wpQuiet_nil ?_
      intro _ hw'
      obtain ⟨⟨dq, osq⟩, hw''⟩ := hw'
      subst hw''
      go_wp2
      go_ret
      exact ⟨rfl, hb1.trans ((below_regrown w1 dq osq).mono hb1.size)⟩
    · have e2' : ((n : Int) == b.size) = false := beq_eq_false_iff_ne.2 (by omega)
      rw [e2'] at hbe
      subst hbe
      have hx := hnx (by omega) (by omega)
      have hx' : ((a[n].toNat : Int) != b[n].toNat) = true := by
        rw [bne_iff_ne]
        intro h
        exact hx (UInt8.toNat_inj.1 (by omega))
      have hlt1 : (n : Int) < a.size := by omega
      have hlt2 : (n : Int) < b.size := by omega
      clear hhas hnx
      go_enter Try.func15, Try.ntmps15
      go_wp2_with fail
      refine (HN.out _).mono ?_
      rintro e w1 ⟨rfl, hb1⟩
      go_wp2_with fail
      have c1 : ∀ d os, Calls Try.prog 18 #[.string a, .string b] (grow (redrawn w1 d) os) fun e w'' => e = .returned (.bool false) ∧ ∃ p : Regrown, w'' = grow (redrawn w1 p.d) p.os := fun d os => Calls.regrown_of (H1.out _)
      have c2 : ∀ d os, Calls Try.prog 18 #[.string a, .string (a.extract 0 n)] (grow (redrawn w1 d) os) fun e w'' => e = .returned (.bool true) ∧ ∃ p : Regrown, w'' = grow (redrawn w1 p.d) p.os := fun d os => Calls.regrown_of (H2.out _)
      have c3 : ∀ d os, Calls Try.prog 19 #[.string b, .string a] (grow (redrawn w1 d) os) fun e w'' => e = .returned (.int .i64 n) ∧ ∃ p : Regrown, w'' = grow (redrawn w1 p.d) p.os := fun d os => Calls.regrown_of (HC.out _)
      have C1 := Lib.hid c1
      have C2 := Lib.hid c2
      have C3 := Lib.hid c3
      clear c1 c2 c3
      refine wp_region_quiet_below (by kernel_rfl) (by kernel_rfl) ?_
      repeat (first | go_big_quiet_step (first | exact C1.out _ _ | exact C2.out _ _ | exact C3.out _ _) | quiet_step (first | exact C1.out _ _ | exact C2.out _ _ | exact C3.out _ _))
      refine wpQuiet_nil ?_
      intro _ hw'
      obtain ⟨⟨dq, osq⟩, hw''⟩ := hw'
      subst hw''
      go_wp2
      go_ret
      exact ⟨rfl, hb1.trans ((below_regrown w1 dq osq).mono hb1.size)⟩
end Go.Proofs.Ytckbijkgibjjjaa.key
