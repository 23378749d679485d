/- KeyHas, walked. -/
import Derived.Test.YtckbijkgibjjjaaKeyLawA
namespace Go.Proofs.Ytckbijkgibjjjaa.key
open Go.RowKit
open Go.Proofs.Ytckbijkgibjjjaa.aid

set_option maxHeartbeats 800000 in
theorem keyHas_big (w : World) (a0 a1 a2 : ByteArray) (w0 : (a0.size : Int) ≤ 140737488351232) (w1 : (a1.size : Int) ≤ 140737488351232) (w2 : (a2.size : Int) ≤ 140737488351232) (hbig : (600 : Int) < (a0.size : Int) + a1.size + a2.size) :
    Calls Try.prog 8 #[.string a0, .string a1, .string a2] w fun e w' => e = .returned (.bool true) ∧ Below w.heap.size w w' := by
  go_enter Try.func8, Try.ntmps8
  go_wp2_with fail
  refine (known_any _).mono ?_
  rintro e wk ⟨rfl, hbk⟩
  go_wp2_with fail
  go_ret
  exact ⟨rfl, hbk⟩

theorem dl_app (a b : ByteArray) : (a ++ b).data.toList = a.data.toList ++ b.data.toList := by simp [ByteArray.data_append]
theorem has_app (a b : List UInt8) : has (a ++ b) a = true := by
  unfold has
  rw [List.isPrefixOf_iff_prefix]
  exact List.prefix_append a b
theorem has_nil (a : List UInt8) : has a [] = true := by simp [has]
theorem has_trans {a b c : List UInt8} (h1 : has a b = true) (h2 : has b c = true) : has a c = true := by
  unfold has at *
  rw [List.isPrefixOf_iff_prefix] at *
  exact h2.trans h1

set_option maxHeartbeats 800000 in
theorem keyHas_walk (w : World) (a0 a1 a2 : ByteArray) (w0 : a0.size ≤ 140737488351232) (w1 : a1.size ≤ 140737488351232) (w2 : a2.size ≤ 140737488351232) :
    Calls Try.prog 8 #[.string a0, .string a1, .string a2] w fun e w' => e = .returned (.bool true) ∧ Below w.heap.size w w' := by
  by_cases hbig : 600 < a0.size + a1.size + a2.size
  · exact keyHas_big w a0 a1 a2 (by omega) (by omega) (by omega) (by omega)
  have hs : (a0.size : Int) + a1.size + a2.size ≤ 600 := by omega
  have hs0 : (a0.size : Int) + a1.size ≤ 600 := by omega
  have hl1 : (dl a1).length = a1.size := rfl
  have hcm := has_common (dl a0) (dl a1)
  have htr := @has_trans (dl a0) (dl a1) (dl a2)
  have HAB := Lib.hid (fun W => has_any a0 a1 (by omega) (by omega) W)
  have HBC := Lib.hid (fun W => has_any a1 a2 (by omega) (by omega) W)
  have HAC := Lib.hid (fun W => has_any a0 a2 (by omega) (by omega) W)
  have HCM := Lib.hid (fun W => common_any a0 a1 (by omega) (by omega) W)
  change Hid (∀ W, Calls Try.prog 18 #[.string a0, .string a1] W fun e W' => e = .returned (.bool (has (dl a0) (dl a1))) ∧ W = W') at HAB
  change Hid (∀ W, Calls Try.prog 18 #[.string a1, .string a2] W fun e W' => e = .returned (.bool (has (dl a1) (dl a2))) ∧ W = W') at HBC
  change Hid (∀ W, Calls Try.prog 18 #[.string a0, .string a2] W fun e W' => e = .returned (.bool (has (dl a0) (dl a2))) ∧ W = W') at HAC
  change Hid (∀ W, Calls Try.prog 19 #[.string a0, .string a1] W fun e W' => e = .returned (.int .i64 (common (dl a0) (dl a1))) ∧ Below W.heap.size W W') at HCM
  have hbe : (((common (dl a0) (dl a1) : Nat) : Int) == a1.size) = has (dl a0) (dl a1) := by
    rw [hcm, Bool.eq_iff_iff, beq_iff_eq, decide_eq_true_iff]
    omega
  clear hcm hl1
  generalize common (dl a0) (dl a1) = cm at *
  generalize has (dl a0) (dl a1) = ab at *
  generalize has (dl a1) (dl a2) = bc at *
  generalize has (dl a0) (dl a2) = ac at *
  clear hbig
  go_enter Try.func8, Try.ntmps8
  go_wp2_with fail
  refine (known_any _).mono ?_
  rintro e wk ⟨rfl, hbk⟩
  go_wp2_with fail
  refine (has_any _ _ (by simp; omega) (by omega) _).mono ?_
  rintro e w' ⟨rfl, rfl⟩
  rw [dl_app, has_app]
  go_wp2_with fail
  refine (has_any _ _ (by simp; omega) (by simp; omega) _).mono ?_
  rintro e w' ⟨rfl, rfl⟩
  rw [dl_app, has_app]
  go_wp2_with fail
  refine (has_any _ _ (by omega) (by decide) _).mono ?_
  rintro e w' ⟨rfl, rfl⟩
  rw [show has _ _ = true from has_nil _]
  go_wp2_with fail
  refine (HAB.out _).mono ?_
  rintro e w' ⟨rfl, rfl⟩
  go_wp2_with fail
  refine (HCM.out _).mono ?_
  rintro e w3 ⟨rfl, hb3⟩
  have g3 := hbk.trans (hb3.mono hbk.size)
  cases ab
  · go_wp2_with fail
    refine (HAB.out _).mono ?_
    rintro e w' ⟨rfl, rfl⟩
    go_wp2_with fail
    go_ret
    exact ⟨rfl, g3⟩
  · go_wp2_with fail
    refine (HAB.out _).mono ?_
    rintro e w' ⟨rfl, rfl⟩
    go_wp2_with fail
    refine (HBC.out _).mono ?_
    rintro e w' ⟨rfl, rfl⟩
    cases bc
    · go_wp2_with fail
      go_ret
      exact ⟨rfl, g3⟩
    · have hac : ac = true := by simpa using htr
      subst hac
      go_wp2_with fail
      refine (HAC.out _).mono ?_
      rintro e w' ⟨rfl, rfl⟩
      go_wp2_with fail
      go_ret
      exact ⟨rfl, g3⟩
end Go.Proofs.Ytckbijkgibjjjaa.key
