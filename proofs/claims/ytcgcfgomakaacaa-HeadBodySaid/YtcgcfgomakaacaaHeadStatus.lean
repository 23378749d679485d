/- head.Status, the reference's Status, walked. -/
import Derived.Test.YtcgcfgomakaacaaHeadPlain
import Derived.Test.YtcgcfgomakaacaaMap
namespace Go.Proofs.Ytcgcfgomakaacaa.head
open Go.RowKit
open Go.Proofs.Ytcgcfgomakaacaa.aid

abbrev str (l : List UInt8) : Value := .string ⟨l.toArray⟩
abbrev ent (k : Int) (v : ByteArray) (n : Nat) : MapEntry := { key := .int .u8 k, val := .string v, born := n }
abbrev b1 : ByteArray := ⟨#[50, 48, 48, 32, 79, 75]⟩
abbrev b2 : ByteArray := ⟨#[52, 50, 57, 32, 84, 111, 111, 32, 77, 97, 110, 121, 32, 82, 101, 113, 117, 101, 115, 116, 115]⟩
abbrev b3 : ByteArray := ⟨#[53, 48, 51, 32, 83, 101, 114, 118, 105, 99, 101, 32, 85, 110, 97, 118, 97, 105, 108, 97, 98, 108, 101]⟩
abbrev b4 : ByteArray := ⟨#[52, 48, 52, 32, 78, 111, 116, 32, 70, 111, 117, 110, 100]⟩
abbrev b5 : ByteArray := ⟨#[52, 48, 48, 32, 66, 97, 100, 32, 82, 101, 113, 117, 101, 115, 116]⟩
abbrev b6 : ByteArray := ⟨#[50, 48, 52, 32, 78, 111, 32, 67, 111, 110, 116, 101, 110, 116]⟩
abbrev b7 : ByteArray := ⟨#[52, 48, 57, 32, 67, 111, 110, 102, 108, 105, 99, 116]⟩
abbrev b8 : ByteArray := ⟨#[50, 48, 54, 32, 80, 97, 114, 116, 105, 97, 108, 32, 67, 111, 110, 116, 101, 110, 116]⟩
abbrev es0 : Array MapEntry := #[]
abbrev es1 : Array MapEntry := #[ent 1 b1 0]
abbrev es2 : Array MapEntry := #[ent 1 b1 0, ent 2 b2 1]
abbrev es3 : Array MapEntry := #[ent 1 b1 0, ent 2 b2 1, ent 3 b3 2]
abbrev es4 : Array MapEntry := #[ent 1 b1 0, ent 2 b2 1, ent 3 b3 2, ent 4 b4 3]
abbrev es5 : Array MapEntry := #[ent 1 b1 0, ent 2 b2 1, ent 3 b3 2, ent 4 b4 3, ent 5 b5 4]
abbrev es6 : Array MapEntry := #[ent 1 b1 0, ent 2 b2 1, ent 3 b3 2, ent 4 b4 3, ent 5 b5 4, ent 6 b6 5]
abbrev es7 : Array MapEntry := #[ent 1 b1 0, ent 2 b2 1, ent 3 b3 2, ent 4 b4 3, ent 5 b5 4, ent 6 b6 5, ent 7 b7 6]
abbrev es8 : Array MapEntry := #[ent 1 b1 0, ent 2 b2 1, ent 3 b3 2, ent 4 b4 3, ent 5 b5 4, ent 6 b6 5, ent 7 b7 6, ent 8 b8 7]

set_option maxHeartbeats 400000 in
theorem stati_any (w : World) :
    Calls Try.prog 19 #[] w fun e w' => e = .returned (.map (some w.heap.size)) ∧ MBlk w' w.heap.size es8 8 ∧ Below w.heap.size w w' := by
  have h0 := @run_makeMap Try.prog
  have h1 : (Instr.mapUpdate 39 (.map (some w.heap.size)) (.int .u8 1) (.string b1)).run Try.prog (w.alloc (.map es0 0)) = .ok () (w.alloc (.map es1 1)) := run_insert_new w es0 0 39 5 9 (.int .u8) _ _ (by kernel_rfl) (by kernel_rfl) rfl rfl
  have h2 : (Instr.mapUpdate 39 (.map (some w.heap.size)) (.int .u8 2) (.string b2)).run Try.prog (w.alloc (.map es1 1)) = .ok () (w.alloc (.map es2 2)) := run_insert_new w es1 1 39 5 9 (.int .u8) _ _ (by kernel_rfl) (by kernel_rfl) rfl rfl
  have h3 : (Instr.mapUpdate 39 (.map (some w.heap.size)) (.int .u8 3) (.string b3)).run Try.prog (w.alloc (.map es2 2)) = .ok () (w.alloc (.map es3 3)) := run_insert_new w es2 2 39 5 9 (.int .u8) _ _ (by kernel_rfl) (by kernel_rfl) rfl rfl
  have h4 : (Instr.mapUpdate 39 (.map (some w.heap.size)) (.int .u8 4) (.string b4)).run Try.prog (w.alloc (.map es3 3)) = .ok () (w.alloc (.map es4 4)) := run_insert_new w es3 3 39 5 9 (.int .u8) _ _ (by kernel_rfl) (by kernel_rfl) rfl rfl
  have h5 : (Instr.mapUpdate 39 (.map (some w.heap.size)) (.int .u8 5) (.string b5)).run Try.prog (w.alloc (.map es4 4)) = .ok () (w.alloc (.map es5 5)) := run_insert_new w es4 4 39 5 9 (.int .u8) _ _ (by kernel_rfl) (by kernel_rfl) rfl rfl
  have h6 : (Instr.mapUpdate 39 (.map (some w.heap.size)) (.int .u8 6) (.string b6)).run Try.prog (w.alloc (.map es5 5)) = .ok () (w.alloc (.map es6 6)) := run_insert_new w es5 5 39 5 9 (.int .u8) _ _ (by kernel_rfl) (by kernel_rfl) rfl rfl
  have h7 : (Instr.mapUpdate 39 (.map (some w.heap.size)) (.int .u8 7) (.string b7)).run Try.prog (w.alloc (.map es6 6)) = .ok () (w.alloc (.map es7 7)) := run_insert_new w es6 6 39 5 9 (.int .u8) _ _ (by kernel_rfl) (by kernel_rfl) rfl rfl
  have h8 : (Instr.mapUpdate 39 (.map (some w.heap.size)) (.int .u8 8) (.string b8)).run Try.prog (w.alloc (.map es7 7)) = .ok () (w.alloc (.map es8 8)) := run_insert_new w es7 7 39 5 9 (.int .u8) _ _ (by kernel_rfl) (by kernel_rfl) rfl rfl
  go_enter Try.func19, Try.ntmps19
  go_wp2
  go_ret
  exact ⟨rfl, MBlk.new w _ _, (Below.refl _ _).alloc (Nat.le_refl _) _⟩

theorem zero_str (w : World) : (zeroValue 9).run Try.prog w = .ok (.string ByteArray.empty) w := by kernel_rfl
theorem find_some (c : Int) (h : isCode c) : ∃ i, Instr.findNow (.int .u8) (.int .u8 c) es8.toList 0 = some (some (i, str (status c))) := by
  rcases h with rfl | rfl | rfl | rfl | rfl | rfl | rfl | rfl <;> exact ⟨_, rfl⟩
theorem find_none (c : Int) (h : c ≠ 1 ∧ c ≠ 2 ∧ c ≠ 3 ∧ c ≠ 4 ∧ c ≠ 5 ∧ c ≠ 6 ∧ c ≠ 7 ∧ c ≠ 8) : Instr.findNow (.int .u8) (.int .u8 c) es8.toList 0 = some none := by
  obtain ⟨h1, h2, h3, h4, h5, h6, h7, h8⟩ := h
  simp [Instr.findNow, Instr.sameNow, beq_eq_false_iff_ne.2 h1, beq_eq_false_iff_ne.2 h2, beq_eq_false_iff_ne.2 h3, beq_eq_false_iff_ne.2 h4, beq_eq_false_iff_ne.2 h5, beq_eq_false_iff_ne.2 h6, beq_eq_false_iff_ne.2 h7, beq_eq_false_iff_ne.2 h8]
theorem look (c : Int) {w : World} {b : Nat} (h : MBlk w b es8 8) : (Instr.lookup 39 (.map (some b)) (.int .u8 c) false).run Try.prog w = .ok (str (status c)) w := by
  rcases code_cases c with hc | hc
  · obtain ⟨i, hf⟩ := find_some c hc
    exact run_lookup_found 39 5 9 (.int .u8) _ i _ (by kernel_rfl) (by kernel_rfl) rfl h hf
  · rw [status_none hc]
    exact run_lookup_none 39 5 9 (.int .u8) _ _ (by kernel_rfl) (by kernel_rfl) rfl h (find_none c hc) (zero_str _)

theorem status_any (c : Int) (w : World) :
    Calls Try.prog 12 #[.int .u8 c] w fun e w' => e = .returned (str (status c)) ∧ Below w.heap.size w w' := by
  have hL := Lib.hid (fun W (h : MBlk W w.heap.size es8 8) => look c h)
  obtain ⟨s, hs⟩ : ∃ s, s = str (status c) := ⟨_, rfl⟩
  rw [← hs] at hL ⊢
  clear hs
  go_enter Try.func12, Try.ntmps12
  go_wp2_with fail
  refine (stati_any w).mono ?_
  rintro e w1 ⟨rfl, hm, hb⟩
  have hl := hL.out w1 hm
  go_wp2_with fail
  go_ret
  exact ⟨rfl, hb⟩

set_option maxHeartbeats 400000 in
theorem refstatus_any (c : Int) (w : World) :
    Calls Try.prog 13 #[.int .u8 c] w fun e w' => e = .returned (str (status c)) ∧ w = w' := by
  rcases code_cases c with h | h
  · rcases h with rfl | rfl | rfl | rfl | rfl | rfl | rfl | rfl
    all_goals
      go_enter Try.func13, Try.ntmps13
      go_wp2
      go_ret
      exact ⟨rfl, rfl⟩
  · rw [status_none h]
    obtain ⟨h1, h2, h3, h4, h5, h6, h7, h8⟩ := h
    have k1 := beq_eq_false_iff_ne.2 h1
    have k2 := beq_eq_false_iff_ne.2 h2
    have k3 := beq_eq_false_iff_ne.2 h3
    have k4 := beq_eq_false_iff_ne.2 h4
    have k5 := beq_eq_false_iff_ne.2 h5
    have k6 := beq_eq_false_iff_ne.2 h6
    have k7 := beq_eq_false_iff_ne.2 h7
    have k8 := beq_eq_false_iff_ne.2 h8
    clear h1 h2 h3 h4 h5 h6 h7 h8
    go_enter Try.func13, Try.ntmps13
    go_wp2
    go_ret
    exact ⟨rfl, rfl⟩
end Go.Proofs.Ytcgcfgomakaacaa.head
