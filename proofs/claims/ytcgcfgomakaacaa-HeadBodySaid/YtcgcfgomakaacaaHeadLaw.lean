/- the laws' helpers, walked: Answers of two, Answer, known. -/
import Derived.Test.YtcgcfgomakaacaaHeadAnswers
import Derived.Test.YtcgcfgomakaacaaHeadRefRenderC
import Derived.Deep.RegionHeld
namespace Go.Proofs.Ytcgcfgomakaacaa.head
open Go.RowKit
open Go.Proofs.Ytcgcfgomakaacaa.aid

theorem answers_same (a : Ans) (A B : Option Addr) (c d : Nat) (w : World) (ha : Row w w.heap.size A (u8s a.body)) (hb : Row w w.heap.size B (u8s a.body)) :
    Calls Try.prog 16 #[ansV a A c, ansV a B d] w fun e w' => e = .returned (.bool true) ∧ Below w.heap.size w w' := by
  obtain ⟨a0, a1, a2, a3, a4, a5, a6, a7, a8, la⟩ := a
  exact answers_yes a0 a1 a2 a3 a4 a5 a6 a8 a7 la A B c d w ha hb
theorem answers_ne (a b : Ans) (hab : a ≠ b) (A B : Option Addr) (c d : Nat) (w : World) (ha : Row w w.heap.size A (u8s a.body)) (hb : Row w w.heap.size B (u8s b.body)) :
    Calls Try.prog 16 #[ansV a A c, ansV b B d] w fun e w' => e = .returned (.bool false) ∧ Below w.heap.size w w' := by
  obtain ⟨a0, a1, a2, a3, a4, a5, a6, a7, a8, la⟩ := a
  obtain ⟨b0, b1, b2, b3, b4, b5, b6, b7, b8, lb⟩ := b
  by_cases hl : la = lb
  · subst hl
    by_cases h0 : a0 = b0
    · subst h0
      by_cases h1 : a1 = b1
      · subst h1
        by_cases h2 : a2 = b2
        · subst h2
          by_cases h3 : a3 = b3
          · subst h3
            by_cases h4 : a4 = b4
            · subst h4
              by_cases h5 : a5 = b5
              · subst h5
                by_cases h6 : a6 = b6
                · subst h6
                  by_cases h7 : a7 = b7
                  · subst h7
                    by_cases h8 : a8 = b8
                    · subst h8
                      exact absurd rfl hab
                    · exact answers_no8 a0 a1 a2 a3 a4 a5 a6 a8 b8 a7 la A B c d w ha hb h8
                  · exact answers_no7 a0 a1 a2 a3 a4 a5 a6 a8 b8 a7 b7 la A B c d w ha hb h7
                · exact answers_no6 a0 a1 a2 a3 a4 a5 a6 a8 b6 b8 a7 b7 la A B c d w ha hb h6
              · exact answers_no5 a0 a1 a2 a3 a4 a5 a6 a8 b5 b6 b8 a7 b7 la A B c d w ha hb h5
            · exact answers_no4 a0 a1 a2 a3 a4 a5 a6 a8 b4 b5 b6 b8 a7 b7 la A B c d w ha hb h4
          · exact answers_no3 a0 a1 a2 a3 a4 a5 a6 a8 b3 b4 b5 b6 b8 a7 b7 la A B c d w ha hb h3
        · exact answers_no2 a0 a1 a2 a3 a4 a5 a6 a8 b2 b3 b4 b5 b6 b8 a7 b7 la A B c d w ha hb h2
      · exact answers_no1 a0 a1 a2 a3 a4 a5 a6 a8 b1 b2 b3 b4 b5 b6 b8 a7 b7 la A B c d w ha hb h1
    · exact answers_no0 a0 a1 a2 a3 a4 a5 a6 a8 b0 b1 b2 b3 b4 b5 b6 b8 a7 b7 la A B c d w ha hb h0
  · exact answers_no9 a0 a1 a2 a3 a4 a5 a6 a8 b0 b1 b2 b3 b4 b5 b6 b8 a7 b7 la lb A B c d w ha hb hl

set_option maxHeartbeats 400000 in
theorem answer_vals (code err limit left reset after nanos many : Int) (retry : Bool) (n c : Nat) (A : Option Addr) (x : Int) (h0 : 0 ≤ x) (w : World) :
    Calls Try.prog 11 #[.agg #[.int .u8 code, .int .u16 err, .int .u64 limit, .int .u64 left, .int .u64 reset, .int .u64 after, .int .u64 nanos, .bool retry, .int .i64 many, .slice A n c], .int .u8 x] w fun e w' =>
      e = .returned (.agg #[.int .u8 (x % 10), .int .u16 err, .int .u64 limit, .int .u64 left, .int .u64 reset, .int .u64 after, .int .u64 nanos, .bool retry, .int .i64 many, .slice A n c]) ∧ Below w.heap.size w w' := by
  go_enter Try.func11, Try.ntmps11
  go_wp2
  refine bodyPost_ret (v := .agg #[.int .u8 (x % 10), .int .u16 err, .int .u64 limit, .int .u64 left, .int .u64 reset, .int .u64 after, .int .u64 nanos, .bool retry, .int .i64 many, .slice A n c]) (by simp [results, Try.results11, go_sem]) rfl ⟨rfl, ?_⟩
  repeat' (first | (with_reducible exact Below.refl _ _) | (with_reducible refine Below.setCell ?_ ?_ _) | (with_reducible refine Below.alloc ?_ ?_ _) | (with_reducible refine Below.drew ?_))
  all_goals first | omega | (simp; done) | (simp; omega)
def coded (a : Ans) (x : Int) : Ans := { a with code := x }
theorem answer_any (a : Ans) (A : Option Addr) (c : Nat) (x : Int) (h0 : 0 ≤ x) (w : World) :
    Calls Try.prog 11 #[ansV a A c, .int .u8 x] w fun e w' => e = .returned (ansV (coded a (x % 10)) A c) ∧ Below w.heap.size w w' :=
  answer_vals a.code a.err a.limit a.left a.reset a.after a.nanos a.many a.retry a.body.length c A x h0 w
theorem coded_fine {a : Ans} (h : Fine a) {x : Int} (h0 : 0 ≤ x) (h1 : x ≤ 255) : Fine (coded a x) := ⟨⟨h0, h1⟩, h.2⟩

theorem fine_bare (x : Int) (h0 : 0 ≤ x) (h1 : x ≤ 255) : Fine ⟨x, 0, 0, 0, 0, 0, 0, false, 0, []⟩ := by
  unfold Fine
  simp
  omega
set_option maxHeartbeats 1000000 in
theorem known_any (w : World) :
    Calls Try.prog 9 #[] w fun e w' => e = .returned (.bool true) ∧ Below w.heap.size w w' := by
  have H4 := Lib.hid (fun W => render_any ⟨4, 0, 0, 0, 0, 0, 0, false, 0, []⟩ (fine_bare 4 (by omega) (by omega)) none 0 W Row.nil_)
  rw [show render ⟨4, 0, 0, 0, 0, 0, 0, false, 0, []⟩ = [72, 84, 84, 80, 47, 49, 46, 49, 32, 52, 48, 52, 32, 78, 111, 116, 32, 70, 111, 117, 110, 100, 13, 10, 13, 10] from by decide +kernel] at H4
  have H0 := Lib.hid (fun W => render_any ⟨0, 0, 0, 0, 0, 0, 0, false, 0, []⟩ (fine_bare 0 (by omega) (by omega)) none 0 W Row.nil_)
  rw [show render ⟨0, 0, 0, 0, 0, 0, 0, false, 0, []⟩ = [] from by decide +kernel] at H0
  have H6 := Lib.hid (fun W => status_any 6 W)
  rw [show str (status 6) = .string ⟨#[50, 48, 52, 32, 78, 111, 32, 67, 111, 110, 116, 101, 110, 116]⟩ from rfl] at H6
  go_enter Try.func9, Try.ntmps9
  go_wp2_with fail
  refine (H4.out _).mono ?_
  rintro e w1 ⟨A1, c1, rfl, -, hr1, hb1⟩
  have hs1 : (convert 25 9 (.slice A1 26 c1)).run Try.prog w1 = .ok (.string ⟨#[72, 84, 84, 80, 47, 49, 46, 49, 32, 52, 48, 52, 32, 78, 111, 116, 32, 70, 111, 117, 110, 100, 13, 10, 13, 10]⟩) w1 := row_string (c := c1) hr1
  have G1 := Lib.hid hb1
  clear hr1 hb1
  go_wp2_with fail
  refine (H0.out _).mono ?_
  rintro e w2 ⟨A2, c2, rfl, -, -, hb2⟩
  have G2 := Lib.hid (G1.out.trans (hb2.mono G1.out.size))
  clear hb2 hs1 G1
  go_wp2_with fail
  refine (H6.out _).mono ?_
  rintro e w3 ⟨rfl, hb3⟩
  have G3 := Lib.hid (G2.out.trans (hb3.mono G2.out.size))
  clear hb3 G2
  go_wp2_with fail
  go_ret
  exact ⟨rfl, G3.out⟩

set_option maxHeartbeats 2000000 in
theorem asks_any (a : Ans) (hF : Fine a) (A : Option Addr) (c : Nat) (hc : a.body.length ≤ c) (w : World) (hr : Row w w.heap.size A (u8s a.body)) :
    Calls Try.prog 10 #[ansV a A c] w fun e w' => e = .returned (.bool true) ∧ Below w.heap.size w w' := by
  have HR := Lib.hid (fun W (h : Below w.heap.size w W) => render_any a hF A c W ((hr.below h).more h.size))
  have HQ := Lib.hid (fun W (h : Below w.heap.size w W) => refrender_any a hF A c hc W ((hr.below h).more h.size))
  have HC := Lib.hid (fun W (h : Below w.heap.size w W) => clean_any a hF.2.2.2.2.2.2.2.2 A c W ((hr.below h).more h.size))
  have HD := Lib.hid (fun W (h : Below w.heap.size w W) => refclean_any a hF.2.2.2.2.2.2.2.2 A c W ((hr.below h).more h.size))
  have HX := Lib.hid (Blk.new w 27 #[.int .u8 a.code, .int .u16 a.err, .int .u64 a.limit, .int .u64 a.left, .int .u64 a.reset, .int .u64 a.after, .int .u64 a.nanos, .bool a.retry, .int .i64 a.many, .slice A a.body.length c])
  have HB : Hid (Below w.heap.size w (w.alloc (.cells #[.int .u8 a.code, .int .u16 a.err, .int .u64 a.limit, .int .u64 a.left, .int .u64 a.reset, .int .u64 a.after, .int .u64 a.nanos, .bool a.retry, .int .i64 a.many, .slice A a.body.length c] 27)).drew) := Lib.hid ((Below.refl _ _).alloc (Nat.le_refl _) _).drew
  have HS := Lib.hid (fun A B c d W => answers_same (clean a) A B c d W)
  generalize render a = l at *
  have hn : (clean a).body.length ≤ (clean a).body.length := Nat.le_refl _
  clear hn
  generalize clean a = k at *
  obtain ⟨a0, a1, a2, a3, a4, a5, a6, a7, a8, la⟩ := a
  simp only at HX HB
  clear hr hF hc
  go_enter Try.func10, Try.ntmps10
  go_wp2_with fail
  go_region_held (fun w' => ∀ i, w'.cell? ⟨w.heap.size, i, none⟩ = (#[.int .u8 a0, .int .u16 a1, .int .u64 a2, .int .u64 a3, .int .u64 a4, .int .u64 a5, .int .u64 a6, .bool a7, .int .i64 a8, .slice A la.length c] : Array Value)[i]?) (go_keep)
    (first
      | ((with_reducible refine (HR.out _ HB.out).mono ?_); rintro e x1 ⟨A1, c1, rfl, -, hr1, hb1⟩; have X1 := Lib.hid (Blk.below (Blk.drew HX.out) hb1 HX.out.lt); have k1 := fun i => X1.out.cell i; have R1 := Lib.hid hr1; have hs1 := row_string (c := c1) hr1; have G1 := Lib.hid (HB.out.trans (hb1.mono HB.out.size)); clear hr1 hb1)
      | ((with_reducible refine (HQ.out _ G1.out).mono ?_); rintro e x2 ⟨A2, c2, rfl, -, hr2, hb2⟩; have X2 := Lib.hid (Blk.below X1.out hb2 X1.out.lt); have k2 := fun i => X2.out.cell i; have hs2 := row_string (c := c2) hr2; have hs3 := row_string (c := c1) ((R1.out.below hb2).more hb2.size); have G2 := Lib.hid (G1.out.trans (hb2.mono G1.out.size)); clear hr2 hb2)
      | ((with_reducible refine (HC.out _ G2.out).mono ?_); rintro e x3 ⟨A3, c3, rfl, hcp3, hb3⟩; have X3 := Lib.hid (Blk.below X2.out hb3 X2.out.lt); have k3 := fun i => X3.out.cell i; have C3 := Lib.hid hcp3; have G3 := Lib.hid (G2.out.trans (hb3.mono G2.out.size)); clear hcp3 hb3)
      | ((with_reducible refine (HD.out _ G3.out).mono ?_); rintro e x4 ⟨A4, c4, rfl, hcp4, hb4⟩; have X4 := Lib.hid (Blk.below X3.out hb4 X3.out.lt); have k4 := fun i => X4.out.cell i; have C4 := Lib.hid hcp4; have C3' := Lib.hid (C3.out.below hb4); have G4 := Lib.hid (G3.out.trans (hb4.mono G3.out.size)); clear hcp4 hb4)
      | ((with_reducible refine (HS.out A3 A4 c3 c4 _ C3'.out.row C4.out.row).mono ?_); rintro e x5 ⟨rfl, hb5⟩; have k5 := fun i => (Blk.below X4.out hb5 X4.out.lt).cell i; have G5 := Lib.hid (G4.out.trans (hb5.mono G4.out.size)); clear hb5))
  all_goals go_wp2
  all_goals go_ret
  all_goals exact ⟨rfl, G5.out⟩
end Go.Proofs.Ytcgcfgomakaacaa.head
