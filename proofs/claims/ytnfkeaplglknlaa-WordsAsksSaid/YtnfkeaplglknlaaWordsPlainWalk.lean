/- the laws' plain, walked: may lines be joined and split? -/
import Derived.Test.YtnfkeaplglknlaaWordsJoin
namespace Go.Proofs.Ytnfkeaplglknlaa.words
open Go.RowKit
open Go.Proofs.Ytnfkeaplglknlaa.aid

def shortLine (l : List (List UInt8)) : Prop := lineOk l ∧ l.length ≤ 20 ∧ ∀ x ∈ l, x.length ≤ 100
def PlainPost (ls : List (List (List UInt8))) (w : World) (e : Ending) (w' : World) : Prop := ∃ b : Bool, e = .returned (.bool b) ∧ (b = true → ∀ l ∈ ls, shortLine l) ∧ w = w'
theorem plainPost_no (ls : List (List (List UInt8))) (w : World) : PlainPost ls w (.returned (.bool false)) w := ⟨false, rfl, (fun h => by cases h), rfl⟩
theorem take_all {α : Type} {P : α → Prop} {l : List α} {k : Nat} (h : k < l.length) (h1 : ∀ x ∈ l.take k, P x) (h2 : P l[k]) : ∀ x ∈ l.take (k + 1), P x := by
  rw [List.take_succ_eq_append_getElem h]
  intro x hx
  rcases List.mem_append.1 hx with hx | hx
  · exact h1 x hx
  · rw [List.mem_singleton] at hx
    subst hx
    exact h2

set_option maxHeartbeats 8000000 in
set_option maxRecDepth 100000 in
theorem plain_any (ls : List (List (List UInt8))) (v : Value) (w : World) (h : Lns w v ls) (hn : ls.length ≤ 30) :
    Calls Try.prog 17 #[v] w (PlainPost ls w) := by
  obtain ⟨A, c, rfl, hc⟩ := h.len
  have HL := Lib.hid h
  have hcc : (ls.length : Int) ≤ c := by omega
  clear h
  go_enter Try.func17, Try.ntmps17
  go_wp2_with fail
  go_loop [3] (fun i => ∃ k : Nat, k ≤ ls.length ∧ i = .int .i64 (k : Nat) ∧ Hid (∀ l ∈ ls.take k, shortLine l)) (fun i => ls.length - (intOf i).toNat)
  case atStart => exact ⟨0, by omega, rfl, Lib.hid (fun l h => by simp at h)⟩
  case round =>
    obtain ⟨k, hk, rfl, hok⟩ := hrel
    by_cases hlt : k < ls.length
    · have hlt' : (k : Int) < ls.length := by omega
      obtain ⟨l, hl⟩ : ∃ l, ls[k] = l := ⟨_, rfl⟩
      obtain ⟨g, o, A', c', rfl, hcell, hc', hrow⟩ := HL.out.at_ hlt hl
      have HOK1 := Lib.hid (fun (h : shortLine l) => take_all hlt hok.out (by rw [hl]; exact h))
      have HROW := Lib.hid hrow
      clear hrow hl
      rcases (show l.length = 0 ∨ 20 < l.length ∨ (1 ≤ l.length ∧ l.length ≤ 20) from by omega) with h0 | h20 | ⟨h1, h20⟩
      · rw [h0] at hcell
        clear h0
        go_wp2_with fail
        go_ret
        exact plainPost_no _ _
      · have r1 : ((l.length : Int) == 0) = false := beq_eq_false_iff_ne.2 (by omega)
        have r2 : (20 : Int) < l.length := by omega
        go_wp2_with fail
        go_ret
        exact plainPost_no _ _
      · have r1 : ((l.length : Int) == 0) = false := beq_eq_false_iff_ne.2 (by omega)
        have r2 : (l.length : Int) ≤ 20 := by omega
        have r3 : (l.length : Int) ≤ c' := by omega
        have hl1 := h1
        go_wp2_with fail
        go_loop [4] (fun i => ∃ i' : Nat, i' ≤ l.length ∧ i = .int .i64 (i' : Nat) ∧ Hid (∀ x ∈ l.take i', wordOk x ∧ x.length ≤ 100) ∧ Hid (1 ≤ i' → ∀ x, l.head? = some x → x.head? ≠ some 35)) (fun i => l.length - (intOf i).toNat)
        case atStart => exact ⟨0, by omega, rfl, Lib.hid (fun x h => by simp at h), Lib.hid (by omega)⟩
        case round =>
          obtain ⟨i, hi, rfl, hwo, hhd⟩ := hrel
          by_cases hil : i < l.length
          · have hil' : (i : Int) < l.length := by omega
            obtain ⟨g2, o2, rfl, hlt2, hcl2⟩ := HROW.out.at_ (k := i) (by rw [List.length_map]; exact hil)
            have hx0 := hcl2 i (.string ⟨l[i].toArray⟩) (by rw [List.getElem?_map, List.getElem?_eq_getElem hil]; rfl)
            obtain ⟨x, hx⟩ : ∃ x, l[i] = x := ⟨_, rfl⟩
            have HWO := Lib.hid (fun (h : wordOk x ∧ x.length ≤ 100) => take_all hil hwo.out (by rw [hx]; exact h))
            have HHD : Hid ((i = 0 → x.head? ≠ some 35) → ∀ y, l.head? = some y → y.head? ≠ some 35) := Lib.hid (fun h y hy => by
              rcases Nat.eq_zero_or_pos i with h0 | h0
              · have e : y = x := by
                  subst h0
                  cases l with
                  | nil => simp at hil
                  | cons z r => simp at hy hx; rw [← hy, hx]
                rw [e]
                exact h h0
              · exact hhd.out h0 y hy)
            rw [hx] at hx0
            obtain ⟨S, hS⟩ : ∃ S : ByteArray, S = ⟨x.toArray⟩ := ⟨_, rfl⟩
            rw [← hS] at hx0
            have hSz : S.size = x.length := by rw [hS]; simp [ByteArray.size]
            have HSZ := Lib.hid hSz
            have HS := Lib.hid hS
            clear hcl2 hlt2 hx
            rcases Nat.eq_zero_or_pos x.length with x0 | xp
            · have e1 : S.toList = [] := by rw [hS, ByteArray.toList_eq]; exact List.eq_nil_of_length_eq_zero x0
              have e2 : S.toList.isEmpty = true := by rw [e1]; rfl
              clear hS hSz
              go_wp2_with fail
              go_ret
              exact plainPost_no _ _
            have e1 : ¬ S.toList = [] := by rw [hS, ByteArray.toList_eq]; intro e; have : x = [] := e; rw [this] at xp; simp at xp
            have e2 : S.toList.isEmpty = false := by simpa using e1
            have hS0 : 0 < S.size := by omega
            have hS0' : (0 : Int) < S.size := by omega
            by_cases xl : 100 < x.length
            · have e3 : (100 : Int) < S.size := by omega
              clear hS hSz
              go_wp2_with fail
              go_ret
              exact plainPost_no _ _
            have e3 : (S.size : Int) ≤ 100 := by omega
            have e4 : S.size ≤ 100 := by omega
            have hb0 : S[0].toNat = x[0].toNat := by
              subst hS
              rfl
            have hh0 : x.head? = some x[0] := by rw [List.head?_eq_getElem?, List.getElem?_eq_getElem xp]
            obtain ⟨y, hy⟩ : ∃ y, y = x[0].toNat := ⟨_, rfl⟩
            rw [← hy] at hb0
            have hpart : (i = 0 ∧ y = 35) ∨ (i = 0 ∧ y ≠ 35) ∨ (1 ≤ i) := by omega
            rcases hpart with ⟨rfl, h35⟩ | hpart
            · rw [Nat.add_zero] at hx0
              have e5 : ((S[0].toNat : Int) == 35) = true := by rw [hb0, h35]; rfl
              have e6 : S[0].toNat = 35 := by rw [hb0, h35]
              clear hS hSz hy hh0
              go_wp2_with fail
              go_ret
              exact plainPost_no _ _
            have HHX : Hid (∀ y, l.head? = some y → y.head? ≠ some 35) := Lib.hid (HHD.out (fun h0 e => by
              rw [hh0] at e
              injection e with e
              rw [e] at hy
              have : (35 : UInt8).toNat = 35 := rfl
              omega))
            clear hh0
            rcases hpart with ⟨h0, h35⟩ | h0
            all_goals (try have e5 : ((S[0].toNat : Int) == 35) = false := by rw [hb0]; exact beq_eq_false_iff_ne.2 (by omega))
            all_goals (try have e6 : ((i : Int) == 0) = false := beq_eq_false_iff_ne.2 (by omega))
            all_goals (try obtain rfl := h0)
            all_goals (try rw [Nat.add_zero] at hx0)
            all_goals
              clear hS hSz hy hb0
              go_wp2_with fail
              go_loop [6] (fun j => ∃ j' : Nat, j' ≤ S.size ∧ j = .int .i64 (j' : Nat) ∧ Hid (∀ b ∈ x.take j', isVis b = true)) (fun j => S.size - (intOf j).toNat)
              case atStart => exact ⟨0, by omega, rfl, Lib.hid (fun b h => by simp at h)⟩
              case round =>
                obtain ⟨j, hj, rfl, hvs⟩ := hrel
                by_cases hjl : j < S.size
                · have hjl' : (j : Int) < S.size := by omega
                  have hjx : j < x.length := by have := HSZ.out; omega
                  have hbj : S[j].toNat = x[j].toNat := by
                    have hS := HS.out
                    subst hS
                    rfl
                  have HV := Lib.hid (fun (h : isVis x[j] = true) => take_all hjx hvs.out h)
                  have hvv : isVis x[j] = (decide (33 ≤ x[j].toNat) && decide (x[j].toNat ≤ 126)) := rfl
                  rw [← hbj] at hvv
                  have HVV := Lib.hid hvv
                  clear hvv hbj
                  by_cases v1 : S[j].toNat < 33
                  · have v2 : (S[j].toNat : Int) < 33 := by omega
                    go_wp2_with fail
                    go_ret
                    exact plainPost_no _ _
                  · have v2 : (33 : Int) ≤ S[j].toNat := by omega
                    by_cases v3 : 126 < S[j].toNat
                    · have v4 : (126 : Int) < S[j].toNat := by omega
                      go_wp2_with fail
                      go_ret
                      exact plainPost_no _ _
                    · have v4 : (S[j].toNat : Int) ≤ 126 := by omega
                      go_wp2_with fail
                      go_round
                      case rel => exact ⟨j + 1, by omega, by go_num, Lib.hid (HV.out (by rw [HVV.out]; simp; omega))⟩
                      case measure => simp [intOf]; omega
                · obtain rfl : j = S.size := by omega
                  have HWX : Hid (wordOk x ∧ x.length ≤ 100) := Lib.hid (by
                    have h := hvs.out
                    rw [HSZ.out, List.take_length] at h
                    exact ⟨⟨by intro e; rw [e] at xp; simp at xp, List.all_eq_true.2 h⟩, by omega⟩)
                  go_wp2_with fail
                  go_round
                  case rel => first | exact ⟨i + 1, by omega, by go_num, Lib.hid (HWO.out HWX.out), Lib.hid (fun _ => HHX.out)⟩ | exact ⟨0 + 1, by omega, by go_num, Lib.hid (HWO.out HWX.out), Lib.hid (fun _ => HHX.out)⟩
                  case measure => simp [intOf]; omega
          · obtain rfl : i = l.length := by omega
            have HF : Hid (shortLine l) := Lib.hid (by
              have h1 := hwo.out
              rw [List.take_length] at h1
              exact ⟨⟨by intro e; rw [e] at hl1; simp at hl1, fun x hx => (h1 x hx).1, hhd.out (by omega)⟩, by omega, fun x hx => (h1 x hx).2⟩)
            go_wp2_with fail
            go_round
            case rel => exact ⟨k + 1, by omega, by go_num, Lib.hid (HOK1.out HF.out)⟩
            case measure => simp [intOf]; omega
    · obtain rfl : k = ls.length := by omega
      go_wp2_with fail
      go_ret
      exact ⟨true, rfl, fun _ => by have h := hok.out; rw [List.take_length] at h; exact h, rfl⟩
end Go.Proofs.Ytnfkeaplglknlaa.words
