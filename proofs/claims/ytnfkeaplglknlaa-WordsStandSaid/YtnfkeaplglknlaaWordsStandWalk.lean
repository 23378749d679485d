/- WordsStand, walked. -/
import Derived.Test.YtnfkeaplglknlaaWordsBlanksWalk
import Derived.Test.YtnfkeaplglknlaaWordsStandLaw
import Derived.Outline
namespace Go.Proofs.Ytnfkeaplglknlaa.words
open Go.RowKit
open Go.Proofs.Ytnfkeaplglknlaa.aid

theorem line_le {l : List UInt8} (h : l.length ≤ 1048576) : (split l).err = 20 → 1 ≤ (split l).line ∧ 1 ≤ (split l).col ∧ (split l).line ≤ 1048577 ∧ (split l).col ≤ 1048577 := by
  intro he
  unfold split at he ⊢
  rw [if_neg (by omega)] at he ⊢
  obtain ⟨h1, h2, h3, h4⟩ := scan_place l 1 1 [] [] [] (Nat.le_refl _) (Nat.le_refl _) (by rw [he]; decide)
  omega

set_option maxHeartbeats 16000000 in
set_option maxRecDepth 100000 in
theorem stand_any (l : List UInt8) (A : Option Addr) (c : Nat) (hc : l.length ≤ c) (hl : l.length ≤ 600) (w : World) (hr : Row w w.heap.size A (u8s l)) :
    Calls Try.prog 10 #[.slice A l.length c] w fun e w' => e = .returned (.bool true) ∧ Below w.heap.size w w' := by
  have HS := Lib.hid (split_any l A c hc w hr)
  unfold SplitPost at HS
  have hcc : (l.length : Int) ≤ c := by omega
  have HR := Lib.hid hr
  clear hr
  by_cases hg : l.all good = true
  · have he : (split l).err = 0 := by rw [split_err (by omega), if_pos hg]
    have hX0 := split_rows (l := l) (by omega) hg
    have HF := Lib.hid (fun row (h : row ∈ (split l).out) => split_few (l := l) (by omega) h)
    obtain ⟨L1, hL1⟩ : ∃ L1, L1 = (split l).line := ⟨_, rfl⟩
    obtain ⟨C1, hC1⟩ : ∃ C1, C1 = (split l).col := ⟨_, rfl⟩
    obtain ⟨X, hX⟩ : ∃ X, X = (split l).out := ⟨_, rfl⟩
    rw [he, ← hL1, ← hC1, ← hX] at HS
    rw [← hX] at HF hX0
    have hxl := all_len l 1
    rw [← hX0] at hxl
    have HX0 := Lib.hid hX0
    clear he hL1 hC1 hX hg hX0
    go_enter Try.func10, Try.ntmps10
    go_wp2_with fail
    refine HS.out.mono ?_
    rintro e w1 ⟨v1, rfl, hx1, hb1⟩
    obtain ⟨A1, c1, rfl⟩ := hx1.len
    obtain ⟨W1, hW1⟩ : ∃ W1, W1 = w1.alloc (.cells #[.int .i64 L1, .int .i64 C1] 31) := ⟨_, rfl⟩
    have hbw : Below w1.heap.size w1 W1 := by rw [hW1]; exact (Below.refl _ _).alloc (Nat.le_refl _) _
    have hq := hb1.trans (hbw.mono hb1.size)
    have HX1 := Lib.hid (hx1.below hbw)
    have HR1 := Lib.hid ((HR.out.below hq).more hq.size)
    have HB1 := Lib.hid hq
    have HW1 := Lib.hid hW1
    clear hx1 hb1 hbw hq hW1 HS
    go_wp2_with fail
    rw [← HW1.out]
    go_loopw [6, 7, 8, 9] (fun n f nx k wr => ∃ (n' f' nx' k' : Nat), n = .int .i64 (n' : Nat) ∧ f = .int .i64 (f' : Nat) ∧ nx = .int .i64 (nx' : Nat) ∧ k = .int .i64 (k' : Nat) ∧ f' ≤ k' ∧ k' ≤ l.length + 1 ∧ n' ≤ k' + 1 ∧ nx' ≤ X.length ∧ Hid (∀ b ∈ (l.drop f').take (k' - f'), isEnd b = false) ∧ Hid (X.drop nx' = allRows (l.drop f') n') ∧ Hid (l.length < k' → l.length < f') ∧ Below W1.heap.size W1 wr) (fun _ _ _ k _ => l.length + 1 - (intOf k).toNat)
    case atStart => exact ⟨1, 0, 0, 0, rfl, rfl, rfl, rfl, by omega, by omega, by omega, by omega, Lib.hid (by simp), Lib.hid (by rw [List.drop_zero, List.drop_zero]; exact HX0.out), Lib.hid (by omega), Below.refl _ _⟩
    case round =>
      obtain ⟨n, f, nx, k, rfl, rfl, rfl, rfl, hfk, hk, hnk, hnx, hxb, hxd, hkf, hBk⟩ := hrel
      have hnk' : n ≤ 602 := by omega
      by_cases hkl : k ≤ l.length
      · have hkl' : (k : Int) ≤ l.length := by omega
        by_cases hco : ∃ h : k < l.length, isEnd l[k] = false
        · obtain ⟨hlt, hne⟩ := hco
          have hlt' : (k : Int) < l.length := by omega
          obtain ⟨g, o, rfl, hgb, hcl⟩ := (HR1.out.below hBk).at_ (k := k) (by rw [List.length_map]; exact hlt)
          have hc0 := hcl k (.int .u8 (l[k].toNat : Int)) (u8s_at l k hlt)
          have hb8 : (l[k].toNat : Int) ≤ 255 := by have := l[k].toNat_lt; omega
          have HXB := Lib.hid (all_bytes hfk hlt hxb.out hne)
          have hye : ((l[k].toNat : Int) != 10) = true := by
            unfold isEnd at hne
            rw [bne_iff_ne]
            have := beq_eq_false_iff_ne.1 hne
            omega
          obtain ⟨y, hy⟩ : ∃ y, y = l[k].toNat := ⟨_, rfl⟩
          rw [← hy] at hc0 hb8 hye
          have HBK := Lib.hid hBk
          clear hcl hne hy hBk
          go_wp2_with fail
          go_roundw
          case rel => exact ⟨n, f, nx, k + 1, rfl, rfl, rfl, by go_num, by omega, by omega, by omega, hnx, HXB, hxd, Lib.hid (by omega), HBK.out⟩
          case measure => simp [intOf]; omega
        · have hen : k = l.length ∨ ∃ h : k < l.length, isEnd l[k] = true := by
            by_cases h : k < l.length
            · refine .inr ⟨h, ?_⟩
              cases hq : isEnd l[k] with
              | true => rfl
              | false => exact absurd ⟨h, hq⟩ hco
            · exact .inl (by omega)
          have hnr := next_row hfk hkl hxb.out hen hxd.out hnx
          have hbyte : ∀ (h : k < l.length), isEnd l[k] = true → l[k].toNat = 10 := by
            intro h he
            unfold isEnd at he
            simpa using he
          have HBK := Lib.hid hBk
          clear hco
          have hby : (l.length : Int) ≤ k ∨ ((k : Int) < l.length ∧ ∃ g o, A = some ⟨g, o, none⟩ ∧ wr.cell? ⟨g, o + k, none⟩ = some (.int .u8 10)) := by
            rcases hen with h | ⟨h, he⟩
            · exact .inl (by omega)
            · obtain ⟨g, o, e, hgb, hcl⟩ := (HR1.out.below hBk).at_ (k := k) (by rw [List.length_map]; exact h)
              have hc0 := hcl k (.int .u8 (l[k].toNat : Int)) (u8s_at l k h)
              rw [hbyte h he] at hc0
              exact .inr ⟨by omega, g, o, e, hc0⟩
          have HXB : Hid (∀ b ∈ (l.drop (k + 1)).take (k + 1 - (k + 1)), isEnd b = false) := Lib.hid (by simp)
          clear hbyte hen
          rcases hnr with ⟨hlt, hrow, hne, hd2⟩ | ⟨hd2, hno⟩
          · have HD2 := Lib.hid hd2
            obtain ⟨R, hR⟩ : ∃ R, X[nx] = R := ⟨_, rfl⟩
            rw [hR] at hrow hne
            have hfew := HF.out R (by rw [← hR]; exact List.getElem_mem hlt)
            have hst := line_stand ((l.drop f).take (k - f)) n
            rw [← hrow] at hst
            have hwp : ∀ (i : Nat) (h : i < R.length), ∃ a, a + 1 = f + R[i].col ∧ f ≤ a ∧ a + R[i].text.length ≤ k ∧ 0 < R[i].text.length ∧ (l.drop a).take R[i].text.length = R[i].text ∧ (f < a → ∃ a', ∃ h : a' < l.length, a = a' + 1 ∧ (l[a']).toNat ≤ 32) ∧ (a + R[i].text.length < k → ∃ h : a + R[i].text.length < l.length, (l[a + R[i].text.length]).toNat ≤ 32) := fun i h => stands_at hfk hkl (hst.1 _ (List.getElem_mem h))
            have hwl : ∀ (i : Nat) (h : i < R.length), R[i].line = n := fun i h => (hst.1 _ (List.getElem_mem h)).line
            have HWP := Lib.hid hwp
            have HWL := Lib.hid hwl
            have HRS := Lib.hid (fun (i : Nat) (h : i + 1 < R.length) => rise_at R i h hst.2)
            have hRp : 0 < R.length := List.length_pos_iff.2 hne
            obtain ⟨gx, ox, gk, ck, rfl, xx0, xm1, xx1⟩ := (HX1.out.below hBk).row_ hlt hR
            have hl0 := (xx1 0 hRp).2.1
            rw [hwl 0 hRp] at hl0
            have hl0' : wr.cell? ⟨gk, 1, none⟩ = some (.int .i64 (n : Nat)) := hl0
            have HXX := Lib.hid xx1
            have hlt' : (nx : Int) < X.length := by omega
            have hRp' : (0 : Int) < R.length := by omega
            have hRc : (R.length : Int) ≤ ck := by omega
            have hlp : f < l.length := by
              obtain ⟨a, ha1, hfa, hak, hsz, _⟩ := hwp 0 hRp
              omega
            obtain ⟨g, o, rfl, hgb, hcl⟩ := (HR1.out.below hBk).at_ (k := f) (by rw [List.length_map]; exact hlp)
            have HCL : Hid (∀ i (h : i < l.length), wr.cell? ⟨g, o + i, none⟩ = some (.int .u8 (l[i].toNat : Nat))) := Lib.hid (fun i h => hcl i _ (u8s_at l i h))
            have hby2 : (l.length : Int) ≤ k ∨ ((k : Int) < l.length ∧ wr.cell? ⟨g, o + k, none⟩ = some (.int .u8 10)) := by
              rcases hby with h | ⟨h, g', o', e, h2⟩
              · exact .inl h
              · injection e with e
                injection e with e1 e2
                subst e1 e2
                exact .inr ⟨h, h2⟩
            clear hd2 hrow hne hst hwp hwl xx1 hR hBk hl0 hby hcl hgb
            rcases hby2 with q1 | ⟨q1, q2⟩
            all_goals as_aux_lemma =>
              go_wp2_with fail
              obtain ⟨wo, rfl⟩ : ∃ wo : World, wo = wr := ⟨_, rfl⟩
              go_loopw [10] (fun i wr => ∃ j, j ≤ R.length ∧ i = .int .i64 (j : Nat) ∧ Below wo.heap.size wo wr) (fun i _ => R.length - (intOf i).toNat)
              case atStart => exact ⟨0, by omega, rfl, Below.refl _ _⟩
              case round =>
                obtain ⟨j, hj, rfl, hBj⟩ := hrel
                have HBJ := Lib.hid hBj
                have HB2 := Lib.hid (HBK.out.trans (hBj.mono HBK.out.size))
                have x0 := (hBj.cell (p := ⟨gx, ox + nx, none⟩) (cell_lt xx0)).trans xx0
                by_cases hji : j < R.length
                · have hji' : (j : Int) < R.length := by omega
                  obtain ⟨p1, p2, p3⟩ := HXX.out j hji
                  have hlj := HWL.out j hji
                  rw [hlj] at p2
                  obtain ⟨a, ha1, hfa, hak, hsz, htx, hlo, hhi⟩ := HWP.out j hji
                  have hris : 0 < j → ∃ j', j = j' + 1 ∧ ∃ h : j' < R.length, R[j'].col + R[j'].text.length < R[j].col := by
                    intro h
                    refine ⟨j - 1, by omega, by omega, ?_⟩
                    have h2 := HRS.out (j - 1) (by omega)
                    have : ∀ m (hm : m < R.length), m = j → R[j - 1].col + R[j - 1].text.length < R[m].col → R[j - 1].col + R[j - 1].text.length < R[j].col := by
                      rintro m hm rfl h; exact h
                    exact this _ _ (by omega) h2
                  obtain ⟨T, hT⟩ : ∃ T : List UInt8, T = R[j].text := ⟨_, rfl⟩
                  obtain ⟨cw, hcw⟩ : ∃ cw, cw = R[j].col := ⟨_, rfl⟩
                  rw [← hT] at p1 hak hsz htx hhi
                  rw [← hcw] at p3 ha1 hris
                  obtain ⟨S, hS⟩ : ∃ S : ByteArray, S = ⟨T.toArray⟩ := ⟨_, rfl⟩
                  have hSz : S.size = T.length := by rw [hS]; simp [ByteArray.size]
                  rw [← hS] at p1
                  obtain ⟨b, hb⟩ : ∃ b, b = a + T.length := ⟨_, rfl⟩
                  have r1 : (f : Int) + (cw : Int) - 1 = (a : Int) := by omega
                  have r2 : (a : Int) + (S.size : Int) = (b : Int) := by omega
                  have r3 : (f : Int) ≤ a := by omega
                  have r4 : (b : Int) ≤ k := by omega
                  have r5 : (a : Int) ≤ b := by omega
                  have r6 : (b : Int) ≤ c := by omega
                  have p1' := (hBj.cell (p := ⟨gk, j * 3, none⟩) (cell_lt p1)).trans p1
                  have p2' := (hBj.cell (p := ⟨gk, j * 3 + 1, none⟩) (cell_lt p2)).trans p2
                  have p3' := (hBj.cell (p := ⟨gk, j * 3 + 2, none⟩) (cell_lt p3)).trans p3
                  have hbk : b ≤ k := by omega
                  have hca : ¬ c = a := by omega
                  have hbl : b ≤ l.length := by omega
                  have hSt : ¬ S.toList = [] := by rw [hS, ByteArray.toList_eq]; intro e; have : T = [] := e; rw [this] at hsz; simp at hsz
                  have hSt2 : S.toList.isEmpty = false := by simpa using hSt
                  have hba : b - a = T.length := by omega
                  obtain ⟨W2, hW2⟩ : ∃ W2, W2 = wr.alloc (.cells #[.string S, .int .i64 (n : Nat), .int .i64 (cw : Nat)] 36) := ⟨_, rfl⟩
                  have hb2 : Below wo.heap.size wo W2 := by rw [hW2]; exact hBj.alloc hBj.size _
                  have hbx : Blk W2 wr.heap.size 36 #[.string S, .int .i64 (n : Nat), .int .i64 (cw : Nat)] := by rw [hW2]; exact Blk.new wr _ _
                  have hbo : Below wr.heap.size wr W2 := by rw [hW2]; exact (Below.refl _ _).alloc (Nat.le_refl _) _
                  have t0 := hbx.cell 0
                  have t1 := hbx.cell 1
                  have t2 := hbx.cell 2
                  simp only [List.getElem?_toArray, List.getElem?_cons_zero, List.getElem?_cons_succ] at t0 t1 t2
                  have hcv : ∀ m, (convert 22 9 (.slice (some ⟨g, o + a, none⟩) (b - a) (c - a))).run Try.prog (W2.drewN m) = .ok (.string S) (W2.drewN m) := by
                    intro m
                    have h := str_part (HR1.out.below (below_drewN (HBK.out.trans (hb2.mono HBK.out.size)) m)) a (b - a) (c - a) (by omega)
                    rw [hba, htx, ← hS] at h
                    rw [hba]
                    exact h
                  have hlo2 : (a : Int) ≤ f ∨ ((f : Int) < a ∧ ∃ a' z : Nat, (a : Int) - 1 = (a' : Int) ∧ (a' : Int) < l.length ∧ W2.cell? ⟨g, o + a', none⟩ = some (.int .u8 (z : Nat)) ∧ (z : Int) ≤ 32) := by
                    by_cases h : f < a
                    · obtain ⟨a', ha', e1, e2⟩ := hlo h
                      have h3 := HCL.out a' ha'
                      exact .inr ⟨by omega, a', l[a'].toNat, by omega, by omega, (hb2.cell (p := ⟨g, o + a', none⟩) (cell_lt h3)).trans h3, by omega⟩
                    · exact .inl (by omega)
                  have hhi2 : (k : Int) ≤ b ∨ ((b : Int) < k ∧ ∃ z : Nat, (b : Int) < l.length ∧ W2.cell? ⟨g, o + b, none⟩ = some (.int .u8 (z : Nat)) ∧ (z : Int) ≤ 32) := by
                    by_cases h : b < k
                    · obtain ⟨h2, e2⟩ := hhi (by omega)
                      have h3 : wo.cell? ⟨g, o + b, none⟩ = some (.int .u8 (l[a + T.length].toNat : Nat)) := by rw [hb]; exact HCL.out _ h2
                      exact .inr ⟨by omega, l[a + T.length].toNat, by omega, (hb2.cell (p := ⟨g, o + b, none⟩) (cell_lt h3)).trans h3, by omega⟩
                    · exact .inl (by omega)
                  have y0 := (hbo.cell (p := ⟨gx, ox + nx, none⟩) (cell_lt x0)).trans x0
                  have hris2 : j = 0 ∨ ((0 : Int) < j ∧ ∃ (j' : Nat) (S' : ByteArray) (c' : Nat), (j : Int) - 1 = (j' : Int) ∧ (j' : Int) < R.length ∧ W2.cell? ⟨gk, j' * 3, none⟩ = some (.string S') ∧ W2.cell? ⟨gk, j' * 3 + 2, none⟩ = some (.int .i64 (c' : Nat)) ∧ (c' : Int) + (S'.size : Int) < cw ∧ (c' : Int) + (S'.size : Int) ≤ 2000) := by
                    rcases Nat.eq_zero_or_pos j with h | h
                    · exact .inl h
                    · obtain ⟨j', e1, h1, h2⟩ := hris h
                      obtain ⟨s1, s2, s3⟩ := HXX.out j' h1
                      have h3 : (⟨R[j'].text.toArray⟩ : ByteArray).size = R[j'].text.length := by simp [ByteArray.size]
                      exact .inr ⟨by omega, j', ⟨R[j'].text.toArray⟩, R[j'].col, by omega, by omega, (hb2.cell (p := ⟨gk, j' * 3, none⟩) (cell_lt s1)).trans s1, (hb2.cell (p := ⟨gk, j' * 3 + 2, none⟩) (cell_lt s3)).trans s3, by omega, by omega⟩
                  have HW2 := Lib.hid hW2
                  have HQ2 := Lib.hid hb2
                  clear hBj p1 p2 p3 hlj hT hcw hS hb hSz hlo hhi hris hb2 hbx hbo htx hba hW2
                  go_wp2_with fail
                  rw [← HW2.out]
                  clear p1' p2' p3' x0
                  rename_i K2 hK2 K1 hK1 K0 hK0
                  have HK0 := Lib.hid hK0
                  have HK1 := Lib.hid hK1
                  have HK2 := Lib.hid hK2
                  clear hK0 hK1 hK2 HWP HWL HRS HXX HCL HF HX0
                  rcases hlo2 with u1 | ⟨u1, a', z, m2, m3, m4, m5⟩ <;> rcases hhi2 with v1 | ⟨v1, z', v3, v4, v5⟩
                  all_goals have d1 : decide (a < f) = false := decide_eq_false (by omega)
                  all_goals have d2 : decide (k < b) = false := decide_eq_false (by omega)
                  all_goals (first | (have d3 : decide (f < a) = false := decide_eq_false (by omega)) | (have d3 : decide (f < a) = true := decide_eq_true (by omega)))
                  all_goals (first | (have d4 : decide (b < k) = false := decide_eq_false (by omega)) | (have d4 : decide (b < k) = true := decide_eq_true (by omega)))
                  all_goals (try have d5 : decide ((32 : Int) < (z : Int)) = false := decide_eq_false (by omega))
                  all_goals (try have d6 : decide ((32 : Int) < (z' : Int)) = false := decide_eq_false (by omega))
                  all_goals as_aux_lemma =>
                    go_quiet (fail)
                    change K0 _ _
                    refine HK0.out _ _ ?_
                    go_wp2_with fail
                    change K1 _ _
                    refine HK1.out _ _ ?_
                    clear HK0 HK1
                    go_wp2_with fail
                    rename_i KD hKD
                    have HKD := Lib.hid hKD
                    clear hKD
                    rcases hris2 with hj0 | ⟨i1, j', S', c', i2, i3, i4, i5, i6, i7⟩
                    all_goals (first | (have d7 : decide ((0 : Int) < (j : Int)) = false := decide_eq_false (by omega)) | (have d7 : decide ((0 : Int) < (j : Int)) = true := decide_eq_true (by omega)))
                    all_goals (first | (have d7' : decide (0 < j) = false := decide_eq_false (by omega)) | (have d7' : decide (0 < j) = true := decide_eq_true (by omega)))
                    all_goals (try clear hj0)
                    all_goals (try have d8 : decide ((cw : Int) ≤ (c' : Int) + (S'.size : Int)) = false := decide_eq_false (by omega))
                    all_goals (try have d9 : decide (cw ≤ c' + S'.size) = false := decide_eq_false (by omega))
                    all_goals as_aux_lemma =>
                      go_quiet (fail)
                      change KD _ _
                      refine HKD.out _ _ ?_
                      go_wp2_with fail
                      have hK2 := HK2.out
                      go_wp2_with fail
                      go_roundw
                      case rel => exact ⟨j + 1, by omega, by go_num, below_drewN HQ2.out _⟩
                      case measure => simp [intOf]; omega
                · obtain rfl : j = R.length := by omega
                  clear hBj xx0
                  go_wp2_with fail
                  go_roundw
                  case rel => exact ⟨n + 1, k + 1, nx + 1, k + 1, by go_num, by go_num, by go_num, by go_num, by omega, by omega, by omega, by omega, HXB, HD2, Lib.hid (by omega), HB2.out⟩
                  case measure => simp [intOf]; omega
          · have HD2 := Lib.hid hd2
            have hno2 : (X.length : Int) ≤ nx ∨ ((nx : Int) < X.length ∧ ∃ gx ox gk m ck x, A1 = some ⟨gx, ox, none⟩ ∧ wr.cell? ⟨gx, ox + nx, none⟩ = some (.slice (some ⟨gk, 0, none⟩) m ck) ∧ 0 < m ∧ m ≤ ck ∧ wr.cell? ⟨gk, 1, none⟩ = some (.int .i64 (x : Nat)) ∧ ((x : Int) == n) = false) := by
              rcases hno with h | ⟨h, x, r, hx, hxn⟩
              · exact .inl (by omega)
              · obtain ⟨gx, ox, gxk, mx, cx, e, xx0, xm0, xm1, xx1, xx2, xx3⟩ := (HX1.out.below hBk).first h hx
                exact .inr ⟨by omega, gx, ox, gxk, mx, cx, x.line, e, xx0, xm0, xm1, xx2, beq_eq_false_iff_ne.2 (by omega)⟩
            clear hd2 hno hBk
            rcases hby with q1 | ⟨q1, g, o, rfl, q2⟩ <;> rcases hno2 with t1 | ⟨t1, gx, ox, gk, m, ck, x, rfl, t2, t3, t4, t5, t6⟩
            all_goals (try have t7 : (0 : Int) < m := by omega)
            all_goals as_aux_lemma =>
              go_wp2_with fail
              go_roundw
              case rel => exact ⟨n + 1, k + 1, nx, k + 1, by go_num, by go_num, rfl, by go_num, by omega, by omega, by omega, hnx, HXB, HD2, Lib.hid (by omega), HBK.out⟩
              case measure => simp [intOf]; omega
      · have hkl' : (l.length : Int) < k := by omega
        have hX2 := hxd.out
        have hfl := hkf.out (by omega)
        rw [List.drop_of_length_le (by omega : l.length ≤ f), all_nil, List.drop_eq_nil_iff] at hX2
        obtain rfl : nx = X.length := by omega
        have HQ := Lib.hid (HB1.out.trans (hBk.mono HB1.out.size))
        clear hX2 hfl hBk
        go_wp2_with fail
        go_ret
        exact ⟨rfl, HQ.out⟩
  · have he : (split l).err = 20 := by rw [split_err (by omega), if_neg hg]
    have hx := (split_bad (l := l) (by omega) (by rw [he]; decide)).1
    obtain ⟨p1, p2, p3, p4⟩ := line_le (l := l) (by omega) he
    obtain ⟨L1, hL1⟩ : ∃ L1, L1 = (split l).line := ⟨_, rfl⟩
    obtain ⟨C1, hC1⟩ : ∃ C1, C1 = (split l).col := ⟨_, rfl⟩
    rw [he, hx, ← hL1, ← hC1] at HS
    rw [← hL1] at p1 p3
    rw [← hC1] at p2 p4
    have r1 : (0 : Int) < L1 := by omega
    have r2 : (0 : Int) < C1 := by omega
    have r3 : decide (0 < L1) = true := decide_eq_true (by omega)
    have r4 : decide (0 < C1) = true := decide_eq_true (by omega)
    clear he hx hL1 hC1 hg
    go_enter Try.func10, Try.ntmps10
    go_wp2_with fail
    refine HS.out.mono ?_
    rintro e w1 ⟨v1, rfl, hx1, hb1⟩
    obtain ⟨A1, c1, rfl⟩ := hx1.len
    obtain ⟨W1, hW1⟩ : ∃ W1, W1 = w1.alloc (.cells #[.int .i64 L1, .int .i64 C1] 31) := ⟨_, rfl⟩
    have hbx : Blk W1 w1.heap.size 31 #[.int .i64 L1, .int .i64 C1] := by rw [hW1]; exact Blk.new w1 _ _
    have hbw : Below w1.heap.size w1 W1 := by rw [hW1]; exact (Below.refl _ _).alloc (Nat.le_refl _) _
    have t0 := hbx.cell 0
    have t1 := hbx.cell 1
    simp only [List.getElem?_toArray, List.getElem?_cons_zero, List.getElem?_cons_succ] at t0 t1
    have HB := Lib.hid (hb1.trans (hbw.mono hb1.size))
    rw [hW1] at t0 t1
    have HW1 := Lib.hid hW1
    clear hx1 hb1 hbw hbx hW1 HS
    simp only [List.length_nil]
    go_wp2_with fail
    go_ret
    exact ⟨rfl, by rw [← HW1.out]; exact HB.out⟩

set_option maxHeartbeats 1000000 in
theorem wordsStand_walk (w : World) (l0 : List UInt8) (A0 : Option Addr) (c0 : Nat) (l1 : List UInt8) (A1 : Option Addr) (c1 : Nat) (n0 : l0.length ≤ 9223372036854775807) (k0 : l0.length ≤ c0) (r0 : Row w w.heap.size A0 (u8s l0)) (n1 : l1.length ≤ 9223372036854775807) (k1 : l1.length ≤ c1) (r1 : Row w w.heap.size A1 (u8s l1)) :
    Calls Try.prog 3 #[.slice A0 l0.length c0, .slice A1 l1.length c1] w fun e w' => e = .returned (.bool true) ∧ Below w.heap.size w w' := by
  by_cases hl : 300 < l0.length
  · have hl' : (300 : Int) < l0.length := by omega
    go_enter Try.func3, Try.ntmps3
    go_wp2_with fail
    refine (known_any w).mono ?_
    rintro e wk ⟨rfl, hbk⟩
    go_wp2_with fail
    go_ret
    exact ⟨rfl, hbk⟩
  · have hl' : (l0.length : Int) ≤ 300 := by omega
    have HS := Lib.hid (fun W (h : Below w.heap.size w W) => stand_any l0 A0 c0 k0 (by omega) W ((r0.below h).more h.size))
    have HT := Lib.hid (fun W (h : Below w.heap.size w W) => text_any l1 A1 c1 n1 W ((r1.below h).more h.size))
    have HD := Lib.hid (fun A c W h r => stand_any (textOf l1) A c h (by have := textOf_len l1; omega) W r)
    have htl := textOf_len l1
    generalize textOf l1 = tt at *
    clear hl r0 r1 k0 k1
    go_enter Try.func3, Try.ntmps3
    go_wp2_with fail
    refine (known_any w).mono ?_
    rintro e wk ⟨rfl, hbk⟩
    have HB := Lib.hid hbk
    clear hbk
    go_wp2_with fail
    refine (HS.out wk HB.out).mono ?_
    rintro e w2 ⟨rfl, hb2⟩
    have HB2 := Lib.hid (HB.out.trans (hb2.mono HB.out.size))
    clear hb2
    go_wp2_with fail
    refine (HT.out w2 HB2.out).mono ?_
    rintro e w3 ⟨v, rfl, hown, hb3⟩
    obtain ⟨A3, c3, rfl, hc3, -⟩ := own_form hown
    have HR3 := Lib.hid (of_own hown)
    have HB3 := Lib.hid (HB2.out.trans (hb3.mono HB2.out.size))
    clear hown hb3
    go_wp2_with fail
    refine (HD.out A3 c3 w3 hc3 HR3.out).mono ?_
    rintro e w4 ⟨rfl, hb4⟩
    have HB4 := Lib.hid (HB3.out.trans (hb4.mono HB3.out.size))
    clear hb4
    go_wp2_with fail
    go_ret
    exact ⟨rfl, HB4.out⟩
end Go.Proofs.Ytnfkeaplglknlaa.words
