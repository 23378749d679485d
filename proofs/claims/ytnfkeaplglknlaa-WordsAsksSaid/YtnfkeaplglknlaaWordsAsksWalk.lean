/- WordsAsks, walked. -/
import Derived.Test.YtnfkeaplglknlaaWordsAsksOne
import Derived.Deep.RegionHeld
namespace Go.Proofs.Ytnfkeaplglknlaa.words
open Go.RowKit
open Go.Proofs.Ytnfkeaplglknlaa.aid

def tots (l : List (List UInt8)) : Nat := (l.map List.length).sum
theorem tots_succ (l : List (List UInt8)) (i : Nat) (h : i < l.length) : tots (l.take (i + 1)) = tots (l.take i) + l[i].length := by
  unfold tots
  rw [List.take_succ_eq_append_getElem h, List.map_append, List.sum_append]
  simp
theorem joinLine_le (l : List (List UInt8)) : (joinLine l).length ≤ 1 + l.length + tots l := by
  by_cases h : l = []
  · subst h; simp [joinLine, Lib.join_nil, tots]
  · rw [join_wt l h]
    have : ∀ m : List (List UInt8), wt m = m.length + tots m := by
      intro m
      induction m with
      | nil => rfl
      | cons x r ih =>
        have e1 : wt (x :: r) = x.length + 1 + wt r := by simp [wt]
        have e2 : tots (x :: r) = x.length + tots r := by simp [tots]
        rw [e1, e2, ih, List.length_cons]
        omega
    rw [this l]
    omega

theorem join_few : ∀ ls : List (List (List UInt8)), ls.length ≤ (joinText ls).length ∧ ∀ l ∈ ls, l.length ≤ (joinText ls).length
  | [] => ⟨Nat.le_refl _, fun l h => by cases h⟩
  | l :: r => by
    obtain ⟨h1, h2⟩ := join_few r
    have e : (joinText (l :: r)).length = (joinLine l).length + (joinText r).length := by simp [joinText]
    have e1 : 1 ≤ (joinLine l).length := by simp [joinLine]
    have e2 : l.length ≤ (joinLine l).length := by
      by_cases h : l = []
      · subst h; simp
      · rw [join_wt l h]
        have : ∀ m : List (List UInt8), m.length ≤ wt m := by
          intro m
          induction m with
          | nil => exact Nat.le_refl _
          | cons x r ih =>
            have e1 : wt (x :: r) = x.length + 1 + wt r := by simp [wt]
            rw [e1, List.length_cons]
            omega
        exact this l
    refine ⟨by rw [e, List.length_cons]; omega, fun m hm => ?_⟩
    rcases List.mem_cons.1 hm with rfl | hm
    · omega
    · have := h2 m hm
      omega
set_option maxHeartbeats 16000000 in
set_option maxRecDepth 100000 in
theorem wordsAsks_walk (w : World) (l0 : List UInt8) (A0 : Option Addr) (c0 : Nat) (ls : List (List (List UInt8))) (v : Value) (l2 : List UInt8) (A2 : Option Addr) (c2 : Nat) (n0 : l0.length ≤ 9223372036854775807) (k0 : l0.length ≤ c0) (r0 : Row w w.heap.size A0 (u8s l0))
    (h1 : Lns w v ls) (hsl : ls.length ≤ 9223372036854775807) (hsz : ∀ l ∈ ls, l.length ≤ 140737488351232 ∧ ∀ x ∈ l, x.length ≤ 140737488351232) (n2 : l2.length ≤ 9223372036854775807) (k2 : l2.length ≤ c2) (r2 : Row w w.heap.size A2 (u8s l2)) :
    Calls Try.prog 7 #[.slice A0 l0.length c0, v, .slice A2 l2.length c2] w fun e w' => e = .returned (.bool true) ∧ Below w.heap.size w w' := by
  obtain ⟨A, c, rfl, hc⟩ := h1.len
  have HL := Lib.hid h1
  have HSZ := Lib.hid hsz
  have HR0 := Lib.hid r0
  have HTX := Lib.hid (fun W (h : Below w.heap.size w W) => text_any l2 A2 c2 n2 W ((r2.below h).more h.size))
  have hcc : (ls.length : Int) ≤ c := by omega
  clear h1 hsz r0 r2 k2
  go_enter Try.func7, Try.ntmps7
  go_wp2_with fail
  go_loop [7, 8] (fun t i => ∃ (t' k : Nat), k ≤ ls.length ∧ t' ≤ 9223372036854775807 ∧ t = .int .i64 (t' : Nat) ∧ i = .int .i64 (k : Nat) ∧ Hid (t' ≤ 1000 → l0.length + (joinText (ls.take k)).length ≤ t')) (fun _ i => ls.length - (intOf i).toNat)
  case atStart => exact ⟨l0.length, 0, by omega, by omega, rfl, rfl, Lib.hid (fun _ => by simp [joinText])⟩
  case round =>
    obtain ⟨t, k, hk, ht, rfl, rfl, hin⟩ := hrel
    by_cases hgo : k < ls.length ∧ t ≤ 1000
    · obtain ⟨hlt, ht1⟩ := hgo
      have hlt' : (k : Int) < ls.length := by omega
      have ht1' : (t : Int) ≤ 1000 := by omega
      obtain ⟨l, hl⟩ : ∃ l, ls[k] = l := ⟨_, rfl⟩
      obtain ⟨g, o, A', c', rfl, hcell, hc', hrow⟩ := HL.out.at_ hlt hl
      have hls := HSZ.out l (by rw [← hl]; exact List.getElem_mem hlt)
      have hll : l.length ≤ 140737488351232 := hls.1
      have HXS := Lib.hid hls.2
      have HROW := Lib.hid hrow
      have HJK := Lib.hid (joinText_succ ls k hlt)
      rw [hl] at HJK
      have HJ0 := Lib.hid (hin.out ht1)
      have hc3 : (l.length : Int) ≤ c' := by omega
      clear hl hls hrow
      go_wp2_with fail
      go_loop [7, 9] (fun t2 i => ∃ (t' i' : Nat), i' ≤ l.length ∧ t' ≤ 9223372036854775807 ∧ t2 = .int .i64 (t' : Nat) ∧ i = .int .i64 (i' : Nat) ∧ Hid (t' ≤ 1000 → t + 1 + l.length + tots (l.take i') ≤ t')) (fun _ i => l.length - (intOf i).toNat)
      case atStart => exact ⟨t + (1 + l.length), 0, by omega, by omega, by go_num, rfl, Lib.hid (fun _ => by simp [tots]; omega)⟩
      case round =>
        obtain ⟨t2, i, hi, ht2, rfl, rfl, hin2⟩ := hrel
        by_cases hgo2 : i < l.length ∧ t2 ≤ 1000
        · obtain ⟨hil, ht3⟩ := hgo2
          have hil' : (i : Int) < l.length := by omega
          have ht3' : (t2 : Int) ≤ 1000 := by omega
          obtain ⟨g2, o2, rfl, hlt2, hcl2⟩ := HROW.out.at_ (k := i) (by rw [List.length_map]; exact hil)
          have hx0 := hcl2 i (.string ⟨l[i].toArray⟩) (by rw [List.getElem?_map, List.getElem?_eq_getElem hil]; rfl)
          have hxz := HXS.out _ (List.getElem_mem hil)
          have HTS := Lib.hid (tots_succ l i hil)
          obtain ⟨x, hx⟩ : ∃ x, l[i] = x := ⟨_, rfl⟩
          rw [hx] at hx0 hxz HTS
          obtain ⟨S, hS⟩ : ∃ S : ByteArray, S = ⟨x.toArray⟩ := ⟨_, rfl⟩
          rw [← hS] at hx0
          have hSz : S.size = x.length := by rw [hS]; simp [ByteArray.size]
          have hS3 : S.size ≤ 140737488351232 := by omega
          have HS3 := Lib.hid hSz
          clear hcl2 hlt2 hx hS hSz
          go_wp2_with fail
          go_round
          case rel => exact ⟨t2 + S.size, i + 1, by omega, by omega, by go_num, by go_num, Lib.hid (fun h => by
            have h1 := hin2.out (by omega)
            have h2 := HTS.out
            have h3 := HS3.out
            omega)⟩
          case measure => simp [intOf]; omega
        · have hfin : Hid (t2 ≤ 1000 → l0.length + (joinText (ls.take (k + 1))).length ≤ t2) := Lib.hid (fun h => by
            have hi2 : i = l.length := by omega
            have h1 := hin2.out h
            rw [hi2, List.take_length] at h1
            have h2 := HJ0.out
            have h3 := joinLine_le l
            rw [HJK.out, List.length_append]
            omega)
          rcases (show (i = l.length) ∨ (i < l.length ∧ 1000 < t2) from by omega) with h | ⟨h, h'⟩
          · have q1 : (l.length : Int) ≤ i := by omega
            clear h hgo2
            go_wp2_with fail
            go_round
            case rel => exact ⟨t2, k + 1, by omega, ht2, rfl, by go_num, hfin⟩
            case measure => simp [intOf]; omega
          · have q1 : (i : Int) < l.length := by omega
            have q2 : (1000 : Int) < t2 := by omega
            clear hgo2
            go_wp2_with fail
            go_round
            case rel => exact ⟨t2, k + 1, by omega, ht2, rfl, by go_num, hfin⟩
            case measure => simp [intOf]; omega
    · by_cases ht2 : t ≤ 1000
      · obtain rfl : k = ls.length := by omega
        have hjt := hin.out ht2
        rw [List.take_length] at hjt
        have ht2' : (t : Int) ≤ 1000 := by omega
        clear hgo hin
        go_wp2_with fail
        refine (known_any w).mono ?_
        rintro e wk ⟨rfl, hbk⟩
        have HBK := Lib.hid hbk
        clear hbk
        go_wp2_with fail
        have HZ := Lib.hid (HBK.out.drew)
        obtain ⟨J, hJ⟩ : ∃ J, J = joinText ls := ⟨_, rfl⟩
        have hjl : J.length ≤ 1000 := by rw [hJ]; omega
        have HJB : Hid (ls.length ≤ 1000 ∧ ∀ l ∈ ls, l.length ≤ 1000) := Lib.hid (by have h := join_few ls; exact ⟨by omega, fun l hl => by have := h.2 l hl; omega⟩)
        have HJA := Lib.hid (fun W (h : Below w.heap.size w W) => join_any ls _ W (HL.out.below h) (by omega) (by have := HJB.out.1; omega) (fun l hl => Nat.le_trans (HJB.out.2 l hl) (by omega)))
        have HJR := Lib.hid (fun W (h : Below w.heap.size w W) => rjoin_any ls _ W (HL.out.below h) (by omega) (by have := HJB.out.1; omega) (fun l hl => Nat.le_trans (HJB.out.2 l hl) (by omega)))
        rw [← hJ] at HJA HJR
        obtain ⟨S, hS⟩ : ∃ S : ByteArray, S = ⟨J.toArray⟩ := ⟨_, rfl⟩
        have HS := Lib.hid hS
        have hl0 : l0.length ≤ 1000 := by omega
        clear hJ hS hjt ht2 ht2'
        rename_i KC hKC
        have HKC := Lib.hid hKC
        clear hKC
        refine wp_region_held_drew (S := (fun _ => True)) (by kernel_rfl) ?_ (fun hHeld => ?_)
        · (try dsimp only)
          first | trivial | skip
        refine wpAnyH_take (i := 0) (oi := ({ dst := some 60, op := Op.move (Operand.tmp 0), type := 22, pos := "law.go:44", after := #[], guard := none } : Oper)) (v := ?_) rfl (by kernel_rfl) (by kernel_rfl) (by kernel_rfl) (fun _ _ _ h => h) (Or.inl ⟨by kernel_rfl, ?_⟩) (by assumption) ?_
        rotate_left
        · (intro w hSw; (try dsimp only at hSw); go_simp)
          all_goals (with_reducible rfl)
        try simp only [Act.put, List.setIfInBounds_toArray, List.set_cons_zero, List.set_cons_succ]
        refine wpAnyH_ready (rs := [1]) (by kernel_rfl) (by simp) ?_
        refine (AllReadyH.cons (o := ({ dst := some 61, op := Op.call { callee := Callee.value (Operand.func 13), args := #[Operand.tmp 60], argTypes := #[22] }, type := 4, pos := "law.go:44", after := #[{ on := 0, ground := Ground.data }], guard := none } : Oper)) rfl (fun K hK => ?_) AllReadyH.nil)
        go_simp
        refine (asks_any l0 A0 c0 k0 (by omega) _ ((HR0.out.below HZ.out).more HZ.out.size)).mono ?_; rintro e z1 ⟨rfl, hb⟩; have HZ := Lib.hid (HZ.out.trans (hb.mono HZ.out.size)); clear hb; go_wp2_with fail
        refine hK.out _ _ ?_ (fun hHeld => ?_)
        · (try dsimp only)
          first | trivial | skip
        clear hK K
        try simp only [Act.put, List.setIfInBounds_toArray, List.set_cons_zero, List.set_cons_succ]
        refine wpAnyH_take (i := 2) (oi := ({ dst := some 62, op := Op.move (Operand.tmp 61), type := 4, pos := "law.go:44", after := #[{ on := 1, ground := Ground.data }, { on := 1, ground := Ground.chain }], guard := none } : Oper)) (v := ?_) rfl (by kernel_rfl) (by kernel_rfl) (by kernel_rfl) (fun _ _ _ h => h) (Or.inl ⟨by kernel_rfl, ?_⟩) (by assumption) ?_
        rotate_left
        · (intro w hSw; (try dsimp only at hSw); go_simp)
          all_goals (with_reducible rfl)
        try simp only [Act.put, List.setIfInBounds_toArray, List.set_cons_zero, List.set_cons_succ]
        refine wpAnyH_take (i := 3) (oi := ({ dst := some 63, op := Op.move (Operand.tmp 2), type := 22, pos := "law.go:44", after := #[{ on := 2, ground := Ground.guard }], guard := some (2, true) } : Oper)) (v := ?_) rfl (by kernel_rfl) (by kernel_rfl) (by kernel_rfl) (fun _ _ _ h => h) (Or.inl ⟨by kernel_rfl, ?_⟩) (by assumption) ?_
        rotate_left
        · (intro w hSw; (try dsimp only at hSw); go_simp)
          all_goals (with_reducible rfl)
        try simp only [Act.put, List.setIfInBounds_toArray, List.set_cons_zero, List.set_cons_succ]
        refine wpAnyH_ready (rs := [4]) (by kernel_rfl) (by simp) ?_
        refine (AllReadyH.cons (o := ({ dst := some 64, op := Op.call { callee := Callee.value (Operand.func 11), args := #[Operand.tmp 63], argTypes := #[22] }, type := 22, pos := "law.go:44", after := #[{ on := 3, ground := Ground.data }, { on := 2, ground := Ground.chain }, { on := 2, ground := Ground.guard }], guard := some (2, true) } : Oper)) rfl (fun K hK => ?_) AllReadyH.nil)
        go_simp
        refine (HTX.out _ HZ.out).mono ?_; rintro e z2 ⟨vt, rfl, hown, hb⟩; obtain ⟨At, ct, rfl, hct, -⟩ := own_form hown; have HRT := Lib.hid (of_own hown); have HZ := Lib.hid (HZ.out.trans (hb.mono HZ.out.size)); clear hown hb; go_wp2_with fail
        refine hK.out _ _ ?_ (fun hHeld => ?_)
        · (try dsimp only)
          first | trivial | skip
        clear hK K
        try simp only [Act.put, List.setIfInBounds_toArray, List.set_cons_zero, List.set_cons_succ]
        refine wpAnyH_ready (rs := [5]) (by kernel_rfl) (by simp) ?_
        refine (AllReadyH.cons (o := ({ dst := some 65, op := Op.call { callee := Callee.value (Operand.func 13), args := #[Operand.tmp 64], argTypes := #[22] }, type := 4, pos := "law.go:44", after := #[{ on := 4, ground := Ground.data }, { on := 4, ground := Ground.chain }, { on := 2, ground := Ground.guard }], guard := some (2, true) } : Oper)) rfl (fun K hK => ?_) AllReadyH.nil)
        go_simp
        refine (asks_any (textOf l2) At ct hct (by have := textOf_len l2; omega) _ HRT.out).mono ?_; rintro e z3 ⟨rfl, hb⟩; have HZ := Lib.hid (HZ.out.trans (hb.mono HZ.out.size)); clear hb HRT; go_wp2_with fail
        refine hK.out _ _ ?_ (fun hHeld => ?_)
        · (try dsimp only)
          first | trivial | skip
        clear hK K
        try simp only [Act.put, List.setIfInBounds_toArray, List.set_cons_zero, List.set_cons_succ]
        refine wpAnyH_take (i := 6) (oi := ({ dst := some 66, op := Op.pick (Operand.tmp 62) (Operand.tmp 65) (Operand.const (Value.bool false)), type := 4, pos := "law.go:44", after := #[{ on := 2, ground := Ground.data }, { on := 5, ground := Ground.data }], guard := none } : Oper)) (v := ?_) rfl (by kernel_rfl) (by kernel_rfl) (by kernel_rfl) (fun _ _ _ h => h) (Or.inl ⟨by kernel_rfl, ?_⟩) (by assumption) ?_
        rotate_left
        · (intro w hSw; (try dsimp only at hSw); go_simp)
          all_goals (with_reducible rfl)
        try simp only [Act.put, List.setIfInBounds_toArray, List.set_cons_zero, List.set_cons_succ]
        refine wpAnyH_take (i := 7) (oi := ({ dst := some 67, op := Op.move (Operand.tmp 66), type := 4, pos := "law.go:44", after := #[{ on := 6, ground := Ground.data }, { on := 5, ground := Ground.chain }], guard := none } : Oper)) (v := ?_) rfl (by kernel_rfl) (by kernel_rfl) (by kernel_rfl) (fun _ _ _ h => h) (Or.inl ⟨by kernel_rfl, ?_⟩) (by assumption) ?_
        rotate_left
        · (intro w hSw; (try dsimp only at hSw); go_simp)
          all_goals (with_reducible rfl)
        try simp only [Act.put, List.setIfInBounds_toArray, List.set_cons_zero, List.set_cons_succ]
        refine wpAnyH_take (i := 8) (oi := ({ dst := some 68, op := Op.move (Operand.tmp 1), type := 39, pos := "law.go:44", after := #[{ on := 7, ground := Ground.guard }], guard := some (7, true) } : Oper)) (v := ?_) rfl (by kernel_rfl) (by kernel_rfl) (by kernel_rfl) (fun _ _ _ h => h) (Or.inl ⟨by kernel_rfl, ?_⟩) (by assumption) ?_
        rotate_left
        · (intro w hSw; (try dsimp only at hSw); go_simp)
          all_goals (with_reducible rfl)
        try simp only [Act.put, List.setIfInBounds_toArray, List.set_cons_zero, List.set_cons_succ]
        refine wpAnyH_ready (rs := [9]) (by kernel_rfl) (by simp) ?_
        refine (AllReadyH.cons (o := ({ dst := some 69, op := Op.call { callee := Callee.value (Operand.func 14), args := #[Operand.tmp 68], argTypes := #[39] }, type := 22, pos := "law.go:44", after := #[{ on := 8, ground := Ground.data }, { on := 7, ground := Ground.chain }, { on := 7, ground := Ground.guard }], guard := some (7, true) } : Oper)) rfl (fun K hK => ?_) AllReadyH.nil)
        go_simp
        refine (HJA.out _ HZ.out).mono ?_; rintro e z4 ⟨Aj, cj, rfl, hcj, hrj, hb⟩; have HRJ := Lib.hid hrj; have HZ := Lib.hid (HZ.out.trans (hb.mono HZ.out.size)); clear hrj hb; go_wp2_with fail
        refine hK.out _ _ ?_ (fun hHeld => ?_)
        · (try dsimp only)
          first | trivial | skip
        clear hK K
        try simp only [Act.put, List.setIfInBounds_toArray, List.set_cons_zero, List.set_cons_succ]
        refine wpAnyH_ready (rs := [10]) (by kernel_rfl) (by simp) ?_
        refine (AllReadyH.cons (o := ({ dst := some 70, op := Op.call { callee := Callee.value (Operand.func 13), args := #[Operand.tmp 69], argTypes := #[22] }, type := 4, pos := "law.go:44", after := #[{ on := 9, ground := Ground.data }, { on := 9, ground := Ground.chain }, { on := 7, ground := Ground.guard }], guard := some (7, true) } : Oper)) rfl (fun K hK => ?_) AllReadyH.nil)
        go_simp
        refine (asks_any J Aj cj hcj (by omega) _ HRJ.out).mono ?_; rintro e z5 ⟨rfl, hb⟩; have HZ := Lib.hid (HZ.out.trans (hb.mono HZ.out.size)); clear hb HRJ; go_wp2_with fail
        refine hK.out _ _ ?_ (fun hHeld => ?_)
        · (try dsimp only)
          first | trivial | skip
        clear hK K
        try simp only [Act.put, List.setIfInBounds_toArray, List.set_cons_zero, List.set_cons_succ]
        refine wpAnyH_take (i := 11) (oi := ({ dst := some 71, op := Op.pick (Operand.tmp 67) (Operand.tmp 70) (Operand.const (Value.bool false)), type := 4, pos := "law.go:44", after := #[{ on := 7, ground := Ground.data }, { on := 10, ground := Ground.data }], guard := none } : Oper)) (v := ?_) rfl (by kernel_rfl) (by kernel_rfl) (by kernel_rfl) (fun _ _ _ h => h) (Or.inl ⟨by kernel_rfl, ?_⟩) (by assumption) ?_
        rotate_left
        · (intro w hSw; (try dsimp only at hSw); go_simp)
          all_goals (with_reducible rfl)
        try simp only [Act.put, List.setIfInBounds_toArray, List.set_cons_zero, List.set_cons_succ]
        refine wpAnyH_take (i := 12) (oi := ({ dst := some 72, op := Op.move (Operand.tmp 71), type := 4, pos := "law.go:44", after := #[{ on := 11, ground := Ground.data }, { on := 10, ground := Ground.chain }], guard := none } : Oper)) (v := ?_) rfl (by kernel_rfl) (by kernel_rfl) (by kernel_rfl) (fun _ _ _ h => h) (Or.inl ⟨by kernel_rfl, ?_⟩) (by assumption) ?_
        rotate_left
        · (intro w hSw; (try dsimp only at hSw); go_simp)
          all_goals (with_reducible rfl)
        try simp only [Act.put, List.setIfInBounds_toArray, List.set_cons_zero, List.set_cons_succ]
        refine wpAnyH_take (i := 13) (oi := ({ dst := some 73, op := Op.move (Operand.tmp 1), type := 39, pos := "law.go:44", after := #[{ on := 12, ground := Ground.guard }], guard := some (12, true) } : Oper)) (v := ?_) rfl (by kernel_rfl) (by kernel_rfl) (by kernel_rfl) (fun _ _ _ h => h) (Or.inl ⟨by kernel_rfl, ?_⟩) (by assumption) ?_
        rotate_left
        · (intro w hSw; (try dsimp only at hSw); go_simp)
          all_goals (with_reducible rfl)
        try simp only [Act.put, List.setIfInBounds_toArray, List.set_cons_zero, List.set_cons_succ]
        refine wpAnyH_take (i := 16) (oi := ({ dst := some 76, op := Op.move (Operand.tmp 1), type := 39, pos := "law.go:44", after := #[{ on := 12, ground := Ground.guard }], guard := some (12, true) } : Oper)) (v := ?_) rfl (by kernel_rfl) (by kernel_rfl) (by kernel_rfl) (fun _ _ _ h => h) (Or.inl ⟨by kernel_rfl, ?_⟩) (by assumption) ?_
        rotate_left
        · (intro w hSw; (try dsimp only at hSw); go_simp)
          all_goals (with_reducible rfl)
        try simp only [Act.put, List.setIfInBounds_toArray, List.set_cons_zero, List.set_cons_succ]
        refine wpAnyH_ready (rs := [14]) (by kernel_rfl) (by simp) ?_
        refine (AllReadyH.cons (o := ({ dst := some 74, op := Op.call { callee := Callee.value (Operand.func 14), args := #[Operand.tmp 73], argTypes := #[39] }, type := 22, pos := "law.go:44", after := #[{ on := 13, ground := Ground.data }, { on := 12, ground := Ground.chain }, { on := 12, ground := Ground.guard }], guard := some (12, true) } : Oper)) rfl (fun K hK => ?_) AllReadyH.nil)
        go_simp
        refine (HJA.out _ HZ.out).mono ?_; rintro e z6 ⟨Ak, ck, rfl, hck, hrk, hb⟩; have HRK := Lib.hid hrk; have hsk := row_string (c := ck) HRK.out; rw [← HS.out] at hsk; have HZ := Lib.hid (HZ.out.trans (hb.mono HZ.out.size)); clear hrk hb; go_wp2_with fail
        refine hK.out _ _ ?_ (fun hHeld => ?_)
        · (try dsimp only)
          first | trivial | skip
        clear hK K
        try simp only [Act.put, List.setIfInBounds_toArray, List.set_cons_zero, List.set_cons_succ]
        refine wpAnyH_ready (rs := [15, 17]) (by kernel_rfl) (by simp) ?_
        refine (AllReadyH.cons (o := ({ dst := some 75, op := Op.convert 22 9 (Operand.tmp 74), type := 9, pos := "law.go:44", after := #[{ on := 14, ground := Ground.data }, { on := 12, ground := Ground.guard }], guard := some (12, true) } : Oper)) rfl (fun K hK => ?_) (AllReadyH.cons (o := ({ dst := some 77, op := Op.call { callee := Callee.value (Operand.func 15), args := #[Operand.tmp 76], argTypes := #[39] }, type := 22, pos := "law.go:44", after := #[{ on := 16, ground := Ground.data }, { on := 14, ground := Ground.chain }, { on := 12, ground := Ground.guard }], guard := some (12, true) } : Oper)) rfl (fun K hK => ?_) AllReadyH.nil))
        · go_simp
          skip
          refine hK.out _ _ ?_ (fun hHeld => ?_)
          · (try dsimp only)
            first | trivial | skip
          clear hK K
          try simp only [Act.put, List.setIfInBounds_toArray, List.set_cons_zero, List.set_cons_succ]
          refine wpAnyH_ready (rs := [17]) (by kernel_rfl) (by simp) ?_
          refine (AllReadyH.cons (o := ({ dst := some 77, op := Op.call { callee := Callee.value (Operand.func 15), args := #[Operand.tmp 76], argTypes := #[39] }, type := 22, pos := "law.go:44", after := #[{ on := 16, ground := Ground.data }, { on := 14, ground := Ground.chain }, { on := 12, ground := Ground.guard }], guard := some (12, true) } : Oper)) rfl (fun K hK => ?_) AllReadyH.nil)
          go_simp
          refine (HJR.out _ HZ.out).mono ?_; rintro e z7 ⟨vm, rfl, hown, hb⟩; obtain ⟨Am, cm, rfl, hcm, -⟩ := own_form hown; have hsk := row_string (c := ck) ((HRK.out.below hb).more hb.size); rw [← HS.out] at hsk; have hsm := row_string (c := cm) (of_own hown); rw [← HS.out] at hsm; have HZ := Lib.hid (HZ.out.trans (hb.mono HZ.out.size)); clear hown hb; go_wp2_with fail
          refine hK.out _ _ ?_ (fun hHeld => ?_)
          · (try dsimp only)
            first | trivial | skip
          clear hK K
          try simp only [Act.put, List.setIfInBounds_toArray, List.set_cons_zero, List.set_cons_succ]
          refine wpAnyH_ready (rs := [18]) (by kernel_rfl) (by simp) ?_
          refine (AllReadyH.cons (o := ({ dst := some 78, op := Op.convert 22 9 (Operand.tmp 77), type := 9, pos := "law.go:44", after := #[{ on := 17, ground := Ground.data }, { on := 12, ground := Ground.guard }], guard := some (12, true) } : Oper)) rfl (fun K hK => ?_) AllReadyH.nil)
          go_simp
          skip
          refine hK.out _ _ ?_ (fun hHeld => ?_)
          · (try dsimp only)
            first | trivial | skip
          clear hK K
          try simp only [Act.put, List.setIfInBounds_toArray, List.set_cons_zero, List.set_cons_succ]
          refine wpAnyH_take (i := 19) (oi := ({ dst := some 79, op := Op.binOp BinOp.eql 9 (Operand.tmp 75) (Operand.tmp 78) 9, type := 4, pos := "law.go:44", after := #[{ on := 15, ground := Ground.data }, { on := 18, ground := Ground.data }, { on := 12, ground := Ground.guard }], guard := some (12, true) } : Oper)) (v := ?_) rfl (by kernel_rfl) (by kernel_rfl) (by kernel_rfl) (fun _ _ _ h => h) (Or.inl ⟨by kernel_rfl, ?_⟩) (by assumption) ?_
          rotate_left
          · (intro w hSw; (try dsimp only at hSw); go_simp)
            all_goals (with_reducible rfl)
          try simp only [Act.put, List.setIfInBounds_toArray, List.set_cons_zero, List.set_cons_succ]
          refine wpAnyH_take (i := 20) (oi := ({ dst := some 80, op := Op.pick (Operand.tmp 72) (Operand.tmp 79) (Operand.const (Value.bool false)), type := 4, pos := "law.go:44", after := #[{ on := 12, ground := Ground.data }, { on := 19, ground := Ground.data }], guard := none } : Oper)) (v := ?_) rfl (by kernel_rfl) (by kernel_rfl) (by kernel_rfl) (fun _ _ _ h => h) (Or.inl ⟨by kernel_rfl, ?_⟩) (by assumption) ?_
          rotate_left
          · (intro w hSw; (try dsimp only at hSw); go_simp)
            all_goals (with_reducible rfl)
          try simp only [Act.put, List.setIfInBounds_toArray, List.set_cons_zero, List.set_cons_succ]
          refine wpAnyH_take (i := 21) (oi := ({ dst := some 6, op := Op.assign (Operand.tmp 80), type := 4, pos := "law.go:44", after := #[{ on := 20, ground := Ground.data }, { on := 17, ground := Ground.chain }, { on := 0, ground := Ground.phase }, { on := 1, ground := Ground.phase }, { on := 2, ground := Ground.phase }, { on := 3, ground := Ground.phase }, { on := 4, ground := Ground.phase }, { on := 5, ground := Ground.phase }, { on := 6, ground := Ground.phase }, { on := 7, ground := Ground.phase }, { on := 8, ground := Ground.phase }, { on := 9, ground := Ground.phase }, { on := 10, ground := Ground.phase }, { on := 11, ground := Ground.phase }, { on := 12, ground := Ground.phase }, { on := 13, ground := Ground.phase }, { on := 14, ground := Ground.phase }, { on := 15, ground := Ground.phase }, { on := 16, ground := Ground.phase }, { on := 17, ground := Ground.phase }, { on := 18, ground := Ground.phase }, { on := 19, ground := Ground.phase }, { on := 20, ground := Ground.phase }], guard := none } : Oper)) (v := ?_) rfl (by kernel_rfl) (by kernel_rfl) (by kernel_rfl) (fun _ _ _ h => h) (Or.inl ⟨by kernel_rfl, ?_⟩) (by assumption) ?_
          rotate_left
          · (intro w hSw; (try dsimp only at hSw); go_simp)
            all_goals (with_reducible rfl)
          try simp only [Act.put, List.setIfInBounds_toArray, List.set_cons_zero, List.set_cons_succ]
          refine wpAnyH_done (by kernel_rfl) ?_ _
          change KC _ _
          refine HKC.out _ _ ?_
          go_wp2
          go_ret
          exact ⟨rfl, HZ.out⟩
        · go_simp
          refine (HJR.out _ HZ.out).mono ?_; rintro e z7 ⟨vm, rfl, hown, hb⟩; obtain ⟨Am, cm, rfl, hcm, -⟩ := own_form hown; have hsk := row_string (c := ck) ((HRK.out.below hb).more hb.size); rw [← HS.out] at hsk; have hsm := row_string (c := cm) (of_own hown); rw [← HS.out] at hsm; have HZ := Lib.hid (HZ.out.trans (hb.mono HZ.out.size)); clear hown hb; go_wp2_with fail
          refine hK.out _ _ ?_ (fun hHeld => ?_)
          · (try dsimp only)
            first | trivial | skip
          clear hK K
          try simp only [Act.put, List.setIfInBounds_toArray, List.set_cons_zero, List.set_cons_succ]
          refine wpAnyH_ready (rs := [15, 18]) (by kernel_rfl) (by simp) ?_
          refine (AllReadyH.cons (o := ({ dst := some 75, op := Op.convert 22 9 (Operand.tmp 74), type := 9, pos := "law.go:44", after := #[{ on := 14, ground := Ground.data }, { on := 12, ground := Ground.guard }], guard := some (12, true) } : Oper)) rfl (fun K hK => ?_) (AllReadyH.cons (o := ({ dst := some 78, op := Op.convert 22 9 (Operand.tmp 77), type := 9, pos := "law.go:44", after := #[{ on := 17, ground := Ground.data }, { on := 12, ground := Ground.guard }], guard := some (12, true) } : Oper)) rfl (fun K hK => ?_) AllReadyH.nil))
          · go_simp
            skip
            refine hK.out _ _ ?_ (fun hHeld => ?_)
            · (try dsimp only)
              first | trivial | skip
            clear hK K
            try simp only [Act.put, List.setIfInBounds_toArray, List.set_cons_zero, List.set_cons_succ]
            refine wpAnyH_ready (rs := [18]) (by kernel_rfl) (by simp) ?_
            refine (AllReadyH.cons (o := ({ dst := some 78, op := Op.convert 22 9 (Operand.tmp 77), type := 9, pos := "law.go:44", after := #[{ on := 17, ground := Ground.data }, { on := 12, ground := Ground.guard }], guard := some (12, true) } : Oper)) rfl (fun K hK => ?_) AllReadyH.nil)
            go_simp
            skip
            refine hK.out _ _ ?_ (fun hHeld => ?_)
            · (try dsimp only)
              first | trivial | skip
            clear hK K
            try simp only [Act.put, List.setIfInBounds_toArray, List.set_cons_zero, List.set_cons_succ]
            refine wpAnyH_take (i := 19) (oi := ({ dst := some 79, op := Op.binOp BinOp.eql 9 (Operand.tmp 75) (Operand.tmp 78) 9, type := 4, pos := "law.go:44", after := #[{ on := 15, ground := Ground.data }, { on := 18, ground := Ground.data }, { on := 12, ground := Ground.guard }], guard := some (12, true) } : Oper)) (v := ?_) rfl (by kernel_rfl) (by kernel_rfl) (by kernel_rfl) (fun _ _ _ h => h) (Or.inl ⟨by kernel_rfl, ?_⟩) (by assumption) ?_
            rotate_left
            · (intro w hSw; (try dsimp only at hSw); go_simp)
              all_goals (with_reducible rfl)
            try simp only [Act.put, List.setIfInBounds_toArray, List.set_cons_zero, List.set_cons_succ]
            refine wpAnyH_take (i := 20) (oi := ({ dst := some 80, op := Op.pick (Operand.tmp 72) (Operand.tmp 79) (Operand.const (Value.bool false)), type := 4, pos := "law.go:44", after := #[{ on := 12, ground := Ground.data }, { on := 19, ground := Ground.data }], guard := none } : Oper)) (v := ?_) rfl (by kernel_rfl) (by kernel_rfl) (by kernel_rfl) (fun _ _ _ h => h) (Or.inl ⟨by kernel_rfl, ?_⟩) (by assumption) ?_
            rotate_left
            · (intro w hSw; (try dsimp only at hSw); go_simp)
              all_goals (with_reducible rfl)
            try simp only [Act.put, List.setIfInBounds_toArray, List.set_cons_zero, List.set_cons_succ]
            refine wpAnyH_take (i := 21) (oi := ({ dst := some 6, op := Op.assign (Operand.tmp 80), type := 4, pos := "law.go:44", after := #[{ on := 20, ground := Ground.data }, { on := 17, ground := Ground.chain }, { on := 0, ground := Ground.phase }, { on := 1, ground := Ground.phase }, { on := 2, ground := Ground.phase }, { on := 3, ground := Ground.phase }, { on := 4, ground := Ground.phase }, { on := 5, ground := Ground.phase }, { on := 6, ground := Ground.phase }, { on := 7, ground := Ground.phase }, { on := 8, ground := Ground.phase }, { on := 9, ground := Ground.phase }, { on := 10, ground := Ground.phase }, { on := 11, ground := Ground.phase }, { on := 12, ground := Ground.phase }, { on := 13, ground := Ground.phase }, { on := 14, ground := Ground.phase }, { on := 15, ground := Ground.phase }, { on := 16, ground := Ground.phase }, { on := 17, ground := Ground.phase }, { on := 18, ground := Ground.phase }, { on := 19, ground := Ground.phase }, { on := 20, ground := Ground.phase }], guard := none } : Oper)) (v := ?_) rfl (by kernel_rfl) (by kernel_rfl) (by kernel_rfl) (fun _ _ _ h => h) (Or.inl ⟨by kernel_rfl, ?_⟩) (by assumption) ?_
            rotate_left
            · (intro w hSw; (try dsimp only at hSw); go_simp)
              all_goals (with_reducible rfl)
            try simp only [Act.put, List.setIfInBounds_toArray, List.set_cons_zero, List.set_cons_succ]
            refine wpAnyH_done (by kernel_rfl) ?_ _
            change KC _ _
            refine HKC.out _ _ ?_
            go_wp2
            go_ret
            exact ⟨rfl, HZ.out⟩
          · go_simp
            skip
            refine hK.out _ _ ?_ (fun hHeld => ?_)
            · (try dsimp only)
              first | trivial | skip
            clear hK K
            try simp only [Act.put, List.setIfInBounds_toArray, List.set_cons_zero, List.set_cons_succ]
            refine wpAnyH_ready (rs := [15]) (by kernel_rfl) (by simp) ?_
            refine (AllReadyH.cons (o := ({ dst := some 75, op := Op.convert 22 9 (Operand.tmp 74), type := 9, pos := "law.go:44", after := #[{ on := 14, ground := Ground.data }, { on := 12, ground := Ground.guard }], guard := some (12, true) } : Oper)) rfl (fun K hK => ?_) AllReadyH.nil)
            go_simp
            skip
            refine hK.out _ _ ?_ (fun hHeld => ?_)
            · (try dsimp only)
              first | trivial | skip
            clear hK K
            try simp only [Act.put, List.setIfInBounds_toArray, List.set_cons_zero, List.set_cons_succ]
            refine wpAnyH_take (i := 19) (oi := ({ dst := some 79, op := Op.binOp BinOp.eql 9 (Operand.tmp 75) (Operand.tmp 78) 9, type := 4, pos := "law.go:44", after := #[{ on := 15, ground := Ground.data }, { on := 18, ground := Ground.data }, { on := 12, ground := Ground.guard }], guard := some (12, true) } : Oper)) (v := ?_) rfl (by kernel_rfl) (by kernel_rfl) (by kernel_rfl) (fun _ _ _ h => h) (Or.inl ⟨by kernel_rfl, ?_⟩) (by assumption) ?_
            rotate_left
            · (intro w hSw; (try dsimp only at hSw); go_simp)
              all_goals (with_reducible rfl)
            try simp only [Act.put, List.setIfInBounds_toArray, List.set_cons_zero, List.set_cons_succ]
            refine wpAnyH_take (i := 20) (oi := ({ dst := some 80, op := Op.pick (Operand.tmp 72) (Operand.tmp 79) (Operand.const (Value.bool false)), type := 4, pos := "law.go:44", after := #[{ on := 12, ground := Ground.data }, { on := 19, ground := Ground.data }], guard := none } : Oper)) (v := ?_) rfl (by kernel_rfl) (by kernel_rfl) (by kernel_rfl) (fun _ _ _ h => h) (Or.inl ⟨by kernel_rfl, ?_⟩) (by assumption) ?_
            rotate_left
            · (intro w hSw; (try dsimp only at hSw); go_simp)
              all_goals (with_reducible rfl)
            try simp only [Act.put, List.setIfInBounds_toArray, List.set_cons_zero, List.set_cons_succ]
            refine wpAnyH_take (i := 21) (oi := ({ dst := some 6, op := Op.assign (Operand.tmp 80), type := 4, pos := "law.go:44", after := #[{ on := 20, ground := Ground.data }, { on := 17, ground := Ground.chain }, { on := 0, ground := Ground.phase }, { on := 1, ground := Ground.phase }, { on := 2, ground := Ground.phase }, { on := 3, ground := Ground.phase }, { on := 4, ground := Ground.phase }, { on := 5, ground := Ground.phase }, { on := 6, ground := Ground.phase }, { on := 7, ground := Ground.phase }, { on := 8, ground := Ground.phase }, { on := 9, ground := Ground.phase }, { on := 10, ground := Ground.phase }, { on := 11, ground := Ground.phase }, { on := 12, ground := Ground.phase }, { on := 13, ground := Ground.phase }, { on := 14, ground := Ground.phase }, { on := 15, ground := Ground.phase }, { on := 16, ground := Ground.phase }, { on := 17, ground := Ground.phase }, { on := 18, ground := Ground.phase }, { on := 19, ground := Ground.phase }, { on := 20, ground := Ground.phase }], guard := none } : Oper)) (v := ?_) rfl (by kernel_rfl) (by kernel_rfl) (by kernel_rfl) (fun _ _ _ h => h) (Or.inl ⟨by kernel_rfl, ?_⟩) (by assumption) ?_
            rotate_left
            · (intro w hSw; (try dsimp only at hSw); go_simp)
              all_goals (with_reducible rfl)
            try simp only [Act.put, List.setIfInBounds_toArray, List.set_cons_zero, List.set_cons_succ]
            refine wpAnyH_done (by kernel_rfl) ?_ _
            change KC _ _
            refine HKC.out _ _ ?_
            go_wp2
            go_ret
            exact ⟨rfl, HZ.out⟩
      · have ht2' : (1000 : Int) < t := by omega
        rcases (show k = ls.length ∨ k < ls.length from by omega) with rfl | hkl
        · go_wp2_with fail
          refine (known_any w).mono ?_
          rintro e wk ⟨rfl, hbk⟩
          go_wp2_with fail
          go_ret
          exact ⟨rfl, hbk⟩
        · have hkl' : (k : Int) < ls.length := by omega
          go_wp2_with fail
          refine (known_any w).mono ?_
          rintro e wk ⟨rfl, hbk⟩
          go_wp2_with fail
          go_ret
          exact ⟨rfl, hbk⟩
end Go.Proofs.Ytnfkeaplglknlaa.words
