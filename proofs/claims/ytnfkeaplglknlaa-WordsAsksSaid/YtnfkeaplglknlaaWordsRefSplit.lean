/- the document's answer for words, walked: a text. -/
import Derived.Test.YtnfkeaplglknlaaWordsRefWalk
namespace Go.Proofs.Ytnfkeaplglknlaa.words
open Go.RowKit
open Go.Proofs.Ytnfkeaplglknlaa.aid

/-- what is told of the first byte that may not be -/
def plc : List UInt8 → Nat → Nat → Nat × Nat × Nat
  | [], _, _ => (0, 0, 0)
  | b :: r, n, c => if isEnd b then plc r (n + 1) 1 else if good b then plc r n (c + 1) else (20, n, c)
theorem scan_plc : ∀ (l : List UInt8) (n c : Nat) (cur : List UInt8) (row : List Wd) (out : List (List Wd)), (scan l n c cur row out).err = (plc l n c).1 ∧ (scan l n c cur row out).line = (plc l n c).2.1 ∧ (scan l n c cur row out).col = (plc l n c).2.2
  | [], _, _, _, _, _ => ⟨rfl, rfl, rfl⟩
  | b :: r, n, c, cur, row, out => by
    unfold scan plc
    by_cases h1 : isEnd b = true
    · rw [if_pos h1, if_pos h1]; exact scan_plc r _ _ _ _ _
    · rw [if_neg h1, if_neg h1]
      by_cases h2 : isBlank b = true
      · rw [if_pos h2, if_pos (by simp [good, h2])]; exact scan_plc r _ _ _ _ _
      · rw [if_neg h2]
        by_cases h3 : isVis b = true
        · rw [if_pos h3, if_pos (by simp [good, h3])]; exact scan_plc r _ _ _ _ _
        · rw [if_neg h3, if_neg (by simp [good, h1, h2, h3])]
          exact ⟨rfl, rfl, rfl⟩
theorem plc_good : ∀ (l : List UInt8) (n c : Nat), l.all good = true → plc l n c = (0, 0, 0)
  | [], _, _, _ => rfl
  | b :: r, n, c, h => by
    have h' : good b = true ∧ r.all good = true := by simpa using h
    unfold plc
    split
    · exact plc_good r _ _ h'.2
    · rw [if_pos h'.1]; exact plc_good r _ _ h'.2
theorem plc_go (l : List UInt8) (k n c : Nat) (h : k < l.length) (he : isEnd l[k] = false) (hg : good l[k] = true) : plc (l.drop k) n c = plc (l.drop (k + 1)) n (c + 1) := by
  rw [List.drop_eq_getElem_cons h]
  conv => lhs; unfold plc
  rw [if_neg (by simp [he]), if_pos hg]
theorem plc_end (l : List UInt8) (k n c : Nat) (h : k < l.length) (he : isEnd l[k] = true) : plc (l.drop k) n c = plc (l.drop (k + 1)) (n + 1) 1 := by
  rw [List.drop_eq_getElem_cons h]
  conv => lhs; unfold plc
  rw [if_pos he]
theorem plc_bad (l : List UInt8) (k n c : Nat) (h : k < l.length) (he : isEnd l[k] = false) (hg : good l[k] = false) : plc (l.drop k) n c = (20, n, c) := by
  rw [List.drop_eq_getElem_cons h]
  conv => lhs; unfold plc
  rw [if_neg (by simp [he]), if_neg (by simp [hg])]
theorem all_take {l : List UInt8} {k : Nat} (h : k < l.length) (h1 : ∀ b ∈ l.take k, good b = true) (h2 : good l[k] = true) : ∀ b ∈ l.take (k + 1), good b = true := take_all h h1 h2
theorem TR.rws {W : World} {base lo : Nat} {hs : List Value} {rows : List (List Wd)} {v : Value} (h : TR W lo W.heap.size hs rows) (ho : W.ownsRow base 37 1 v rows.length hs) : Rws W v rows := by
  obtain ⟨A, c, rfl, hc, -⟩ := own_form ho
  refine ⟨A, c, hs, rfl, of_own ho, h.1, fun j hj => ?_⟩
  obtain ⟨g, c', cur, h1, h2, h3, h4, h5, h6⟩ := h.2 j hj
  refine ⟨g, c', h1, h2, fun hn => ⟨g, 0, rfl, h5.lt, fun i u hu => ?_⟩⟩
  rw [Nat.zero_add, h5.cell i]
  have h7 : (cur.toList.take (rows[j].length * 3))[i]? = some u := by rw [h6]; exact hu
  rw [List.getElem?_take] at h7
  split at h7
  · simpa using h7
  · cases h7
theorem TR.push {W : World} {base lo Br : Nat} {hs : List Value} {rows : List (List Wd)} {row : List Wd} {v : Value} (h : TR W lo Br hs rows) (hB : Br ≤ W.heap.size) (hb : lo ≤ base) (ho : W.ownsRow base 36 3 v row.length (wcells row)) (hne : row ≠ []) : TR W lo W.heap.size (hs ++ [v]) (rows ++ [row]) := by
  rcases ho.2 with ⟨rfl, h0⟩ | ⟨g, cap, cur, rfl, hbg, hh, hn, _, _, htk⟩
  · exact absurd (List.eq_nil_of_length_eq_zero h0) hne
  · exact (h.more hB).add hn (by omega) (Array.getElem?_eq_some_iff.1 hh).1 hh htk
theorem own_stays {w w' : World} {base : Nat} {e : TypeId} {size n : Nat} {v : Value} {xs : List Value} (h : w.ownsRow base e size v n xs) (hb : Below w.heap.size w w') : w'.ownsRow base e size v n xs := h.kept (grown_none hb none) (by cases hv : v.ownBlock <;> simp)
abbrev RSplitPost (l : List UInt8) (w : World) (e : Ending) (w' : World) : Prop := ∃ v, e = .returned (.tuple #[v, .int .i64 ((split l).err : Nat), .agg #[.int .i64 ((split l).line : Nat), .int .i64 ((split l).col : Nat)]]) ∧ Rws w' v (split l).out ∧ Below w.heap.size w w'

set_option maxHeartbeats 16000000 in
set_option maxRecDepth 100000 in
theorem rsplit_some (l : List UInt8) (g o c : Nat) (hc : l.length ≤ c) (hl : l.length ≤ 2000) (w : World) (hr : Row w w.heap.size (some ⟨g, o, none⟩) (u8s l)) :
    Calls Try.prog 22 #[.slice (some ⟨g, o, none⟩) l.length c] w (RSplitPost l w) := by
  obtain ⟨i2, hi2, hx0, hx1, hx2⟩ := info_parts words_info
  have hcc : (l.length : Int) ≤ c := by omega
  have HR := Lib.hid hr
  have HLE : Hid ((split l).err = (plc l 1 1).1 ∧ (split l).line = (plc l 1 1).2.1 ∧ (split l).col = (plc l 1 1).2.2) := Lib.hid (by
    unfold split
    rw [if_neg (by omega)]
    exact scan_plc l 1 1 [] [] [])
  have HOUT : Hid (l.all good = true → (split l).out = allRows l 1) := Lib.hid (fun h => split_rows (by omega) h)
  have HBAD : Hid ((split l).err ≠ 0 → (split l).out = []) := Lib.hid (fun h => (split_bad (by omega) h).1)
  have hlt : l.length ≤ 1048576 := by omega
  have hlt' : (l.length : Int) ≤ 1048576 := by omega
  clear hr
  go_enter Try.func22, Try.ntmps22
  go_wp2_with fail
  obtain ⟨W1, hW1⟩ : ∃ W1, W1 = w.alloc (.cells #[.int .i64 0, .int .i64 0] 31) := ⟨_, rfl⟩
  have HP1 := Lib.hid (show Blk W1 w.heap.size 31 #[.int .i64 0, .int .i64 0] from by rw [hW1]; exact Blk.new w _ _)
  have HB1 := Lib.hid (show Below w.heap.size w W1 from by rw [hW1]; exact (Below.refl _ _).alloc (Nat.le_refl _) _)
  have HS1 : Hid (w.heap.size + 1 ≤ W1.heap.size) := Lib.hid (by rw [hW1]; simp)
  have HW1 := Lib.hid hW1
  clear hW1
  rw [← HW1.out]
  go_loopw [5, 6, 7, 8] (fun O n f k wr => ∃ (n' f' k' : Nat) (hs : List Value) (told_ : List (List Wd)), n = .int .i64 (n' : Nat) ∧ f = .int .i64 (f' : Nat) ∧ k = .int .i64 (k' : Nat) ∧ f' ≤ k' ∧ k' ≤ l.length + 1 ∧ n' ≤ k' + 1 ∧ told_.length ≤ k' ∧ Hid (∀ b ∈ (l.drop f').take (k' - f'), isEnd b = false) ∧ Hid (∀ b ∈ l.take k', good b = true) ∧ Hid (k' ≤ l.length → plc l 1 1 = plc (l.drop k') n' (k' - f' + 1)) ∧ Hid (allRows l 1 = told_ ++ allRows (l.drop f') n') ∧ Hid (l.length < k' → l.length < f') ∧ Hid (wr.ownsRow (w.heap.size + 1) 37 1 O told_.length hs) ∧ Hid (TR wr (w.heap.size + 1) wr.heap.size hs told_) ∧ Hid (Blk wr w.heap.size 31 #[.int .i64 0, .int .i64 0]) ∧ Below w.heap.size w wr ∧ Hid (w.heap.size + 1 ≤ wr.heap.size)) (fun _ _ _ k _ => l.length + 1 - (intOf k).toNat)
  case atStart => exact ⟨1, 0, 0, [], [], rfl, rfl, rfl, by omega, by omega, by omega, by simp, Lib.hid (by simp), Lib.hid (by simp), Lib.hid (fun _ => rfl), Lib.hid rfl, Lib.hid (by omega), Lib.hid (World.ownsRow_nil _ _ _ _), Lib.hid (TR.nil _ _ _), HP1, HB1.out, HS1⟩
  case round =>
    obtain ⟨n, f, k, hs, told_, rfl, rfl, rfl, hfk, hk, hnk, htl, hxb, hgd, hpl, hrw, hkf, hO, hT, hP, hB, hsz⟩ := hrel
    have hn3 : n ≤ 3000 := by omega
    have HBK := Lib.hid hB
    by_cases hkl : k ≤ l.length
    · have hkl' : (k : Int) ≤ l.length := by omega
      by_cases hco : ∃ h : k < l.length, isEnd l[k] = false
      · obtain ⟨hlt2, hne⟩ := hco
        have hlt2' : (k : Int) < l.length := by omega
        have hc0 : wr.cell? ⟨g, o + k, none⟩ = some (.int .u8 (l[k].toNat : Nat)) := by
          obtain ⟨g', o', e, hgb, hcl⟩ := (HR.out.below hB).at_ (k := k) (by rw [List.length_map]; exact hlt2)
          injection e with e
          injection e with e1 e2
          subst e1 e2
          exact hcl k _ (u8s_at l k hlt2)
        have hye : ((l[k].toNat : Int) != 10) = true := by
          unfold isEnd at hne
          rw [bne_iff_ne]
          have := beq_eq_false_iff_ne.1 hne
          omega
        have HXB := Lib.hid (all_bytes hfk hlt2 hxb.out hne)
        have HBL := Lib.hid (rblank_any l[k] wr)
        have hgoo : good l[k] = (isBlank l[k] || isVis l[k]) := by unfold good; rw [hne]; simp
        have hvv : isVis l[k] = (decide (33 ≤ l[k].toNat) && decide (l[k].toNat ≤ 126)) := rfl
        have HGO := Lib.hid (fun (h : good l[k] = true) => all_take hlt2 hgd.out h)
        have HPG := Lib.hid (fun (h : good l[k] = true) => (hpl.out hkl).trans (plc_go l k n (k - f + 1) hlt2 hne h))
        have HPB := Lib.hid (fun (h : good l[k] = false) => (hpl.out hkl).trans (plc_bad l k n (k - f + 1) hlt2 hne h))
        obtain ⟨y, hy⟩ : ∃ y, y = l[k].toNat := ⟨_, rfl⟩
        rw [← hy] at hc0 hye hvv HBL
        have hcase : (isBlank l[k] = true ∧ good l[k] = true) ∨ (isBlank l[k] = false ∧ good l[k] = true ∧ 33 ≤ y ∧ y ≤ 126) ∨ (isBlank l[k] = false ∧ good l[k] = false ∧ y < 33) ∨ (isBlank l[k] = false ∧ good l[k] = false ∧ 33 ≤ y ∧ 126 < y) := by
          rw [hgoo, hvv]
          cases hb : isBlank l[k] with
          | true => exact .inl ⟨rfl, rfl⟩
          | false =>
            rcases (show (33 ≤ y ∧ y ≤ 126) ∨ y < 33 ∨ (33 ≤ y ∧ 126 < y) from by omega) with ⟨h1, h2⟩ | h1 | ⟨h1, h2⟩
            · exact .inr (.inl ⟨rfl, by simp [h1, h2], h1, h2⟩)
            · exact .inr (.inr (.inl ⟨rfl, by simp; omega, h1⟩))
            · exact .inr (.inr (.inr ⟨rfl, by simp; omega, h1, h2⟩))
        clear hgoo hvv hy hne hB
        rcases hcase with ⟨hbb, hgg⟩ | ⟨hbb, hgg, h1, h2⟩ | ⟨hbb, hgg, h1⟩ | ⟨hbb, hgg, h1, h2⟩
        · rw [hbb] at HBL
          have HG2 := Lib.hid (HGO.out hgg)
          have HP2 := Lib.hid (HPG.out hgg)
          clear hbb hgg HGO HPG HPB
          go_wp2_with fail
          refine HBL.out.mono ?_
          rintro e w1 ⟨rfl, rfl⟩
          go_wp2_with fail
          go_roundw
          case rel => exact ⟨n, f, k + 1, hs, told_, rfl, rfl, by go_num, by omega, by omega, by omega, by omega, HXB, HG2, Lib.hid (fun _ => by rw [show k + 1 - f + 1 = k - f + 1 + 1 by omega]; exact HP2.out), hrw, Lib.hid (by omega), hO, hT, hP, HBK.out, hsz⟩
          case measure => simp [intOf]; omega
        · rw [hbb] at HBL
          have HG2 := Lib.hid (HGO.out hgg)
          have HP2 := Lib.hid (HPG.out hgg)
          have r1 : (33 : Int) ≤ y := by omega
          have r2 : (y : Int) ≤ 126 := by omega
          clear hbb hgg HGO HPG HPB
          go_wp2_with fail
          refine HBL.out.mono ?_
          rintro e w1 ⟨rfl, rfl⟩
          go_wp2_with fail
          go_roundw
          case rel => exact ⟨n, f, k + 1, hs, told_, rfl, rfl, by go_num, by omega, by omega, by omega, by omega, HXB, HG2, Lib.hid (fun _ => by rw [show k + 1 - f + 1 = k - f + 1 + 1 by omega]; exact HP2.out), hrw, Lib.hid (by omega), hO, hT, hP, HBK.out, hsz⟩
          case measure => simp [intOf]; omega
        all_goals
          rw [hbb] at HBL
          have hp := HPB.out hgg
          obtain ⟨e1, e2, e3⟩ := HLE.out
          rw [hp] at e1 e2 e3
          have e4 := HBAD.out (by rw [e1]; show (20 : Nat) ≠ 0; decide)
          have HE : Hid ((split l).err = 20 ∧ (split l).line = n ∧ (split l).col = k - f + 1 ∧ (split l).out = []) := Lib.hid ⟨e1, e2, e3, e4⟩
          have r1 : (y : Int) < 33 ∨ ((33 : Int) ≤ y ∧ (126 : Int) < y) := by omega
          obtain ⟨d, hd⟩ : ∃ d, d = k - f := ⟨_, rfl⟩
          have r3 : (k : Int) - (f : Int) = (d : Int) := by omega
          have r4 : (d : Int) ≤ 3000 := by omega
          rw [← hd] at HE
          have p0 : wr.cell? ⟨w.heap.size, 0, none⟩ = some (.int .i64 0) := hP.out.cell 0
          have p1 : wr.cell? ⟨w.heap.size, 1, none⟩ = some (.int .i64 0) := hP.out.cell 1
          have q0 := hP.out.frozen 0
          have q1 := hP.out.frozen 1
          clear hbb hgg HGO HPG HPB hp e1 e2 e3 e4 hd
          go_wp2_with fail
          refine HBL.out.mono ?_
          rintro e w1 ⟨rfl, rfl⟩
          rcases r1 with r1 | ⟨r1, r2⟩
          all_goals (try (exfalso; omega))
          all_goals
            go_wp2_with fail
            have hbx := (hP.out.set_ 0 (.int .i64 (n : Nat))).set_ 1 (.int .i64 ((d : Int) + 1))
            have c0 := hbx.cell 0
            have c1 := hbx.cell 1
            simp only [Array.set!, List.setIfInBounds_toArray, List.set_cons_zero, List.set_cons_succ, List.getElem?_toArray, List.getElem?_cons_zero, List.getElem?_cons_succ] at c0 c1
            refine bodyPost_ret (v := .tuple #[.slice none 0 0, .int .i64 20, .agg #[.int .i64 (n : Nat), .int .i64 ((d : Int) + 1)]]) ?_ rfl ?_
            · simp [results, Try.results22, go_sem, c0, c1]
            obtain ⟨e1, e2, e3, e4⟩ := HE.out
            refine ⟨.slice none 0 0, ?_, ?_, ?_⟩
            · rw [e1, e2, e3]
              rfl
            · rw [e4]
              exact Rws.nil_ _
            · exact (HBK.out.setCell (by simp) _).setCell (by simp) _
      · have hen : k = l.length ∨ ∃ h : k < l.length, isEnd l[k] = true := by
          by_cases h : k < l.length
          · refine .inr ⟨h, ?_⟩
            cases hq : isEnd l[k] with
            | true => rfl
            | false => exact absurd ⟨h, hq⟩ hco
          · exact .inl (by omega)
        have hle := line_end l f k n hfk hkl hxb.out hen
        have hby : (l.length : Int) ≤ k ∨ ((k : Int) < l.length ∧ wr.cell? ⟨g, o + k, none⟩ = some (.int .u8 10)) := by
          rcases hen with h | ⟨h, he⟩
          · exact .inl (by omega)
          · obtain ⟨g', o', e, hgb, hcl⟩ := (HR.out.below hB).at_ (k := k) (by rw [List.length_map]; exact h)
            injection e with e
            injection e with e1 e2
            subst e1 e2
            have hc0 := hcl k (.int .u8 (l[k].toNat : Int)) (u8s_at l k h)
            have h10 : l[k].toNat = 10 := by unfold isEnd at he; simpa using he
            rw [h10] at hc0
            exact .inr ⟨by omega, hc0⟩
        have HG2 : Hid (∀ b ∈ l.take (k + 1), good b = true) := Lib.hid (by
          rcases hen with h | ⟨h, he⟩
          · have h1 := hgd.out
            rw [List.take_of_length_le (by omega)] at h1 ⊢
            exact h1
          · exact all_take h hgd.out (by unfold good; rw [he]; rfl))
        have HP2 : Hid (k + 1 ≤ l.length → plc l 1 1 = plc (l.drop (k + 1)) (n + 1) (k + 1 - (k + 1) + 1)) := Lib.hid (fun h => by
          rcases hen with h2 | ⟨h2, he⟩
          · omega
          · rw [hpl.out hkl, plc_end l k n _ h2 he, Nat.sub_self])
        have HXB : Hid (∀ b ∈ (l.drop (k + 1)).take (k + 1 - (k + 1)), isEnd b = false) := Lib.hid (by simp)
        obtain ⟨x, hx⟩ : ∃ x, x = (l.drop f).take (k - f) := ⟨_, rfl⟩
        have hxl : x.length = k - f := by rw [hx, List.length_take, List.length_drop]; omega
        rw [← hx] at hle
        obtain ⟨ZA, hZA⟩ : ∃ ZA, (if c = f then some (⟨g, o, none⟩ : Addr) else some ⟨g, o + f, none⟩) = ZA := ⟨_, rfl⟩
        have hxr : Row wr wr.heap.size ZA (u8s x) := by
          intro hnx
          have hn2 : 0 < x.length := by
            rcases Nat.eq_zero_or_pos x.length with h | h
            · exact absurd (by rw [List.eq_nil_of_length_eq_zero h]; rfl) hnx
            · exact h
          rw [if_neg (by omega)] at hZA
          obtain ⟨g', o', e, hlt3, hcl3⟩ := ((HR.out.below hB).more hB.size) (by intro e; have h3 := congrArg List.length e; rw [List.length_map, List.length_nil] at h3; omega)
          injection e with e
          injection e with e1 e2
          subst e1 e2
          refine ⟨g, o + f, hZA.symm, hlt3, fun j v hv => ?_⟩
          have hj : j < x.length := by
            have := (List.getElem?_eq_some_iff.1 hv).1
            rwa [List.length_map] at this
          have h2 := hcl3 (f + j) v (by
            rw [List.getElem?_map] at hv ⊢
            rw [hx, List.getElem?_take, if_pos (by omega), List.getElem?_drop] at hv
            exact hv)
          rw [Nat.add_assoc]
          exact h2
        have HLN := Lib.hid (rline_any x ZA (c - f) n (by omega) (by omega) hn3 wr hxr)
        rw [hxl] at HLN
        have hlr := lineOf_rows x n
        obtain ⟨R, hR⟩ : ∃ R, R = lineOf x n := ⟨_, rfl⟩
        rw [← hR] at HLN hlr
        have hrw2 := hrw.out
        rw [hle, ← hlr] at hrw2
        have HRW := Lib.hid hrw2
        have k1 : (f : Int) ≤ k := by omega
        have k2 : (k : Int) ≤ c := by omega
        clear hco hen hle hx hxr hlr hR hrw2 hB hxl
        rcases hby with q1 | ⟨q1, q2⟩
        all_goals
          go_wp2_with fail
          refine HLN.out.mono ?_
          rintro e w1 ⟨v, rfl, hown, hb1⟩
          obtain ⟨A9, c9, rfl⟩ := own_slice hown
          have hB1 := HBK.out.trans (hb1.mono HBK.out.size)
          have hT1 := hT.out.keep (grown_none hb1 none) (by simp)
          have hO1 := own_stays hO.out hb1
          have hP1 := hP.out.below hb1 hP.out.lt
          by_cases hRn : R = []
          · have hrw3 := HRW.out
            rw [if_pos hRn, List.nil_append] at hrw3
            have HRW3 := Lib.hid hrw3
            have HB1' := Lib.hid hB1
            have HT1 := Lib.hid (hT1.more hb1.size)
            have HO1 := Lib.hid hO1
            have HPP := Lib.hid hP1
            have HSZ := Lib.hid (Nat.le_trans hsz.out hb1.size)
            rw [hRn]
            simp only [List.length_nil]
            clear hrw3 hB1 hT1 hO1 hP1 hb1 hown hRn
            go_wp2_with fail
            go_roundw
            case rel => exact ⟨n + 1, k + 1, k + 1, hs, told_, by go_num, by go_num, by go_num, by omega, by omega, by omega, by omega, HXB, HG2, HP2, HRW3, Lib.hid (by omega), HO1, HT1, HPP, HB1'.out, HSZ⟩
            case measure => simp [intOf]; omega
          · have hrw3 := HRW.out
            rw [if_neg hRn, ← List.append_assoc] at hrw3
            have HRW3 := Lib.hid hrw3
            have hRp : (0 : Int) < R.length := by have := List.length_pos_iff.2 hRn; omega
            have hT2 := hT1.push hb1.size hsz.out hown hRn
            have hba : Below w1.heap.size w1 (w1.alloc (.cells #[.slice A9 R.length c9] 37)) := (Below.refl _ _).alloc (Nat.le_refl _) _
            have HTA := Lib.hid (hT2.keep (grown_none hba none) (by simp))
            have HOA := Lib.hid (own_stays hO1 hba)
            have HBA := Lib.hid (hB1.trans (hba.mono hB1.size))
            have HPA := Lib.hid (hP1.below hba hP1.lt)
            have HSA : Hid (w.heap.size + 1 ≤ (w1.alloc (.cells #[.slice A9 R.length c9] 37)).heap.size) := Lib.hid (by have := hsz.out; have := hb1.size; simp; omega)
            clear hrw3 hB1 hT1 hO1 hP1 hb1 hown hRn hT2 hba
            go_wp2_with (at_builtin; go_must (refine wpList_append_row _ rfl (.tmp 66) (.tmp 68) 27 rfl (w.heap.size + 1) 37 i2 _ 24 rfl hi2 hx0 hx1 hx2 rfl _ told_.length _ rfl HOA.out _ (some ⟨w1.heap.size, 0, none⟩) 1 1 [.slice A9 R.length c9] rfl rfl (Row.new w1 37 #[.slice A9 R.length c9]) (by simp [Value.oneCell']) (by unfold maxLen; omega) (by omega) HSA.out ?_; intro v6 w6 hown6 hg6 hat6; have HO6 := Lib.hid hown6; have HB6 := Lib.hid (HBA.out.grown hg6 HBA.out.size (fun k' e => Nat.le_trans (Nat.le_succ _) (own_lt HOA.out e).1)); have HT6 := Lib.hid ((HTA.out.keep hg6 (fun k' e => by obtain ⟨cur, h1, _⟩ := own_has HOA.out e; exact .inr (.inr ⟨_, cur, by decide, h1⟩))).more (Nat.le_trans (by simp) hg6.size)); have HP6 := Lib.hid (HPA.out.grown hg6 (fun e => by have := (own_lt HOA.out e.symm).1; omega)); have HS6 := Lib.hid (Nat.le_trans HSA.out hg6.size); clear hown6 hg6 hat6))
            go_wp2_with fail
            go_roundw
            case rel => exact ⟨n + 1, k + 1, k + 1, _, told_ ++ [R], by go_num, by go_num, by go_num, by omega, by omega, by omega, by rw [List.length_append, List.length_singleton]; omega, HXB, HG2, HP2, HRW3, Lib.hid (by omega), by rw [List.length_append, List.length_singleton]; exact HO6, HT6, HP6, HB6.out, HS6⟩
            case measure => simp [intOf]; omega
    · have hkl' : (l.length : Int) < k := by omega
      have hfl := hkf.out (by omega)
      have hall : l.all good = true := by
        have h := hgd.out
        rw [List.take_of_length_le (by omega)] at h
        exact List.all_eq_true.2 h
      have hr := hrw.out
      rw [List.drop_of_length_le (by omega : l.length ≤ f), all_nil, List.append_nil] at hr
      have ho := HOUT.out hall
      rw [hr] at ho
      obtain ⟨e1, e2, e3⟩ := HLE.out
      rw [plc_good l 1 1 hall] at e1 e2 e3
      have hbx := hP.out
      have p0 : wr.cell? ⟨w.heap.size, 0, none⟩ = some (.int .i64 0) := hbx.cell 0
      have p1 : wr.cell? ⟨w.heap.size, 1, none⟩ = some (.int .i64 0) := hbx.cell 1
      have q0 := hbx.frozen 0
      have q1 := hbx.frozen 1
      have HE : Hid ((split l).err = 0 ∧ (split l).line = 0 ∧ (split l).col = 0 ∧ (split l).out = told_) := Lib.hid ⟨e1, e2, e3, ho⟩
      clear hfl hall hr ho e1 e2 e3 hbx hB
      go_wp2_with fail
      have hbx := (hP.out.set_ 0 (.int .i64 0)).set_ 1 (.int .i64 0)
      have c0 := hbx.cell 0
      have c1 := hbx.cell 1
      simp only [Array.set!, List.setIfInBounds_toArray, List.set_cons_zero, List.set_cons_succ, List.getElem?_toArray, List.getElem?_cons_zero, List.getElem?_cons_succ] at c0 c1
      refine bodyPost_ret (v := .tuple #[u5, .int .i64 0, .agg #[.int .i64 0, .int .i64 0]]) ?_ rfl ?_
      · simp [results, Try.results22, go_sem, c0, c1]
      obtain ⟨e1, e2, e3, e4⟩ := HE.out
      have hT1 := hT.out.keep (grown_set wr w.heap.size 0 (.int .i64 0)) (fun k' e => by injection e with e; exact .inl (by omega))
      have hT2 := hT1.keep (grown_set _ w.heap.size 1 (.int .i64 0)) (fun k' e => by injection e with e; exact .inl (by omega))
      have hO1 := hO.out.kept (grown_set wr w.heap.size 0 (.int .i64 0)) (.inr fun e => by have := (own_lt hO.out e).1; omega)
      have hO2 := hO1.kept (grown_set _ w.heap.size 1 (.int .i64 0)) (.inr fun e => by have := (own_lt hO1 e).1; omega)
      refine ⟨u5, ?_, ?_, ?_⟩
      · rw [e1, e2, e3]
        rfl
      · rw [e4]
        exact (hT2.more (by simp)).rws hO2
      · exact (HBK.out.setCell (by simp) _).setCell (by simp) _

set_option maxHeartbeats 8000000 in
set_option maxRecDepth 100000 in
theorem rsplit_none (A : Option Addr) (c : Nat) (w : World) :
    Calls Try.prog 22 #[.slice A 0 c] w (RSplitPost [] w) := by
  have HLN : Hid (∀ A' c' W, Calls Try.prog 28 #[.slice A' 0 c', .int .i64 1] W fun e w' => ∃ A9 c9, e = .returned (.slice A9 0 c9) ∧ Below W.heap.size W w') := Lib.hid (fun A' c' W => (rline_any [] A' c' 1 (Nat.zero_le _) (Nat.zero_le _) (by omega) W Row.nil_).mono fun e w' ⟨v, he, hown, hb⟩ => by
    obtain ⟨A9, c9, rfl⟩ := own_slice hown
    exact ⟨A9, c9, he, hb⟩)
  cases A
  all_goals
    go_enter Try.func22, Try.ntmps22
    go_wp2_with fail
    go_loopw [5, 6, 7, 8] (fun O n f k wr => ∃ (k' : Nat), k' ≤ 1 ∧ k = .int .i64 (k' : Nat) ∧ f = .int .i64 (k' : Nat) ∧ n = .int .i64 ((k' + 1 : Nat) : Int) ∧ O = .slice none 0 0 ∧ Hid (Blk wr w.heap.size 31 #[.int .i64 0, .int .i64 0]) ∧ Below w.heap.size w wr) (fun _ _ _ k _ => 1 - (intOf k).toNat)
    case atStart => exact ⟨0, by omega, rfl, rfl, rfl, rfl, Lib.hid (Blk.new w _ _), (Below.refl _ _).alloc (Nat.le_refl _) _⟩
    case round =>
      obtain ⟨k, hk, rfl, rfl, rfl, rfl, hP, hB⟩ := hrel
      rcases (show k = 0 ∨ k = 1 from by omega) with rfl | rfl
      · go_wp2_with fail
        refine (HLN.out _ _ wr).mono ?_
        rintro e w1 ⟨A9, c9, rfl, hb1⟩
        have HP1 := Lib.hid (hP.out.below hb1 hP.out.lt)
        have HB1 := Lib.hid (hB.trans (hb1.mono hB.size))
        clear hb1 hB
        go_wp2_with fail
        go_roundw
        case rel => exact ⟨1, by omega, by go_num, by go_num, by go_num, rfl, HP1, HB1.out⟩
        case measure => simp [intOf]
      · have HBK := Lib.hid hB
        have p0 : wr.cell? ⟨w.heap.size, 0, none⟩ = some (.int .i64 0) := hP.out.cell 0
        have p1 : wr.cell? ⟨w.heap.size, 1, none⟩ = some (.int .i64 0) := hP.out.cell 1
        have q0 := hP.out.frozen 0
        have q1 := hP.out.frozen 1
        clear hB
        go_wp2_with fail
        have hbx := (hP.out.set_ 0 (.int .i64 0)).set_ 1 (.int .i64 0)
        have c0 := hbx.cell 0
        have c1 := hbx.cell 1
        simp only [Array.set!, List.setIfInBounds_toArray, List.set_cons_zero, List.set_cons_succ, List.getElem?_toArray, List.getElem?_cons_zero, List.getElem?_cons_succ] at c0 c1
        refine bodyPost_ret (v := .tuple #[.slice none 0 0, .int .i64 0, .agg #[.int .i64 0, .int .i64 0]]) ?_ rfl ?_
        · simp [results, Try.results22, go_sem, c0, c1]
        exact ⟨.slice none 0 0, rfl, Rws.nil_ _, (HBK.out.setCell (by simp) _).setCell (by simp) _⟩
theorem rsplit_any (l : List UInt8) (A : Option Addr) (c : Nat) (hc : l.length ≤ c) (hl : l.length ≤ 2000) (w : World) (hr : Row w w.heap.size A (u8s l)) :
    Calls Try.prog 22 #[.slice A l.length c] w (RSplitPost l w) := by
  cases l with
  | nil => exact rsplit_none A c w
  | cons b r =>
    obtain ⟨g, o, rfl, _⟩ := hr.at_ (k := 0) (by simp [u8s])
    exact rsplit_some (b :: r) g o c hc hl w hr
end Go.Proofs.Ytnfkeaplglknlaa.words
