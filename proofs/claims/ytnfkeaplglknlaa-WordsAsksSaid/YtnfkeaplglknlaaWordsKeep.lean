/- words.Split: its two closures, walked. -/
import Derived.Test.YtnfkeaplglknlaaWordsState
import Derived.Deep.RegionHeldLaw
import Derived.Deep.AppendLies
import Derived.Outline
import Derived.Test.YtnfkeaplglknlaaWordsOwn
namespace Go.Proofs.Ytnfkeaplglknlaa.words
open Go.RowKit
open Go.Proofs.Ytnfkeaplglknlaa.aid

theorem u8s_take' (l : List UInt8) (k : Nat) : (u8s l).take k = u8s (l.take k) := by simp [u8s]
theorem u8s_drop' (l : List UInt8) (k : Nat) : (u8s l).drop k = u8s (l.drop k) := by simp [u8s]
theorem str_part {W : World} {B g off : Nat} {l : List UInt8} (h : Row W B (some ⟨g, off, none⟩) (u8s l)) (i m c : Nat) (hl : i + m ≤ l.length) :
    (convert 22 9 (.slice (some ⟨g, off + i, none⟩) m c)).run Try.prog W = .ok (.string ⟨((l.drop i).take m).toArray⟩) W := by
  have hk : ((l.drop i).take m).length = m := by rw [List.length_take, List.length_drop]; omega
  have h2 : Row W B (some ⟨g, off + i, none⟩) (u8s ((l.drop i).take m)) := by
    rw [← u8s_take', ← u8s_drop']
    intro hn
    obtain ⟨b, o, e, hlt, hc⟩ := h (by
      intro e
      rw [e] at hn
      simp at hn)
    injection e with e
    injection e with e1 e2 e3
    subst e1 e2
    refine ⟨g, off + i, rfl, hlt, fun j v hv => ?_⟩
    rw [List.getElem?_take] at hv
    split at hv
    · rw [List.getElem?_drop] at hv
      have := hc _ _ hv
      rwa [← Nat.add_assoc] at this
    · cases hv
  have := row_string (c := c) h2
  rwa [hk] at this
theorem word_info : (Try.prog.info? 36).map (fun i => (i.zero, i.size, i.bytes)) = some (some (.agg #[.string ⟨#[]⟩, .int .i64 0, .int .i64 0]), 3, 32) := by kernel_rfl
theorem words_info : (Try.prog.info? 37).map (fun i => (i.zero, i.size, i.bytes)) = some (some (.slice none 0 0), 1, 24) := by kernel_rfl

abbrev ptr (b : Nat) : Value := .pointer (some ⟨b, 0, none⟩)

theorem keep_no (b : Nat) (T O R F K P : Value) (s : Nat) (hs : s ≠ 0) (W : World) (hbx : Bx b T O R F K P (.int .i64 s) W) :
    Calls Try.prog 18 #[ptr (b + 7), ptr (b + 6), ptr (b + 5), ptr (b + 4), ptr (b + 3), ptr b] W fun e W' => e = .returned (.tuple #[]) ∧ W' = W := by
  have c0 : W.cell? ⟨b + 7, 0, none⟩ = some (.int .i64 s) := hbx.s.cell 0
  have h0 : ((s : Int) == 0) = false := beq_eq_false_iff_ne.2 (by omega)
  clear hbx
  go_enter Try.func18, Try.ntmps18
  go_wp2
  go_end0
  exact ⟨rfl, rfl⟩

set_option maxHeartbeats 4000000 in
theorem keep_yes (b Br : Nat) (hs : List Value) (l : List UInt8) (A : Option Addr) (c : Nat) (O R : Value) (f k n m : Nat) (row : List Wd) (told : List (List Wd)) (W : World)
    (hbx : Bx b (.slice A l.length c) O R (.int .i64 f) (.int .i64 k) (.complex .f64 (fl n) (fl m)) (.int .i64 0) W) (how : Own b Br hs R O row told W) (hr : Row W b A (u8s l))
    (hc : l.length ≤ c) (hl : l.length ≤ 1048576) (hf : f < k) (hk : k ≤ l.length) (hm : k - f < m) (hm2 : m ≤ 2097152) (hn2 : n ≤ 2097152) (hrl : row.length ≤ 1048576) :
    Calls Try.prog 18 #[ptr (b + 7), ptr (b + 6), ptr (b + 5), ptr (b + 4), ptr (b + 3), ptr b] W fun e W' => e = .returned (.tuple #[]) ∧
      ∃ R', Bx b (.slice A l.length c) O R' (.int .i64 f) (.int .i64 k) (.complex .f64 (fl n) (fl m)) (.int .i64 0) W' ∧ Own b Br hs R' O (row ++ [⟨(l.drop f).take (k - f), n, m - (k - f)⟩]) told W' ∧ Below b W W' := by
  obtain ⟨g, o, rfl, hgb, -⟩ := hr.at_ (k := 0) (by rw [List.length_map]; omega)
  have HBX := Lib.hid hbx
  have HOW := Lib.hid how
  have HR := Lib.hid hr
  have c7 : W.cell? ⟨b + 7, 0, none⟩ = some (.int .i64 0) := hbx.s.cell 0
  have c6 : W.cell? ⟨b + 6, 0, none⟩ = some (.complex .f64 (fl n) (fl m)) := hbx.a.cell 0
  have c5 : W.cell? ⟨b + 5, 0, none⟩ = some (.int .i64 k) := hbx.k.cell 0
  have c4 : W.cell? ⟨b + 4, 0, none⟩ = some (.int .i64 f) := hbx.f.cell 0
  have hcv : floatOfInt .f64 ((k : Int) - (f : Int)) = fl (k - f) := by
    rw [show (k : Int) - (f : Int) = ((k - f : Nat) : Int) from by omega]
    rfl
  have hsub := sub_at (n := n) (m := m) (k := k - f) (by omega) (by omega) (by omega)
  obtain ⟨x, hx⟩ : ∃ x, x = fl n := ⟨_, rfl⟩
  obtain ⟨y, hy⟩ : ∃ y, y = fl m := ⟨_, rfl⟩
  obtain ⟨z, hz⟩ : ∃ z, z = fl (k - f) := ⟨_, rfl⟩
  obtain ⟨u, hu⟩ : ∃ u, u = fl (m - (k - f)) := ⟨_, rfl⟩
  have HPL := Lib.hid (place_any n (m - (k - f)) (by omega) (by omega))
  rw [← hx, ← hu] at HPL
  rw [← hx, ← hy, ← hz, ← hu] at hsub
  rw [← hx, ← hy] at c6
  rw [← hz] at hcv
  obtain ⟨v, hv⟩ : ∃ v, v = m - (k - f) := ⟨_, rfl⟩
  rw [← hv] at HPL
  have HV := Lib.hid hv
  have HX := Lib.hid hx
  have HY := Lib.hid hy
  clear hbx how hr hx hy hz hu hv
  go_enter Try.func18, Try.ntmps18
  go_wp2_with fail
  refine (HPL.out W).mono ?_
  rintro e w1 ⟨rfl, hb1⟩
  obtain ⟨W2, hW2⟩ : ∃ W2, W2 = w1.alloc (.cells #[.int .i64 n, .int .i64 v] 31) := ⟨_, rfl⟩
  have hb2 : Below W.heap.size W W2 := by rw [hW2]; exact hb1.alloc (Nat.le_trans (Nat.le_refl _) hb1.size) _
  have HB2 := Lib.hid hb2
  have HBX2 := Lib.hid (HBX.out.below hb2)
  have HOW2 := Lib.hid (HOW.out.below hb2)
  have hblt := HBX.out.lt
  have HR2 := Lib.hid (HR.out.below (hb2.mono (by omega)))
  have hxx : Blk W2 w1.heap.size 31 #[.int .i64 n, .int .i64 v] := by rw [hW2]; exact Blk.new w1 _ _
  have HXX := Lib.hid hxx
  have HW2 := Lib.hid hW2
  have hb0 : W.heap.size ≤ w1.heap.size := hb1.size
  have hbw : b ≤ W.heap.size := by omega
  have hb3 : w1.heap.size < W2.heap.size := hxx.lt
  obtain ⟨Ar, cr, rfl⟩ := own_slice HOW2.out.r
  clear c4 c5 c6 c7 hb1 hb2 hxx hW2 HPL hsub hcv HBX HOW HR
  have e0 : W2.cell? ⟨w1.heap.size, 0, none⟩ = some (.int .i64 n) := HXX.out.cell 0
  have e1 : W2.cell? ⟨w1.heap.size, 1, none⟩ = some (.int .i64 v) := HXX.out.cell 1
  have c0 : W2.cell? ⟨b, 0, none⟩ = some (.slice (some ⟨g, o, none⟩) l.length c) := HBX2.out.t.cell 0
  have c3 : W2.cell? ⟨b + 3, 0, none⟩ = some (.slice Ar row.length cr) := HBX2.out.r.cell 0
  have c4 : W2.cell? ⟨b + 4, 0, none⟩ = some (.int .i64 f) := HBX2.out.f.cell 0
  have c5 : W2.cell? ⟨b + 5, 0, none⟩ = some (.int .i64 k) := HBX2.out.k.cell 0
  have p3 : W2.frozen? ⟨b + 3, 0, none⟩ = false := HBX2.out.r.frozen 0
  have hstr := str_part HR2.out f (k - f) (c - f) (by omega)
  have hstr' := str_part (W := W2.drew) HR2.out f (k - f) (c - f) (by omega)
  obtain ⟨S, hS⟩ : ∃ S : ByteArray, S = ⟨((l.drop f).take (k - f)).toArray⟩ := ⟨_, rfl⟩
  rw [← hS] at hstr hstr'
  have HS := Lib.hid hS
  have i1 : (f : Int) ≤ k := by omega
  have i2 : (k : Int) ≤ c := by omega
  have i3 : ¬ c = f := by omega
  have hne1 : w1.heap.size ≠ b + 3 := by omega
  have hne2 : b + 3 ≠ w1.heap.size := by omega
  have hlt2 : b + 3 < W2.heap.size := by omega
  have hlt0 : b < W2.heap.size := by omega
  have hlt4 : b + 4 < W2.heap.size := by omega
  have hlt5 : b + 5 < W2.heap.size := by omega
  have HH : Hid (b + 8 ≤ W2.heap.size) := Lib.hid (by omega)
  have HRL := Lib.hid hrl
  have HKL : Hid (f + (k - f) ≤ l.length) := Lib.hid (by omega)
  obtain ⟨i0, hi0, hq0, hq1, hq2⟩ := info_parts word_info
  have HI := Lib.hid (And.intro hi0 (And.intro hq0 (And.intro hq1 hq2)))
  have HG7 : Hid (∀ W7 : World, ((W2.alloc (.cells #[.string S, .int .i64 n, .int .i64 v] 36)).drew).grownBy W7 (Value.slice Ar row.length cr).ownBlock →
      Bx b (.slice (some ⟨g, o, none⟩) l.length c) O (.slice Ar row.length cr) (.int .i64 f) (.int .i64 k) (.complex .f64 x y) (.int .i64 0) W7 ∧ Below b W2 W7 ∧ W7.cell? ⟨b + 3, 0, none⟩ = some (.slice Ar row.length cr) ∧ W7.frozen? ⟨b + 3, 0, none⟩ = false ∧ W7.cell? ⟨b, 0, none⟩ = some (.slice (some ⟨g, o, none⟩) l.length c) ∧ W7.cell? ⟨b + 4, 0, none⟩ = some (.int .i64 f) ∧ W7.cell? ⟨b + 5, 0, none⟩ = some (.int .i64 k) ∧ W7.cell? ⟨w1.heap.size, 0, none⟩ = some (.int .i64 n) ∧ W7.cell? ⟨w1.heap.size, 1, none⟩ = some (.int .i64 v) ∧ (∀ V, (convert 22 9 (.slice (some ⟨g, o + f, none⟩) (k - f) (c - f))).run Try.prog (W7.setCell ⟨b + 3, 0, none⟩ V) = .ok (.string S) (W7.setCell ⟨b + 3, 0, none⟩ V)) ∧
      (convert 22 9 (.slice (some ⟨g, o + f, none⟩) (k - f) (c - f))).run Try.prog W7 = .ok (.string S) W7 ∧
      ∀ V, W7.ownsRow Br 36 3 V (row.length + 1) (wcells row ++ [.string S, .int .i64 n, .int .i64 v]) → Own b Br hs V O (row ++ [⟨(l.drop f).take (k - f), n, v⟩]) told W7) := Lib.hid fun W7 hgrow => by
    have hbel : Below W2.heap.size W2 (W2.alloc (.cells #[.string S, .int .i64 n, .int .i64 v] 36)).drew := ((Below.refl _ _).alloc (Nat.le_refl _) _).drew
    have hob := HOW2.out.below hbel
    have hbx := (HBX2.out.below hbel).grow hgrow (fun k hk => by have := (own_lt hob.r hk).1; have := hob.lo; omega)
    have hxx := (HXX.out.below hbel HXX.out.lt).grown hgrow (fun e => own_blk_ne hob.r (HXX.out.below hbel HXX.out.lt) (by decide) e.symm)
    have hbb : Below b W2 W7 := (hbel.mono (by have := HH.out; omega)).grown hgrow (by have := HH.out; have := hbel.size; omega) (fun k hk => by have := (own_lt hob.r hk).1; have := hob.lo; omega)
    refine ⟨by rw [HX.out, HY.out]; exact hbx, hbb, hbx.r.cell 0, hbx.r.frozen 0, hbx.t.cell 0, hbx.f.cell 0, hbx.k.cell 0, hxx.cell 0, hxx.cell 1, fun V => by have h := str_part (HR2.out.below (hbb.setCell (p := ⟨b + 3, 0, none⟩) (by simp) V)) f (k - f) (c - f) HKL.out; rw [← HS.out] at h; exact h, by have h := str_part (HR2.out.below hbb) f (k - f) (c - f) HKL.out; rw [← HS.out] at h; exact h, fun V hV => ?_⟩
    rw [HS.out] at hV
    exact hob.push hgrow (w := ⟨_, _, _⟩) hV
  clear hi0 hq0 hq1 hq2 hS hf hk hm hm2 hn2 hl hblt hb0 hb3 hrl hgb
  go_wp2_with fail
  rw [← HW2.out]
  refine wp_region_held_drew (S := fun w' => w'.cell? ⟨b, 0, none⟩ = some (.slice (some ⟨g, o, none⟩) l.length c) ∧ w'.cell? ⟨b + 4, 0, none⟩ = some (.int .i64 f) ∧ w'.cell? ⟨b + 5, 0, none⟩ = some (.int .i64 k) ∧ w'.cell? ⟨w1.heap.size, 0, none⟩ = some (.int .i64 n) ∧ w'.cell? ⟨w1.heap.size, 1, none⟩ = some (.int .i64 v) ∧ (convert 22 9 (.slice (some ⟨g, o + f, none⟩) (k - f) (c - f))).run Try.prog w' = .ok (.string S) w') (by kernel_rfl) ⟨c0, c4, c5, e0, e1, hstr'⟩ (fun hHeld => ?_)
  refine wpAnyH_take (i := 6) (oi := _) (v := .pointer (some ⟨w1.heap.size, 0, none⟩)) rfl (by kernel_rfl) (by kernel_rfl) (by kernel_rfl) (fun _ _ _ h => h) (Or.inl ⟨by rfl, by (intro w hSw; (try dsimp only at hSw); go_simp)⟩) (by assumption) ?_
  try simp only [Act.put, List.setIfInBounds_toArray, List.set_cons_zero, List.set_cons_succ]
  refine wpAnyH_take (i := 8) (oi := _) (v := .pointer (some ⟨w1.heap.size, 1, none⟩)) rfl (by kernel_rfl) (by kernel_rfl) (by kernel_rfl) (fun _ _ _ h => h) (Or.inl ⟨by rfl, by (intro w hSw; (try dsimp only at hSw); go_simp)⟩) (by assumption) ?_
  try simp only [Act.put, List.setIfInBounds_toArray, List.set_cons_zero, List.set_cons_succ]
  refine wpAnyH_take (i := 1) (oi := _) (v := .slice (some ⟨g, o, none⟩) l.length c) rfl (by kernel_rfl) (by kernel_rfl) (by kernel_rfl) (fun _ _ _ h => h) (Or.inl ⟨by rfl, by (intro w hSw; (try dsimp only at hSw); go_simp)⟩) (by assumption) ?_
  try simp only [Act.put, List.setIfInBounds_toArray, List.set_cons_zero, List.set_cons_succ]
  refine wpAnyH_take (i := 2) (oi := _) (v := .int .i64 f) rfl (by kernel_rfl) (by kernel_rfl) (by kernel_rfl) (fun _ _ _ h => h) (Or.inl ⟨by rfl, by (intro w hSw; (try dsimp only at hSw); go_simp)⟩) (by assumption) ?_
  try simp only [Act.put, List.setIfInBounds_toArray, List.set_cons_zero, List.set_cons_succ]
  refine wpAnyH_take (i := 3) (oi := _) (v := .int .i64 k) rfl (by kernel_rfl) (by kernel_rfl) (by kernel_rfl) (fun _ _ _ h => h) (Or.inl ⟨by rfl, by (intro w hSw; (try dsimp only at hSw); go_simp)⟩) (by assumption) ?_
  try simp only [Act.put, List.setIfInBounds_toArray, List.set_cons_zero, List.set_cons_succ]
  refine wpAnyH_take (i := 7) (oi := _) (v := .int .i64 n) rfl (by kernel_rfl) (by kernel_rfl) (by kernel_rfl) (fun _ _ _ h => h) (Or.inl ⟨by rfl, by (intro w hSw; (try dsimp only at hSw); go_simp)⟩) (by assumption) ?_
  try simp only [Act.put, List.setIfInBounds_toArray, List.set_cons_zero, List.set_cons_succ]
  refine wpAnyH_take (i := 9) (oi := _) (v := .int .i64 v) rfl (by kernel_rfl) (by kernel_rfl) (by kernel_rfl) (fun _ _ _ h => h) (Or.inl ⟨by rfl, by (intro w hSw; (try dsimp only at hSw); go_simp)⟩) (by assumption) ?_
  try simp only [Act.put, List.setIfInBounds_toArray, List.set_cons_zero, List.set_cons_succ]
  refine wpAnyH_take (i := 4) (oi := _) (v := .slice (some ⟨g, o + f, none⟩) (k - f) (c - f)) rfl (by kernel_rfl) (by kernel_rfl) (by kernel_rfl) (fun _ _ _ h => h) (Or.inl ⟨by rfl, by (intro w hSw; (try dsimp only at hSw); go_simp)⟩) (by assumption) ?_
  try simp only [Act.put, List.setIfInBounds_toArray, List.set_cons_zero, List.set_cons_succ]
  refine wpAnyH_take (i := 5) (oi := _) (v := .string S) rfl (by kernel_rfl) (by kernel_rfl) (by kernel_rfl) (fun _ _ _ h => h) (Or.inl ⟨by rfl, by (intro w hSw; (try dsimp only at hSw); go_simp)⟩) (by assumption) ?_
  try simp only [Act.put, List.setIfInBounds_toArray, List.set_cons_zero, List.set_cons_succ]
  refine wpAnyH_take (i := 10) (oi := _) (v := .agg #[.string S, .int .i64 n, .int .i64 v]) rfl (by kernel_rfl) (by kernel_rfl) (by kernel_rfl) (fun _ _ _ h => h) (Or.inl ⟨by rfl, by (intro w hSw; (try dsimp only at hSw); go_simp)⟩) (by assumption) ?_
  try simp only [Act.put, List.setIfInBounds_toArray, List.set_cons_zero, List.set_cons_succ]
  have HBB : Hid (b ≤ W.heap.size) := Lib.hid hbw
  have HSA : Hid (∀ x : World, x = (W2.alloc (.cells #[.string S, .int .i64 n, .int .i64 v] 36)).drew → x.cell? ⟨b, 0, none⟩ = some (.slice (some ⟨g, o, none⟩) l.length c) ∧ x.cell? ⟨b + 4, 0, none⟩ = some (.int .i64 f) ∧ x.cell? ⟨b + 5, 0, none⟩ = some (.int .i64 k) ∧ x.cell? ⟨w1.heap.size, 0, none⟩ = some (.int .i64 n) ∧ x.cell? ⟨w1.heap.size, 1, none⟩ = some (.int .i64 v) ∧ (convert 22 9 (.slice (some ⟨g, o + f, none⟩) (k - f) (c - f))).run Try.prog x = .ok (.string S) x) := Lib.hid (by
    rintro x rfl
    have hbel : Below W2.heap.size W2 (W2.alloc (.cells #[.string S, .int .i64 n, .int .i64 v] 36)).drew := ((Below.refl _ _).alloc (Nat.le_refl _) _).drew
    have hbx := HBX2.out.below hbel
    have hxx := HXX.out.below hbel HXX.out.lt
    refine ⟨hbx.t.cell 0, hbx.f.cell 0, hbx.k.cell 0, hxx.cell 0, hxx.cell 1, ?_⟩
    have h := str_part (HR2.out.below (hbel.mono (by have := HH.out; omega))) f (k - f) (c - f) HKL.out
    rw [← HS.out] at h
    exact h)
  refine wpAnyH_ready (rs := [0, 11]) (by kernel_rfl) (by simp) ?_
  refine AllReadyH.cons rfl (fun K hK => ?_) (AllReadyH.cons rfl (fun K hK => ?_) AllReadyH.nil)
  · go_simp
    refine hK.out _ _ hHeld (fun hHeld => ?_)
    clear hK K
    try simp only [Act.put, List.setIfInBounds_toArray, List.set_cons_zero, List.set_cons_succ]
    refine wpAnyH_ready (rs := [11]) (by kernel_rfl) (by simp) ?_; refine AllReadyH.cons rfl (fun K hK => ?_) AllReadyH.nil
    go_simp
    refine hK.out _ _ (HSA.out _ rfl) (fun hHeld => ?_)
    clear hK K
    try simp only [Act.put, List.setIfInBounds_toArray, List.set_cons_zero, List.set_cons_succ]
    refine wpAnyH_ready (rs := [12]) (by kernel_rfl) (by simp) ?_; refine AllReadyH.cons rfl (fun K hK => ?_) AllReadyH.nil
    refine step_append_lies _ (by rfl) _ _ _ (by rfl) Br 36 i0 _ 3 32 Try.underlying37 HI.out.1 HI.out.2.1 HI.out.2.2.1 HI.out.2.2.2 rfl (by omega) (.slice Ar row.length cr) row.length (wcells row) (by rfl) ((HOW2.out.r.alloc _).drew) ⟨W2.heap.size, 0, none⟩ 1 1 [.string S, .int .i64 n, .int .i64 v] (by rfl) (by rfl) (World.news_of_block (cs := #[.string S, .int .i64 n, .int .i64 v]) (t := 36) (fr := (0, 0)) (heap_alloc_new W2 _)) (by simp [Value.oneCell']) (by omega) (by have := HRL.out; simp only [maxLen]; omega) (by have := HRL.out; omega) (by have := HOW2.out.hi; simp; omega) (W2.heap.size + 1) (by simp) ?_
    intro gg cap w7 hown7 hgrow hat hlt7
    have h7 := HG7.out w7 hgrow
    have hbx7 := Lib.hid h7.1
    have hbl7 := Lib.hid h7.2.1
    have cc7 := h7.2.2.1
    have pp7 := h7.2.2.2.1
    have q0 := h7.2.2.2.2.1
    have q4 := h7.2.2.2.2.2.1
    have q5 := h7.2.2.2.2.2.2.1
    have q6 := h7.2.2.2.2.2.2.2.1
    have q7 := h7.2.2.2.2.2.2.2.2.1
    have q8 := Lib.hid h7.2.2.2.2.2.2.2.2.2.1
    have q9 := Lib.hid h7.2.2.2.2.2.2.2.2.2.2.1
    have ho7 := Lib.hid (h7.2.2.2.2.2.2.2.2.2.2.2 _ hown7)
    clear hown7 hgrow h7
    refine hK.out _ _ ⟨q0, q4, q5, q6, q7, q9.out⟩ (fun hHeld => ?_)
    clear hK K
    try simp only [Act.put, List.setIfInBounds_toArray, List.set_cons_zero, List.set_cons_succ]
    refine wpAnyH_ready (rs := [13]) (by kernel_rfl) (by simp) ?_; refine AllReadyH.cons rfl (fun K hK => ?_) AllReadyH.nil
    go_simp
    refine hK.out _ _ ⟨by go_keep, by go_keep, by go_keep, by go_keep, by go_keep, q8.out _⟩ (fun hHeld => ?_)
    clear hK K
    refine wpAnyH_done (by kernel_rfl) ?_ _
    go_wp2
    go_end0
    refine ⟨rfl, .slice (some ⟨gg, 0, none⟩) (row.length + 1) cap, ?_, ?_, ?_⟩
    · rw [← HX.out, ← HY.out]
      exact hbx7.out.setR
    · rw [← HV.out]
      exact ho7.out.set_ 3 (by omega) _
    · exact ((HB2.out.mono (by have := HBB.out; omega)).trans (hbl7.out.mono (by omega))).setCell (by simp) _

  · go_simp
    refine hK.out _ _ (HSA.out _ rfl) (fun hHeld => ?_)
    clear hK K
    try simp only [Act.put, List.setIfInBounds_toArray, List.set_cons_zero, List.set_cons_succ]
    refine wpAnyH_ready (rs := [0]) (by kernel_rfl) (by simp) ?_; refine AllReadyH.cons rfl (fun K hK => ?_) AllReadyH.nil
    go_simp
    refine hK.out _ _ hHeld (fun hHeld => ?_)
    clear hK K
    try simp only [Act.put, List.setIfInBounds_toArray, List.set_cons_zero, List.set_cons_succ]
    refine wpAnyH_ready (rs := [12]) (by kernel_rfl) (by simp) ?_; refine AllReadyH.cons rfl (fun K hK => ?_) AllReadyH.nil
    refine step_append_lies _ (by rfl) _ _ _ (by rfl) Br 36 i0 _ 3 32 Try.underlying37 HI.out.1 HI.out.2.1 HI.out.2.2.1 HI.out.2.2.2 rfl (by omega) (.slice Ar row.length cr) row.length (wcells row) (by rfl) ((HOW2.out.r.alloc _).drew) ⟨W2.heap.size, 0, none⟩ 1 1 [.string S, .int .i64 n, .int .i64 v] (by rfl) (by rfl) (World.news_of_block (cs := #[.string S, .int .i64 n, .int .i64 v]) (t := 36) (fr := (0, 0)) (heap_alloc_new W2 _)) (by simp [Value.oneCell']) (by omega) (by have := HRL.out; simp only [maxLen]; omega) (by have := HRL.out; omega) (by have := HOW2.out.hi; simp; omega) (W2.heap.size + 1) (by simp) ?_
    intro gg cap w7 hown7 hgrow hat hlt7
    have h7 := HG7.out w7 hgrow
    have hbx7 := Lib.hid h7.1
    have hbl7 := Lib.hid h7.2.1
    have cc7 := h7.2.2.1
    have pp7 := h7.2.2.2.1
    have q0 := h7.2.2.2.2.1
    have q4 := h7.2.2.2.2.2.1
    have q5 := h7.2.2.2.2.2.2.1
    have q6 := h7.2.2.2.2.2.2.2.1
    have q7 := h7.2.2.2.2.2.2.2.2.1
    have q8 := Lib.hid h7.2.2.2.2.2.2.2.2.2.1
    have q9 := Lib.hid h7.2.2.2.2.2.2.2.2.2.2.1
    have ho7 := Lib.hid (h7.2.2.2.2.2.2.2.2.2.2.2 _ hown7)
    clear hown7 hgrow h7
    refine hK.out _ _ ⟨q0, q4, q5, q6, q7, q9.out⟩ (fun hHeld => ?_)
    clear hK K
    try simp only [Act.put, List.setIfInBounds_toArray, List.set_cons_zero, List.set_cons_succ]
    refine wpAnyH_ready (rs := [13]) (by kernel_rfl) (by simp) ?_; refine AllReadyH.cons rfl (fun K hK => ?_) AllReadyH.nil
    go_simp
    refine hK.out _ _ ⟨by go_keep, by go_keep, by go_keep, by go_keep, by go_keep, q8.out _⟩ (fun hHeld => ?_)
    clear hK K
    refine wpAnyH_done (by kernel_rfl) ?_ _
    go_wp2
    go_end0
    refine ⟨rfl, .slice (some ⟨gg, 0, none⟩) (row.length + 1) cap, ?_, ?_, ?_⟩
    · rw [← HX.out, ← HY.out]
      exact hbx7.out.setR
    · rw [← HV.out]
      exact ho7.out.set_ 3 (by omega) _
    · exact ((HB2.out.mono (by have := HBB.out; omega)).trans (hbl7.out.mono (by omega))).setCell (by simp) _
end Go.Proofs.Ytnfkeaplglknlaa.words
