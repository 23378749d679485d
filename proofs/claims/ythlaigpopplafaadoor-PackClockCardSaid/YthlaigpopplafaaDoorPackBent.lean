/- the laws' Bent and again, walked. -/
import Derived.Test.YthlaigpopplafaaDoorPackEnc
import Derived.Test.YthlaigpopplafaaDoorPackDecode
import Derived.Test.YthlaigpopplafaaDoorPackSnap
import Derived.Laws.OwnMore
import Derived.Laws.BitsAllLaws
import Derived.Laws.IdiomCopy
import Derived.Deep.AppendLies
import Derived.Deep.RegionLaw
namespace Go.Proofs.YthlaigpopplafaaDoor.pack
open Go.RowKit
open Go.Proofs.YthlaigpopplafaaDoor.aid

theorem decode_none {l : List UInt8} (h : (decode l).2 ≠ 0) : (decode l).1 = nosnap := by
  unfold decode at h ⊢
  split
  · rfl
  split
  · rfl
  split
  · rfl
  split
  · rfl
  rename_i h1 h2 h3 h4
  rw [if_neg h1, if_neg h2, if_neg h3, if_neg h4] at h
  exact absurd rfl h

set_option maxHeartbeats 4000000 in
theorem again_any (l : List UInt8) (A : Option Addr) (c : Nat) (hc : l.length ≤ c) (hl : l.length ≤ 100000) (w : World) (hr : Row w w.heap.size A (u8s l)) :
    Calls Tryd.prog 20 #[.slice A l.length c] w fun e w' => e = .returned (.bool true) ∧ Below w.heap.size w w' := by
  have HD := Lib.hid (decode_x l A c w hc hl hr)
  have HR := Lib.hid hr
  have he := decode_none (l := l)
  have hg := decode_again (l := l)
  obtain ⟨s, hs⟩ : ∃ s, s = (decode l).1 := ⟨_, rfl⟩
  obtain ⟨f, hf⟩ : ∃ f, f = (decode l).2 := ⟨_, rfl⟩
  unfold DecPost at HD
  rw [← hs, ← hf] at HD he hg
  clear hr hs hf
  by_cases hz : f = 0
  · subst hz
    obtain ⟨hm, hb⟩ := hg rfl
    have hsz : sizeOf s.es ≤ 100000 := by rw [← body_len s, hb]; exact hl
    have HM := Lib.hid hm
    have HB := Lib.hid hb
    clear he hg hm hb
    go_enter Tryd.func20, Tryd.ntmps20
    go_wp2_with fail
    refine HD.out.mono ?_
    rintro e w1 ⟨v1, rfl, hown, hb1⟩
    obtain ⟨A1, c1, rfl⟩ := own_slice hown
    have hr1 := of_ownN hown
    have HB1 := Lib.hid hb1
    have HR1 := Lib.hid ((HR.out.below hb1).more hb1.size)
    obtain ⟨W, hW⟩ : ∃ W, W = w1.alloc (.cells #[.int .u64 (s.clock : Nat), .slice A1 s.es.length c1] 25) := ⟨_, rfl⟩
    have hb2 : Below w1.heap.size w1 W := by rw [hW]; exact (Below.refl _ _).alloc (Nat.le_refl _) _
    have HE := Lib.hid (enc_any s A1 c1 hsz HM.out.clock (fun e he => (HM.out.fits e he).2) W ((hr1.below hb2).more hb2.size))
    have HR2 := Lib.hid ((HR1.out.below hb2).more hb2.size)
    have HB2 := Lib.hid (HB1.out.trans (hb2.mono HB1.out.size))
    have HW := Lib.hid hW
    clear hown hr1 hb1 hb2 hW HD HR1 HB1 HR
    go_wp2_with fail
    rw [← HW.out]
    refine HE.out.mono ?_
    rintro e w3 ⟨A3, c3, rfl, hc3, hr3, hb3⟩
    rw [encode_may HM.out] at hc3 hr3 ⊢
    simp only [HB.out] at hc3 hr3 ⊢
    have hs1 := row_string (c := c3) hr3
    have hs2 := row_string (c := c) ((HR2.out.below hb3).more hb3.size)
    have HB3 := Lib.hid (HB2.out.trans (hb3.mono HB2.out.size))
    clear hr3 hb3
    go_wp2_with fail
    go_ret
    exact ⟨rfl, HB3.out⟩
  · have hzi : ((f : Int) == 0) = false := beq_eq_false_iff_ne.2 (by omega)
    rw [he hz] at HD
    clear he hg
    go_enter Tryd.func20, Tryd.ntmps20
    go_wp2_with fail
    refine HD.out.mono ?_
    rintro e w1 ⟨v1, rfl, hown, hb1⟩
    obtain ⟨A1, c1, rfl⟩ := own_slice hown
    have HB1 := Lib.hid hb1
    clear hown hb1 HD
    go_wp2_with fail
    go_ret
    exact ⟨rfl, HB1.out.alloc HB1.out.size _⟩

theorem below_cells {B : Nat} {a : World} (b : Nat) (hb : B ≤ b) : ∀ (vs : List Value) (o : Nat) {w : World}, Below B a w → Below B a (w.setCells b o vs)
  | [], _, _, h => h
  | v :: r, o, _, h => below_cells b hb r (o + 1) (h.setCell (p := ⟨b, o, none⟩) hb v)
/-- one element taken out of a row, in place -/
theorem row_gone {w : World} {g n i : Nat} {xs : List Value} (hi : i < n) (hl : xs.length = n) (hg : g < w.heap.size) (hc : ∀ j, j < n → w.cell? ⟨g, j, none⟩ = xs[j]?) :
    Row (w.setCells g i (xs.drop (i + 1))) w.heap.size (some ⟨g, 0, none⟩) (xs.take i ++ xs.drop (i + 1)) := fun _ => by
  refine ⟨g, 0, rfl, hg, fun j v hv => ?_⟩
  rw [Nat.zero_add]
  rcases Nat.lt_or_ge j i with hj | hj
  · rw [World.cell?_setCells_out g _ _ _ _ (fun _ _ => .inl hj), hc j (by omega)]
    rw [List.getElem?_append_left (by rw [List.length_take]; omega), List.getElem?_take, if_pos hj] at hv
    exact hv
  · obtain ⟨k, rfl⟩ : ∃ k, j = i + k := ⟨j - i, by omega⟩
    rw [List.getElem?_append_right (by rw [List.length_take]; omega), List.length_take, show i + k - min i xs.length = k by omega] at hv
    obtain ⟨hk, hkv⟩ := List.getElem?_eq_some_iff.1 hv
    have hk2 : k < n - (i + 1) := by rw [List.length_drop] at hk; omega
    rw [World.cell?_setCells_in g _ _ _ (fun j hj => by
      rw [List.length_drop] at hj
      rw [hc (i + j) (by omega), List.getElem?_eq_getElem (by omega)]
      rfl) k hk, hkv]
theorem u8s_set (l : List UInt8) (i : Nat) (b : UInt8) : (u8s l).set i (.int .u8 (b.toNat : Int)) = u8s (l.set i b) := by
  unfold u8s
  rw [List.map_set]
theorem xor_u8 (a b : UInt8) : bits .xor .u8 (a.toNat : Int) (b.toNat : Int) = ((a ^^^ b).toNat : Int) := by
  rw [u8_xor_nat _ _ a.toNat_lt b.toNat_lt, UInt8.toNat_xor]
abbrev BentPost (l : List UInt8) (at_ x how : Nat) (w : World) (e : Ending) (w' : World) : Prop := ∃ A' c', e = .returned (.slice A' (bent l at_ x how).length c') ∧ (bent l at_ x how).length ≤ c' ∧ Row w' w'.heap.size A' (u8s (bent l at_ x how)) ∧ Below w.heap.size w w'

set_option maxHeartbeats 40000000 in
set_option maxRecDepth 100000 in
theorem bent_any (l : List UInt8) (A : Option Addr) (c : Nat) (at_ x how : Nat) (hl : l.length ≤ 100000) (hat : at_ < 65536) (hx : x < 256) (hh : how < 256) (w : World) (hr : Row w w.heap.size A (u8s l)) :
    Calls Tryd.prog 15 #[.slice A l.length c, .int .u16 at_, .int .u8 x, .int .u8 how] w (BentPost l at_ x how w) := by
  obtain ⟨i0, hi0, hz0, hz1, hz2⟩ := info_parts u8_info
  have hll := Lib.hid (show (u8s l).length = l.length from List.length_map _)
  have hxx : (x : Int) = ((UInt8.ofNat x).toNat : Int) := by rw [UInt8.toNat_ofNat']; omega
  have HR := Lib.hid hr
  have HXX := Lib.hid hxx
  clear hr hxx
  by_cases hn : l = []
  · have hlz : l.length = 0 := by rw [hn]; rfl
    go_enter Tryd.func15, Tryd.ntmps15
    go_wp2_with (at_builtin; refine wpList_append_row _ rfl (.tmp 11) (.tmp 12) 26 rfl w.heap.size 5 i0 _ 1 rfl hi0 hz0 hz1 hz2 rfl (.slice none 0 0) 0 [] rfl (World.ownsRow_nil _ _ _ _) _ A 0 c (u8s l) (by simp [go_sem, hlz]) (hll.out.trans hlz) HR.out (one_u8s _) (by unfold maxLen; omega) (by omega) (Nat.le_refl _) ?_; intro v2 w2 hown2 hg2 hat2; have hb2 := grown_below (Below.refl w.heap.size w) (World.ownsRow_nil _ w.heap.size 5 1) (Nat.le_refl _) (Nat.le_refl _) hg2; rw [Nat.zero_add] at hown2; obtain ⟨A2, c2, rfl⟩ := own_slice hown2; have HB2 := Lib.hid hb2; clear hown2 hg2 hat2 hb2)
    go_ret
    have hr3 := Row.new w2 5 #[.int .u8 x]
    unfold BentPost bent
    rw [if_pos hn]
    exact ⟨_, _, rfl, Nat.le_refl _, by rw [show u8s [UInt8.ofNat x] = [.int .u8 (x : Int)] from by rw [HXX.out]; rfl]; exact hr3, HB2.out.alloc HB2.out.size _⟩
  · have hpos : 0 < l.length := List.length_pos_iff.2 hn
    have hil : at_ % l.length < l.length := Nat.mod_lt _ hpos
    obtain ⟨i, hi⟩ : ∃ i, i = at_ % l.length := ⟨_, rfl⟩
    have hxi : ((at_ : Int) % (l.length : Int)) = (i : Int) := by rw [hi]; rfl
    rw [← hi] at hil
    have hl0 : ((l.length : Int) == 0) = false := beq_eq_false_iff_ne.2 (by omega)
    have hilI : (i : Int) < l.length := by omega
    have hbent : bent l at_ x how = if how % 4 = 0 then l.set i (l[i] ^^^ UInt8.ofNat x) else if how % 4 = 1 then l.take i else if how % 4 = 2 then l ++ [UInt8.ofNat x] else l.take i ++ l.drop (i + 1) := by
      unfold bent
      rw [if_neg hn, ← hi, show l.getD i 0 = l[i] from by simp [hil]]
    have hcase : how % 4 = 0 ∨ how % 4 = 1 ∨ how % 4 = 2 ∨ how % 4 = 3 := by omega
    have hxor := xor_u8 l[i] (UInt8.ofNat x)
    rw [← HXX.out] at hxor
    have HBENT := Lib.hid hbent
    clear hbent hi
    rcases hcase with h4 | h4 | h4 | h4
    · obtain ⟨y, hy⟩ : ∃ y, y = l[i] ^^^ UInt8.ofNat x := ⟨_, rfl⟩
      rw [← hy] at hxor
      have HY := Lib.hid hy
      have h4i : ((how : Int) % 4) = 0 := by omega
      clear hy
      go_enter Tryd.func15, Tryd.ntmps15
      go_wp2_with (at_builtin; refine wpList_append_row _ rfl (.tmp 11) (.tmp 12) 26 rfl w.heap.size 5 i0 _ 1 rfl hi0 hz0 hz1 hz2 rfl (.slice none 0 0) 0 [] rfl (World.ownsRow_nil _ _ _ _) _ A l.length c (u8s l) rfl hll.out HR.out (one_u8s _) (by unfold maxLen; omega) (by omega) (Nat.le_refl _) ?_; intro v2 w2 hown2 hg2 hat2; have hb2 := grown_below (Below.refl w.heap.size w) (World.ownsRow_nil _ w.heap.size 5 1) (Nat.le_refl _) (Nat.le_refl _) hg2; rw [Nat.zero_add, List.nil_append] at hown2; obtain ⟨A2, c2, rfl, hc2, -⟩ := own_form hown2; obtain ⟨g, c2', hv2, hg0, hg1⟩ := hown2.form (by omega); simp only [Value.slice.injEq, true_and] at hv2; obtain ⟨rfl, rfl⟩ := hv2; have hc2i : (l.length : Int) ≤ c2 := (by omega); have hicI : (i : Int) ≤ c2 := (by omega); have HO2 := Lib.hid hown2; have HB2 := Lib.hid hb2; have hcell := (hown2.cellAt i (by omega)).trans (u8s_at l i hil); have hfz := hown2.frozenAt i; obtain ⟨hst, -⟩ := hown2.stored i (.int .u8 (y.toNat : Int)); have HST := Lib.hid hst; clear hown2 hg2 hat2 hst hb2)
      go_ret
      unfold BentPost
      rw [HBENT.out, if_pos h4, ← HY.out, List.length_set, ← u8s_set]
      exact ⟨_, c2, rfl, hc2, Row.of_own HST.out, HB2.out.setCell hg0 _⟩
    · have h4i : ((how : Int) % 4) = 1 := by omega
      clear hxor
      go_enter Tryd.func15, Tryd.ntmps15
      go_wp2_with (at_builtin; refine wpList_append_row _ rfl (.tmp 11) (.tmp 12) 26 rfl w.heap.size 5 i0 _ 1 rfl hi0 hz0 hz1 hz2 rfl (.slice none 0 0) 0 [] rfl (World.ownsRow_nil _ _ _ _) _ A l.length c (u8s l) rfl hll.out HR.out (one_u8s _) (by unfold maxLen; omega) (by omega) (Nat.le_refl _) ?_; intro v2 w2 hown2 hg2 hat2; have hb2 := grown_below (Below.refl w.heap.size w) (World.ownsRow_nil _ w.heap.size 5 1) (Nat.le_refl _) (Nat.le_refl _) hg2; rw [Nat.zero_add, List.nil_append] at hown2; obtain ⟨A2, c2, rfl, hc2, -⟩ := own_form hown2; obtain ⟨g, c2', hv2, hg0, hg1⟩ := hown2.form (by omega); simp only [Value.slice.injEq, true_and] at hv2; obtain ⟨rfl, rfl⟩ := hv2; have hc2i : (l.length : Int) ≤ c2 := (by omega); have hicI : (i : Int) ≤ c2 := (by omega); have HO2 := Lib.hid hown2; have HB2 := Lib.hid hb2; clear hown2 hg2 hat2 hb2)
      go_ret
      unfold BentPost
      rw [HBENT.out, if_neg (by omega), if_pos h4, List.length_take, Nat.min_eq_left (by omega), ← u8s_take]
      exact ⟨_, c2, rfl, by omega, (Row.of_own HO2.out).take i, HB2.out⟩
    · have h4i : ((how : Int) % 4) = 2 := by omega
      clear hxor
      go_enter Tryd.func15, Tryd.ntmps15
      go_wp2_with (first
        | (at_builtin; refine wpList_append_row _ rfl (.tmp 11) (.tmp 12) 26 rfl w.heap.size 5 i0 _ 1 rfl hi0 hz0 hz1 hz2 rfl (.slice none 0 0) 0 [] rfl (World.ownsRow_nil _ _ _ _) _ A l.length c (u8s l) rfl hll.out HR.out (one_u8s _) (by unfold maxLen; omega) (by omega) (Nat.le_refl _) ?_; intro v2 w2 hown2 hg2 hat2; have hb2 := grown_below (Below.refl w.heap.size w) (World.ownsRow_nil _ w.heap.size 5 1) (Nat.le_refl _) (Nat.le_refl _) hg2; rw [Nat.zero_add, List.nil_append] at hown2; obtain ⟨A2, c2, rfl, hc2, -⟩ := own_form hown2; obtain ⟨g, c2', hv2, hg0, hg1⟩ := hown2.form (by omega); simp only [Value.slice.injEq, true_and] at hv2; obtain ⟨rfl, rfl⟩ := hv2; have hc2i : (l.length : Int) ≤ c2 := (by omega); have hicI : (i : Int) ≤ c2 := (by omega); have HO2 := Lib.hid hown2; have HB2 := Lib.hid hb2; clear hown2 hg2 hat2 hb2)
        | (at_builtin; refine wpList_append_row _ rfl (.tmp 52) (.tmp 54) 26 rfl w.heap.size 5 i0 _ 1 rfl hi0 hz0 hz1 hz2 rfl (.slice (some ⟨g, 0, none⟩) l.length c2) l.length (u8s l) rfl (HO2.out.alloc _) _ (some ⟨w2.heap.size, 0, none⟩) 1 1 [.int .u8 (x : Int)] rfl rfl (Row.new w2 5 #[.int .u8 (x : Int)]) (by simp [Value.oneCell']) (by unfold maxLen; omega) (by omega) (by have := HB2.out.size; simp; omega) ?_; intro v3 w3 hown3 hg3 hat3; have HO3 := Lib.hid hown3; have HB3 := Lib.hid (grown_below (HB2.out.alloc HB2.out.size _) (HO2.out.alloc _) (Nat.le_refl _) (by have := HB2.out.size; simp; omega) hg3); obtain ⟨A3, c3, rfl, hc3, -⟩ := own_form hown3; clear hown3 hg3 hat3))
      go_ret
      unfold BentPost
      rw [HBENT.out, if_neg (by omega), if_neg (by omega), if_pos h4, List.length_append, List.length_cons, List.length_nil]
      have hr3 := Row.of_own HO3.out
      rw [show u8s l ++ [.int .u8 (x : Int)] = u8s (l ++ [UInt8.ofNat x]) from by rw [HXX.out]; simp [u8s]] at hr3
      exact ⟨_, c3, rfl, hc3, hr3, HB3.out⟩
    · have h4i : ((how : Int) % 4) = 3 := by omega
      clear hxor
      go_enter Tryd.func15, Tryd.ntmps15
      go_wp2_with (at_builtin; refine wpList_append_row _ rfl (.tmp 11) (.tmp 12) 26 rfl w.heap.size 5 i0 _ 1 rfl hi0 hz0 hz1 hz2 rfl (.slice none 0 0) 0 [] rfl (World.ownsRow_nil _ _ _ _) _ A l.length c (u8s l) rfl hll.out HR.out (one_u8s _) (by unfold maxLen; omega) (by omega) (Nat.le_refl _) ?_; intro v2 w2 hown2 hg2 hat2; have hb2 := grown_below (Below.refl w.heap.size w) (World.ownsRow_nil _ w.heap.size 5 1) (Nat.le_refl _) (Nat.le_refl _) hg2; rw [Nat.zero_add, List.nil_append] at hown2; obtain ⟨A2, c2, rfl, hc2, -⟩ := own_form hown2; obtain ⟨g, c2', hv2, hg0, hg1⟩ := hown2.form (by omega); simp only [Value.slice.injEq, true_and] at hv2; obtain ⟨rfl, rfl⟩ := hv2; have hc2i : (l.length : Int) ≤ c2 := (by omega); have hicI : (i : Int) ≤ c2 := (by omega); have HO2 := Lib.hid hown2; have HB2 := Lib.hid hb2; clear hown2 hg2 hat2 hb2)
      rename_i KC hKC
      have HKC := Lib.hid hKC
      clear hKC
      have hwr : IntKind.i64.wrap ((i : Int) + 1) = (i : Int) + 1 := wrap_small _ (by omega) (by omega)
      have hb1 : (i : Int) + 1 ≤ l.length := by omega
      have hb0 : (0 : Int) ≤ (i : Int) + 1 := by omega
      have hb2 : (i : Int) + 1 ≤ c2 := by omega
      have hfin : ∀ (W : World) (n2 : Nat), n2 = (l.take i ++ l.drop (i + 1)).length → Row W W.heap.size (some ⟨g, 0, none⟩) (u8s l |>.take i |>.append (u8s l |>.drop (i + 1))) → Below w.heap.size w W → BentPost l at_ x how w (.returned (.slice (some ⟨g, 0, none⟩) n2 c2)) W := by
        intro W n2 h1 h2 h3
        unfold BentPost
        rw [HBENT.out, if_neg (by omega), if_neg (by omega), if_neg (by omega), ← h1]
        refine ⟨_, c2, rfl, ?_, ?_, h3⟩
        · rw [h1, List.length_append, List.length_take, List.length_drop]; omega
        · have e : u8s (l.take i ++ l.drop (i + 1)) = (u8s l).take i ++ (u8s l).drop (i + 1) := by rw [u8s_take, u8s_drop]; simp [u8s]
          rw [e]
          exact h2
      have HFIN := Lib.hid hfin
      have HCL := Lib.hid (fun j (hj : j < l.length) => HO2.out.cellAt j (by omega))
      have HN := Lib.hid (show ∀ j u, (u8s (l.drop (i + 1)))[j]? = some u → w2.cell? ((⟨g, i + 1, none⟩ : Addr).add j) = some u from by
        intro j u hj
        obtain ⟨hk, -⟩ := List.getElem?_eq_some_iff.1 hj
        rw [List.length_map, List.length_drop] at hk
        rw [Go.WideShapes.add_plain, HCL.out (i + 1 + j) (by omega), ← hj, ← u8s_drop, List.getElem?_drop])
      have HSP := Lib.hid (show ∀ j, j < (u8s (l.drop (i + 1))).length → (w2.cell? ⟨g, 0 + i * 1 + j, none⟩).isSome = true ∧ w2.frozen? ⟨g, 0 + i * 1 + j, none⟩ = false from by
        intro j hk
        rw [List.length_map, List.length_drop] at hk
        refine ⟨?_, HO2.out.frozenAt _⟩
        rw [HCL.out _ (by omega), List.getElem?_eq_getElem (by rw [List.length_map]; omega)]
        rfl)
      clear hfin
      by_cases hcc : c2 = i + 1
      · have hne : ((c2 : Int) = (i : Int) + 1) := by omega
        subst hcc
        have HLC := Lib.hid (show l.length = i + 1 from by omega)
        have hii : (i : Int) ≤ (i : Int) + 1 := by omega
        go_region_law (refine step_append_room rfl (.tmp 28) (.tmp 32) 26 (by rfl) 5 i0 1 Tryd.underlying26 hi0 hz1 g 0 i (i + 1) (by rfl) ⟨g, 0, none⟩ 0 0 [] (by rfl) rfl (fun j u h => by simp at h) (fun u h => by simp at h) (by omega) (fun j h => by simp at h) ?_)
        all_goals
          change KC _ _
          refine HKC.out _ _ ?_
          go_wp2
          go_ret
          have hb := HB2.out.drew
          have hrg := row_gone (w := w2.drew) hil (by rw [List.length_map]) hg1 (fun j hj => HCL.out j hj)
          rw [show (u8s l).drop (i + 1) = [] from List.drop_eq_nil_of_le (by rw [List.length_map, HLC.out]; omega)] at hrg
          have hfn := HFIN.out w2.drew i (by rw [List.length_append, List.length_take, List.length_drop, HLC.out]; omega)
          rw [show (u8s l).drop (i + 1) = [] from List.drop_eq_nil_of_le (by rw [List.length_map, HLC.out]; omega)] at hfn
          exact hfn hrg hb
      · have hne : ¬ ((c2 : Int) = (i : Int) + 1) := by omega
        go_region_law (refine step_append_room rfl (.tmp 28) (.tmp 32) 26 (by rfl) 5 i0 1 Tryd.underlying26 hi0 hz1 g 0 i c2 (by rfl) ⟨g, i + 1, none⟩ (l.length - (i + 1)) (c2 - (i + 1)) (u8s (l.drop (i + 1))) (by rfl) (by simp) HN.out (one_u8s _) (by omega) HSP.out ?_)
        all_goals
          change KC _ _
          refine HKC.out _ _ ?_
          go_wp2
          go_ret
          have hb := below_cells g hg0 ((u8s l).drop (i + 1)) i HB2.out.drew
          have hb' := below_cells (B := 0) (a := w2.drew) g (Nat.zero_le _) ((u8s l).drop (i + 1)) i (Below.refl _ _)
          exact HFIN.out _ _ (by rw [List.length_append, List.length_take, List.length_drop]; omega) ((row_gone (w := w2.drew) hil (by rw [List.length_map]) hg1 (fun j hj => HCL.out j hj)).more hb'.size) hb
end Go.Proofs.YthlaigpopplafaaDoor.pack
