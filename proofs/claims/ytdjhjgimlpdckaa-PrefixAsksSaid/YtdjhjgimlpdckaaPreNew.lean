/- prefix.New, walked. -/
import Derived.Test.YtdjhjgimlpdckaaPreRules
import Derived.Deep.RegionWith
namespace Go.Proofs.Ytdjhjgimlpdckaa.pre
open Go.RowKit
open Go.Proofs.Ytdjhjgimlpdckaa.aid

def NewRel (w : World) (L : List Rul) (i : Value) (wr : World) : Prop :=
  ∃ (k : Nat) (G : Gr), i = .int .i64 k ∧ k ≤ L.length ∧ Hid (TreeW wr w.heap.size (w.heap.size + 1) G) ∧ Hid (RulesW wr G L k) ∧ Hid (Many wr (w.heap.size + 1) (firsts L k)) ∧ Hid (Below w.heap.size w wr)

theorem tree_start (w : World) : TreeW ((w.alloc (.map #[] 0)).alloc (.cells #[.string ⟨#[]⟩, .pointer none, .map (some w.heap.size), .int .i64 0] 56)) w.heap.size (w.heap.size + 1) (fun i => if i = w.heap.size + 1 then some ⟨[], [], none, w.heap.size, fun _ => none⟩ else none) := by
  have one : ∀ {i : Nat} {q : Rec}, (fun i => if i = w.heap.size + 1 then some (⟨[], [], none, w.heap.size, fun _ => none⟩ : Rec) else none) i = some q → i = w.heap.size + 1 ∧ q = ⟨[], [], none, w.heap.size, fun _ => none⟩ := fun h => by
    simp only at h
    split at h
    · next e => cases h; exact ⟨e, rfl⟩
    · cases h
  refine ⟨⟨⟨⟨[], [], none, w.heap.size, fun _ => none⟩, by simp, rfl, rfl⟩, ?_, ?_, ?_, ?_⟩, ?_, ?_, ?_, ?_⟩
  · intro b r c b' h hc
    obtain ⟨rfl, rfl⟩ := one h
    cases hc
  · intro b r b' r' h h' _
    rw [(one h).1, (one h').1]
  · intro b r b' r' c t h h' he
    obtain ⟨rfl, rfl⟩ := one h
    obtain ⟨_, rfl⟩ := one h'
    simp at he
  · intro b r h
    obtain ⟨rfl, rfl⟩ := one h
    exact ⟨⟨[], rfl⟩, by simp [big]⟩
  · intro b r h
    obtain ⟨rfl, rfl⟩ := one h
    exact ⟨by omega, Nat.le_refl _⟩
  · intro b r h
    obtain ⟨rfl, rfl⟩ := one h
    have := Blk.new (w.alloc (.map #[] 0)) 56 #[.string ⟨#[]⟩, .pointer none, .map (some w.heap.size), .int .i64 0]
    simp only [World.size_alloc] at this
    exact ⟨_, _, this, by decide, rfl, rfl, rfl⟩
  · intro b r h
    obtain ⟨rfl, rfl⟩ := one h
    exact (KidW.new w).same (Below.heap_alloc _ _ _ (by simp))
  · intro b r b' r' h h' _
    rw [(one h).1, (one h').1]

set_option maxHeartbeats 1600000 in
theorem new_any (L : List Rul) (A : Option Addr) (c : Nat) (hL : L.length ≤ 1000000) (hbig : ∀ x ∈ L, x.pre.length ≤ big) (w : World) (hr : Row w w.heap.size A (rcells L)) :
    Calls Try.prog 12 #[.slice A L.length c] w fun e w' => ∃ root, e = .returned (.pointer (some ⟨root, 0, none⟩)) ∧ Tr w' w.heap.size root L ∧ Below w.heap.size w w' := by
  have HR := Lib.hid hr
  have HBG := Lib.hid hbig
  have hmk := run_makeMap (P := Try.prog) 51 w
  have HT0 := Lib.hid (tree_start w)
  have hm0 : Many ((w.alloc (.map #[] 0)).alloc (.cells #[.string ⟨#[]⟩, .pointer none, .map (some w.heap.size), .int .i64 0] 56)) (w.heap.size + 1) 0 := by
    have := Blk.new (w.alloc (.map #[] 0)) 56 #[.string ⟨#[]⟩, .pointer none, .map (some w.heap.size), .int .i64 0]
    simp only [World.size_alloc] at this
    exact ⟨_, _, this, rfl⟩
  have HM0 := Lib.hid hm0
  have HB0 := Lib.hid (((Below.refl _ w).alloc (Nat.le_refl _) (.map #[] 0)).alloc (by simp) (.cells #[.string ⟨#[]⟩, .pointer none, .map (some w.heap.size), .int .i64 0] 56))
  clear hr hbig hm0
  go_enter Try.func12, Try.ntmps12
  go_wp2
  go_loopw [13] (fun i wr => NewRel w L i wr) (fun i _ => L.length - (intOf i).toNat)
  case atStart =>
    refine ⟨0, _, rfl, Nat.zero_le _, HT0, Lib.hid ⟨fun j x h => by omega, fun b r ρ h1 h2 => ?_⟩, HM0, HB0⟩
    split at h1
    · cases h1
      cases h2
    · cases h1
  case round =>
    obtain ⟨k, G, rfl, hk, HT, HRU, HM, HB⟩ := hrel
    by_cases hlt : k < L.length
    · obtain ⟨x, hx⟩ : ∃ x, L[k]? = some x := ⟨_, List.getElem?_eq_getElem hlt⟩
      obtain ⟨b0, off, rfl, hb0, c0, c1, c2, c3⟩ := rul_at (HR.out.below HB.out) hx
      have hb1 : b0 < wr.heap.size := Nat.lt_of_lt_of_le hb0 HB.out.size
      obtain ⟨P, hP⟩ : ∃ P : ByteArray, P = ⟨x.pre.toArray⟩ := ⟨_, rfl⟩
      rw [← hP] at c0
      have HPP := Lib.hid hP
      have HX := Lib.hid hx
      clear hP hx
      go_wp2
      rename_i KA hKA KC hKC
      have HKA := Lib.hid hKA
      have HKC := Lib.hid hKC
      clear hKA hKC
      generalize hW : wr.alloc (.cells #[.string P, .int .u64 x.every, .int .u64 x.burst, .int .u8 x.kind] 28) = W
      have zW : W.heap.size = wr.heap.size + 1 := by rw [← hW]; simp
      have hbW : Below wr.heap.size wr W := by rw [← hW]; exact (Below.refl _ wr).alloc (Nat.le_refl _) _
      have hblk : Blk W wr.heap.size 28 x.cells := by
        rw [← hW]
        have := Blk.new wr 28 #[.string P, .int .u64 x.every, .int .u64 x.burst, .int .u8 x.kind]
        rw [HPP.out] at this ⊢
        exact this
      have cp : W.cell? ⟨wr.heap.size, 0, none⟩ = some (.string P) := by
        have := hblk.cell 0
        rw [HPP.out]
        exact this
      have hbase : w.heap.size ≤ W.heap.size := by have := HB.out.size; omega
      have hlx : x.pre.length ≤ big := HBG.out x (List.mem_iff_getElem?.2 ⟨k, HX.out⟩)
      have hgrow := grow_any W.drew w.heap.size (w.heap.size + 1) G ((HT.out.below hbW).below (Below.refl _ W).drew) hbase x.pre hlx
      rw [← HPP.out] at hgrow
      have HGR := Lib.hid hgrow
      have HBW := Lib.hid hbW
      have HBL := Lib.hid hblk
      have HBS := Lib.hid hbase
      clear hgrow hbW hblk hW hbase hlx c0 c1 c2 c3
      go_region_with ((with_reducible refine HGR.out.mono ?_); rintro e w5 ⟨b, r, G5, rfl, hT5, hX5, hb5, hp5⟩)
      all_goals
        change KC _ _
        refine HKC.out _ _ ?_
        clear HKC
        have XW : Step wr (w.heap.size + 1) G w5 G5 := ((Step.below HBW.out).trans (Step.below (Below.refl _ W).drew)).trans hX5
        have hroot : w.heap.size + 1 < wr.heap.size := by
          obtain ⟨r0, h0, _⟩ := HT.out.shape.top
          exact (HT.out.node _ _ h0).lt
        have M5 : Many w5 (w.heap.size + 1) (firsts L k) := HM.out.same (XW.frame _ hroot (.inl rfl))
        have B5 : Blk w5 wr.heap.size 28 x.cells := blk_step (HBL.out.drew) ((HT.out.below HBW.out).below (Below.refl _ W).drew) hX5
        have hbel : Below w.heap.size w w5 := HB.out.trans (step_below HT.out XW HB.out.size)
        have hn5 := hT5.node b r hb5
        obtain ⟨e0, e1, e2⟩ := hn5.cells
        have ef := hn5.frozen 1
        have m3 := M5.cell
        have mf : w5.frozen? ⟨w.heap.size + 1, 3, none⟩ = false := by
          obtain ⟨cs, t, hb, _⟩ := M5
          exact hb.frozen 3
        have hle := firsts_le L k
        have hold : ∀ i q ρ, G5 i = some q → q.rule = some ρ → ∃ j y, j < k ∧ First L j y ∧ q.path = y.pre ∧ Blk w5 ρ 28 y.cells := by
          intro i q ρ h1 h2
          rcases XW.new i q h1 with ⟨q0, g0⟩ | ⟨h3, _⟩
          · obtain ⟨q1, g1, p1, p2, _⟩ := XW.old i q0 g0
            rw [h1] at g1
            cases g1
            obtain ⟨j, y, f1, f2, f3, f4⟩ := HRU.out.is i q0 ρ g0 (by rw [← p2]; exact h2)
            exact ⟨j, y, f1, f2, p1.trans f3, blk_step f4 HT.out XW⟩
          · rw [h3] at h2
            cases h2
        have hhas : ∀ j y, j < k → L[j]? = some y → ∃ b' r', G5 b' = some r' ∧ r'.path = y.pre ∧ r'.rule ≠ none := by
          intro j y h1 h2
          obtain ⟨b', r', f1, f2, f3⟩ := HRU.out.has j y h1 h2
          obtain ⟨q, g1, p1, p2, _⟩ := XW.old _ _ f1
          exact ⟨b', q, g1, p1.trans f2, by rw [p2]; exact f3⟩
        cases hrr : r.rule with
        | none =>
          have hfi : First L k x := ⟨HX.out, fun j y h1 h2 he => by
            obtain ⟨b', r', f1, f2, f3⟩ := hhas j y h1 h2
            have := hT5.shape.inj _ _ _ _ f1 hb5 (by rw [f2, he, hp5])
            subst this
            rw [f1] at hb5
            cases hb5
            exact f3 hrr⟩
          have hf1 : firsts L (k + 1) = firsts L k + 1 := by
            show firsts L k + (if isFirst L k then 1 else 0) = _
            rw [if_pos ((isFirst_iff HX.out).2 hfi)]
          rw [hrr] at e1
          have e1' : w5.cell? ⟨b, 1, none⟩ = some (.pointer none) := e1
          obtain ⟨n, hn⟩ : ∃ n, n = firsts L k := ⟨_, rfl⟩
          rw [← hn] at m3 hle
          have hw1 : IntKind.i64.wrap ((n : Int) + 1) = (n : Int) + 1 := wrap_small _ (by omega) (by omega)
          have hw2 : IntKind.i64.wrap ((k : Int) + 1) = (k : Int) + 1 := wrap_small _ (by omega) (by omega)
          have H1 := Lib.hid hold
          have H2 := Lib.hid hhas
          have H3 := Lib.hid hfi
          have H4 := Lib.hid hf1
          have H5 := Lib.hid hT5
          have H6 := Lib.hid hb5
          have H7 := Lib.hid B5
          have H8 := Lib.hid hbel
          have H9 := Lib.hid M5
          have H10 := Lib.hid hn
          have H11 := Lib.hid hp5
          have HN5 := Lib.hid hn5
          clear hold hhas hfi hf1 hT5 hb5 B5 hbel M5 hn e1 e0 e2 XW hX5 hn5 hp5 hrr
          go_wp2
          refine HKA.out _ _ ?_
          clear HKA
          go_wp2
          go_roundw
          case rel =>
            obtain ⟨r0, h0, _⟩ := H5.out.shape.top
            have hnr := H5.out.node _ _ h0
            have keepB : ∀ ρ cs, Blk w5 ρ 28 cs → Blk ((w5.setCell ⟨b, 1, none⟩ (.pointer (some ⟨wr.heap.size, 0, none⟩))).setCell ⟨w.heap.size + 1, 3, none⟩ (.int .i64 ((n : Int) + 1))) ρ 28 cs :=
              fun ρ cs h => (h.far (p := ⟨b, 1, none⟩) (blk_ne_node h HN5.out) _).far (p := ⟨w.heap.size + 1, 3, none⟩) (blk_ne_node h hnr) _
            refine ⟨k + 1, setRule G5 b r wr.heap.size, by go_num, hlt, Lib.hid (tree_many (tree_rule H5.out H6.out _) _), Lib.hid ⟨?_, ?_⟩, Lib.hid ?_, Lib.hid ?_⟩
            · intro j y h1 h2
              by_cases hj : j < k
              · obtain ⟨b', r', g1, g2, g3⟩ := H2.out j y hj h2
                obtain ⟨q, f1, f2, _, _, _, f3⟩ := setRule_of (ρ := wr.heap.size) H6.out g1
                exact ⟨b', q, f1, f2.trans g2, f3 g3⟩
              · obtain rfl : j = k := by omega
                have := HX.out
                rw [h2] at this
                cases this
                exact ⟨b, { r with rule := some wr.heap.size }, by simp [setRule], H11.out, by simp⟩
            · intro i q ρ h1 h2
              obtain ⟨q0, g0, p1, _, _, _, p5⟩ := setRule_at H6.out h1
              rcases p5 with ⟨_, p5⟩ | ⟨hib, p5⟩
              · obtain ⟨j, y, f1, f2, f3, f4⟩ := H1.out i q0 ρ g0 (by rw [← p5]; exact h2)
                exact ⟨j, y, by omega, f2, p1.trans f3, keepB _ _ f4⟩
              · rw [h2] at p5
                cases p5
                subst hib
                rw [H6.out] at g0
                cases g0
                exact ⟨k, x, by omega, H3.out, p1.trans H11.out, keepB _ _ H7.out⟩
            · have := (H9.out.rule_ (b := b) (.pointer (some ⟨wr.heap.size, 0, none⟩))).set_ (n + 1)
              rw [H4.out, ← H10.out]
              exact this
            · exact (H8.out.setCell (p := ⟨b, 1, none⟩) (H5.out.low _ _ H6.out).1 _).setCell (p := ⟨w.heap.size + 1, 3, none⟩) (by show w.heap.size ≤ w.heap.size + 1; omega) _
          case measure => simp [intOf]; omega
        | some ρ =>
          obtain ⟨j, y, f1, f2, f3, f4⟩ := hold b r ρ hb5 hrr
          have hnf : isFirst L k = false := by
            rw [Bool.eq_false_iff]
            intro h
            exact ((isFirst_iff HX.out).1 h).2 j y f1 f2.1 (by rw [← f3, hp5])
          have hf1 : firsts L (k + 1) = firsts L k := by
            show firsts L k + (if isFirst L k then 1 else 0) = _
            rw [hnf]
            rfl
          rw [hrr] at e1
          have e1' : w5.cell? ⟨b, 1, none⟩ = some (.pointer (some ⟨ρ, 0, none⟩)) := e1
          have hw2 : IntKind.i64.wrap ((k : Int) + 1) = (k : Int) + 1 := wrap_small _ (by omega) (by omega)
          have H1 := Lib.hid hold
          have H2 := Lib.hid hhas
          have H4 := Lib.hid hf1
          have H5 := Lib.hid hT5
          have H6 := Lib.hid hb5
          have H8 := Lib.hid hbel
          have H9 := Lib.hid M5
          have H11 := Lib.hid hp5
          have H12 := Lib.hid hrr
          clear hold hhas hf1 hT5 hb5 B5 hbel M5 e1 e0 e2 XW hX5 hn5 f1 f2 f3 f4 hp5 hrr
          go_wp2
          refine HKA.out _ _ ?_
          clear HKA
          go_wp2
          go_roundw
          case rel =>
            refine ⟨k + 1, G5, by go_num, hlt, H5, Lib.hid ⟨?_, ?_⟩, Lib.hid ?_, H8⟩
            · intro j' y' h1 h2
              by_cases hj : j' < k
              · exact H2.out j' y' hj h2
              · obtain rfl : j' = k := by omega
                have := HX.out
                rw [h2] at this
                cases this
                exact ⟨b, r, H6.out, H11.out, by rw [H12.out]; simp⟩
            · intro i q ρ' h1 h2
              obtain ⟨j', y', f1, f2, f3, f4⟩ := H1.out i q ρ' h1 h2
              exact ⟨j', y', by omega, f2, f3, f4⟩
            · rw [H4.out]
              exact H9.out
          case measure => simp [intOf]; omega
    · obtain rfl : k = L.length := by omega
      go_wp2
      go_ret
      exact ⟨_, rfl, ⟨G, HT.out, HRU.out, HM.out⟩, HB.out⟩
end Go.Proofs.Ytdjhjgimlpdckaa.pre
