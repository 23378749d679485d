/- PackOrder, walked. -/
import Derived.Test.YthlaigpopplafaaDoorPackSizeWalk
import Derived.Test.YthlaigpopplafaaDoorPackRefD
import Derived.Laws.OwnMore
import Derived.Deep.AppendLies
import Derived.Deep.RegionLaw
namespace Go.Proofs.YthlaigpopplafaaDoor.pack
open Go.RowKit
open Go.Proofs.YthlaigpopplafaaDoor.aid

/-- two boxes, one behind the other -/
structure Two (w : World) (cs ts : Array Value) (W : World) : Prop where
  s : Blk W w.heap.size 25 cs
  t : Blk W (w.heap.size + 1) 25 ts
  bel : Below w.heap.size w W
section
variable {w W W' : World} {cs ts : Array Value}
theorem Two.siz (h : Two w cs ts W) : w.heap.size + 1 < W.heap.size := h.t.lt
theorem Two.grow {row : Option Nat} (h : Two w cs ts W) (hg : W.grownBy W' row) (hr : ∀ k, row = some k → w.heap.size + 2 ≤ k) : Two w cs ts W' :=
  ⟨h.s.grown hg (fun e => by have := hr _ e.symm; omega), h.t.grown hg (fun e => by have := hr _ e.symm; omega), h.bel.grown hg (by have := h.siz; omega) (fun k hk => by have := hr k hk; omega)⟩
theorem Two.alloc (h : Two w cs ts W) (o : Obj) : Two w cs ts (W.alloc o) := h.grow (World.grownBy_alloc _ _ none) (by simp)
theorem Two.drew (h : Two w cs ts W) : Two w cs ts W.drew := ⟨h.s, h.t, h.bel.drew⟩
theorem Two.below (h : Two w cs ts W) (hb : Below W.heap.size W W') : Two w cs ts W' := h.grow (grown_none hb none) (by simp)
theorem Two.set_ (h : Two w cs ts W) (i : Nat) (v : Value) : Two w cs (ts.setIfInBounds i v) (W.setCell ⟨w.heap.size + 1, i, none⟩ v) :=
  ⟨h.s.far (by simp) v, h.t.set_ i v, h.bel.setCell (by simp) v⟩
end
theorem ecells_app (a b : List Ent) : ecells (a ++ b) = ecells a ++ ecells b := by simp [ecells]
theorem ecells_set : ∀ (es : List Ent) (i : Nat) (h : i < es.length) (k : List UInt8), (ecells es).set (2 * i) (.string ⟨k.toArray⟩) = ecells (es.set i ⟨k, es[i].till⟩)
  | [], i, h, _ => by simp at h
  | e :: r, 0, _, k => by simp [ecells]
  | e :: r, i + 1, h, k => by
    have ih := ecells_set r i (by simpa using h) k
    have e1 : ecells (e :: r) = [.string ⟨e.key.toArray⟩, .int .u64 (e.till : Nat)] ++ ecells r := rfl
    have e2 : ∀ x : Ent, ∀ xs : List Ent, ecells (x :: xs) = [.string ⟨x.key.toArray⟩, .int .u64 (x.till : Nat)] ++ ecells xs := fun _ _ => rfl
    rw [e1, List.set_cons_succ, e2, List.getElem_cons_succ, ← ih, show 2 * (i + 1) = 2 * i + 1 + 1 from by omega]
    rfl
theorem size_app (a b : List Ent) : sizeOf (a ++ b) + 16 = sizeOf a + sizeOf b := by
  rw [sizeOf_encs, sizeOf_encs, sizeOf_encs]
  simp [encs]
  omega
theorem size_parts (es : List Ent) (i : Nat) : sizeOf (es.take i) ≤ sizeOf es ∧ sizeOf (es.drop i) ≤ sizeOf es := by
  have h := size_app (es.take i) (es.drop i)
  rw [List.take_append_drop] at h
  have h1 := sizeOf_encs (es.take i)
  have h2 := sizeOf_encs (es.drop i)
  omega
theorem size_set (es : List Ent) (i : Nat) (h : i < es.length) (e : Ent) : sizeOf (es.set i e) ≤ sizeOf es + 9 + e.key.length := by
  have h1 : es.set i e = es.take i ++ (e :: es.drop (i + 1)) := by rw [List.set_eq_take_append_cons_drop, if_pos h]
  have h2 := size_app (es.take i) (e :: es.drop (i + 1))
  have h3 := size_app (es.take (i + 1)) (es.drop (i + 1))
  rw [List.take_append_drop] at h3
  have h4 : sizeOf (e :: es.drop (i + 1)) = 9 + e.key.length + sizeOf (es.drop (i + 1)) := by
    rw [sizeOf_encs, sizeOf_encs]
    have := encE_len e
    simp [encs, this]
    omega
  have h5 : sizeOf (es.take i) ≤ sizeOf (es.take (i + 1)) := by
    have := (size_parts (es.take (i + 1)) i).1
    rwa [List.take_take, Nat.min_eq_left (by omega)] at this
  rw [h1]
  omega

set_option maxHeartbeats 20000000 in
set_option maxRecDepth 100000 in
theorem packOrder_walk (w : World) (a0 : Int) (l1 : List (List UInt8)) (A1 : Option Addr) (c1 : Nat) (a2 : Int) (a3 : ByteArray) (h0 : 0 ≤ a0 ∧ a0 ≤ 18446744073709551615)
    (n1 : l1.length ≤ 140737488351232) (m1 : ∀ l ∈ l1, l.length ≤ 140737488351232) (r1 : frame.Rows w w.heap.size A1 l1) (h2 : 0 ≤ a2 ∧ a2 ≤ 255) (z3 : a3.size ≤ 140737488351232) :
    Calls Tryd.prog 6 #[.int .u64 a0, .slice A1 l1.length c1, .int .u8 a2, .string a3] w fun e w' => e = .returned (.bool true) ∧ Below w.heap.size w w' := by
  obtain ⟨ck, rfl⟩ : ∃ ck : Nat, a0 = (ck : Int) := ⟨a0.toNat, by omega⟩
  obtain ⟨at_, rfl⟩ : ∃ at_ : Nat, a2 = (at_ : Int) := ⟨a2.toNat, by omega⟩
  have hck : ck < 18446744073709551616 := by omega
  have hat : at_ < 256 := by omega
  have HFW := Lib.hid (few_any l1 A1 c1 n1 m1 w w.heap.size r1)
  have HSN := Lib.hid (snap_any ck hck l1 A1 c1 [] none 0 n1 (by simp) (by simp) w r1 Row.nil_)
  clear r1 m1 h0 h2
  by_cases hfew : tot l1 ≤ 300
  · have hd : decide (tot l1 ≤ 300) = true := by simpa using hfew
    rw [hd] at HFW
    clear hd
    by_cases h200 : a3.size ≤ 200
    · have h200' : (a3.size : Int) ≤ 200 := by omega
      have hsz := snap_size (clock := ck) l1 []
      have hln := snapOf_len ck l1 []
      have hmay := snapOf_may hck l1 []
      have hckk : Hid ((snapOf ck l1 []).clock = ck) := Lib.hid rfl
      obtain ⟨s, hs⟩ : ∃ s, s = snapOf ck l1 [] := ⟨_, rfl⟩
      rw [← hs] at hsz hmay hckk HSN hln
      simp only [List.length_nil] at HSN
      have HMY := Lib.hid hmay
      obtain ⟨es, hes⟩ : ∃ es, es = s.es := ⟨_, rfl⟩
      rw [← hes] at hsz hln HSN
      have HES := Lib.hid hes
      clear hs hmay hes
      go_enter Tryd.func6, Tryd.ntmps6
      go_wp2_with fail
      refine HFW.out.mono ?_
      rintro e w1 ⟨rfl, rfl⟩
      go_wp2_with fail
      refine HSN.out.mono ?_
      rintro e w2 ⟨A, cp, rfl, hcp, hrow, hb2⟩
      have HB2 := Lib.hid hb2
      by_cases hn : es.length = 0
      · have hn0 : ((es.length : Int) == 0) = true := beq_iff_eq.2 (by omega)
        clear hrow hb2 HFW HSN
        go_wp2_with fail
        refine (known_any _).mono ?_
        rintro e wk ⟨rfl, hbk⟩
        have HB3 := Lib.hid (HB2.out.alloc HB2.out.size (.cells #[.int .u64 (ck : Nat), .slice A 0 cp] 25))
        go_wp2_with fail
        go_ret
        exact ⟨rfl, HB3.out.trans (hbk.mono HB3.out.size)⟩
      · have hn0 : ((es.length : Int) == 0) = false := beq_eq_false_iff_ne.2 (by omega)
        have hil : at_ % es.length < es.length := Nat.mod_lt _ (by omega)
        obtain ⟨i, hi⟩ : ∃ i, i = at_ % es.length := ⟨_, rfl⟩
        have hxi : ((at_ : Int) % (es.length : Int)) = (i : Int) := by rw [hi]; rfl
        rw [← hi] at hil
        obtain ⟨g, off, rfl, hg, hcells⟩ := hrow.at_ (k := 0) (by rw [ecells_len]; omega)
        have HC := Lib.hid hcells
        have HRW := Lib.hid hrow
        obtain ⟨W3, hW3⟩ : ∃ W3, W3 = (w2.alloc (.cells #[.int .u64 (ck : Nat), .slice (some ⟨g, off, none⟩) es.length cp] 25)).alloc (.cells #[.int .u64 (ck : Nat), .slice none 0 0] 25) := ⟨_, rfl⟩
        have HT3 := Lib.hid (show Two w2 #[.int .u64 (ck : Nat), .slice (some ⟨g, off, none⟩) es.length cp] #[.int .u64 (ck : Nat), .slice none 0 0] W3 from by
          have h1 := Blk.new (w2.alloc (.cells #[.int .u64 (ck : Nat), .slice (some ⟨g, off, none⟩) es.length cp] 25)) 25 #[.int .u64 (ck : Nat), .slice none 0 0]
          rw [hW3]
          exact ⟨(Blk.new w2 _ _).alloc _, by simpa using h1, ((Below.refl _ _).alloc (Nat.le_refl _) _).alloc (by simp) _⟩)
        have hs3 : W3.heap.size = w2.heap.size + 2 := by rw [hW3]; simp
        have HW3 := Lib.hid hW3
        clear hW3 hrow hb2 HFW HSN hcells hi
        go_wp2_with fail
        rw [← HW3.out]
        rename_i KA hKA
        have HKA := Lib.hid hKA
        clear hKA HW3
        have e1 : IntKind.i64.wrap ((i : Int) + 1) = (i : Int) + 1 := wrap_small _ (by omega) (by omega)
        have b0 : (0 : Int) ≤ (i : Int) + 1 := by omega
        have b1 : (i : Int) + 1 ≤ cp := by omega
        have b2 : (i : Int) ≤ es.length := by omega
        have b3 : (i : Int) ≤ cp := by omega
        have c0 : W3.cell? ⟨w2.heap.size, 1, none⟩ = some (.slice (some ⟨g, off, none⟩) es.length cp) := HT3.out.s.cell 1
        have c1' : W3.cell? ⟨w2.heap.size + 1, 1, none⟩ = some (.slice none 0 0) := HT3.out.t.cell 1
        have p1 := HT3.out.t.frozen 1
        obtain ⟨i0, hi0, hq0, hq1, hq2⟩ := info_parts ent_info
        have HI := Lib.hid (And.intro hi0 (And.intro hq0 (And.intro hq1 hq2)))
        have HG7 : Hid (∀ W7 : World, W3.drew.grownBy W7 (Value.slice none 0 0).ownBlock →
            Two w2 #[.int .u64 (ck : Nat), .slice (some ⟨g, off, none⟩) es.length cp] #[.int .u64 (ck : Nat), .slice none 0 0] W7 ∧ W7.cell? ⟨w2.heap.size + 1, 1, none⟩ = some (.slice none 0 0) ∧ W7.frozen? ⟨w2.heap.size + 1, 1, none⟩ = false) := Lib.hid fun W7 hgrow => by
          have hs7 := HT3.out.drew.grow hgrow (by intro k hk; cases hk)
          exact ⟨hs7, hs7.t.cell 1, hs7.t.frozen 1⟩
        have HNW : Hid (∀ W, Below w2.heap.size w2 W → ∀ j u, (ecells es)[j]? = some u → W.cell? ⟨g, off + j, none⟩ = some u) := Lib.hid fun W hb j u hu => (hb.cell (p := ⟨g, off + j, none⟩) hg).trans (HC.out j u hu)
        have HLT : Hid ((ecells (es.take (i + 1))).length = (i + 1) * 2) := Lib.hid (by rw [ecells_len, List.length_take]; omega)
        have HLD : Hid ((ecells (es.drop i)).length = (es.length - i) * 2) := Lib.hid (by rw [ecells_len, List.length_drop]; omega)
        have HN1 := Lib.hid (show ∀ j u, (ecells (es.take (i + 1)))[j]? = some u → W3.drew.cell? ((⟨g, off, none⟩ : Addr).add j) = some u from by
          intro j u hu
          rw [Go.WideShapes.add_plain]
          refine HNW.out W3.drew HT3.out.bel.drew j u ?_
          rw [ecells_take, List.getElem?_take] at hu
          split at hu
          · exact hu
          · cases hu)
        clear hi0 hq0 hq1 hq2
        go_region_law (refine step_append_lies _ (by rfl) _ _ _ (by rfl) (w2.heap.size + 2) 31 i0 _ 2 24 Tryd.underlying23 HI.out.1 HI.out.2.1 HI.out.2.2.1 HI.out.2.2.2 rfl (by omega) (.slice none 0 0) 0 [] (by rfl) (World.ownsRow_nil _ _ _ _) ⟨g, off, none⟩ (i + 1) cp (ecells (es.take (i + 1))) (by rfl) HLT.out HN1.out (ecells_one _) (by omega) (by simp only [maxLen]; omega) (by omega) (by simp [hs3]) W3.heap.size (by simp) ?_; intro gg cap w7 hown7 hgrow hat7 hlt7; have h7 := HG7.out w7 hgrow; have hs7 := Lib.hid h7.1; have c7 := h7.2.1; have p7 := h7.2.2; have ho7 := Lib.hid hown7; clear hown7 hgrow h7)
        all_goals
          change KA _ _
          refine HKA.out _ _ ?_
          go_wp2_with fail
          rename_i KB hKB
          have HKB := Lib.hid hKB
          clear hKB
          obtain ⟨W8, hW8⟩ : ∃ W8, W8 = w7.setCell ⟨w2.heap.size + 1, 1, none⟩ (.slice (some ⟨gg, 0, none⟩) (i + 1) cap) := ⟨_, rfl⟩
          have HT8 := Lib.hid (show Two w2 #[.int .u64 (ck : Nat), .slice (some ⟨g, off, none⟩) es.length cp] #[.int .u64 (ck : Nat), .slice (some ⟨gg, 0, none⟩) (i + 1) cap] W8 from by rw [hW8]; exact hs7.out.set_ 1 _)
          have ho8 : W8.ownsRow (w2.heap.size + 2) 31 2 (.slice (some ⟨gg, 0, none⟩) (i + 1) cap) (i + 1) (ecells (es.take (i + 1))) := by
            have h := own_kept ho7.out (grown_set w7 (w2.heap.size + 1) 1 (.slice (some ⟨gg, 0, none⟩) (i + 1) cap)) (own_blk_ne ho7.out hs7.out.t (by decide))
            rw [Nat.zero_add, List.nil_append] at h
            rw [hW8]
            exact h
          have hbase : w2.heap.size + 2 ≤ gg := (own_lt ho8 rfl).1
          have HO8 := Lib.hid ho8
          rw [← hW8]
          have c0 : W8.cell? ⟨w2.heap.size, 1, none⟩ = some (.slice (some ⟨g, off, none⟩) es.length cp) := HT8.out.s.cell 1
          have c1' : W8.cell? ⟨w2.heap.size + 1, 1, none⟩ = some (.slice (some ⟨gg, 0, none⟩) (i + 1) cap) := HT8.out.t.cell 1
          have p1 := HT8.out.t.frozen 1
          have hne1 : ¬ cp = i := by omega
          have hne2 : ¬ (cp : Int) = (i : Int) := by omega
          have HG9 : Hid (∀ W9 : World, W8.drew.grownBy W9 (Value.slice (some ⟨gg, 0, none⟩) (i + 1) cap).ownBlock →
              Two w2 #[.int .u64 (ck : Nat), .slice (some ⟨g, off, none⟩) es.length cp] #[.int .u64 (ck : Nat), .slice (some ⟨gg, 0, none⟩) (i + 1) cap] W9) := Lib.hid fun W9 hgrow => HT8.out.drew.grow hgrow (by
            intro k hk
            have : gg = k := by injection hk
            omega)
          have HN2 := Lib.hid (show ∀ j u, (ecells (es.drop i))[j]? = some u → W8.drew.cell? ((⟨g, off + i * 2, none⟩ : Addr).add j) = some u from by
            intro j u hu
            rw [Go.WideShapes.add_plain, Nat.add_assoc]
            refine HNW.out W8.drew HT8.out.bel.drew (i * 2 + j) u ?_
            rw [ecells_drop, List.getElem?_drop] at hu
            exact hu)
          have hs8 := Lib.hid HT8.out.siz
          clear hW8 ho8 hat7 hlt7 hs7 c7 p7 ho7 HN1 HG7 HT3 hs3
          go_region_law (refine step_append_lies _ (by rfl) _ _ _ (by rfl) (w2.heap.size + 2) 31 i0 _ 2 24 Tryd.underlying23 HI.out.1 HI.out.2.1 HI.out.2.2.1 HI.out.2.2.2 rfl (by omega) (.slice (some ⟨gg, 0, none⟩) (i + 1) cap) (i + 1) (ecells (es.take (i + 1))) (by rfl) HO8.out.drew ⟨g, off + i * 2, none⟩ (es.length - i) (cp - i) (ecells (es.drop i)) (by rfl) HLD.out HN2.out (ecells_one _) (by omega) (by simp only [maxLen]; omega) (by omega) (by have := hs8.out; simp; omega) W8.heap.size (by simp) ?_; intro g2 cap2 w9 hown9 hgrow hat9 hlt9; have h9 := HG9.out w9 hgrow; have c9 := h9.t.cell 1; have k9 := h9.t.cell 0; have p9 := h9.t.frozen 1; have HT9 := Lib.hid h9; have HO9 := Lib.hid hown9; clear hown9 hgrow h9)
        all_goals
          change KB _ _
          refine HKB.out _ _ ?_
          have HTW := Lib.hid (show encode ⟨ck, es.take (i + 1) ++ es.drop i⟩ = ([], 42) from by
            have h := encode_twice HMY.out i (by rw [← HES.out]; exact hil) ck
            rwa [← HES.out] at h)
          obtain ⟨W10, hW10⟩ : ∃ W10, W10 = w9.setCell ⟨w2.heap.size + 1, 1, none⟩ (.slice (some ⟨g2, 0, none⟩) (i + 1 + (es.length - i)) cap2) := ⟨_, rfl⟩
          have HT10 := Lib.hid (show Two w2 #[.int .u64 (ck : Nat), .slice (some ⟨g, off, none⟩) es.length cp] #[.int .u64 (ck : Nat), .slice (some ⟨g2, 0, none⟩) (i + 1 + (es.length - i)) cap2] W10 from by rw [hW10]; exact HT9.out.set_ 1 _)
          have hl10 : (es.take (i + 1) ++ es.drop i).length = i + 1 + (es.length - i) := by rw [List.length_append, List.length_take, List.length_drop]; omega
          have ho10 : W10.ownsRow (w2.heap.size + 2) 31 2 (.slice (some ⟨g2, 0, none⟩) (i + 1 + (es.length - i)) cap2) (i + 1 + (es.length - i)) (ecells (es.take (i + 1) ++ es.drop i)) := by
            have h := own_kept HO9.out (grown_set w9 (w2.heap.size + 1) 1 (.slice (some ⟨g2, 0, none⟩) (i + 1 + (es.length - i)) cap2)) (own_blk_ne HO9.out HT9.out.t (by decide))
            rw [hW10, ecells_app]
            exact h
          have hsz1 := size_app (es.take (i + 1)) (es.drop i)
          have hsz2 := (size_parts es (i + 1)).1
          have hsz3 := (size_parts es i).2
          have HEN := enc_any ⟨ck, es.take (i + 1) ++ es.drop i⟩ (some ⟨g2, 0, none⟩) cap2 (by simp only; omega) hck (by
            intro e he
            simp only at he
            refine (HMY.out.fits e ?_).2
            rw [← HES.out]
            rcases List.mem_append.1 he with h | h
            · exact List.mem_of_mem_take h
            · exact List.mem_of_mem_drop h) W10 (of_ownN ho10)
          simp only at HEN
          rw [hl10] at HEN
          have HEN := Lib.hid HEN
          have HW10 := Lib.hid hW10
          clear hW10 ho10 hl10 hsz1 hsz2 hsz3 HO9 HT9 hat9 hlt9 HN2 HG9 hs8 HO8 HT8 c0 c1' p1
          go_wp2_with fail
          rw [← HW10.out]
          refine HEN.out.mono ?_
          rintro e w11 ⟨A11, c11, rfl, hc11, hr11, hb11⟩
          rw [HTW.out]
          have HT11 := Lib.hid (HT10.out.below hb11)
          have HB11 := Lib.hid (HB2.out.trans (HT11.out.bel.mono HB2.out.size))
          have c0 : w11.cell? ⟨w2.heap.size, 0, none⟩ = some (.int .u64 (ck : Nat)) := HT11.out.s.cell 0
          have c1' : w11.cell? ⟨w2.heap.size, 1, none⟩ = some (.slice (some ⟨g, off, none⟩) es.length cp) := HT11.out.s.cell 1
          clear hc11 hr11 hb11 HEN HT10 c9 k9 p9 HW10
          have HR12 := Lib.hid (HRW.out.below (HT11.out.bel.alloc HT11.out.bel.size (.cells #[.int .u64 (ck : Nat), .slice none 0 0] 25)))
          have HLE := Lib.hid (show (ecells es).length = es.length * 2 from by rw [ecells_len]; omega)
          have HX12 := Lib.hid (Blk.new w11 25 #[.int .u64 (ck : Nat), .slice none 0 0])
          have HB12 := Lib.hid (HB11.out.alloc HB11.out.size (.cells #[.int .u64 (ck : Nat), .slice none 0 0] 25))
          have hlt11 : w2.heap.size < w11.heap.size := HT11.out.s.lt
          have hqe11 : ¬ w11.heap.size = w2.heap.size := by omega
          have c1a : (w11.alloc (.cells #[.int .u64 (ck : Nat), .slice none 0 0] 25)).cell? ⟨w2.heap.size, 1, none⟩ = some (.slice (some ⟨g, off, none⟩) es.length cp) := (HT11.out.s.alloc _).cell 1
          have HK0 := Lib.hid (show (ecells es)[i * 2]? = some (.string ⟨es[i].key.toArray⟩) from by rw [Nat.mul_comm]; exact (ecells_at es i hil).1)
          obtain ⟨ks, hks⟩ : ∃ ks, ks = a3.data.toList ++ [32] := ⟨_, rfl⟩
          have hkey : a3 ++ ByteArray.mk #[32] = ⟨ks.toArray⟩ := by
            rw [hks]
            exact ByteArray.mk_append_mk a3.data.toList [32]
          have hkl : ks.length ≤ 201 := by
            rw [hks, List.length_append, Array.length_toList]
            show a3.size + 1 ≤ 201
            omega
          have hili : (i : Int) < es.length := by omega
          have HBD := Lib.hid (show encode ⟨ck, es.set i ⟨ks, es[i].till⟩⟩ = ([], 12) from by rw [hks]; exact encode_bad ck es i hil _ _)
          clear hks
          go_wp2_with (at_builtin; refine wpList_append_rowN _ rfl (.tmp 67) (.tmp 69) 23 rfl (w11.heap.size + 1) 31 i0 _ 2 24 (by omega) rfl HI.out.1 HI.out.2.1 HI.out.2.2.1 HI.out.2.2.2 rfl (.slice none 0 0) 0 [] rfl (World.ownsRow_nil _ _ _ _) w2.heap.size (some ⟨g, off, none⟩) es.length cp (ecells es) rfl HLE.out HR12.out (ecells_one _) (by unfold maxLen; omega) (by omega) (by simp) ?_; intro v3 w13 hown3 hg3 hat3; rw [Nat.zero_add, List.nil_append] at hown3; have hb13 := own_belowN (World.ownsRow_nil (w11.alloc (.cells #[.int .u64 (ck : Nat), .slice none 0 0] 25)) (w11.heap.size + 1) 31 2) (by simp) hg3; have hx13 := HX12.out.below hb13 (by omega); have z0 := hx13.cell 0; have z1 := hx13.cell 1; have pz := hx13.frozen 1; obtain ⟨g3, c3, rfl, hg30, hg31⟩ := hown3.form (by omega); have k0 := (hown3.cellAt (i * 2) (by omega)).trans HK0.out; have kf := hown3.frozenAt (i * 2); have hna : ¬ w11.heap.size = g3 := (by omega); have hnb : ¬ g3 = w11.heap.size := (by omega); have HX13 := Lib.hid hx13; have HO13 := Lib.hid hown3; have HB13 := Lib.hid (HB12.out.trans (hb13.mono (by have := HB11.out.size; omega))); have hc3 : (es.length : Int) ≤ c3 := (by have := hg31; have := own_formN hown3; obtain ⟨_, _, h, h2⟩ := this; injection h; omega); clear hown3 hg3 hat3 hb13 hx13)
          obtain ⟨W14, hW14⟩ : ∃ W14, W14 = w13.setCell ⟨w11.heap.size, 1, none⟩ (.slice (some ⟨g3, 0, none⟩) es.length c3) := ⟨_, rfl⟩
          have ho14 : W14.ownsRow (w11.heap.size + 1) 31 2 (.slice (some ⟨g3, 0, none⟩) es.length c3) es.length (ecells es) := by
            rw [hW14]
            exact own_kept HO13.out (grown_set w13 w11.heap.size 1 _) (own_blk_ne HO13.out HX13.out (by decide))
          have hb14 : Below w.heap.size w W14 := by rw [hW14]; exact HB13.out.setCell (by have := HB11.out.size; simp only; omega) _
          rw [← hW14]
          obtain ⟨W15, hW15⟩ : ∃ W15, W15 = W14.setCell ⟨g3, i * 2, none⟩ (.string ⟨ks.toArray⟩) := ⟨_, rfl⟩
          have ho15 : W15.ownsRow (w11.heap.size + 1) 31 2 (.slice (some ⟨g3, 0, none⟩) es.length c3) es.length (ecells (es.set i ⟨ks, es[i].till⟩)) := by
            rw [hW15, ← ecells_set es i hil ks, show 2 * i = i * 2 from Nat.mul_comm 2 i]
            exact (ho14.stored (i * 2) _).1
          have HB15 := Lib.hid (show Below w.heap.size w W15 from by rw [hW15]; exact hb14.setCell (by have := HB11.out.size; simp only; omega) _)
          rw [← hW15]
          have hsz1 := size_set es i hil ⟨ks, es[i].till⟩
          simp only at hsz1
          have HEN := enc_any ⟨ck, es.set i ⟨ks, es[i].till⟩⟩ (some ⟨g3, 0, none⟩) c3 (by simp only; omega) hck (by
            intro e he
            simp only at he
            rcases List.mem_or_eq_of_mem_set he with h | h
            · exact (HMY.out.fits e (by rw [← HES.out]; exact h)).2
            · rw [h]
              exact (HMY.out.fits es[i] (by rw [← HES.out]; exact List.getElem_mem hil)).2) W15 (of_ownN ho15)
          simp only [List.length_set] at HEN
          refine HEN.mono ?_
          rintro e w16 ⟨A16, c16, rfl, hc16, hr16, hb16⟩
          rw [HBD.out]
          have HB16 := Lib.hid (HB15.out.trans (hb16.mono HB15.out.size))
          clear hc16 hr16 hb16 HEN ho15 hW15 ho14 hb14 hW14
          go_wp2_with fail
          refine (known_any w16).mono ?_
          rintro e w17 ⟨rfl, hb17⟩
          go_wp2_with fail
          go_ret
          exact ⟨rfl, HB16.out.trans (hb17.mono HB16.out.size)⟩
    · have h200' : (200 : Int) < a3.size := by omega
      go_enter Tryd.func6, Tryd.ntmps6
      go_wp2_with fail
      refine HFW.out.mono ?_
      rintro e w1 ⟨rfl, rfl⟩
      go_wp2_with fail
      refine (known_any _).mono ?_
      rintro e wk ⟨rfl, hbk⟩
      go_wp2_with fail
      go_ret
      exact ⟨rfl, hbk⟩
  · have hd : decide (tot l1 ≤ 300) = false := by simpa using hfew
    rw [hd] at HFW
    clear hd
    go_enter Tryd.func6, Tryd.ntmps6
    go_wp2_with fail
    refine HFW.out.mono ?_
    rintro e w1 ⟨rfl, rfl⟩
    go_wp2_with fail
    refine (known_any _).mono ?_
    rintro e wk ⟨rfl, hbk⟩
    go_wp2_with fail
    go_ret
    exact ⟨rfl, hbk⟩
end Go.Proofs.YthlaigpopplafaaDoor.pack
