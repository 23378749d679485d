/- PrefixFirst, walked. -/
import Derived.Test.YtdjhjgimlpdckaaPreMoreWalk
import Derived.Deep.RegionHeld
namespace Go.Proofs.Ytdjhjgimlpdckaa.pre
open Go.RowKit
open Go.Proofs.Ytdjhjgimlpdckaa.aid

set_option maxHeartbeats 1600000 in
theorem first_big (w : World) (v0 v1 v2 v3 : Value) (a4 : ByteArray) (w4 : (a4.size : Int) ≤ 140737488351232) (hbig : (200 : Int) < a4.size) :
    Calls Try.prog 5 #[v0, v1, v2, v3, .string a4] w fun e w' => e = .returned (.bool true) ∧ Below w.heap.size w w' := by
  go_enter Try.func5, Try.ntmps5
  go_wp2_with fail
  refine (known_any _).mono ?_
  rintro e wk ⟨rfl, hbk⟩
  go_wp2_with fail
  go_ret
  exact ⟨rfl, hbk⟩

theorem same_find {L : List Rul} (ho : Once L) {i : Nat} {y r : Rul} (hi : L[i]? = some y) (hr : r.pre = y.pre) : IsFind (L ++ [r]) y.pre (some y) := by
  have hl := (List.getElem?_eq_some_iff.1 hi).1
  refine ⟨⟨i, by rw [List.getElem?_append_left hl]; exact hi, fun k z hk hz => ?_⟩, List.prefix_refl _, fun z _ hp => hp.length_le⟩
  rw [List.getElem?_append_left (by omega)] at hz
  exact (once_first ho hi).2 k z hk hz
theorem firsts_take {L M : List Rul} : ∀ i, i ≤ L.length → firsts (L ++ M) i = firsts L i
  | 0, _ => rfl
  | i + 1, h => by
    unfold firsts
    rw [firsts_take i (by omega)]
    congr 2
    unfold isFirst
    rw [List.getElem?_append_left (by omega), List.take_append_of_le_length (by omega)]
theorem same_len {L : List Rul} (ho : Once L) {i : Nat} {y r : Rul} (hi : L[i]? = some y) (hr : r.pre = y.pre) : firsts (L ++ [r]) (L ++ [r]).length = L.length := by
  have hl := (List.getElem?_eq_some_iff.1 hi).1
  have e : (L ++ [r]).length = L.length + 1 := by simp
  rw [e]
  unfold firsts
  rw [firsts_take _ (Nat.le_refl _), firsts_once ho _ (Nat.le_refl _), if_neg]
  · rfl
  · intro h
    have h1 : (L ++ [r])[L.length]? = some r := by simp
    have := ((isFirst_iff h1).1 h).2 i y hl (by rw [List.getElem?_append_left hl]; exact hi)
    exact this hr.symm
theorem nil_find {k : List UInt8} {o : Option Rul} (h : IsFind [] k o) : o = none := by
  cases o with
  | none => rfl
  | some x => cases find_mem h
theorem tail_find {z : Rul} {l : List Rul} (ho : Once (z :: l)) (hz : z.pre = []) {o : Option Rul} (h : IsFind l [] o) : o = none := by
  cases o with
  | none => rfl
  | some x =>
    obtain ⟨⟨j, hj⟩, hp, _⟩ := h
    have e : x.pre = [] := List.prefix_nil.1 hp
    have := ho 0 (j + 1) z x rfl hj.1 (by rw [hz, e])
    cases this

set_option maxRecDepth 100000 in
set_option maxHeartbeats 8000000 in
theorem first_walk (w : World) (a0 : Int) (l1 : List Num) (A1 : Option Addr) (c1 : Nat) (a2 a3 : Int) (a4 : ByteArray)
    (w0 : 0 ≤ a0 ∧ a0 ≤ 65535) (h1 : l1.length ≤ 9223372036854775807) (r1 : Nums w w.heap.size A1 l1) (w2 : 0 ≤ a2 ∧ a2 ≤ 255) (w3 : 0 ≤ a3 ∧ a3 ≤ 18446744073709551615) (w4 : a4.size ≤ 140737488351232) :
    Calls Try.prog 5 #[.int .u16 a0, .slice A1 l1.length c1, .int .u8 a2, .int .u64 a3, .string a4] w fun e w' => e = .returned (.bool true) ∧ Below w.heap.size w w' := by
  by_cases hbig : 200 < a4.size
  · exact first_big w _ _ _ _ a4 (by omega) (by omega)
  have hs4 : (a4.size : Int) ≤ 200 := by omega
  obtain ⟨most, rfl⟩ : ∃ n : Nat, a0 = n := ⟨a0.toNat, by omega⟩
  obtain ⟨at_, rfl⟩ : ∃ n : Nat, a2 = n := ⟨a2.toNat, by omega⟩
  obtain ⟨l, hl, hlen, hshort, honce⟩ := pol_facts most l1
  obtain ⟨L, hL⟩ : ∃ L, L = polRules most l1 := ⟨_, rfl⟩
  have hP := policy_any most (by omega) l1 A1 c1 h1 w r1
  rw [← hL] at hl hlen hshort honce hP
  obtain ⟨M, hM⟩ : ∃ M, M = ((1 + most % 50 : Nat) : Int) := ⟨_, rfl⟩
  rw [← hM] at hP
  have hlp : 0 < L.length := by rw [hl]; simp
  obtain ⟨ix, hix⟩ : ∃ ix, ix = at_ % L.length := ⟨_, rfl⟩
  have hlt : ix < L.length := by rw [hix]; exact Nat.mod_lt _ hlp
  have hm1 : (at_ : Int) % (L.length : Int) = (ix : Int) := by rw [hix]; simp
  have hm2 : (at_ : Int).tmod (L.length : Int) = (ix : Int) := by rw [Int.tmod_eq_emod_of_nonneg (by omega), hm1]
  have hwa : IntKind.i64.wrap (at_ : Int) = at_ := wrap_small _ (by omega) (by omega)
  have hl0 : (L.length : Int) ≠ 0 := by omega
  obtain ⟨y, hy⟩ : ∃ y, L[ix]? = some y := ⟨_, List.getElem?_eq_getElem hlt⟩
  obtain ⟨R, hR⟩ : ∃ R : Rul, R = ⟨y.pre, a3, y.burst, y.kind⟩ := ⟨_, rfl⟩
  have hRp : R.pre = y.pre := by rw [hR]
  obtain ⟨SR, hSR⟩ : ∃ SR : ByteArray, SR = ⟨y.pre.toArray⟩ := ⟨_, rfl⟩
  have hsz : SR.size = y.pre.length := by rw [hSR]; simp [ByteArray.size]
  have hsr : (SR.size : Int) ≤ 12 := by have := hshort y (List.mem_iff_getElem?.2 ⟨ix, hy⟩); omega
  have FIND := Lib.hid (show IsFind (L ++ [R]) SR.data.toList (some y) by rw [hSR]; exact same_find honce hy hRp)
  have LEN := Lib.hid (same_len honce hy hRp)
  have FY := Lib.hid (show found (some y) = .tuple #[.agg #[.string SR, .int .u64 y.every, .int .u64 y.burst, .int .u8 y.kind], .bool true] by rw [found_some, hSR])
  have ALL := Lib.hid (show rcells (L ++ [R]) = rcells L ++ [.string SR, .int .u64 a3, .int .u64 y.burst, .int .u8 y.kind] by rw [rcells_append, hR, hSR]; rfl)
  have BIG := Lib.hid (show ∀ x ∈ L ++ [R], x.pre.length ≤ big by
    intro x hx
    rcases List.mem_append.1 hx with hx | hx
    · have := hshort x hx
      unfold big
      omega
    · have hx : x = R := by simpa using hx
      have := hshort y (List.mem_iff_getElem?.2 ⟨ix, hy⟩)
      rw [hx, hRp]
      unfold big
      omega)
  have HP := Lib.hid hP
  have HL := Lib.hid hl
  have HS := Lib.hid hshort
  have HON := Lib.hid honce
  have HY := Lib.hid hy
  have HSR := Lib.hid hSR
  obtain ⟨i0, hi, hz0, hz1, hz2⟩ := info_parts info_rule
  have HQ := Lib.hid (show _ ∧ _ ∧ _ ∧ _ from ⟨hi, hz0, hz1, hz2⟩)
  have HCL := Lib.hid (show (rcells L).length = L.length * 4 by rw [rcells_len]; omega)
  clear hi hz0 hz1 hz2 hP hl hshort honce hM hL r1 hix hy hRp hSR hsz hR hbig
  go_enter Try.func5, Try.ntmps5
  go_wp2_with fail
  refine HP.out.mono ?_
  rintro e x1 ⟨Ap, cp, rfl, hcp, hrow, hB1⟩
  obtain ⟨b0, off, rfl, hb0, d0, d1, d2, d3⟩ := rul_at hrow HY.out
  rw [← HSR.out] at d0
  have BX := Lib.hid ((hB1.alloc hB1.size (.cells #[.int .i64 M, .slice (some ⟨b0, off, none⟩) L.length cp] 31)).alloc (Nat.le_trans hB1.size (by simp)) (.cells #[.string SR, .int .u64 a3, .int .u64 y.burst, .int .u8 y.kind] 28))
  have hbx := ((Below.refl _ x1).alloc (Nat.le_refl _) (.cells #[.int .i64 M, .slice (some ⟨b0, off, none⟩) L.length cp] 31)).alloc (by simp) (.cells #[.string SR, .int .u64 a3, .int .u64 y.burst, .int .u8 y.kind] 28)
  have RX := Lib.hid ((hrow.below hbx).more hbx.size)
  have PX := Lib.hid ((Blk.new x1 31 #[.int .i64 M, .slice (some ⟨b0, off, none⟩) L.length cp]).alloc (.cells #[.string SR, .int .u64 a3, .int .u64 y.burst, .int .u8 y.kind] 28))
  have GX := Lib.hid (show Blk ((x1.alloc (.cells #[.int .i64 M, .slice (some ⟨b0, off, none⟩) L.length cp] 31)).alloc (.cells #[.string SR, .int .u64 a3, .int .u64 y.burst, .int .u8 y.kind] 28)) (x1.heap.size + 1) 28 #[.string SR, .int .u64 a3, .int .u64 y.burst, .int .u8 y.kind] by
    have := Blk.new (x1.alloc (.cells #[.int .i64 M, .slice (some ⟨b0, off, none⟩) L.length cp] 31)) 28 #[.string SR, .int .u64 a3, .int .u64 y.burst, .int .u8 y.kind]
    simp only [World.size_alloc] at this
    exact this)
  have HDX := Lib.hid hbx
  have HB1 := Lib.hid hB1
  have ROW0 := Lib.hid hrow
  clear hrow hB1 HP hbx
  go_wp2_with (first
    | (at_builtin; (refine wpList_append_rowN _ rfl (.tmp 44) (.tmp 46) 22 rfl (x1.heap.size + 2) 28 i0 _ 4 40 (by omega) rfl HQ.out.1 HQ.out.2.1 HQ.out.2.2.1 HQ.out.2.2.2 rfl (.slice none 0 0) 0 [] rfl (World.ownsRow_nil _ _ _ _) _ (some ⟨b0, off, none⟩) L.length cp (rcells L) rfl HCL.out RX.out (rcells_one L) (by unfold maxLen; omega) (by omega) (by simp only [World.size_alloc]; omega) ?_); (intro v1 w5 hown1 hg1 hat1; rw [Nat.zero_add, List.nil_append] at hown1; have hbb := (Below.refl _ _).grown hg1 (Nat.le_refl _) (fun k hk => by cases hk); have P5 := PX.out.below hbb PX.out.lt; have G5 := GX.out.below hbb GX.out.lt; have g0 : w5.cell? ⟨x1.heap.size + 1, 0, none⟩ = some (.string SR) := G5.cell 0; have g1 : w5.cell? ⟨x1.heap.size + 1, 1, none⟩ = some (.int .u64 a3) := G5.cell 1; have g2 : w5.cell? ⟨x1.heap.size + 1, 2, none⟩ = some (.int .u64 y.burst) := G5.cell 2; have g3 : w5.cell? ⟨x1.heap.size + 1, 3, none⟩ = some (.int .u8 y.kind) := G5.cell 3; have lg5 : x1.heap.size + 1 < w5.heap.size := G5.lt; have HP5 := Lib.hid P5; have HG5 := Lib.hid G5; have HB5 := Lib.hid (BX.out.trans (hbb.mono BX.out.size)); have HD5 := Lib.hid (HDX.out.trans (hbb.mono (by simp only [World.size_alloc]; omega))); have HO5 := Lib.hid (hown1.alloc (.cells #[.string SR, .int .u64 a3, .int .u64 y.burst, .int .u8 y.kind] 28)); obtain ⟨A5, c5, rfl, hc5⟩ := own_formN hown1; clear hown1 hg1 hat1 hbb P5 G5))
    | (at_builtin; (refine wpList_append_rowN _ rfl (.tmp 48) (.tmp 50) 22 rfl (x1.heap.size + 2) 28 i0 _ 4 40 (by omega) rfl HQ.out.1 HQ.out.2.1 HQ.out.2.2.1 HQ.out.2.2.2 rfl _ _ _ rfl HO5.out _ (some ⟨w5.heap.size, 0, none⟩) 1 1 [.string SR, .int .u64 a3, .int .u64 y.burst, .int .u8 y.kind] rfl rfl (Row.new w5 28 #[.string SR, .int .u64 a3, .int .u64 y.burst, .int .u8 y.kind]) (by simp [Value.oneCell']) (by unfold maxLen; omega) (by omega) (by simp only [World.size_alloc]; omega) ?_); (intro v2 w6 hown2 hg2 hat2; have hne : ∀ q, q < x1.heap.size + 2 → some q ≠ (Value.slice A5 L.length c5).ownBlock := fun q hq e => (by have := (own_lt HO5.out e.symm).1; omega); have P6 := Lib.hid ((HP5.out.alloc (.cells #[.string SR, .int .u64 a3, .int .u64 y.burst, .int .u8 y.kind] 28)).grown hg2 (hne _ (by omega))); have G6 := Lib.hid ((HG5.out.alloc (.cells #[.string SR, .int .u64 a3, .int .u64 y.burst, .int .u8 y.kind] 28)).grown hg2 (hne _ (by omega))); have hbb := (Below.refl (x1.heap.size + 2) _).grown hg2 (by simp only [World.size_alloc]; omega) (fun k hk => (own_lt HO5.out hk).1); obtain ⟨A6, c6, rfl, hc6⟩ := own_formN hown2; have HO6 := Lib.hid hown2; have HD6 := Lib.hid ((HD5.out.alloc HD5.out.size (.cells #[.string SR, .int .u64 a3, .int .u64 y.burst, .int .u8 y.kind] 28)).trans (hbb.mono (by omega))); clear hown2 hg2 hat2 hbb hne)))
  have ROW6 := of_ownN HO6.out
  rw [← ALL.out] at ROW6
  have hN2 := fun W (h : Below w6.heap.size w6 W) => new_any (L ++ [R]) A6 c6 (by simp; omega) BIG.out W ((ROW6.below h).more h.size)
  rw [show (L ++ [R]).length = L.length + 1 by simp] at hN2
  have HN2 := Lib.hid hN2
  have g6 : w6.cell? ⟨x1.heap.size + 1, 0, none⟩ = some (.string SR) := G6.out.cell 0
  have lg6 := G6.out.lt
  have HW6 := Lib.hid (HB1.out.trans (HD6.out.mono HB1.out.size))
  have HSB := Lib.hid (fun (W : World) (h : Below w6.heap.size w6 W) => show W.cell? ⟨x1.heap.size + 1, 0, none⟩ = some (.string SR) from (h.cell (p := ⟨x1.heap.size + 1, 0, none⟩) lg6).trans g6)
  have lb6 : b0 < w6.heap.size := Nat.lt_of_lt_of_le hb0 HD6.out.size
  have HT6 := Lib.hid (fun (W : World) (h : Below w6.heap.size w6 W) => show (W.cell? ⟨b0, off + ix * 4, none⟩ = some (.string SR) ∧ W.cell? ⟨b0, off + ix * 4 + 1, none⟩ = some (.int .u64 y.every) ∧ W.cell? ⟨b0, off + ix * 4 + 2, none⟩ = some (.int .u64 y.burst) ∧ W.cell? ⟨b0, off + ix * 4 + 3, none⟩ = some (.int .u8 y.kind)) ∧ W.cell? ⟨x1.heap.size, 1, none⟩ = some (.slice (some ⟨b0, off, none⟩) L.length cp) from
    ⟨⟨(h.cell (p := ⟨b0, _, none⟩) lb6).trans ((HD6.out.cell (p := ⟨b0, _, none⟩) hb0).trans d0), (h.cell (p := ⟨b0, _, none⟩) lb6).trans ((HD6.out.cell (p := ⟨b0, _, none⟩) hb0).trans d1), (h.cell (p := ⟨b0, _, none⟩) lb6).trans ((HD6.out.cell (p := ⟨b0, _, none⟩) hb0).trans d2), (h.cell (p := ⟨b0, _, none⟩) lb6).trans ((HD6.out.cell (p := ⟨b0, _, none⟩) hb0).trans d3)⟩,
      (h.cell (p := ⟨x1.heap.size, 1, none⟩) P6.out.lt).trans (P6.out.cell 1)⟩)
  have ROWP := Lib.hid (fun (W : World) (h : Below w6.heap.size w6 W) => show Row W W.heap.size (some ⟨b0, off, none⟩) (rcells L) from ((ROW0.out.below HD6.out).below (h.mono HD6.out.size)).more (Nat.le_trans HD6.out.size h.size))
  have HZ := Lib.hid (show Below w6.heap.size w6 w6.drew from (Below.refl _ w6).drew)
  clear hN2 ROW6 g6 g0 g1 g2 g3
  rename_i KC hKC
  have HKC := Lib.hid hKC
  clear hKC
  -- REGION
  refine wp_region_held_drew (S := (fun w' => w'.cell? ⟨x1.heap.size + 1, 0, none⟩ = some (.string SR))) (by kernel_rfl) ?_ (fun hHeld => ?_)
  · (try dsimp only)
    first | exact HSB.out _ HZ.out | exact HSB.out _ (HZ0.out.alloc HZ0.out.size _) | exact HSB.out _ ((((HZ.out.setCell (p := ⟨_, 0, none⟩) HZ0.out.size _).setCell (p := ⟨_, 1, none⟩) HZ0.out.size _).setCell (p := ⟨_, 2, none⟩) HZ0.out.size _).setCell (p := ⟨_, 3, none⟩) HZ0.out.size _)
  refine wpAnyH_take (i := 0) (oi := ({ dst := some 53, op := Op.move (Operand.tmp 14), type := 22, pos := "law.go:84", after := #[], guard := none } : Oper)) (v := ?_) rfl (by kernel_rfl) (by kernel_rfl) (by kernel_rfl) (fun _ _ _ h => h) (Or.inl ⟨by kernel_rfl, ?_⟩) (by assumption) ?_
  rotate_left
  · (intro w hSw; (try dsimp only at hSw); go_simp)
    all_goals (with_reducible rfl)
  try simp only [Act.put, List.setIfInBounds_toArray, List.set_cons_zero, List.set_cons_succ]
  refine wpAnyH_take (i := 2) (oi := ({ dst := some 55, op := Op.fieldAddr 28 (Operand.tmp 13) 0, type := 0, pos := "law.go:84", after := #[], guard := none } : Oper)) (v := ?_) rfl (by kernel_rfl) (by kernel_rfl) (by kernel_rfl) (fun _ _ _ h => h) (Or.inl ⟨by kernel_rfl, ?_⟩) (by assumption) ?_
  rotate_left
  · (intro w hSw; (try dsimp only at hSw); go_simp)
    all_goals (with_reducible rfl)
  try simp only [Act.put, List.setIfInBounds_toArray, List.set_cons_zero, List.set_cons_succ]
  refine wpAnyH_take (i := 3) (oi := ({ dst := some 56, op := Op.load 9 (Operand.tmp 55), type := 9, pos := "law.go:84", after := #[{ on := 2, ground := Ground.data }], guard := none } : Oper)) (v := ?_) rfl (by kernel_rfl) (by kernel_rfl) (by kernel_rfl) (fun _ _ _ h => h) (Or.inl ⟨by kernel_rfl, ?_⟩) (by assumption) ?_
  rotate_left
  · (intro w hSw; (try dsimp only at hSw); go_simp)
    all_goals (with_reducible rfl)
  try simp only [Act.put, List.setIfInBounds_toArray, List.set_cons_zero, List.set_cons_succ]
  refine wpAnyH_ready (rs := [1, 8]) (by kernel_rfl) (by simp) ?_
  refine (AllReadyH.cons (o := ({ dst := some 54, op := Op.call { callee := Callee.value (Operand.func 12), args := #[Operand.tmp 53], argTypes := #[22] }, type := 37, pos := "law.go:84", after := #[{ on := 0, ground := Ground.data }], guard := none } : Oper)) rfl (fun K hK => ?_) (AllReadyH.cons (o := ({ dst := some 15, op := Op.alloc 28, type := 0, pos := "law.go:84", after := #[], guard := none } : Oper)) rfl (fun K hK => ?_) AllReadyH.nil))
  · go_simp
    refine (HN2.out _ HZ.out).mono ?_; rintro e z1 ⟨root, rfl, hT, hb⟩; have HTT := Lib.hid hT; (try have HG := Lib.hid (HG.out.below hb HG.out.lt)); have HZ := Lib.hid (HZ.out.trans (hb.mono HZ.out.size)); clear hb hT; go_wp2_with fail
    refine hK.out _ _ ?_ (fun hHeld => ?_)
    · (try dsimp only)
      first | exact HSB.out _ HZ.out | exact HSB.out _ (HZ0.out.alloc HZ0.out.size _) | exact HSB.out _ ((((HZ.out.setCell (p := ⟨_, 0, none⟩) HZ0.out.size _).setCell (p := ⟨_, 1, none⟩) HZ0.out.size _).setCell (p := ⟨_, 2, none⟩) HZ0.out.size _).setCell (p := ⟨_, 3, none⟩) HZ0.out.size _)
    clear hK K
    try simp only [Act.put, List.setIfInBounds_toArray, List.set_cons_zero, List.set_cons_succ]
    refine wpAnyH_ready (rs := [4, 8]) (by kernel_rfl) (by simp) ?_
    refine (AllReadyH.cons (o := ({ dst := some 57, op := Op.call { callee := Callee.value (Operand.func 13), args := #[Operand.tmp 54, Operand.tmp 56], argTypes := #[37, 9] }, type := 36, pos := "law.go:84", after := #[{ on := 1, ground := Ground.data }, { on := 3, ground := Ground.data }, { on := 1, ground := Ground.chain }], guard := none } : Oper)) rfl (fun K hK => ?_) (AllReadyH.cons (o := ({ dst := some 15, op := Op.alloc 28, type := 0, pos := "law.go:84", after := #[], guard := none } : Oper)) rfl (fun K hK => ?_) AllReadyH.nil))
    · go_simp
      refine (find_any _ _ root (L ++ [R]) HTT.out SR (by unfold big; omega)).mono ?_; rintro e z2 ⟨o, rfl, ho, hb⟩; (try (have HG := Lib.hid (HG.out.below hb HG.out.lt); have hzz := zero_at HG.out; (try simp only [show w6.drew.heap.size = w6.heap.size from rfl] at hzz); obtain ⟨y0, y1, y2, y3, yf⟩ := hzz; have yf0 := yf 0; have yf1 := yf 1; have yf2 := yf 2; have yf3 := yf 3; clear yf)); have HZ := Lib.hid (HZ.out.trans (hb.mono HZ.out.size)); obtain rfl : o = some y := isFind_uni ho FIND.out; rw [FY.out]; clear hb ho; go_wp2_with fail
      refine hK.out _ _ ?_ (fun hHeld => ?_)
      · (try dsimp only)
        first | exact HSB.out _ HZ.out | exact HSB.out _ (HZ0.out.alloc HZ0.out.size _) | exact HSB.out _ ((((HZ.out.setCell (p := ⟨_, 0, none⟩) HZ0.out.size _).setCell (p := ⟨_, 1, none⟩) HZ0.out.size _).setCell (p := ⟨_, 2, none⟩) HZ0.out.size _).setCell (p := ⟨_, 3, none⟩) HZ0.out.size _)
      clear hK K
      try simp only [Act.put, List.setIfInBounds_toArray, List.set_cons_zero, List.set_cons_succ]
      refine wpAnyH_take (i := 5) (oi := ({ dst := some 52, op := Op.move (Operand.tmp 57), type := 36, pos := "law.go:84", after := #[{ on := 4, ground := Ground.data }], guard := none } : Oper)) (v := ?_) rfl (by kernel_rfl) (by kernel_rfl) (by kernel_rfl) (fun _ _ _ h => h) (Or.inl ⟨by kernel_rfl, ?_⟩) (by assumption) ?_
      rotate_left
      · (intro w hSw; (try dsimp only at hSw); go_simp)
        all_goals (with_reducible rfl)
      try simp only [Act.put, List.setIfInBounds_toArray, List.set_cons_zero, List.set_cons_succ]
      refine wpAnyH_take (i := 6) (oi := ({ dst := some 58, op := Op.extract (Operand.tmp 52) 0, type := 28, pos := "law.go:84", after := #[{ on := 5, ground := Ground.data }], guard := none } : Oper)) (v := ?_) rfl (by kernel_rfl) (by kernel_rfl) (by kernel_rfl) (fun _ _ _ h => h) (Or.inl ⟨by kernel_rfl, ?_⟩) (by assumption) ?_
      rotate_left
      · (intro w hSw; (try dsimp only at hSw); go_simp)
        all_goals (with_reducible rfl)
      try simp only [Act.put, List.setIfInBounds_toArray, List.set_cons_zero, List.set_cons_succ]
      refine wpAnyH_take (i := 7) (oi := ({ dst := some 59, op := Op.extract (Operand.tmp 52) 1, type := 4, pos := "law.go:84", after := #[{ on := 5, ground := Ground.data }, { on := 9, ground := Ground.gcOnly Departure.lateStores }], guard := none } : Oper)) (v := ?_) rfl (by kernel_rfl) (by kernel_rfl) (by kernel_rfl) (fun _ _ _ h => h) (Or.inl ⟨by kernel_rfl, ?_⟩) (by assumption) ?_
      rotate_left
      · (intro w hSw; (try dsimp only at hSw); go_simp)
        all_goals (with_reducible rfl)
      try simp only [Act.put, List.setIfInBounds_toArray, List.set_cons_zero, List.set_cons_succ]
      refine wpAnyH_ready (rs := [8]) (by kernel_rfl) (by simp) ?_
      refine (AllReadyH.cons (o := ({ dst := some 15, op := Op.alloc 28, type := 0, pos := "law.go:84", after := #[], guard := none } : Oper)) rfl (fun K hK => ?_) AllReadyH.nil)
      go_simp
      have HZ0 := HZ; have HG := Lib.hid (blk_zero HZ.out); have HZ := Lib.hid (HZ.out.alloc HZ.out.size (.cells zeroCells 28)); (try have HTT := Lib.hid (HTT.out.below ((Below.refl _ _).alloc (Nat.le_refl _) (.cells zeroCells 28))))
      refine hK.out _ _ ?_ (fun hHeld => ?_)
      · (try dsimp only)
        first | exact HSB.out _ HZ.out | exact HSB.out _ (HZ0.out.alloc HZ0.out.size _) | exact HSB.out _ ((((HZ.out.setCell (p := ⟨_, 0, none⟩) HZ0.out.size _).setCell (p := ⟨_, 1, none⟩) HZ0.out.size _).setCell (p := ⟨_, 2, none⟩) HZ0.out.size _).setCell (p := ⟨_, 3, none⟩) HZ0.out.size _)
      clear hK K
      try simp only [Act.put, List.setIfInBounds_toArray, List.set_cons_zero, List.set_cons_succ]
      refine wpAnyH_ready (rs := [9]) (by kernel_rfl) (by simp) ?_
      refine (AllReadyH.cons (o := ({ dst := none, op := Op.store 28 (Operand.tmp 15) (Operand.tmp 58), type := 0, pos := "law.go:84", after := #[{ on := 8, ground := Ground.data }, { on := 6, ground := Ground.data }, { on := 4, ground := Ground.chain }, { on := 0, ground := Ground.phase }, { on := 1, ground := Ground.phase }, { on := 2, ground := Ground.phase }, { on := 3, ground := Ground.phase }, { on := 4, ground := Ground.phase }, { on := 5, ground := Ground.phase }, { on := 6, ground := Ground.phase }, { on := 7, ground := Ground.textOnly Departure.lateStores }, { on := 8, ground := Ground.phase }], guard := none } : Oper)) rfl (fun K hK => ?_) AllReadyH.nil)
      go_simp
      skip
      refine hK.out _ _ ?_ (fun hHeld => ?_)
      · (try dsimp only)
        first | exact HSB.out _ HZ.out | exact HSB.out _ (HZ0.out.alloc HZ0.out.size _) | exact HSB.out _ ((((HZ.out.setCell (p := ⟨_, 0, none⟩) HZ0.out.size _).setCell (p := ⟨_, 1, none⟩) HZ0.out.size _).setCell (p := ⟨_, 2, none⟩) HZ0.out.size _).setCell (p := ⟨_, 3, none⟩) HZ0.out.size _)
      clear hK K
      try simp only [Act.put, List.setIfInBounds_toArray, List.set_cons_zero, List.set_cons_succ]
      refine wpAnyH_take (i := 10) (oi := ({ dst := some 16, op := Op.assign (Operand.tmp 59), type := 4, pos := "law.go:84", after := #[{ on := 7, ground := Ground.data }, { on := 9, ground := Ground.chain }, { on := 0, ground := Ground.phase }, { on := 1, ground := Ground.phase }, { on := 2, ground := Ground.phase }, { on := 3, ground := Ground.phase }, { on := 4, ground := Ground.phase }, { on := 5, ground := Ground.phase }, { on := 6, ground := Ground.phase }, { on := 7, ground := Ground.phase }, { on := 8, ground := Ground.phase }, { on := 9, ground := Ground.phase }], guard := none } : Oper)) (v := ?_) rfl (by kernel_rfl) (by kernel_rfl) (by kernel_rfl) (fun _ _ _ h => h) (Or.inl ⟨by kernel_rfl, ?_⟩) (by assumption) ?_
      rotate_left
      · (intro w hSw; (try dsimp only at hSw); go_simp)
        all_goals (with_reducible rfl)
      try simp only [Act.put, List.setIfInBounds_toArray, List.set_cons_zero, List.set_cons_succ]
      refine wpAnyH_done (by kernel_rfl) ?_ _
      change KC _ _
      refine HKC.out _ _ ?_
      clear HKC
      first
        | (have hy0 : z2.cell? ⟨w6.heap.size, 0, none⟩ = some (.string ⟨#[]⟩) := y0; have hG : Blk ((((z2.setCell ⟨w6.heap.size, 0, none⟩ (.string SR)).setCell ⟨w6.heap.size, 1, none⟩ (.int .u64 y.every)).setCell ⟨w6.heap.size, 2, none⟩ (.int .u64 y.burst)).setCell ⟨w6.heap.size, 3, none⟩ (.int .u8 y.kind)) w6.heap.size 28 #[.string SR, .int .u64 y.every, .int .u64 y.burst, .int .u8 y.kind] := (((HG.out.set_ 0 _).set_ 1 _).set_ 2 _).set_ 3 _; have hZ : Below w6.heap.size w6 ((((z2.setCell ⟨w6.heap.size, 0, none⟩ (.string SR)).setCell ⟨w6.heap.size, 1, none⟩ (.int .u64 y.every)).setCell ⟨w6.heap.size, 2, none⟩ (.int .u64 y.burst)).setCell ⟨w6.heap.size, 3, none⟩ (.int .u8 y.kind)) := ((((HZ.out.setCell (p := ⟨_, 0, none⟩) HZ0.out.size _).setCell (p := ⟨_, 1, none⟩) HZ0.out.size _).setCell (p := ⟨_, 2, none⟩) HZ0.out.size _).setCell (p := ⟨_, 3, none⟩) HZ0.out.size _); clear hy0 y0 y1 y2 y3 yf0 yf1 yf2 yf3; generalize ((((z2.setCell ⟨w6.heap.size, 0, none⟩ (.string SR)).setCell ⟨w6.heap.size, 1, none⟩ (.int .u64 y.every)).setCell ⟨w6.heap.size, 2, none⟩ (.int .u64 y.burst)).setCell ⟨w6.heap.size, 3, none⟩ (.int .u8 y.kind)) = W at hG hZ ⊢; generalize hgg : w6.heap.size = g at hG ⊢; have hge : w6.heap.size ≤ g := by rw [← hgg]; exact HZ0.out.size)
        | (have hy0 : z2.cell? ⟨z1.heap.size, 0, none⟩ = some (.string ⟨#[]⟩) := y0; have hG : Blk ((((z2.setCell ⟨z1.heap.size, 0, none⟩ (.string SR)).setCell ⟨z1.heap.size, 1, none⟩ (.int .u64 y.every)).setCell ⟨z1.heap.size, 2, none⟩ (.int .u64 y.burst)).setCell ⟨z1.heap.size, 3, none⟩ (.int .u8 y.kind)) z1.heap.size 28 #[.string SR, .int .u64 y.every, .int .u64 y.burst, .int .u8 y.kind] := (((HG.out.set_ 0 _).set_ 1 _).set_ 2 _).set_ 3 _; have hZ : Below w6.heap.size w6 ((((z2.setCell ⟨z1.heap.size, 0, none⟩ (.string SR)).setCell ⟨z1.heap.size, 1, none⟩ (.int .u64 y.every)).setCell ⟨z1.heap.size, 2, none⟩ (.int .u64 y.burst)).setCell ⟨z1.heap.size, 3, none⟩ (.int .u8 y.kind)) := ((((HZ.out.setCell (p := ⟨_, 0, none⟩) HZ0.out.size _).setCell (p := ⟨_, 1, none⟩) HZ0.out.size _).setCell (p := ⟨_, 2, none⟩) HZ0.out.size _).setCell (p := ⟨_, 3, none⟩) HZ0.out.size _); clear hy0 y0 y1 y2 y3 yf0 yf1 yf2 yf3; generalize ((((z2.setCell ⟨z1.heap.size, 0, none⟩ (.string SR)).setCell ⟨z1.heap.size, 1, none⟩ (.int .u64 y.every)).setCell ⟨z1.heap.size, 2, none⟩ (.int .u64 y.burst)).setCell ⟨z1.heap.size, 3, none⟩ (.int .u8 y.kind)) = W at hG hZ ⊢; generalize hgg : z1.heap.size = g at hG ⊢; have hge : w6.heap.size ≤ g := by rw [← hgg]; exact HZ0.out.size)
        | (have hG := Blk.new z2 28 #[.string SR, .int .u64 y.every, .int .u64 y.burst, .int .u8 y.kind]; have hge := HZ0.out.size; have hZ := HZ0.out.alloc HZ0.out.size (.cells #[.string SR, .int .u64 y.every, .int .u64 y.burst, .int .u8 y.kind] 28); generalize z2.alloc (.cells #[.string SR, .int .u64 y.every, .int .u64 y.burst, .int .u8 y.kind] 28) = W at hG hZ ⊢; generalize z2.heap.size = g at hG hge ⊢)
      have HZ := Lib.hid hZ
      have HG := Lib.hid hG
      have HGE := Lib.hid hge
      clear hZ hG hge HZ0 HTT
      go_wp2_with fail
      refine (findnil_any _ _).mono ?_
      rintro e q1 ⟨rfl, hb⟩
      rw [show found none = .tuple #[.agg #[.string ⟨#[]⟩, .int .u64 0, .int .u64 0, .int .u8 0], .bool false] from rfl]
      have HZ1 := Lib.hid ((HZ.out.trans (hb.mono HZ.out.size)).alloc (Nat.le_trans HZ.out.size hb.size) (.cells zeroCells 28))
      have HG1 := Lib.hid ((HG.out.below hb HG.out.lt).alloc (.cells zeroCells 28))
      clear hb HG HZ
      go_wp2_with fail
      refine (new_any [] none 0 (by simp) (by intro x hx; cases hx) _ Row.nil_).mono ?_
      rintro e q2 ⟨rootn, rfl, hTn, hb⟩
      have HZ2 := Lib.hid (HZ1.out.trans (hb.mono HZ1.out.size))
      have HG2 := Lib.hid (HG1.out.below hb HG1.out.lt)
      have HTN := Lib.hid hTn
      clear hb hTn HG1 HZ1
      go_wp2_with fail
      refine (find_any _ _ rootn [] HTN.out a4 (by unfold big; omega)).mono ?_
      rintro e q3 ⟨o, rfl, ho, hb⟩
      obtain rfl : o = none := nil_find ho
      rw [show found none = .tuple #[.agg #[.string ⟨#[]⟩, .int .u64 0, .int .u64 0, .int .u8 0], .bool false] from rfl]
      have HZ3 := Lib.hid (HZ2.out.trans (hb.mono HZ2.out.size))
      have HG3 := Lib.hid (HG2.out.below hb HG2.out.lt)
      have cP3 := (HT6.out _ HZ3.out).2
      have lt3 : x1.heap.size < q3.heap.size := Nat.lt_of_lt_of_le P6.out.lt HZ3.out.size
      have hl1 : (1 : Int) ≤ L.length := by omega
      have hl1c : (L.length : Int) ≤ cp := by omega
      clear hb ho HTN HG2 HZ2
      go_wp2_with fail
      all_goals
        have hll : L.length - 1 = l.length := by rw [HL.out]; simp
        have HTAIL := Lib.hid (fun (W : World) (h : Below w6.heap.size w6 W) => show Row W W.heap.size (some ⟨b0, off + 4, none⟩) (rcells l) from by
          have hT := (ROWP.out W h).from_ 4
          rw [show (rcells L).drop 4 = rcells l by rw [HL.out]; rfl] at hT
          exact hT)
        have HTNIL := Lib.hid (fun (W : World) (A : Option Addr) (h : cp = 1) => show Row W W.heap.size A (rcells l) from by
          have : l = [] := List.eq_nil_of_length_eq_zero (by omega)
          rw [this]
          exact Row.nil_)
        rw [hll]
        refine (new_any l _ _ (by omega) (fun x hx => by have := HS.out x (by rw [HL.out]; exact List.mem_cons_of_mem _ hx); unfold big; omega) _ (by first | exact HTAIL.out _ (HZ3.out.alloc HZ3.out.size _) | exact HTNIL.out _ _ (by assumption))).mono ?_
        rintro e q4 ⟨roott, rfl, hTt, hb⟩
        have HZ4 := Lib.hid ((HZ3.out.alloc HZ3.out.size (.cells zeroCells 28)).trans (hb.mono (Nat.le_trans HZ3.out.size (by simp))))
        have HG4 := Lib.hid ((HG3.out.alloc (.cells zeroCells 28)).below hb (HG3.out.alloc (.cells zeroCells 28)).lt)
        have HTT := Lib.hid hTt
        clear hb hTt HG3 HZ3 HTAIL HTNIL hll cP3
        go_wp2_with fail
        refine (find_any _ _ roott l HTT.out ⟨#[]⟩ (by unfold big; decide)).mono ?_
        rintro e q5 ⟨o, rfl, ho, hb⟩
        have hon : o = none := by
          have hO := HON.out
          rw [HL.out] at hO
          exact tail_find hO rfl ho
        subst hon
        rw [show found none = .tuple #[.agg #[.string ⟨#[]⟩, .int .u64 0, .int .u64 0, .int .u8 0], .bool false] from rfl]
        have HZ5 := (HZ4.out.trans (hb.mono HZ4.out.size)).alloc (Nat.le_trans HZ4.out.size hb.size) (.cells zeroCells 28)
        have HG5 := (HG4.out.below hb HG4.out.lt).alloc (.cells zeroCells 28)
        clear hb ho HTT HG4 HZ4
        go_wp2_with fail
        generalize q5.alloc (.cells #[.string ⟨#[]⟩, .int .u64 0, .int .u64 0, .int .u8 0] 28) = X5 at HZ5 HG5 ⊢
        have HN2 := Lib.hid (fun W (h : Below X5.heap.size X5 W) => HN2.out W (HZ5.trans (h.mono HZ5.size)))
        have HS5 := Lib.hid (fun (W : World) (h : Below X5.heap.size X5 W) => show (W.cell? ⟨g, 0, none⟩ = some (.string SR) ∧ W.cell? ⟨g, 1, none⟩ = some (.int .u64 y.every) ∧ W.cell? ⟨g, 2, none⟩ = some (.int .u64 y.burst) ∧ W.cell? ⟨g, 3, none⟩ = some (.int .u8 y.kind)) ∧ (W.cell? ⟨b0, off + ix * 4, none⟩ = some (.string SR) ∧ W.cell? ⟨b0, off + ix * 4 + 1, none⟩ = some (.int .u64 y.every) ∧ W.cell? ⟨b0, off + ix * 4 + 2, none⟩ = some (.int .u64 y.burst) ∧ W.cell? ⟨b0, off + ix * 4 + 3, none⟩ = some (.int .u8 y.kind)) ∧ W.cell? ⟨x1.heap.size, 1, none⟩ = some (.slice (some ⟨b0, off, none⟩) L.length cp) from by
          have hg := HG5.below h HG5.lt
          have ht := HT6.out W (HZ5.trans (h.mono HZ5.size))
          exact ⟨⟨hg.cell 0, hg.cell 1, hg.cell 2, hg.cell 3⟩, ht.1, ht.2⟩)
        have HW6 := Lib.hid (HW6.out.trans (HZ5.mono HW6.out.size))
        have HZ := Lib.hid (show Below X5.heap.size X5 X5.drew from (Below.refl _ X5).drew)
        clear HZ5 HG5
        rename_i KF hKF
        have HKF := Lib.hid hKF
        clear hKF
        refine wp_region_held_drew (S := (fun w' => (w'.cell? ⟨g, 0, none⟩ = some (.string SR) ∧ w'.cell? ⟨g, 1, none⟩ = some (.int .u64 y.every) ∧ w'.cell? ⟨g, 2, none⟩ = some (.int .u64 y.burst) ∧ w'.cell? ⟨g, 3, none⟩ = some (.int .u8 y.kind)) ∧ (w'.cell? ⟨b0, off + ix * 4, none⟩ = some (.string SR) ∧ w'.cell? ⟨b0, off + ix * 4 + 1, none⟩ = some (.int .u64 y.every) ∧ w'.cell? ⟨b0, off + ix * 4 + 2, none⟩ = some (.int .u64 y.burst) ∧ w'.cell? ⟨b0, off + ix * 4 + 3, none⟩ = some (.int .u8 y.kind)) ∧ w'.cell? ⟨x1.heap.size, 1, none⟩ = some (.slice (some ⟨b0, off, none⟩) L.length cp))) (by kernel_rfl) ?_ (fun hHeld => ?_)
        · (try dsimp only)
          exact HS5.out _ HZ.out
        refine wpAnyH_ready (rs := [0]) (by kernel_rfl) (by simp) ?_
        refine (AllReadyH.cons (o := ({ dst := some 80, op := Op.call { callee := Callee.value (Operand.func 8), args := #[], argTypes := #[] }, type := 4, pos := "law.go:89", after := #[], guard := none } : Oper)) rfl (fun K hK => ?_) AllReadyH.nil)
        go_simp
        refine (known_any _).mono ?_; rintro e u1 ⟨rfl, hb⟩; have HZ := Lib.hid (HZ.out.trans (hb.mono HZ.out.size)); clear hb; go_wp2_with fail
        refine hK.out _ _ ?_ (fun hHeld => ?_)
        · (try dsimp only)
          exact HS5.out _ HZ.out
        clear hK K
        try simp only [Act.put, List.setIfInBounds_toArray, List.set_cons_zero, List.set_cons_succ]
        refine wpAnyH_take (i := 1) (oi := ({ dst := some 81, op := Op.move (Operand.tmp 80), type := 4, pos := "law.go:89", after := #[{ on := 0, ground := Ground.data }, { on := 0, ground := Ground.chain }], guard := none } : Oper)) (v := ?_) rfl (by kernel_rfl) (by kernel_rfl) (by kernel_rfl) (fun _ _ _ h => h) (Or.inl ⟨by kernel_rfl, ?_⟩) (by assumption) ?_
        rotate_left
        · (intro w hSw; (try dsimp only at hSw); go_simp)
          all_goals (with_reducible rfl)
        try simp only [Act.put, List.setIfInBounds_toArray, List.set_cons_zero, List.set_cons_succ]
        refine wpAnyH_take (i := 2) (oi := ({ dst := some 82, op := Op.move (Operand.tmp 16), type := 4, pos := "law.go:89", after := #[{ on := 1, ground := Ground.guard }], guard := some (1, true) } : Oper)) (v := ?_) rfl (by kernel_rfl) (by kernel_rfl) (by kernel_rfl) (fun _ _ _ h => h) (Or.inl ⟨by kernel_rfl, ?_⟩) (by assumption) ?_
        rotate_left
        · (intro w hSw; (try dsimp only at hSw); go_simp)
          all_goals (with_reducible rfl)
        try simp only [Act.put, List.setIfInBounds_toArray, List.set_cons_zero, List.set_cons_succ]
        refine wpAnyH_take (i := 3) (oi := ({ dst := some 83, op := Op.pick (Operand.tmp 81) (Operand.tmp 82) (Operand.const (Value.bool false)), type := 4, pos := "law.go:89", after := #[{ on := 1, ground := Ground.data }, { on := 2, ground := Ground.data }], guard := none } : Oper)) (v := ?_) rfl (by kernel_rfl) (by kernel_rfl) (by kernel_rfl) (fun _ _ _ h => h) (Or.inl ⟨by kernel_rfl, ?_⟩) (by assumption) ?_
        rotate_left
        · (intro w hSw; (try dsimp only at hSw); go_simp)
          all_goals (with_reducible rfl)
        try simp only [Act.put, List.setIfInBounds_toArray, List.set_cons_zero, List.set_cons_succ]
        refine wpAnyH_take (i := 4) (oi := ({ dst := some 84, op := Op.move (Operand.tmp 83), type := 4, pos := "law.go:89", after := #[{ on := 3, ground := Ground.data }, { on := 1, ground := Ground.chain }], guard := none } : Oper)) (v := ?_) rfl (by kernel_rfl) (by kernel_rfl) (by kernel_rfl) (fun _ _ _ h => h) (Or.inl ⟨by kernel_rfl, ?_⟩) (by assumption) ?_
        rotate_left
        · (intro w hSw; (try dsimp only at hSw); go_simp)
          all_goals (with_reducible rfl)
        try simp only [Act.put, List.setIfInBounds_toArray, List.set_cons_zero, List.set_cons_succ]
        refine wpAnyH_take (i := 5) (oi := ({ dst := some 85, op := Op.load 28 (Operand.tmp 15), type := 28, pos := "law.go:89", after := #[{ on := 4, ground := Ground.guard }], guard := some (4, true) } : Oper)) (v := ?_) rfl (by kernel_rfl) (by kernel_rfl) (by kernel_rfl) (fun _ _ _ h => h) (Or.inl ⟨by kernel_rfl, ?_⟩) (by assumption) ?_
        rotate_left
        · (intro w hSw; (try dsimp only at hSw); go_simp)
          all_goals (with_reducible rfl)
        try simp only [Act.put, List.setIfInBounds_toArray, List.set_cons_zero, List.set_cons_succ]
        refine wpAnyH_take (i := 6) (oi := ({ dst := some 86, op := Op.fieldAddr 31 (Operand.tmp 11) 1, type := 0, pos := "law.go:89", after := #[{ on := 4, ground := Ground.guard }], guard := some (4, true) } : Oper)) (v := ?_) rfl (by kernel_rfl) (by kernel_rfl) (by kernel_rfl) (fun _ _ _ h => h) (Or.inl ⟨by kernel_rfl, ?_⟩) (by assumption) ?_
        rotate_left
        · (intro w hSw; (try dsimp only at hSw); go_simp)
          all_goals (with_reducible rfl)
        try simp only [Act.put, List.setIfInBounds_toArray, List.set_cons_zero, List.set_cons_succ]
        refine wpAnyH_take (i := 7) (oi := ({ dst := some 87, op := Op.load 22 (Operand.tmp 86), type := 22, pos := "law.go:89", after := #[{ on := 6, ground := Ground.data }, { on := 4, ground := Ground.guard }], guard := some (4, true) } : Oper)) (v := ?_) rfl (by kernel_rfl) (by kernel_rfl) (by kernel_rfl) (fun _ _ _ h => h) (Or.inl ⟨by kernel_rfl, ?_⟩) (by assumption) ?_
        rotate_left
        · (intro w hSw; (try dsimp only at hSw); go_simp)
          all_goals (with_reducible rfl)
        try simp only [Act.put, List.setIfInBounds_toArray, List.set_cons_zero, List.set_cons_succ]
        refine wpAnyH_take (i := 8) (oi := ({ dst := some 88, op := Op.move (Operand.tmp 12), type := 3, pos := "law.go:89", after := #[{ on := 4, ground := Ground.guard }], guard := some (4, true) } : Oper)) (v := ?_) rfl (by kernel_rfl) (by kernel_rfl) (by kernel_rfl) (fun _ _ _ h => h) (Or.inl ⟨by kernel_rfl, ?_⟩) (by assumption) ?_
        rotate_left
        · (intro w hSw; (try dsimp only at hSw); go_simp)
          all_goals (with_reducible rfl)
        try simp only [Act.put, List.setIfInBounds_toArray, List.set_cons_zero, List.set_cons_succ]
        refine wpAnyH_take (i := 9) (oi := ({ dst := some 89, op := Op.indexAddr 22 (Operand.tmp 87) (Operand.tmp 88), type := 0, pos := "law.go:89", after := #[{ on := 7, ground := Ground.data }, { on := 8, ground := Ground.data }, { on := 4, ground := Ground.guard }], guard := some (4, true) } : Oper)) (v := ?_) rfl (by kernel_rfl) (by kernel_rfl) (by kernel_rfl) (fun _ _ _ h => h) (Or.inl ⟨by kernel_rfl, ?_⟩) (by assumption) ?_
        rotate_left
        · (intro w hSw; (try dsimp only at hSw); go_simp)
          all_goals (with_reducible rfl)
        try simp only [Act.put, List.setIfInBounds_toArray, List.set_cons_zero, List.set_cons_succ]
        refine wpAnyH_take (i := 10) (oi := ({ dst := some 90, op := Op.load 28 (Operand.tmp 89), type := 28, pos := "law.go:89", after := #[{ on := 9, ground := Ground.data }, { on := 4, ground := Ground.guard }], guard := some (4, true) } : Oper)) (v := ?_) rfl (by kernel_rfl) (by kernel_rfl) (by kernel_rfl) (fun _ _ _ h => h) (Or.inl ⟨by kernel_rfl, ?_⟩) (by assumption) ?_
        rotate_left
        · (intro w hSw; (try dsimp only at hSw); go_simp)
          all_goals (with_reducible rfl)
        try simp only [Act.put, List.setIfInBounds_toArray, List.set_cons_zero, List.set_cons_succ]
        refine wpAnyH_take (i := 11) (oi := ({ dst := some 91, op := Op.binOp BinOp.eql 28 (Operand.tmp 85) (Operand.tmp 90) 28, type := 4, pos := "law.go:89", after := #[{ on := 5, ground := Ground.data }, { on := 10, ground := Ground.data }, { on := 4, ground := Ground.guard }], guard := some (4, true) } : Oper)) (v := ?_) rfl (by kernel_rfl) (by kernel_rfl) (by kernel_rfl) (fun _ _ _ h => h) (Or.inl ⟨by kernel_rfl, ?_⟩) (by assumption) ?_
        rotate_left
        · (intro w hSw; (try dsimp only at hSw); go_simp)
          all_goals (with_reducible rfl)
        try simp only [Act.put, List.setIfInBounds_toArray, List.set_cons_zero, List.set_cons_succ]
        refine wpAnyH_take (i := 12) (oi := ({ dst := some 92, op := Op.pick (Operand.tmp 84) (Operand.tmp 91) (Operand.const (Value.bool false)), type := 4, pos := "law.go:89", after := #[{ on := 4, ground := Ground.data }, { on := 11, ground := Ground.data }], guard := none } : Oper)) (v := ?_) rfl (by kernel_rfl) (by kernel_rfl) (by kernel_rfl) (fun _ _ _ h => h) (Or.inl ⟨by kernel_rfl, ?_⟩) (by assumption) ?_
        rotate_left
        · (intro w hSw; (try dsimp only at hSw); go_simp)
          all_goals (with_reducible rfl)
        try simp only [Act.put, List.setIfInBounds_toArray, List.set_cons_zero, List.set_cons_succ]
        refine wpAnyH_take (i := 13) (oi := ({ dst := some 93, op := Op.move (Operand.tmp 92), type := 4, pos := "law.go:89", after := #[{ on := 12, ground := Ground.data }, { on := 4, ground := Ground.chain }], guard := none } : Oper)) (v := ?_) rfl (by kernel_rfl) (by kernel_rfl) (by kernel_rfl) (fun _ _ _ h => h) (Or.inl ⟨by kernel_rfl, ?_⟩) (by assumption) ?_
        rotate_left
        · (intro w hSw; (try dsimp only at hSw); go_simp)
          all_goals (with_reducible rfl)
        try simp only [Act.put, List.setIfInBounds_toArray, List.set_cons_zero, List.set_cons_succ]
        refine wpAnyH_take (i := 14) (oi := ({ dst := some 94, op := Op.move (Operand.tmp 14), type := 22, pos := "law.go:89", after := #[{ on := 13, ground := Ground.guard }], guard := some (13, true) } : Oper)) (v := ?_) rfl (by kernel_rfl) (by kernel_rfl) (by kernel_rfl) (fun _ _ _ h => h) (Or.inl ⟨by kernel_rfl, ?_⟩) (by assumption) ?_
        rotate_left
        · (intro w hSw; (try dsimp only at hSw); go_simp)
          all_goals (with_reducible rfl)
        try simp only [Act.put, List.setIfInBounds_toArray, List.set_cons_zero, List.set_cons_succ]
        refine wpAnyH_take (i := 17) (oi := ({ dst := some 97, op := Op.fieldAddr 31 (Operand.tmp 11) 1, type := 0, pos := "law.go:89", after := #[{ on := 13, ground := Ground.guard }], guard := some (13, true) } : Oper)) (v := ?_) rfl (by kernel_rfl) (by kernel_rfl) (by kernel_rfl) (fun _ _ _ h => h) (Or.inl ⟨by kernel_rfl, ?_⟩) (by assumption) ?_
        rotate_left
        · (intro w hSw; (try dsimp only at hSw); go_simp)
          all_goals (with_reducible rfl)
        try simp only [Act.put, List.setIfInBounds_toArray, List.set_cons_zero, List.set_cons_succ]
        refine wpAnyH_take (i := 18) (oi := ({ dst := some 98, op := Op.load 22 (Operand.tmp 97), type := 22, pos := "law.go:89", after := #[{ on := 17, ground := Ground.data }, { on := 13, ground := Ground.guard }], guard := some (13, true) } : Oper)) (v := ?_) rfl (by kernel_rfl) (by kernel_rfl) (by kernel_rfl) (fun _ _ _ h => h) (Or.inl ⟨by kernel_rfl, ?_⟩) (by assumption) ?_
        rotate_left
        · (intro w hSw; (try dsimp only at hSw); go_simp)
          all_goals (with_reducible rfl)
        try simp only [Act.put, List.setIfInBounds_toArray, List.set_cons_zero, List.set_cons_succ]
        refine wpAnyH_take (i := 19) (oi := ({ dst := some 99, op := Op.call { callee := Callee.builtin Builtin.len, args := #[Operand.tmp 98], argTypes := #[22] }, type := 3, pos := "law.go:89", after := #[{ on := 18, ground := Ground.data }, { on := 13, ground := Ground.guard }], guard := some (13, true) } : Oper)) (v := ?_) rfl (by kernel_rfl) (by kernel_rfl) (by kernel_rfl) (fun _ _ _ h => h) (Or.inl ⟨by kernel_rfl, ?_⟩) (by assumption) ?_
        rotate_left
        · (intro w hSw; (try dsimp only at hSw); go_simp)
          all_goals (with_reducible rfl)
        try simp only [Act.put, List.setIfInBounds_toArray, List.set_cons_zero, List.set_cons_succ]
        refine wpAnyH_ready (rs := [15]) (by kernel_rfl) (by simp) ?_
        refine (AllReadyH.cons (o := ({ dst := some 95, op := Op.call { callee := Callee.value (Operand.func 12), args := #[Operand.tmp 94], argTypes := #[22] }, type := 37, pos := "law.go:89", after := #[{ on := 14, ground := Ground.data }, { on := 13, ground := Ground.chain }, { on := 13, ground := Ground.guard }], guard := some (13, true) } : Oper)) rfl (fun K hK => ?_) AllReadyH.nil)
        go_simp
        refine (HN2.out _ HZ.out).mono ?_; rintro e u2 ⟨root5, rfl, hT, hb⟩; have HTT := Lib.hid hT; have HZ := Lib.hid (HZ.out.trans (hb.mono HZ.out.size)); clear hb hT; go_wp2_with fail
        refine hK.out _ _ ?_ (fun hHeld => ?_)
        · (try dsimp only)
          exact HS5.out _ HZ.out
        clear hK K
        try simp only [Act.put, List.setIfInBounds_toArray, List.set_cons_zero, List.set_cons_succ]
        refine wpAnyH_ready (rs := [16]) (by kernel_rfl) (by simp) ?_
        refine (AllReadyH.cons (o := ({ dst := some 96, op := Op.call { callee := Callee.value (Operand.func 14), args := #[Operand.tmp 95], argTypes := #[37] }, type := 3, pos := "law.go:89", after := #[{ on := 15, ground := Ground.data }, { on := 15, ground := Ground.chain }, { on := 13, ground := Ground.guard }], guard := some (13, true) } : Oper)) rfl (fun K hK => ?_) AllReadyH.nil)
        go_simp
        refine (len_any _ _ root5 (L ++ [R]) HTT.out).mono ?_; rintro e u3 ⟨rfl, hb⟩; have HZ := Lib.hid (HZ.out.trans (hb.mono HZ.out.size)); rw [LEN.out]; clear hb; go_wp2_with fail
        refine hK.out _ _ ?_ (fun hHeld => ?_)
        · (try dsimp only)
          exact HS5.out _ HZ.out
        clear hK K
        try simp only [Act.put, List.setIfInBounds_toArray, List.set_cons_zero, List.set_cons_succ]
        refine wpAnyH_take (i := 20) (oi := ({ dst := some 100, op := Op.binOp BinOp.eql 3 (Operand.tmp 96) (Operand.tmp 99) 3, type := 4, pos := "law.go:89", after := #[{ on := 16, ground := Ground.data }, { on := 19, ground := Ground.data }, { on := 13, ground := Ground.guard }], guard := some (13, true) } : Oper)) (v := ?_) rfl (by kernel_rfl) (by kernel_rfl) (by kernel_rfl) (fun _ _ _ h => h) (Or.inl ⟨by kernel_rfl, ?_⟩) (by assumption) ?_
        rotate_left
        · (intro w hSw; (try dsimp only at hSw); go_simp)
          all_goals (with_reducible rfl)
        try simp only [Act.put, List.setIfInBounds_toArray, List.set_cons_zero, List.set_cons_succ]
        refine wpAnyH_take (i := 21) (oi := ({ dst := some 101, op := Op.pick (Operand.tmp 93) (Operand.tmp 100) (Operand.const (Value.bool false)), type := 4, pos := "law.go:89", after := #[{ on := 13, ground := Ground.data }, { on := 20, ground := Ground.data }], guard := none } : Oper)) (v := ?_) rfl (by kernel_rfl) (by kernel_rfl) (by kernel_rfl) (fun _ _ _ h => h) (Or.inl ⟨by kernel_rfl, ?_⟩) (by assumption) ?_
        rotate_left
        · (intro w hSw; (try dsimp only at hSw); go_simp)
          all_goals (with_reducible rfl)
        try simp only [Act.put, List.setIfInBounds_toArray, List.set_cons_zero, List.set_cons_succ]
        refine wpAnyH_take (i := 22) (oi := ({ dst := some 102, op := Op.move (Operand.tmp 101), type := 4, pos := "law.go:89", after := #[{ on := 21, ground := Ground.data }, { on := 16, ground := Ground.chain }], guard := none } : Oper)) (v := ?_) rfl (by kernel_rfl) (by kernel_rfl) (by kernel_rfl) (fun _ _ _ h => h) (Or.inl ⟨by kernel_rfl, ?_⟩) (by assumption) ?_
        rotate_left
        · (intro w hSw; (try dsimp only at hSw); go_simp)
          all_goals (with_reducible rfl)
        try simp only [Act.put, List.setIfInBounds_toArray, List.set_cons_zero, List.set_cons_succ]
        refine wpAnyH_take (i := 23) (oi := ({ dst := some 103, op := Op.move (Operand.tmp 19), type := 4, pos := "law.go:89", after := #[{ on := 22, ground := Ground.guard }], guard := some (22, true) } : Oper)) (v := ?_) rfl (by kernel_rfl) (by kernel_rfl) (by kernel_rfl) (fun _ _ _ h => h) (Or.inl ⟨by kernel_rfl, ?_⟩) (by assumption) ?_
        rotate_left
        · (intro w hSw; (try dsimp only at hSw); go_simp)
          all_goals (with_reducible rfl)
        try simp only [Act.put, List.setIfInBounds_toArray, List.set_cons_zero, List.set_cons_succ]
        refine wpAnyH_take (i := 24) (oi := ({ dst := some 104, op := Op.unOp UnOp.not 4 (Operand.tmp 103), type := 4, pos := "law.go:89", after := #[{ on := 23, ground := Ground.data }, { on := 22, ground := Ground.guard }], guard := some (22, true) } : Oper)) (v := ?_) rfl (by kernel_rfl) (by kernel_rfl) (by kernel_rfl) (fun _ _ _ h => h) (Or.inl ⟨by kernel_rfl, ?_⟩) (by assumption) ?_
        rotate_left
        · (intro w hSw; (try dsimp only at hSw); go_simp)
          all_goals (with_reducible rfl)
        try simp only [Act.put, List.setIfInBounds_toArray, List.set_cons_zero, List.set_cons_succ]
        refine wpAnyH_take (i := 25) (oi := ({ dst := some 105, op := Op.pick (Operand.tmp 102) (Operand.tmp 104) (Operand.const (Value.bool false)), type := 4, pos := "law.go:89", after := #[{ on := 22, ground := Ground.data }, { on := 24, ground := Ground.data }], guard := none } : Oper)) (v := ?_) rfl (by kernel_rfl) (by kernel_rfl) (by kernel_rfl) (fun _ _ _ h => h) (Or.inl ⟨by kernel_rfl, ?_⟩) (by assumption) ?_
        rotate_left
        · (intro w hSw; (try dsimp only at hSw); go_simp)
          all_goals (with_reducible rfl)
        try simp only [Act.put, List.setIfInBounds_toArray, List.set_cons_zero, List.set_cons_succ]
        refine wpAnyH_take (i := 26) (oi := ({ dst := some 106, op := Op.move (Operand.tmp 105), type := 4, pos := "law.go:89", after := #[{ on := 25, ground := Ground.data }, { on := 22, ground := Ground.chain }], guard := none } : Oper)) (v := ?_) rfl (by kernel_rfl) (by kernel_rfl) (by kernel_rfl) (fun _ _ _ h => h) (Or.inl ⟨by kernel_rfl, ?_⟩) (by assumption) ?_
        rotate_left
        · (intro w hSw; (try dsimp only at hSw); go_simp)
          all_goals (with_reducible rfl)
        try simp only [Act.put, List.setIfInBounds_toArray, List.set_cons_zero, List.set_cons_succ]
        refine wpAnyH_take (i := 27) (oi := ({ dst := some 107, op := Op.move (Operand.tmp 21), type := 4, pos := "law.go:89", after := #[{ on := 26, ground := Ground.guard }], guard := some (26, true) } : Oper)) (v := ?_) rfl (by kernel_rfl) (by kernel_rfl) (by kernel_rfl) (fun _ _ _ h => h) (Or.inl ⟨by kernel_rfl, ?_⟩) (by assumption) ?_
        rotate_left
        · (intro w hSw; (try dsimp only at hSw); go_simp)
          all_goals (with_reducible rfl)
        try simp only [Act.put, List.setIfInBounds_toArray, List.set_cons_zero, List.set_cons_succ]
        refine wpAnyH_take (i := 28) (oi := ({ dst := some 108, op := Op.unOp UnOp.not 4 (Operand.tmp 107), type := 4, pos := "law.go:89", after := #[{ on := 27, ground := Ground.data }, { on := 26, ground := Ground.guard }], guard := some (26, true) } : Oper)) (v := ?_) rfl (by kernel_rfl) (by kernel_rfl) (by kernel_rfl) (fun _ _ _ h => h) (Or.inl ⟨by kernel_rfl, ?_⟩) (by assumption) ?_
        rotate_left
        · (intro w hSw; (try dsimp only at hSw); go_simp)
          all_goals (with_reducible rfl)
        try simp only [Act.put, List.setIfInBounds_toArray, List.set_cons_zero, List.set_cons_succ]
        refine wpAnyH_take (i := 29) (oi := ({ dst := some 109, op := Op.pick (Operand.tmp 106) (Operand.tmp 108) (Operand.const (Value.bool false)), type := 4, pos := "law.go:89", after := #[{ on := 26, ground := Ground.data }, { on := 28, ground := Ground.data }], guard := none } : Oper)) (v := ?_) rfl (by kernel_rfl) (by kernel_rfl) (by kernel_rfl) (fun _ _ _ h => h) (Or.inl ⟨by kernel_rfl, ?_⟩) (by assumption) ?_
        rotate_left
        · (intro w hSw; (try dsimp only at hSw); go_simp)
          all_goals (with_reducible rfl)
        try simp only [Act.put, List.setIfInBounds_toArray, List.set_cons_zero, List.set_cons_succ]
        refine wpAnyH_take (i := 30) (oi := ({ dst := some 110, op := Op.move (Operand.tmp 109), type := 4, pos := "law.go:89", after := #[{ on := 29, ground := Ground.data }, { on := 26, ground := Ground.chain }], guard := none } : Oper)) (v := ?_) rfl (by kernel_rfl) (by kernel_rfl) (by kernel_rfl) (fun _ _ _ h => h) (Or.inl ⟨by kernel_rfl, ?_⟩) (by assumption) ?_
        rotate_left
        · (intro w hSw; (try dsimp only at hSw); go_simp)
          all_goals (with_reducible rfl)
        try simp only [Act.put, List.setIfInBounds_toArray, List.set_cons_zero, List.set_cons_succ]
        refine wpAnyH_take (i := 31) (oi := ({ dst := some 111, op := Op.move (Operand.tmp 23), type := 4, pos := "law.go:89", after := #[{ on := 30, ground := Ground.guard }], guard := some (30, true) } : Oper)) (v := ?_) rfl (by kernel_rfl) (by kernel_rfl) (by kernel_rfl) (fun _ _ _ h => h) (Or.inl ⟨by kernel_rfl, ?_⟩) (by assumption) ?_
        rotate_left
        · (intro w hSw; (try dsimp only at hSw); go_simp)
          all_goals (with_reducible rfl)
        try simp only [Act.put, List.setIfInBounds_toArray, List.set_cons_zero, List.set_cons_succ]
        refine wpAnyH_take (i := 32) (oi := ({ dst := some 112, op := Op.unOp UnOp.not 4 (Operand.tmp 111), type := 4, pos := "law.go:89", after := #[{ on := 31, ground := Ground.data }, { on := 30, ground := Ground.guard }], guard := some (30, true) } : Oper)) (v := ?_) rfl (by kernel_rfl) (by kernel_rfl) (by kernel_rfl) (fun _ _ _ h => h) (Or.inl ⟨by kernel_rfl, ?_⟩) (by assumption) ?_
        rotate_left
        · (intro w hSw; (try dsimp only at hSw); go_simp)
          all_goals (with_reducible rfl)
        try simp only [Act.put, List.setIfInBounds_toArray, List.set_cons_zero, List.set_cons_succ]
        refine wpAnyH_take (i := 33) (oi := ({ dst := some 113, op := Op.pick (Operand.tmp 110) (Operand.tmp 112) (Operand.const (Value.bool false)), type := 4, pos := "law.go:89", after := #[{ on := 30, ground := Ground.data }, { on := 32, ground := Ground.data }], guard := none } : Oper)) (v := ?_) rfl (by kernel_rfl) (by kernel_rfl) (by kernel_rfl) (fun _ _ _ h => h) (Or.inl ⟨by kernel_rfl, ?_⟩) (by assumption) ?_
        rotate_left
        · (intro w hSw; (try dsimp only at hSw); go_simp)
          all_goals (with_reducible rfl)
        try simp only [Act.put, List.setIfInBounds_toArray, List.set_cons_zero, List.set_cons_succ]
        refine wpAnyH_take (i := 34) (oi := ({ dst := some 114, op := Op.move (Operand.tmp 113), type := 4, pos := "law.go:89", after := #[{ on := 33, ground := Ground.data }, { on := 30, ground := Ground.chain }], guard := none } : Oper)) (v := ?_) rfl (by kernel_rfl) (by kernel_rfl) (by kernel_rfl) (fun _ _ _ h => h) (Or.inl ⟨by kernel_rfl, ?_⟩) (by assumption) ?_
        rotate_left
        · (intro w hSw; (try dsimp only at hSw); go_simp)
          all_goals (with_reducible rfl)
        try simp only [Act.put, List.setIfInBounds_toArray, List.set_cons_zero, List.set_cons_succ]
        refine wpAnyH_take (i := 35) (oi := ({ dst := some 115, op := Op.move (Operand.tmp 17), type := 37, pos := "law.go:89", after := #[{ on := 34, ground := Ground.guard }], guard := some (34, true) } : Oper)) (v := ?_) rfl (by kernel_rfl) (by kernel_rfl) (by kernel_rfl) (fun _ _ _ h => h) (Or.inl ⟨by kernel_rfl, ?_⟩) (by assumption) ?_
        rotate_left
        · (intro w hSw; (try dsimp only at hSw); go_simp)
          all_goals (with_reducible rfl)
        try simp only [Act.put, List.setIfInBounds_toArray, List.set_cons_zero, List.set_cons_succ]
        refine wpAnyH_ready (rs := [36]) (by kernel_rfl) (by simp) ?_
        refine (AllReadyH.cons (o := ({ dst := some 116, op := Op.call { callee := Callee.value (Operand.func 14), args := #[Operand.tmp 115], argTypes := #[37] }, type := 3, pos := "law.go:89", after := #[{ on := 35, ground := Ground.data }, { on := 34, ground := Ground.chain }, { on := 34, ground := Ground.guard }], guard := some (34, true) } : Oper)) rfl (fun K hK => ?_) AllReadyH.nil)
        go_simp
        refine (lennil_any _).mono ?_; rintro e u4 ⟨rfl, hb⟩; have HZ := Lib.hid (HZ.out.trans (hb.mono HZ.out.size)); clear hb; go_wp2_with fail
        refine hK.out _ _ ?_ (fun hHeld => ?_)
        · (try dsimp only)
          exact HS5.out _ HZ.out
        clear hK K
        try simp only [Act.put, List.setIfInBounds_toArray, List.set_cons_zero, List.set_cons_succ]
        refine wpAnyH_take (i := 37) (oi := ({ dst := some 117, op := Op.binOp BinOp.eql 3 (Operand.tmp 116) (Operand.const (Value.int IntKind.i64 0)) 3, type := 4, pos := "law.go:89", after := #[{ on := 36, ground := Ground.data }, { on := 34, ground := Ground.guard }], guard := some (34, true) } : Oper)) (v := ?_) rfl (by kernel_rfl) (by kernel_rfl) (by kernel_rfl) (fun _ _ _ h => h) (Or.inl ⟨by kernel_rfl, ?_⟩) (by assumption) ?_
        rotate_left
        · (intro w hSw; (try dsimp only at hSw); go_simp)
          all_goals (with_reducible rfl)
        try simp only [Act.put, List.setIfInBounds_toArray, List.set_cons_zero, List.set_cons_succ]
        refine wpAnyH_take (i := 38) (oi := ({ dst := some 118, op := Op.pick (Operand.tmp 114) (Operand.tmp 117) (Operand.const (Value.bool false)), type := 4, pos := "law.go:89", after := #[{ on := 34, ground := Ground.data }, { on := 37, ground := Ground.data }], guard := none } : Oper)) (v := ?_) rfl (by kernel_rfl) (by kernel_rfl) (by kernel_rfl) (fun _ _ _ h => h) (Or.inl ⟨by kernel_rfl, ?_⟩) (by assumption) ?_
        rotate_left
        · (intro w hSw; (try dsimp only at hSw); go_simp)
          all_goals (with_reducible rfl)
        try simp only [Act.put, List.setIfInBounds_toArray, List.set_cons_zero, List.set_cons_succ]
        refine wpAnyH_take (i := 39) (oi := ({ dst := some 10, op := Op.assign (Operand.tmp 118), type := 4, pos := "law.go:89", after := #[{ on := 38, ground := Ground.data }, { on := 36, ground := Ground.chain }, { on := 0, ground := Ground.phase }, { on := 1, ground := Ground.phase }, { on := 2, ground := Ground.phase }, { on := 3, ground := Ground.phase }, { on := 4, ground := Ground.phase }, { on := 5, ground := Ground.phase }, { on := 6, ground := Ground.phase }, { on := 7, ground := Ground.phase }, { on := 8, ground := Ground.phase }, { on := 9, ground := Ground.phase }, { on := 10, ground := Ground.phase }, { on := 11, ground := Ground.phase }, { on := 12, ground := Ground.phase }, { on := 13, ground := Ground.phase }, { on := 14, ground := Ground.phase }, { on := 15, ground := Ground.phase }, { on := 16, ground := Ground.phase }, { on := 17, ground := Ground.phase }, { on := 18, ground := Ground.phase }, { on := 19, ground := Ground.phase }, { on := 20, ground := Ground.phase }, { on := 21, ground := Ground.phase }, { on := 22, ground := Ground.phase }, { on := 23, ground := Ground.phase }, { on := 24, ground := Ground.phase }, { on := 25, ground := Ground.phase }, { on := 26, ground := Ground.phase }, { on := 27, ground := Ground.phase }, { on := 28, ground := Ground.phase }, { on := 29, ground := Ground.phase }, { on := 30, ground := Ground.phase }, { on := 31, ground := Ground.phase }, { on := 32, ground := Ground.phase }, { on := 33, ground := Ground.phase }, { on := 34, ground := Ground.phase }, { on := 35, ground := Ground.phase }, { on := 36, ground := Ground.phase }, { on := 37, ground := Ground.phase }, { on := 38, ground := Ground.phase }], guard := none } : Oper)) (v := ?_) rfl (by kernel_rfl) (by kernel_rfl) (by kernel_rfl) (fun _ _ _ h => h) (Or.inl ⟨by kernel_rfl, ?_⟩) (by assumption) ?_
        rotate_left
        · (intro w hSw; (try dsimp only at hSw); go_simp)
          all_goals (with_reducible rfl)
        try simp only [Act.put, List.setIfInBounds_toArray, List.set_cons_zero, List.set_cons_succ]
        refine wpAnyH_done (by kernel_rfl) ?_ _
        change KF _ _
        refine HKF.out _ _ ?_
        go_wp2
        go_ret
        exact ⟨rfl, HW6.out.trans (HZ.out.mono HW6.out.size)⟩
    · go_simp
      have HZ0 := HZ; have HG := Lib.hid (blk_zero HZ.out); have HZ := Lib.hid (HZ.out.alloc HZ.out.size (.cells zeroCells 28)); (try have HTT := Lib.hid (HTT.out.below ((Below.refl _ _).alloc (Nat.le_refl _) (.cells zeroCells 28))))
      refine hK.out _ _ ?_ (fun hHeld => ?_)
      · (try dsimp only)
        first | exact HSB.out _ HZ.out | exact HSB.out _ (HZ0.out.alloc HZ0.out.size _) | exact HSB.out _ ((((HZ.out.setCell (p := ⟨_, 0, none⟩) HZ0.out.size _).setCell (p := ⟨_, 1, none⟩) HZ0.out.size _).setCell (p := ⟨_, 2, none⟩) HZ0.out.size _).setCell (p := ⟨_, 3, none⟩) HZ0.out.size _)
      clear hK K
      try simp only [Act.put, List.setIfInBounds_toArray, List.set_cons_zero, List.set_cons_succ]
      refine wpAnyH_ready (rs := [4]) (by kernel_rfl) (by simp) ?_
      refine (AllReadyH.cons (o := ({ dst := some 57, op := Op.call { callee := Callee.value (Operand.func 13), args := #[Operand.tmp 54, Operand.tmp 56], argTypes := #[37, 9] }, type := 36, pos := "law.go:84", after := #[{ on := 1, ground := Ground.data }, { on := 3, ground := Ground.data }, { on := 1, ground := Ground.chain }], guard := none } : Oper)) rfl (fun K hK => ?_) AllReadyH.nil)
      go_simp
      refine (find_any _ _ root (L ++ [R]) HTT.out SR (by unfold big; omega)).mono ?_; rintro e z2 ⟨o, rfl, ho, hb⟩; (try (have HG := Lib.hid (HG.out.below hb HG.out.lt); have hzz := zero_at HG.out; (try simp only [show w6.drew.heap.size = w6.heap.size from rfl] at hzz); obtain ⟨y0, y1, y2, y3, yf⟩ := hzz; have yf0 := yf 0; have yf1 := yf 1; have yf2 := yf 2; have yf3 := yf 3; clear yf)); have HZ := Lib.hid (HZ.out.trans (hb.mono HZ.out.size)); obtain rfl : o = some y := isFind_uni ho FIND.out; rw [FY.out]; clear hb ho; go_wp2_with fail
      refine hK.out _ _ ?_ (fun hHeld => ?_)
      · (try dsimp only)
        first | exact HSB.out _ HZ.out | exact HSB.out _ (HZ0.out.alloc HZ0.out.size _) | exact HSB.out _ ((((HZ.out.setCell (p := ⟨_, 0, none⟩) HZ0.out.size _).setCell (p := ⟨_, 1, none⟩) HZ0.out.size _).setCell (p := ⟨_, 2, none⟩) HZ0.out.size _).setCell (p := ⟨_, 3, none⟩) HZ0.out.size _)
      clear hK K
      try simp only [Act.put, List.setIfInBounds_toArray, List.set_cons_zero, List.set_cons_succ]
      refine wpAnyH_take (i := 5) (oi := ({ dst := some 52, op := Op.move (Operand.tmp 57), type := 36, pos := "law.go:84", after := #[{ on := 4, ground := Ground.data }], guard := none } : Oper)) (v := ?_) rfl (by kernel_rfl) (by kernel_rfl) (by kernel_rfl) (fun _ _ _ h => h) (Or.inl ⟨by kernel_rfl, ?_⟩) (by assumption) ?_
      rotate_left
      · (intro w hSw; (try dsimp only at hSw); go_simp)
        all_goals (with_reducible rfl)
      try simp only [Act.put, List.setIfInBounds_toArray, List.set_cons_zero, List.set_cons_succ]
      refine wpAnyH_take (i := 6) (oi := ({ dst := some 58, op := Op.extract (Operand.tmp 52) 0, type := 28, pos := "law.go:84", after := #[{ on := 5, ground := Ground.data }], guard := none } : Oper)) (v := ?_) rfl (by kernel_rfl) (by kernel_rfl) (by kernel_rfl) (fun _ _ _ h => h) (Or.inl ⟨by kernel_rfl, ?_⟩) (by assumption) ?_
      rotate_left
      · (intro w hSw; (try dsimp only at hSw); go_simp)
        all_goals (with_reducible rfl)
      try simp only [Act.put, List.setIfInBounds_toArray, List.set_cons_zero, List.set_cons_succ]
      refine wpAnyH_take (i := 7) (oi := ({ dst := some 59, op := Op.extract (Operand.tmp 52) 1, type := 4, pos := "law.go:84", after := #[{ on := 5, ground := Ground.data }, { on := 9, ground := Ground.gcOnly Departure.lateStores }], guard := none } : Oper)) (v := ?_) rfl (by kernel_rfl) (by kernel_rfl) (by kernel_rfl) (fun _ _ _ h => h) (Or.inl ⟨by kernel_rfl, ?_⟩) (by assumption) ?_
      rotate_left
      · (intro w hSw; (try dsimp only at hSw); go_simp)
        all_goals (with_reducible rfl)
      try simp only [Act.put, List.setIfInBounds_toArray, List.set_cons_zero, List.set_cons_succ]
      refine wpAnyH_ready (rs := [9]) (by kernel_rfl) (by simp) ?_
      refine (AllReadyH.cons (o := ({ dst := none, op := Op.store 28 (Operand.tmp 15) (Operand.tmp 58), type := 0, pos := "law.go:84", after := #[{ on := 8, ground := Ground.data }, { on := 6, ground := Ground.data }, { on := 4, ground := Ground.chain }, { on := 0, ground := Ground.phase }, { on := 1, ground := Ground.phase }, { on := 2, ground := Ground.phase }, { on := 3, ground := Ground.phase }, { on := 4, ground := Ground.phase }, { on := 5, ground := Ground.phase }, { on := 6, ground := Ground.phase }, { on := 7, ground := Ground.textOnly Departure.lateStores }, { on := 8, ground := Ground.phase }], guard := none } : Oper)) rfl (fun K hK => ?_) AllReadyH.nil)
      go_simp
      skip
      refine hK.out _ _ ?_ (fun hHeld => ?_)
      · (try dsimp only)
        first | exact HSB.out _ HZ.out | exact HSB.out _ (HZ0.out.alloc HZ0.out.size _) | exact HSB.out _ ((((HZ.out.setCell (p := ⟨_, 0, none⟩) HZ0.out.size _).setCell (p := ⟨_, 1, none⟩) HZ0.out.size _).setCell (p := ⟨_, 2, none⟩) HZ0.out.size _).setCell (p := ⟨_, 3, none⟩) HZ0.out.size _)
      clear hK K
      try simp only [Act.put, List.setIfInBounds_toArray, List.set_cons_zero, List.set_cons_succ]
      refine wpAnyH_take (i := 10) (oi := ({ dst := some 16, op := Op.assign (Operand.tmp 59), type := 4, pos := "law.go:84", after := #[{ on := 7, ground := Ground.data }, { on := 9, ground := Ground.chain }, { on := 0, ground := Ground.phase }, { on := 1, ground := Ground.phase }, { on := 2, ground := Ground.phase }, { on := 3, ground := Ground.phase }, { on := 4, ground := Ground.phase }, { on := 5, ground := Ground.phase }, { on := 6, ground := Ground.phase }, { on := 7, ground := Ground.phase }, { on := 8, ground := Ground.phase }, { on := 9, ground := Ground.phase }], guard := none } : Oper)) (v := ?_) rfl (by kernel_rfl) (by kernel_rfl) (by kernel_rfl) (fun _ _ _ h => h) (Or.inl ⟨by kernel_rfl, ?_⟩) (by assumption) ?_
      rotate_left
      · (intro w hSw; (try dsimp only at hSw); go_simp)
        all_goals (with_reducible rfl)
      try simp only [Act.put, List.setIfInBounds_toArray, List.set_cons_zero, List.set_cons_succ]
      refine wpAnyH_done (by kernel_rfl) ?_ _
      change KC _ _
      refine HKC.out _ _ ?_
      clear HKC
      first
        | (have hy0 : z2.cell? ⟨w6.heap.size, 0, none⟩ = some (.string ⟨#[]⟩) := y0; have hG : Blk ((((z2.setCell ⟨w6.heap.size, 0, none⟩ (.string SR)).setCell ⟨w6.heap.size, 1, none⟩ (.int .u64 y.every)).setCell ⟨w6.heap.size, 2, none⟩ (.int .u64 y.burst)).setCell ⟨w6.heap.size, 3, none⟩ (.int .u8 y.kind)) w6.heap.size 28 #[.string SR, .int .u64 y.every, .int .u64 y.burst, .int .u8 y.kind] := (((HG.out.set_ 0 _).set_ 1 _).set_ 2 _).set_ 3 _; have hZ : Below w6.heap.size w6 ((((z2.setCell ⟨w6.heap.size, 0, none⟩ (.string SR)).setCell ⟨w6.heap.size, 1, none⟩ (.int .u64 y.every)).setCell ⟨w6.heap.size, 2, none⟩ (.int .u64 y.burst)).setCell ⟨w6.heap.size, 3, none⟩ (.int .u8 y.kind)) := ((((HZ.out.setCell (p := ⟨_, 0, none⟩) HZ0.out.size _).setCell (p := ⟨_, 1, none⟩) HZ0.out.size _).setCell (p := ⟨_, 2, none⟩) HZ0.out.size _).setCell (p := ⟨_, 3, none⟩) HZ0.out.size _); clear hy0 y0 y1 y2 y3 yf0 yf1 yf2 yf3; generalize ((((z2.setCell ⟨w6.heap.size, 0, none⟩ (.string SR)).setCell ⟨w6.heap.size, 1, none⟩ (.int .u64 y.every)).setCell ⟨w6.heap.size, 2, none⟩ (.int .u64 y.burst)).setCell ⟨w6.heap.size, 3, none⟩ (.int .u8 y.kind)) = W at hG hZ ⊢; generalize hgg : w6.heap.size = g at hG ⊢; have hge : w6.heap.size ≤ g := by rw [← hgg]; exact HZ0.out.size)
        | (have hy0 : z2.cell? ⟨z1.heap.size, 0, none⟩ = some (.string ⟨#[]⟩) := y0; have hG : Blk ((((z2.setCell ⟨z1.heap.size, 0, none⟩ (.string SR)).setCell ⟨z1.heap.size, 1, none⟩ (.int .u64 y.every)).setCell ⟨z1.heap.size, 2, none⟩ (.int .u64 y.burst)).setCell ⟨z1.heap.size, 3, none⟩ (.int .u8 y.kind)) z1.heap.size 28 #[.string SR, .int .u64 y.every, .int .u64 y.burst, .int .u8 y.kind] := (((HG.out.set_ 0 _).set_ 1 _).set_ 2 _).set_ 3 _; have hZ : Below w6.heap.size w6 ((((z2.setCell ⟨z1.heap.size, 0, none⟩ (.string SR)).setCell ⟨z1.heap.size, 1, none⟩ (.int .u64 y.every)).setCell ⟨z1.heap.size, 2, none⟩ (.int .u64 y.burst)).setCell ⟨z1.heap.size, 3, none⟩ (.int .u8 y.kind)) := ((((HZ.out.setCell (p := ⟨_, 0, none⟩) HZ0.out.size _).setCell (p := ⟨_, 1, none⟩) HZ0.out.size _).setCell (p := ⟨_, 2, none⟩) HZ0.out.size _).setCell (p := ⟨_, 3, none⟩) HZ0.out.size _); clear hy0 y0 y1 y2 y3 yf0 yf1 yf2 yf3; generalize ((((z2.setCell ⟨z1.heap.size, 0, none⟩ (.string SR)).setCell ⟨z1.heap.size, 1, none⟩ (.int .u64 y.every)).setCell ⟨z1.heap.size, 2, none⟩ (.int .u64 y.burst)).setCell ⟨z1.heap.size, 3, none⟩ (.int .u8 y.kind)) = W at hG hZ ⊢; generalize hgg : z1.heap.size = g at hG ⊢; have hge : w6.heap.size ≤ g := by rw [← hgg]; exact HZ0.out.size)
        | (have hG := Blk.new z2 28 #[.string SR, .int .u64 y.every, .int .u64 y.burst, .int .u8 y.kind]; have hge := HZ0.out.size; have hZ := HZ0.out.alloc HZ0.out.size (.cells #[.string SR, .int .u64 y.every, .int .u64 y.burst, .int .u8 y.kind] 28); generalize z2.alloc (.cells #[.string SR, .int .u64 y.every, .int .u64 y.burst, .int .u8 y.kind] 28) = W at hG hZ ⊢; generalize z2.heap.size = g at hG hge ⊢)
      have HZ := Lib.hid hZ
      have HG := Lib.hid hG
      have HGE := Lib.hid hge
      clear hZ hG hge HZ0 HTT
      go_wp2_with fail
      refine (findnil_any _ _).mono ?_
      rintro e q1 ⟨rfl, hb⟩
      rw [show found none = .tuple #[.agg #[.string ⟨#[]⟩, .int .u64 0, .int .u64 0, .int .u8 0], .bool false] from rfl]
      have HZ1 := Lib.hid ((HZ.out.trans (hb.mono HZ.out.size)).alloc (Nat.le_trans HZ.out.size hb.size) (.cells zeroCells 28))
      have HG1 := Lib.hid ((HG.out.below hb HG.out.lt).alloc (.cells zeroCells 28))
      clear hb HG HZ
      go_wp2_with fail
      refine (new_any [] none 0 (by simp) (by intro x hx; cases hx) _ Row.nil_).mono ?_
      rintro e q2 ⟨rootn, rfl, hTn, hb⟩
      have HZ2 := Lib.hid (HZ1.out.trans (hb.mono HZ1.out.size))
      have HG2 := Lib.hid (HG1.out.below hb HG1.out.lt)
      have HTN := Lib.hid hTn
      clear hb hTn HG1 HZ1
      go_wp2_with fail
      refine (find_any _ _ rootn [] HTN.out a4 (by unfold big; omega)).mono ?_
      rintro e q3 ⟨o, rfl, ho, hb⟩
      obtain rfl : o = none := nil_find ho
      rw [show found none = .tuple #[.agg #[.string ⟨#[]⟩, .int .u64 0, .int .u64 0, .int .u8 0], .bool false] from rfl]
      have HZ3 := Lib.hid (HZ2.out.trans (hb.mono HZ2.out.size))
      have HG3 := Lib.hid (HG2.out.below hb HG2.out.lt)
      have cP3 := (HT6.out _ HZ3.out).2
      have lt3 : x1.heap.size < q3.heap.size := Nat.lt_of_lt_of_le P6.out.lt HZ3.out.size
      have hl1 : (1 : Int) ≤ L.length := by omega
      have hl1c : (L.length : Int) ≤ cp := by omega
      clear hb ho HTN HG2 HZ2
      go_wp2_with fail
      all_goals
        have hll : L.length - 1 = l.length := by rw [HL.out]; simp
        have HTAIL := Lib.hid (fun (W : World) (h : Below w6.heap.size w6 W) => show Row W W.heap.size (some ⟨b0, off + 4, none⟩) (rcells l) from by
          have hT := (ROWP.out W h).from_ 4
          rw [show (rcells L).drop 4 = rcells l by rw [HL.out]; rfl] at hT
          exact hT)
        have HTNIL := Lib.hid (fun (W : World) (A : Option Addr) (h : cp = 1) => show Row W W.heap.size A (rcells l) from by
          have : l = [] := List.eq_nil_of_length_eq_zero (by omega)
          rw [this]
          exact Row.nil_)
        rw [hll]
        refine (new_any l _ _ (by omega) (fun x hx => by have := HS.out x (by rw [HL.out]; exact List.mem_cons_of_mem _ hx); unfold big; omega) _ (by first | exact HTAIL.out _ (HZ3.out.alloc HZ3.out.size _) | exact HTNIL.out _ _ (by assumption))).mono ?_
        rintro e q4 ⟨roott, rfl, hTt, hb⟩
        have HZ4 := Lib.hid ((HZ3.out.alloc HZ3.out.size (.cells zeroCells 28)).trans (hb.mono (Nat.le_trans HZ3.out.size (by simp))))
        have HG4 := Lib.hid ((HG3.out.alloc (.cells zeroCells 28)).below hb (HG3.out.alloc (.cells zeroCells 28)).lt)
        have HTT := Lib.hid hTt
        clear hb hTt HG3 HZ3 HTAIL HTNIL hll cP3
        go_wp2_with fail
        refine (find_any _ _ roott l HTT.out ⟨#[]⟩ (by unfold big; decide)).mono ?_
        rintro e q5 ⟨o, rfl, ho, hb⟩
        have hon : o = none := by
          have hO := HON.out
          rw [HL.out] at hO
          exact tail_find hO rfl ho
        subst hon
        rw [show found none = .tuple #[.agg #[.string ⟨#[]⟩, .int .u64 0, .int .u64 0, .int .u8 0], .bool false] from rfl]
        have HZ5 := (HZ4.out.trans (hb.mono HZ4.out.size)).alloc (Nat.le_trans HZ4.out.size hb.size) (.cells zeroCells 28)
        have HG5 := (HG4.out.below hb HG4.out.lt).alloc (.cells zeroCells 28)
        clear hb ho HTT HG4 HZ4
        go_wp2_with fail
        generalize q5.alloc (.cells #[.string ⟨#[]⟩, .int .u64 0, .int .u64 0, .int .u8 0] 28) = X5 at HZ5 HG5 ⊢
        have HN2 := Lib.hid (fun W (h : Below X5.heap.size X5 W) => HN2.out W (HZ5.trans (h.mono HZ5.size)))
        have HS5 := Lib.hid (fun (W : World) (h : Below X5.heap.size X5 W) => show (W.cell? ⟨g, 0, none⟩ = some (.string SR) ∧ W.cell? ⟨g, 1, none⟩ = some (.int .u64 y.every) ∧ W.cell? ⟨g, 2, none⟩ = some (.int .u64 y.burst) ∧ W.cell? ⟨g, 3, none⟩ = some (.int .u8 y.kind)) ∧ (W.cell? ⟨b0, off + ix * 4, none⟩ = some (.string SR) ∧ W.cell? ⟨b0, off + ix * 4 + 1, none⟩ = some (.int .u64 y.every) ∧ W.cell? ⟨b0, off + ix * 4 + 2, none⟩ = some (.int .u64 y.burst) ∧ W.cell? ⟨b0, off + ix * 4 + 3, none⟩ = some (.int .u8 y.kind)) ∧ W.cell? ⟨x1.heap.size, 1, none⟩ = some (.slice (some ⟨b0, off, none⟩) L.length cp) from by
          have hg := HG5.below h HG5.lt
          have ht := HT6.out W (HZ5.trans (h.mono HZ5.size))
          exact ⟨⟨hg.cell 0, hg.cell 1, hg.cell 2, hg.cell 3⟩, ht.1, ht.2⟩)
        have HW6 := Lib.hid (HW6.out.trans (HZ5.mono HW6.out.size))
        have HZ := Lib.hid (show Below X5.heap.size X5 X5.drew from (Below.refl _ X5).drew)
        clear HZ5 HG5
        rename_i KF hKF
        have HKF := Lib.hid hKF
        clear hKF
        refine wp_region_held_drew (S := (fun w' => (w'.cell? ⟨g, 0, none⟩ = some (.string SR) ∧ w'.cell? ⟨g, 1, none⟩ = some (.int .u64 y.every) ∧ w'.cell? ⟨g, 2, none⟩ = some (.int .u64 y.burst) ∧ w'.cell? ⟨g, 3, none⟩ = some (.int .u8 y.kind)) ∧ (w'.cell? ⟨b0, off + ix * 4, none⟩ = some (.string SR) ∧ w'.cell? ⟨b0, off + ix * 4 + 1, none⟩ = some (.int .u64 y.every) ∧ w'.cell? ⟨b0, off + ix * 4 + 2, none⟩ = some (.int .u64 y.burst) ∧ w'.cell? ⟨b0, off + ix * 4 + 3, none⟩ = some (.int .u8 y.kind)) ∧ w'.cell? ⟨x1.heap.size, 1, none⟩ = some (.slice (some ⟨b0, off, none⟩) L.length cp))) (by kernel_rfl) ?_ (fun hHeld => ?_)
        · (try dsimp only)
          exact HS5.out _ HZ.out
        refine wpAnyH_ready (rs := [0]) (by kernel_rfl) (by simp) ?_
        refine (AllReadyH.cons (o := ({ dst := some 80, op := Op.call { callee := Callee.value (Operand.func 8), args := #[], argTypes := #[] }, type := 4, pos := "law.go:89", after := #[], guard := none } : Oper)) rfl (fun K hK => ?_) AllReadyH.nil)
        go_simp
        refine (known_any _).mono ?_; rintro e u1 ⟨rfl, hb⟩; have HZ := Lib.hid (HZ.out.trans (hb.mono HZ.out.size)); clear hb; go_wp2_with fail
        refine hK.out _ _ ?_ (fun hHeld => ?_)
        · (try dsimp only)
          exact HS5.out _ HZ.out
        clear hK K
        try simp only [Act.put, List.setIfInBounds_toArray, List.set_cons_zero, List.set_cons_succ]
        refine wpAnyH_take (i := 1) (oi := ({ dst := some 81, op := Op.move (Operand.tmp 80), type := 4, pos := "law.go:89", after := #[{ on := 0, ground := Ground.data }, { on := 0, ground := Ground.chain }], guard := none } : Oper)) (v := ?_) rfl (by kernel_rfl) (by kernel_rfl) (by kernel_rfl) (fun _ _ _ h => h) (Or.inl ⟨by kernel_rfl, ?_⟩) (by assumption) ?_
        rotate_left
        · (intro w hSw; (try dsimp only at hSw); go_simp)
          all_goals (with_reducible rfl)
        try simp only [Act.put, List.setIfInBounds_toArray, List.set_cons_zero, List.set_cons_succ]
        refine wpAnyH_take (i := 2) (oi := ({ dst := some 82, op := Op.move (Operand.tmp 16), type := 4, pos := "law.go:89", after := #[{ on := 1, ground := Ground.guard }], guard := some (1, true) } : Oper)) (v := ?_) rfl (by kernel_rfl) (by kernel_rfl) (by kernel_rfl) (fun _ _ _ h => h) (Or.inl ⟨by kernel_rfl, ?_⟩) (by assumption) ?_
        rotate_left
        · (intro w hSw; (try dsimp only at hSw); go_simp)
          all_goals (with_reducible rfl)
        try simp only [Act.put, List.setIfInBounds_toArray, List.set_cons_zero, List.set_cons_succ]
        refine wpAnyH_take (i := 3) (oi := ({ dst := some 83, op := Op.pick (Operand.tmp 81) (Operand.tmp 82) (Operand.const (Value.bool false)), type := 4, pos := "law.go:89", after := #[{ on := 1, ground := Ground.data }, { on := 2, ground := Ground.data }], guard := none } : Oper)) (v := ?_) rfl (by kernel_rfl) (by kernel_rfl) (by kernel_rfl) (fun _ _ _ h => h) (Or.inl ⟨by kernel_rfl, ?_⟩) (by assumption) ?_
        rotate_left
        · (intro w hSw; (try dsimp only at hSw); go_simp)
          all_goals (with_reducible rfl)
        try simp only [Act.put, List.setIfInBounds_toArray, List.set_cons_zero, List.set_cons_succ]
        refine wpAnyH_take (i := 4) (oi := ({ dst := some 84, op := Op.move (Operand.tmp 83), type := 4, pos := "law.go:89", after := #[{ on := 3, ground := Ground.data }, { on := 1, ground := Ground.chain }], guard := none } : Oper)) (v := ?_) rfl (by kernel_rfl) (by kernel_rfl) (by kernel_rfl) (fun _ _ _ h => h) (Or.inl ⟨by kernel_rfl, ?_⟩) (by assumption) ?_
        rotate_left
        · (intro w hSw; (try dsimp only at hSw); go_simp)
          all_goals (with_reducible rfl)
        try simp only [Act.put, List.setIfInBounds_toArray, List.set_cons_zero, List.set_cons_succ]
        refine wpAnyH_take (i := 5) (oi := ({ dst := some 85, op := Op.load 28 (Operand.tmp 15), type := 28, pos := "law.go:89", after := #[{ on := 4, ground := Ground.guard }], guard := some (4, true) } : Oper)) (v := ?_) rfl (by kernel_rfl) (by kernel_rfl) (by kernel_rfl) (fun _ _ _ h => h) (Or.inl ⟨by kernel_rfl, ?_⟩) (by assumption) ?_
        rotate_left
        · (intro w hSw; (try dsimp only at hSw); go_simp)
          all_goals (with_reducible rfl)
        try simp only [Act.put, List.setIfInBounds_toArray, List.set_cons_zero, List.set_cons_succ]
        refine wpAnyH_take (i := 6) (oi := ({ dst := some 86, op := Op.fieldAddr 31 (Operand.tmp 11) 1, type := 0, pos := "law.go:89", after := #[{ on := 4, ground := Ground.guard }], guard := some (4, true) } : Oper)) (v := ?_) rfl (by kernel_rfl) (by kernel_rfl) (by kernel_rfl) (fun _ _ _ h => h) (Or.inl ⟨by kernel_rfl, ?_⟩) (by assumption) ?_
        rotate_left
        · (intro w hSw; (try dsimp only at hSw); go_simp)
          all_goals (with_reducible rfl)
        try simp only [Act.put, List.setIfInBounds_toArray, List.set_cons_zero, List.set_cons_succ]
        refine wpAnyH_take (i := 7) (oi := ({ dst := some 87, op := Op.load 22 (Operand.tmp 86), type := 22, pos := "law.go:89", after := #[{ on := 6, ground := Ground.data }, { on := 4, ground := Ground.guard }], guard := some (4, true) } : Oper)) (v := ?_) rfl (by kernel_rfl) (by kernel_rfl) (by kernel_rfl) (fun _ _ _ h => h) (Or.inl ⟨by kernel_rfl, ?_⟩) (by assumption) ?_
        rotate_left
        · (intro w hSw; (try dsimp only at hSw); go_simp)
          all_goals (with_reducible rfl)
        try simp only [Act.put, List.setIfInBounds_toArray, List.set_cons_zero, List.set_cons_succ]
        refine wpAnyH_take (i := 8) (oi := ({ dst := some 88, op := Op.move (Operand.tmp 12), type := 3, pos := "law.go:89", after := #[{ on := 4, ground := Ground.guard }], guard := some (4, true) } : Oper)) (v := ?_) rfl (by kernel_rfl) (by kernel_rfl) (by kernel_rfl) (fun _ _ _ h => h) (Or.inl ⟨by kernel_rfl, ?_⟩) (by assumption) ?_
        rotate_left
        · (intro w hSw; (try dsimp only at hSw); go_simp)
          all_goals (with_reducible rfl)
        try simp only [Act.put, List.setIfInBounds_toArray, List.set_cons_zero, List.set_cons_succ]
        refine wpAnyH_take (i := 9) (oi := ({ dst := some 89, op := Op.indexAddr 22 (Operand.tmp 87) (Operand.tmp 88), type := 0, pos := "law.go:89", after := #[{ on := 7, ground := Ground.data }, { on := 8, ground := Ground.data }, { on := 4, ground := Ground.guard }], guard := some (4, true) } : Oper)) (v := ?_) rfl (by kernel_rfl) (by kernel_rfl) (by kernel_rfl) (fun _ _ _ h => h) (Or.inl ⟨by kernel_rfl, ?_⟩) (by assumption) ?_
        rotate_left
        · (intro w hSw; (try dsimp only at hSw); go_simp)
          all_goals (with_reducible rfl)
        try simp only [Act.put, List.setIfInBounds_toArray, List.set_cons_zero, List.set_cons_succ]
        refine wpAnyH_take (i := 10) (oi := ({ dst := some 90, op := Op.load 28 (Operand.tmp 89), type := 28, pos := "law.go:89", after := #[{ on := 9, ground := Ground.data }, { on := 4, ground := Ground.guard }], guard := some (4, true) } : Oper)) (v := ?_) rfl (by kernel_rfl) (by kernel_rfl) (by kernel_rfl) (fun _ _ _ h => h) (Or.inl ⟨by kernel_rfl, ?_⟩) (by assumption) ?_
        rotate_left
        · (intro w hSw; (try dsimp only at hSw); go_simp)
          all_goals (with_reducible rfl)
        try simp only [Act.put, List.setIfInBounds_toArray, List.set_cons_zero, List.set_cons_succ]
        refine wpAnyH_take (i := 11) (oi := ({ dst := some 91, op := Op.binOp BinOp.eql 28 (Operand.tmp 85) (Operand.tmp 90) 28, type := 4, pos := "law.go:89", after := #[{ on := 5, ground := Ground.data }, { on := 10, ground := Ground.data }, { on := 4, ground := Ground.guard }], guard := some (4, true) } : Oper)) (v := ?_) rfl (by kernel_rfl) (by kernel_rfl) (by kernel_rfl) (fun _ _ _ h => h) (Or.inl ⟨by kernel_rfl, ?_⟩) (by assumption) ?_
        rotate_left
        · (intro w hSw; (try dsimp only at hSw); go_simp)
          all_goals (with_reducible rfl)
        try simp only [Act.put, List.setIfInBounds_toArray, List.set_cons_zero, List.set_cons_succ]
        refine wpAnyH_take (i := 12) (oi := ({ dst := some 92, op := Op.pick (Operand.tmp 84) (Operand.tmp 91) (Operand.const (Value.bool false)), type := 4, pos := "law.go:89", after := #[{ on := 4, ground := Ground.data }, { on := 11, ground := Ground.data }], guard := none } : Oper)) (v := ?_) rfl (by kernel_rfl) (by kernel_rfl) (by kernel_rfl) (fun _ _ _ h => h) (Or.inl ⟨by kernel_rfl, ?_⟩) (by assumption) ?_
        rotate_left
        · (intro w hSw; (try dsimp only at hSw); go_simp)
          all_goals (with_reducible rfl)
        try simp only [Act.put, List.setIfInBounds_toArray, List.set_cons_zero, List.set_cons_succ]
        refine wpAnyH_take (i := 13) (oi := ({ dst := some 93, op := Op.move (Operand.tmp 92), type := 4, pos := "law.go:89", after := #[{ on := 12, ground := Ground.data }, { on := 4, ground := Ground.chain }], guard := none } : Oper)) (v := ?_) rfl (by kernel_rfl) (by kernel_rfl) (by kernel_rfl) (fun _ _ _ h => h) (Or.inl ⟨by kernel_rfl, ?_⟩) (by assumption) ?_
        rotate_left
        · (intro w hSw; (try dsimp only at hSw); go_simp)
          all_goals (with_reducible rfl)
        try simp only [Act.put, List.setIfInBounds_toArray, List.set_cons_zero, List.set_cons_succ]
        refine wpAnyH_take (i := 14) (oi := ({ dst := some 94, op := Op.move (Operand.tmp 14), type := 22, pos := "law.go:89", after := #[{ on := 13, ground := Ground.guard }], guard := some (13, true) } : Oper)) (v := ?_) rfl (by kernel_rfl) (by kernel_rfl) (by kernel_rfl) (fun _ _ _ h => h) (Or.inl ⟨by kernel_rfl, ?_⟩) (by assumption) ?_
        rotate_left
        · (intro w hSw; (try dsimp only at hSw); go_simp)
          all_goals (with_reducible rfl)
        try simp only [Act.put, List.setIfInBounds_toArray, List.set_cons_zero, List.set_cons_succ]
        refine wpAnyH_take (i := 17) (oi := ({ dst := some 97, op := Op.fieldAddr 31 (Operand.tmp 11) 1, type := 0, pos := "law.go:89", after := #[{ on := 13, ground := Ground.guard }], guard := some (13, true) } : Oper)) (v := ?_) rfl (by kernel_rfl) (by kernel_rfl) (by kernel_rfl) (fun _ _ _ h => h) (Or.inl ⟨by kernel_rfl, ?_⟩) (by assumption) ?_
        rotate_left
        · (intro w hSw; (try dsimp only at hSw); go_simp)
          all_goals (with_reducible rfl)
        try simp only [Act.put, List.setIfInBounds_toArray, List.set_cons_zero, List.set_cons_succ]
        refine wpAnyH_take (i := 18) (oi := ({ dst := some 98, op := Op.load 22 (Operand.tmp 97), type := 22, pos := "law.go:89", after := #[{ on := 17, ground := Ground.data }, { on := 13, ground := Ground.guard }], guard := some (13, true) } : Oper)) (v := ?_) rfl (by kernel_rfl) (by kernel_rfl) (by kernel_rfl) (fun _ _ _ h => h) (Or.inl ⟨by kernel_rfl, ?_⟩) (by assumption) ?_
        rotate_left
        · (intro w hSw; (try dsimp only at hSw); go_simp)
          all_goals (with_reducible rfl)
        try simp only [Act.put, List.setIfInBounds_toArray, List.set_cons_zero, List.set_cons_succ]
        refine wpAnyH_take (i := 19) (oi := ({ dst := some 99, op := Op.call { callee := Callee.builtin Builtin.len, args := #[Operand.tmp 98], argTypes := #[22] }, type := 3, pos := "law.go:89", after := #[{ on := 18, ground := Ground.data }, { on := 13, ground := Ground.guard }], guard := some (13, true) } : Oper)) (v := ?_) rfl (by kernel_rfl) (by kernel_rfl) (by kernel_rfl) (fun _ _ _ h => h) (Or.inl ⟨by kernel_rfl, ?_⟩) (by assumption) ?_
        rotate_left
        · (intro w hSw; (try dsimp only at hSw); go_simp)
          all_goals (with_reducible rfl)
        try simp only [Act.put, List.setIfInBounds_toArray, List.set_cons_zero, List.set_cons_succ]
        refine wpAnyH_ready (rs := [15]) (by kernel_rfl) (by simp) ?_
        refine (AllReadyH.cons (o := ({ dst := some 95, op := Op.call { callee := Callee.value (Operand.func 12), args := #[Operand.tmp 94], argTypes := #[22] }, type := 37, pos := "law.go:89", after := #[{ on := 14, ground := Ground.data }, { on := 13, ground := Ground.chain }, { on := 13, ground := Ground.guard }], guard := some (13, true) } : Oper)) rfl (fun K hK => ?_) AllReadyH.nil)
        go_simp
        refine (HN2.out _ HZ.out).mono ?_; rintro e u2 ⟨root5, rfl, hT, hb⟩; have HTT := Lib.hid hT; have HZ := Lib.hid (HZ.out.trans (hb.mono HZ.out.size)); clear hb hT; go_wp2_with fail
        refine hK.out _ _ ?_ (fun hHeld => ?_)
        · (try dsimp only)
          exact HS5.out _ HZ.out
        clear hK K
        try simp only [Act.put, List.setIfInBounds_toArray, List.set_cons_zero, List.set_cons_succ]
        refine wpAnyH_ready (rs := [16]) (by kernel_rfl) (by simp) ?_
        refine (AllReadyH.cons (o := ({ dst := some 96, op := Op.call { callee := Callee.value (Operand.func 14), args := #[Operand.tmp 95], argTypes := #[37] }, type := 3, pos := "law.go:89", after := #[{ on := 15, ground := Ground.data }, { on := 15, ground := Ground.chain }, { on := 13, ground := Ground.guard }], guard := some (13, true) } : Oper)) rfl (fun K hK => ?_) AllReadyH.nil)
        go_simp
        refine (len_any _ _ root5 (L ++ [R]) HTT.out).mono ?_; rintro e u3 ⟨rfl, hb⟩; have HZ := Lib.hid (HZ.out.trans (hb.mono HZ.out.size)); rw [LEN.out]; clear hb; go_wp2_with fail
        refine hK.out _ _ ?_ (fun hHeld => ?_)
        · (try dsimp only)
          exact HS5.out _ HZ.out
        clear hK K
        try simp only [Act.put, List.setIfInBounds_toArray, List.set_cons_zero, List.set_cons_succ]
        refine wpAnyH_take (i := 20) (oi := ({ dst := some 100, op := Op.binOp BinOp.eql 3 (Operand.tmp 96) (Operand.tmp 99) 3, type := 4, pos := "law.go:89", after := #[{ on := 16, ground := Ground.data }, { on := 19, ground := Ground.data }, { on := 13, ground := Ground.guard }], guard := some (13, true) } : Oper)) (v := ?_) rfl (by kernel_rfl) (by kernel_rfl) (by kernel_rfl) (fun _ _ _ h => h) (Or.inl ⟨by kernel_rfl, ?_⟩) (by assumption) ?_
        rotate_left
        · (intro w hSw; (try dsimp only at hSw); go_simp)
          all_goals (with_reducible rfl)
        try simp only [Act.put, List.setIfInBounds_toArray, List.set_cons_zero, List.set_cons_succ]
        refine wpAnyH_take (i := 21) (oi := ({ dst := some 101, op := Op.pick (Operand.tmp 93) (Operand.tmp 100) (Operand.const (Value.bool false)), type := 4, pos := "law.go:89", after := #[{ on := 13, ground := Ground.data }, { on := 20, ground := Ground.data }], guard := none } : Oper)) (v := ?_) rfl (by kernel_rfl) (by kernel_rfl) (by kernel_rfl) (fun _ _ _ h => h) (Or.inl ⟨by kernel_rfl, ?_⟩) (by assumption) ?_
        rotate_left
        · (intro w hSw; (try dsimp only at hSw); go_simp)
          all_goals (with_reducible rfl)
        try simp only [Act.put, List.setIfInBounds_toArray, List.set_cons_zero, List.set_cons_succ]
        refine wpAnyH_take (i := 22) (oi := ({ dst := some 102, op := Op.move (Operand.tmp 101), type := 4, pos := "law.go:89", after := #[{ on := 21, ground := Ground.data }, { on := 16, ground := Ground.chain }], guard := none } : Oper)) (v := ?_) rfl (by kernel_rfl) (by kernel_rfl) (by kernel_rfl) (fun _ _ _ h => h) (Or.inl ⟨by kernel_rfl, ?_⟩) (by assumption) ?_
        rotate_left
        · (intro w hSw; (try dsimp only at hSw); go_simp)
          all_goals (with_reducible rfl)
        try simp only [Act.put, List.setIfInBounds_toArray, List.set_cons_zero, List.set_cons_succ]
        refine wpAnyH_take (i := 23) (oi := ({ dst := some 103, op := Op.move (Operand.tmp 19), type := 4, pos := "law.go:89", after := #[{ on := 22, ground := Ground.guard }], guard := some (22, true) } : Oper)) (v := ?_) rfl (by kernel_rfl) (by kernel_rfl) (by kernel_rfl) (fun _ _ _ h => h) (Or.inl ⟨by kernel_rfl, ?_⟩) (by assumption) ?_
        rotate_left
        · (intro w hSw; (try dsimp only at hSw); go_simp)
          all_goals (with_reducible rfl)
        try simp only [Act.put, List.setIfInBounds_toArray, List.set_cons_zero, List.set_cons_succ]
        refine wpAnyH_take (i := 24) (oi := ({ dst := some 104, op := Op.unOp UnOp.not 4 (Operand.tmp 103), type := 4, pos := "law.go:89", after := #[{ on := 23, ground := Ground.data }, { on := 22, ground := Ground.guard }], guard := some (22, true) } : Oper)) (v := ?_) rfl (by kernel_rfl) (by kernel_rfl) (by kernel_rfl) (fun _ _ _ h => h) (Or.inl ⟨by kernel_rfl, ?_⟩) (by assumption) ?_
        rotate_left
        · (intro w hSw; (try dsimp only at hSw); go_simp)
          all_goals (with_reducible rfl)
        try simp only [Act.put, List.setIfInBounds_toArray, List.set_cons_zero, List.set_cons_succ]
        refine wpAnyH_take (i := 25) (oi := ({ dst := some 105, op := Op.pick (Operand.tmp 102) (Operand.tmp 104) (Operand.const (Value.bool false)), type := 4, pos := "law.go:89", after := #[{ on := 22, ground := Ground.data }, { on := 24, ground := Ground.data }], guard := none } : Oper)) (v := ?_) rfl (by kernel_rfl) (by kernel_rfl) (by kernel_rfl) (fun _ _ _ h => h) (Or.inl ⟨by kernel_rfl, ?_⟩) (by assumption) ?_
        rotate_left
        · (intro w hSw; (try dsimp only at hSw); go_simp)
          all_goals (with_reducible rfl)
        try simp only [Act.put, List.setIfInBounds_toArray, List.set_cons_zero, List.set_cons_succ]
        refine wpAnyH_take (i := 26) (oi := ({ dst := some 106, op := Op.move (Operand.tmp 105), type := 4, pos := "law.go:89", after := #[{ on := 25, ground := Ground.data }, { on := 22, ground := Ground.chain }], guard := none } : Oper)) (v := ?_) rfl (by kernel_rfl) (by kernel_rfl) (by kernel_rfl) (fun _ _ _ h => h) (Or.inl ⟨by kernel_rfl, ?_⟩) (by assumption) ?_
        rotate_left
        · (intro w hSw; (try dsimp only at hSw); go_simp)
          all_goals (with_reducible rfl)
        try simp only [Act.put, List.setIfInBounds_toArray, List.set_cons_zero, List.set_cons_succ]
        refine wpAnyH_take (i := 27) (oi := ({ dst := some 107, op := Op.move (Operand.tmp 21), type := 4, pos := "law.go:89", after := #[{ on := 26, ground := Ground.guard }], guard := some (26, true) } : Oper)) (v := ?_) rfl (by kernel_rfl) (by kernel_rfl) (by kernel_rfl) (fun _ _ _ h => h) (Or.inl ⟨by kernel_rfl, ?_⟩) (by assumption) ?_
        rotate_left
        · (intro w hSw; (try dsimp only at hSw); go_simp)
          all_goals (with_reducible rfl)
        try simp only [Act.put, List.setIfInBounds_toArray, List.set_cons_zero, List.set_cons_succ]
        refine wpAnyH_take (i := 28) (oi := ({ dst := some 108, op := Op.unOp UnOp.not 4 (Operand.tmp 107), type := 4, pos := "law.go:89", after := #[{ on := 27, ground := Ground.data }, { on := 26, ground := Ground.guard }], guard := some (26, true) } : Oper)) (v := ?_) rfl (by kernel_rfl) (by kernel_rfl) (by kernel_rfl) (fun _ _ _ h => h) (Or.inl ⟨by kernel_rfl, ?_⟩) (by assumption) ?_
        rotate_left
        · (intro w hSw; (try dsimp only at hSw); go_simp)
          all_goals (with_reducible rfl)
        try simp only [Act.put, List.setIfInBounds_toArray, List.set_cons_zero, List.set_cons_succ]
        refine wpAnyH_take (i := 29) (oi := ({ dst := some 109, op := Op.pick (Operand.tmp 106) (Operand.tmp 108) (Operand.const (Value.bool false)), type := 4, pos := "law.go:89", after := #[{ on := 26, ground := Ground.data }, { on := 28, ground := Ground.data }], guard := none } : Oper)) (v := ?_) rfl (by kernel_rfl) (by kernel_rfl) (by kernel_rfl) (fun _ _ _ h => h) (Or.inl ⟨by kernel_rfl, ?_⟩) (by assumption) ?_
        rotate_left
        · (intro w hSw; (try dsimp only at hSw); go_simp)
          all_goals (with_reducible rfl)
        try simp only [Act.put, List.setIfInBounds_toArray, List.set_cons_zero, List.set_cons_succ]
        refine wpAnyH_take (i := 30) (oi := ({ dst := some 110, op := Op.move (Operand.tmp 109), type := 4, pos := "law.go:89", after := #[{ on := 29, ground := Ground.data }, { on := 26, ground := Ground.chain }], guard := none } : Oper)) (v := ?_) rfl (by kernel_rfl) (by kernel_rfl) (by kernel_rfl) (fun _ _ _ h => h) (Or.inl ⟨by kernel_rfl, ?_⟩) (by assumption) ?_
        rotate_left
        · (intro w hSw; (try dsimp only at hSw); go_simp)
          all_goals (with_reducible rfl)
        try simp only [Act.put, List.setIfInBounds_toArray, List.set_cons_zero, List.set_cons_succ]
        refine wpAnyH_take (i := 31) (oi := ({ dst := some 111, op := Op.move (Operand.tmp 23), type := 4, pos := "law.go:89", after := #[{ on := 30, ground := Ground.guard }], guard := some (30, true) } : Oper)) (v := ?_) rfl (by kernel_rfl) (by kernel_rfl) (by kernel_rfl) (fun _ _ _ h => h) (Or.inl ⟨by kernel_rfl, ?_⟩) (by assumption) ?_
        rotate_left
        · (intro w hSw; (try dsimp only at hSw); go_simp)
          all_goals (with_reducible rfl)
        try simp only [Act.put, List.setIfInBounds_toArray, List.set_cons_zero, List.set_cons_succ]
        refine wpAnyH_take (i := 32) (oi := ({ dst := some 112, op := Op.unOp UnOp.not 4 (Operand.tmp 111), type := 4, pos := "law.go:89", after := #[{ on := 31, ground := Ground.data }, { on := 30, ground := Ground.guard }], guard := some (30, true) } : Oper)) (v := ?_) rfl (by kernel_rfl) (by kernel_rfl) (by kernel_rfl) (fun _ _ _ h => h) (Or.inl ⟨by kernel_rfl, ?_⟩) (by assumption) ?_
        rotate_left
        · (intro w hSw; (try dsimp only at hSw); go_simp)
          all_goals (with_reducible rfl)
        try simp only [Act.put, List.setIfInBounds_toArray, List.set_cons_zero, List.set_cons_succ]
        refine wpAnyH_take (i := 33) (oi := ({ dst := some 113, op := Op.pick (Operand.tmp 110) (Operand.tmp 112) (Operand.const (Value.bool false)), type := 4, pos := "law.go:89", after := #[{ on := 30, ground := Ground.data }, { on := 32, ground := Ground.data }], guard := none } : Oper)) (v := ?_) rfl (by kernel_rfl) (by kernel_rfl) (by kernel_rfl) (fun _ _ _ h => h) (Or.inl ⟨by kernel_rfl, ?_⟩) (by assumption) ?_
        rotate_left
        · (intro w hSw; (try dsimp only at hSw); go_simp)
          all_goals (with_reducible rfl)
        try simp only [Act.put, List.setIfInBounds_toArray, List.set_cons_zero, List.set_cons_succ]
        refine wpAnyH_take (i := 34) (oi := ({ dst := some 114, op := Op.move (Operand.tmp 113), type := 4, pos := "law.go:89", after := #[{ on := 33, ground := Ground.data }, { on := 30, ground := Ground.chain }], guard := none } : Oper)) (v := ?_) rfl (by kernel_rfl) (by kernel_rfl) (by kernel_rfl) (fun _ _ _ h => h) (Or.inl ⟨by kernel_rfl, ?_⟩) (by assumption) ?_
        rotate_left
        · (intro w hSw; (try dsimp only at hSw); go_simp)
          all_goals (with_reducible rfl)
        try simp only [Act.put, List.setIfInBounds_toArray, List.set_cons_zero, List.set_cons_succ]
        refine wpAnyH_take (i := 35) (oi := ({ dst := some 115, op := Op.move (Operand.tmp 17), type := 37, pos := "law.go:89", after := #[{ on := 34, ground := Ground.guard }], guard := some (34, true) } : Oper)) (v := ?_) rfl (by kernel_rfl) (by kernel_rfl) (by kernel_rfl) (fun _ _ _ h => h) (Or.inl ⟨by kernel_rfl, ?_⟩) (by assumption) ?_
        rotate_left
        · (intro w hSw; (try dsimp only at hSw); go_simp)
          all_goals (with_reducible rfl)
        try simp only [Act.put, List.setIfInBounds_toArray, List.set_cons_zero, List.set_cons_succ]
        refine wpAnyH_ready (rs := [36]) (by kernel_rfl) (by simp) ?_
        refine (AllReadyH.cons (o := ({ dst := some 116, op := Op.call { callee := Callee.value (Operand.func 14), args := #[Operand.tmp 115], argTypes := #[37] }, type := 3, pos := "law.go:89", after := #[{ on := 35, ground := Ground.data }, { on := 34, ground := Ground.chain }, { on := 34, ground := Ground.guard }], guard := some (34, true) } : Oper)) rfl (fun K hK => ?_) AllReadyH.nil)
        go_simp
        refine (lennil_any _).mono ?_; rintro e u4 ⟨rfl, hb⟩; have HZ := Lib.hid (HZ.out.trans (hb.mono HZ.out.size)); clear hb; go_wp2_with fail
        refine hK.out _ _ ?_ (fun hHeld => ?_)
        · (try dsimp only)
          exact HS5.out _ HZ.out
        clear hK K
        try simp only [Act.put, List.setIfInBounds_toArray, List.set_cons_zero, List.set_cons_succ]
        refine wpAnyH_take (i := 37) (oi := ({ dst := some 117, op := Op.binOp BinOp.eql 3 (Operand.tmp 116) (Operand.const (Value.int IntKind.i64 0)) 3, type := 4, pos := "law.go:89", after := #[{ on := 36, ground := Ground.data }, { on := 34, ground := Ground.guard }], guard := some (34, true) } : Oper)) (v := ?_) rfl (by kernel_rfl) (by kernel_rfl) (by kernel_rfl) (fun _ _ _ h => h) (Or.inl ⟨by kernel_rfl, ?_⟩) (by assumption) ?_
        rotate_left
        · (intro w hSw; (try dsimp only at hSw); go_simp)
          all_goals (with_reducible rfl)
        try simp only [Act.put, List.setIfInBounds_toArray, List.set_cons_zero, List.set_cons_succ]
        refine wpAnyH_take (i := 38) (oi := ({ dst := some 118, op := Op.pick (Operand.tmp 114) (Operand.tmp 117) (Operand.const (Value.bool false)), type := 4, pos := "law.go:89", after := #[{ on := 34, ground := Ground.data }, { on := 37, ground := Ground.data }], guard := none } : Oper)) (v := ?_) rfl (by kernel_rfl) (by kernel_rfl) (by kernel_rfl) (fun _ _ _ h => h) (Or.inl ⟨by kernel_rfl, ?_⟩) (by assumption) ?_
        rotate_left
        · (intro w hSw; (try dsimp only at hSw); go_simp)
          all_goals (with_reducible rfl)
        try simp only [Act.put, List.setIfInBounds_toArray, List.set_cons_zero, List.set_cons_succ]
        refine wpAnyH_take (i := 39) (oi := ({ dst := some 10, op := Op.assign (Operand.tmp 118), type := 4, pos := "law.go:89", after := #[{ on := 38, ground := Ground.data }, { on := 36, ground := Ground.chain }, { on := 0, ground := Ground.phase }, { on := 1, ground := Ground.phase }, { on := 2, ground := Ground.phase }, { on := 3, ground := Ground.phase }, { on := 4, ground := Ground.phase }, { on := 5, ground := Ground.phase }, { on := 6, ground := Ground.phase }, { on := 7, ground := Ground.phase }, { on := 8, ground := Ground.phase }, { on := 9, ground := Ground.phase }, { on := 10, ground := Ground.phase }, { on := 11, ground := Ground.phase }, { on := 12, ground := Ground.phase }, { on := 13, ground := Ground.phase }, { on := 14, ground := Ground.phase }, { on := 15, ground := Ground.phase }, { on := 16, ground := Ground.phase }, { on := 17, ground := Ground.phase }, { on := 18, ground := Ground.phase }, { on := 19, ground := Ground.phase }, { on := 20, ground := Ground.phase }, { on := 21, ground := Ground.phase }, { on := 22, ground := Ground.phase }, { on := 23, ground := Ground.phase }, { on := 24, ground := Ground.phase }, { on := 25, ground := Ground.phase }, { on := 26, ground := Ground.phase }, { on := 27, ground := Ground.phase }, { on := 28, ground := Ground.phase }, { on := 29, ground := Ground.phase }, { on := 30, ground := Ground.phase }, { on := 31, ground := Ground.phase }, { on := 32, ground := Ground.phase }, { on := 33, ground := Ground.phase }, { on := 34, ground := Ground.phase }, { on := 35, ground := Ground.phase }, { on := 36, ground := Ground.phase }, { on := 37, ground := Ground.phase }, { on := 38, ground := Ground.phase }], guard := none } : Oper)) (v := ?_) rfl (by kernel_rfl) (by kernel_rfl) (by kernel_rfl) (fun _ _ _ h => h) (Or.inl ⟨by kernel_rfl, ?_⟩) (by assumption) ?_
        rotate_left
        · (intro w hSw; (try dsimp only at hSw); go_simp)
          all_goals (with_reducible rfl)
        try simp only [Act.put, List.setIfInBounds_toArray, List.set_cons_zero, List.set_cons_succ]
        refine wpAnyH_done (by kernel_rfl) ?_ _
        change KF _ _
        refine HKF.out _ _ ?_
        go_wp2
        go_ret
        exact ⟨rfl, HW6.out.trans (HZ.out.mono HW6.out.size)⟩
  · go_simp
    have HZ0 := HZ; have HG := Lib.hid (blk_zero HZ.out); have HZ := Lib.hid (HZ.out.alloc HZ.out.size (.cells zeroCells 28)); (try have HTT := Lib.hid (HTT.out.below ((Below.refl _ _).alloc (Nat.le_refl _) (.cells zeroCells 28))))
    refine hK.out _ _ ?_ (fun hHeld => ?_)
    · (try dsimp only)
      first | exact HSB.out _ HZ.out | exact HSB.out _ (HZ0.out.alloc HZ0.out.size _) | exact HSB.out _ ((((HZ.out.setCell (p := ⟨_, 0, none⟩) HZ0.out.size _).setCell (p := ⟨_, 1, none⟩) HZ0.out.size _).setCell (p := ⟨_, 2, none⟩) HZ0.out.size _).setCell (p := ⟨_, 3, none⟩) HZ0.out.size _)
    clear hK K
    try simp only [Act.put, List.setIfInBounds_toArray, List.set_cons_zero, List.set_cons_succ]
    refine wpAnyH_ready (rs := [1]) (by kernel_rfl) (by simp) ?_
    refine (AllReadyH.cons (o := ({ dst := some 54, op := Op.call { callee := Callee.value (Operand.func 12), args := #[Operand.tmp 53], argTypes := #[22] }, type := 37, pos := "law.go:84", after := #[{ on := 0, ground := Ground.data }], guard := none } : Oper)) rfl (fun K hK => ?_) AllReadyH.nil)
    go_simp
    refine (HN2.out _ HZ.out).mono ?_; rintro e z1 ⟨root, rfl, hT, hb⟩; have HTT := Lib.hid hT; (try have HG := Lib.hid (HG.out.below hb HG.out.lt)); have HZ := Lib.hid (HZ.out.trans (hb.mono HZ.out.size)); clear hb hT; go_wp2_with fail
    refine hK.out _ _ ?_ (fun hHeld => ?_)
    · (try dsimp only)
      first | exact HSB.out _ HZ.out | exact HSB.out _ (HZ0.out.alloc HZ0.out.size _) | exact HSB.out _ ((((HZ.out.setCell (p := ⟨_, 0, none⟩) HZ0.out.size _).setCell (p := ⟨_, 1, none⟩) HZ0.out.size _).setCell (p := ⟨_, 2, none⟩) HZ0.out.size _).setCell (p := ⟨_, 3, none⟩) HZ0.out.size _)
    clear hK K
    try simp only [Act.put, List.setIfInBounds_toArray, List.set_cons_zero, List.set_cons_succ]
    refine wpAnyH_ready (rs := [4]) (by kernel_rfl) (by simp) ?_
    refine (AllReadyH.cons (o := ({ dst := some 57, op := Op.call { callee := Callee.value (Operand.func 13), args := #[Operand.tmp 54, Operand.tmp 56], argTypes := #[37, 9] }, type := 36, pos := "law.go:84", after := #[{ on := 1, ground := Ground.data }, { on := 3, ground := Ground.data }, { on := 1, ground := Ground.chain }], guard := none } : Oper)) rfl (fun K hK => ?_) AllReadyH.nil)
    go_simp
    refine (find_any _ _ root (L ++ [R]) HTT.out SR (by unfold big; omega)).mono ?_; rintro e z2 ⟨o, rfl, ho, hb⟩; (try (have HG := Lib.hid (HG.out.below hb HG.out.lt); have hzz := zero_at HG.out; (try simp only [show w6.drew.heap.size = w6.heap.size from rfl] at hzz); obtain ⟨y0, y1, y2, y3, yf⟩ := hzz; have yf0 := yf 0; have yf1 := yf 1; have yf2 := yf 2; have yf3 := yf 3; clear yf)); have HZ := Lib.hid (HZ.out.trans (hb.mono HZ.out.size)); obtain rfl : o = some y := isFind_uni ho FIND.out; rw [FY.out]; clear hb ho; go_wp2_with fail
    refine hK.out _ _ ?_ (fun hHeld => ?_)
    · (try dsimp only)
      first | exact HSB.out _ HZ.out | exact HSB.out _ (HZ0.out.alloc HZ0.out.size _) | exact HSB.out _ ((((HZ.out.setCell (p := ⟨_, 0, none⟩) HZ0.out.size _).setCell (p := ⟨_, 1, none⟩) HZ0.out.size _).setCell (p := ⟨_, 2, none⟩) HZ0.out.size _).setCell (p := ⟨_, 3, none⟩) HZ0.out.size _)
    clear hK K
    try simp only [Act.put, List.setIfInBounds_toArray, List.set_cons_zero, List.set_cons_succ]
    refine wpAnyH_take (i := 5) (oi := ({ dst := some 52, op := Op.move (Operand.tmp 57), type := 36, pos := "law.go:84", after := #[{ on := 4, ground := Ground.data }], guard := none } : Oper)) (v := ?_) rfl (by kernel_rfl) (by kernel_rfl) (by kernel_rfl) (fun _ _ _ h => h) (Or.inl ⟨by kernel_rfl, ?_⟩) (by assumption) ?_
    rotate_left
    · (intro w hSw; (try dsimp only at hSw); go_simp)
      all_goals (with_reducible rfl)
    try simp only [Act.put, List.setIfInBounds_toArray, List.set_cons_zero, List.set_cons_succ]
    refine wpAnyH_take (i := 6) (oi := ({ dst := some 58, op := Op.extract (Operand.tmp 52) 0, type := 28, pos := "law.go:84", after := #[{ on := 5, ground := Ground.data }], guard := none } : Oper)) (v := ?_) rfl (by kernel_rfl) (by kernel_rfl) (by kernel_rfl) (fun _ _ _ h => h) (Or.inl ⟨by kernel_rfl, ?_⟩) (by assumption) ?_
    rotate_left
    · (intro w hSw; (try dsimp only at hSw); go_simp)
      all_goals (with_reducible rfl)
    try simp only [Act.put, List.setIfInBounds_toArray, List.set_cons_zero, List.set_cons_succ]
    refine wpAnyH_take (i := 7) (oi := ({ dst := some 59, op := Op.extract (Operand.tmp 52) 1, type := 4, pos := "law.go:84", after := #[{ on := 5, ground := Ground.data }, { on := 9, ground := Ground.gcOnly Departure.lateStores }], guard := none } : Oper)) (v := ?_) rfl (by kernel_rfl) (by kernel_rfl) (by kernel_rfl) (fun _ _ _ h => h) (Or.inl ⟨by kernel_rfl, ?_⟩) (by assumption) ?_
    rotate_left
    · (intro w hSw; (try dsimp only at hSw); go_simp)
      all_goals (with_reducible rfl)
    try simp only [Act.put, List.setIfInBounds_toArray, List.set_cons_zero, List.set_cons_succ]
    refine wpAnyH_ready (rs := [9]) (by kernel_rfl) (by simp) ?_
    refine (AllReadyH.cons (o := ({ dst := none, op := Op.store 28 (Operand.tmp 15) (Operand.tmp 58), type := 0, pos := "law.go:84", after := #[{ on := 8, ground := Ground.data }, { on := 6, ground := Ground.data }, { on := 4, ground := Ground.chain }, { on := 0, ground := Ground.phase }, { on := 1, ground := Ground.phase }, { on := 2, ground := Ground.phase }, { on := 3, ground := Ground.phase }, { on := 4, ground := Ground.phase }, { on := 5, ground := Ground.phase }, { on := 6, ground := Ground.phase }, { on := 7, ground := Ground.textOnly Departure.lateStores }, { on := 8, ground := Ground.phase }], guard := none } : Oper)) rfl (fun K hK => ?_) AllReadyH.nil)
    go_simp
    skip
    refine hK.out _ _ ?_ (fun hHeld => ?_)
    · (try dsimp only)
      first | exact HSB.out _ HZ.out | exact HSB.out _ (HZ0.out.alloc HZ0.out.size _) | exact HSB.out _ ((((HZ.out.setCell (p := ⟨_, 0, none⟩) HZ0.out.size _).setCell (p := ⟨_, 1, none⟩) HZ0.out.size _).setCell (p := ⟨_, 2, none⟩) HZ0.out.size _).setCell (p := ⟨_, 3, none⟩) HZ0.out.size _)
    clear hK K
    try simp only [Act.put, List.setIfInBounds_toArray, List.set_cons_zero, List.set_cons_succ]
    refine wpAnyH_take (i := 10) (oi := ({ dst := some 16, op := Op.assign (Operand.tmp 59), type := 4, pos := "law.go:84", after := #[{ on := 7, ground := Ground.data }, { on := 9, ground := Ground.chain }, { on := 0, ground := Ground.phase }, { on := 1, ground := Ground.phase }, { on := 2, ground := Ground.phase }, { on := 3, ground := Ground.phase }, { on := 4, ground := Ground.phase }, { on := 5, ground := Ground.phase }, { on := 6, ground := Ground.phase }, { on := 7, ground := Ground.phase }, { on := 8, ground := Ground.phase }, { on := 9, ground := Ground.phase }], guard := none } : Oper)) (v := ?_) rfl (by kernel_rfl) (by kernel_rfl) (by kernel_rfl) (fun _ _ _ h => h) (Or.inl ⟨by kernel_rfl, ?_⟩) (by assumption) ?_
    rotate_left
    · (intro w hSw; (try dsimp only at hSw); go_simp)
      all_goals (with_reducible rfl)
    try simp only [Act.put, List.setIfInBounds_toArray, List.set_cons_zero, List.set_cons_succ]
    refine wpAnyH_done (by kernel_rfl) ?_ _
    change KC _ _
    refine HKC.out _ _ ?_
    clear HKC
    first
      | (have hy0 : z2.cell? ⟨w6.heap.size, 0, none⟩ = some (.string ⟨#[]⟩) := y0; have hG : Blk ((((z2.setCell ⟨w6.heap.size, 0, none⟩ (.string SR)).setCell ⟨w6.heap.size, 1, none⟩ (.int .u64 y.every)).setCell ⟨w6.heap.size, 2, none⟩ (.int .u64 y.burst)).setCell ⟨w6.heap.size, 3, none⟩ (.int .u8 y.kind)) w6.heap.size 28 #[.string SR, .int .u64 y.every, .int .u64 y.burst, .int .u8 y.kind] := (((HG.out.set_ 0 _).set_ 1 _).set_ 2 _).set_ 3 _; have hZ : Below w6.heap.size w6 ((((z2.setCell ⟨w6.heap.size, 0, none⟩ (.string SR)).setCell ⟨w6.heap.size, 1, none⟩ (.int .u64 y.every)).setCell ⟨w6.heap.size, 2, none⟩ (.int .u64 y.burst)).setCell ⟨w6.heap.size, 3, none⟩ (.int .u8 y.kind)) := ((((HZ.out.setCell (p := ⟨_, 0, none⟩) HZ0.out.size _).setCell (p := ⟨_, 1, none⟩) HZ0.out.size _).setCell (p := ⟨_, 2, none⟩) HZ0.out.size _).setCell (p := ⟨_, 3, none⟩) HZ0.out.size _); clear hy0 y0 y1 y2 y3 yf0 yf1 yf2 yf3; generalize ((((z2.setCell ⟨w6.heap.size, 0, none⟩ (.string SR)).setCell ⟨w6.heap.size, 1, none⟩ (.int .u64 y.every)).setCell ⟨w6.heap.size, 2, none⟩ (.int .u64 y.burst)).setCell ⟨w6.heap.size, 3, none⟩ (.int .u8 y.kind)) = W at hG hZ ⊢; generalize hgg : w6.heap.size = g at hG ⊢; have hge : w6.heap.size ≤ g := by rw [← hgg]; exact HZ0.out.size)
      | (have hy0 : z2.cell? ⟨z1.heap.size, 0, none⟩ = some (.string ⟨#[]⟩) := y0; have hG : Blk ((((z2.setCell ⟨z1.heap.size, 0, none⟩ (.string SR)).setCell ⟨z1.heap.size, 1, none⟩ (.int .u64 y.every)).setCell ⟨z1.heap.size, 2, none⟩ (.int .u64 y.burst)).setCell ⟨z1.heap.size, 3, none⟩ (.int .u8 y.kind)) z1.heap.size 28 #[.string SR, .int .u64 y.every, .int .u64 y.burst, .int .u8 y.kind] := (((HG.out.set_ 0 _).set_ 1 _).set_ 2 _).set_ 3 _; have hZ : Below w6.heap.size w6 ((((z2.setCell ⟨z1.heap.size, 0, none⟩ (.string SR)).setCell ⟨z1.heap.size, 1, none⟩ (.int .u64 y.every)).setCell ⟨z1.heap.size, 2, none⟩ (.int .u64 y.burst)).setCell ⟨z1.heap.size, 3, none⟩ (.int .u8 y.kind)) := ((((HZ.out.setCell (p := ⟨_, 0, none⟩) HZ0.out.size _).setCell (p := ⟨_, 1, none⟩) HZ0.out.size _).setCell (p := ⟨_, 2, none⟩) HZ0.out.size _).setCell (p := ⟨_, 3, none⟩) HZ0.out.size _); clear hy0 y0 y1 y2 y3 yf0 yf1 yf2 yf3; generalize ((((z2.setCell ⟨z1.heap.size, 0, none⟩ (.string SR)).setCell ⟨z1.heap.size, 1, none⟩ (.int .u64 y.every)).setCell ⟨z1.heap.size, 2, none⟩ (.int .u64 y.burst)).setCell ⟨z1.heap.size, 3, none⟩ (.int .u8 y.kind)) = W at hG hZ ⊢; generalize hgg : z1.heap.size = g at hG ⊢; have hge : w6.heap.size ≤ g := by rw [← hgg]; exact HZ0.out.size)
      | (have hG := Blk.new z2 28 #[.string SR, .int .u64 y.every, .int .u64 y.burst, .int .u8 y.kind]; have hge := HZ0.out.size; have hZ := HZ0.out.alloc HZ0.out.size (.cells #[.string SR, .int .u64 y.every, .int .u64 y.burst, .int .u8 y.kind] 28); generalize z2.alloc (.cells #[.string SR, .int .u64 y.every, .int .u64 y.burst, .int .u8 y.kind] 28) = W at hG hZ ⊢; generalize z2.heap.size = g at hG hge ⊢)
    have HZ := Lib.hid hZ
    have HG := Lib.hid hG
    have HGE := Lib.hid hge
    clear hZ hG hge HZ0 HTT
    go_wp2_with fail
    refine (findnil_any _ _).mono ?_
    rintro e q1 ⟨rfl, hb⟩
    rw [show found none = .tuple #[.agg #[.string ⟨#[]⟩, .int .u64 0, .int .u64 0, .int .u8 0], .bool false] from rfl]
    have HZ1 := Lib.hid ((HZ.out.trans (hb.mono HZ.out.size)).alloc (Nat.le_trans HZ.out.size hb.size) (.cells zeroCells 28))
    have HG1 := Lib.hid ((HG.out.below hb HG.out.lt).alloc (.cells zeroCells 28))
    clear hb HG HZ
    go_wp2_with fail
    refine (new_any [] none 0 (by simp) (by intro x hx; cases hx) _ Row.nil_).mono ?_
    rintro e q2 ⟨rootn, rfl, hTn, hb⟩
    have HZ2 := Lib.hid (HZ1.out.trans (hb.mono HZ1.out.size))
    have HG2 := Lib.hid (HG1.out.below hb HG1.out.lt)
    have HTN := Lib.hid hTn
    clear hb hTn HG1 HZ1
    go_wp2_with fail
    refine (find_any _ _ rootn [] HTN.out a4 (by unfold big; omega)).mono ?_
    rintro e q3 ⟨o, rfl, ho, hb⟩
    obtain rfl : o = none := nil_find ho
    rw [show found none = .tuple #[.agg #[.string ⟨#[]⟩, .int .u64 0, .int .u64 0, .int .u8 0], .bool false] from rfl]
    have HZ3 := Lib.hid (HZ2.out.trans (hb.mono HZ2.out.size))
    have HG3 := Lib.hid (HG2.out.below hb HG2.out.lt)
    have cP3 := (HT6.out _ HZ3.out).2
    have lt3 : x1.heap.size < q3.heap.size := Nat.lt_of_lt_of_le P6.out.lt HZ3.out.size
    have hl1 : (1 : Int) ≤ L.length := by omega
    have hl1c : (L.length : Int) ≤ cp := by omega
    clear hb ho HTN HG2 HZ2
    go_wp2_with fail
    all_goals
      have hll : L.length - 1 = l.length := by rw [HL.out]; simp
      have HTAIL := Lib.hid (fun (W : World) (h : Below w6.heap.size w6 W) => show Row W W.heap.size (some ⟨b0, off + 4, none⟩) (rcells l) from by
        have hT := (ROWP.out W h).from_ 4
        rw [show (rcells L).drop 4 = rcells l by rw [HL.out]; rfl] at hT
        exact hT)
      have HTNIL := Lib.hid (fun (W : World) (A : Option Addr) (h : cp = 1) => show Row W W.heap.size A (rcells l) from by
        have : l = [] := List.eq_nil_of_length_eq_zero (by omega)
        rw [this]
        exact Row.nil_)
      rw [hll]
      refine (new_any l _ _ (by omega) (fun x hx => by have := HS.out x (by rw [HL.out]; exact List.mem_cons_of_mem _ hx); unfold big; omega) _ (by first | exact HTAIL.out _ (HZ3.out.alloc HZ3.out.size _) | exact HTNIL.out _ _ (by assumption))).mono ?_
      rintro e q4 ⟨roott, rfl, hTt, hb⟩
      have HZ4 := Lib.hid ((HZ3.out.alloc HZ3.out.size (.cells zeroCells 28)).trans (hb.mono (Nat.le_trans HZ3.out.size (by simp))))
      have HG4 := Lib.hid ((HG3.out.alloc (.cells zeroCells 28)).below hb (HG3.out.alloc (.cells zeroCells 28)).lt)
      have HTT := Lib.hid hTt
      clear hb hTt HG3 HZ3 HTAIL HTNIL hll cP3
      go_wp2_with fail
      refine (find_any _ _ roott l HTT.out ⟨#[]⟩ (by unfold big; decide)).mono ?_
      rintro e q5 ⟨o, rfl, ho, hb⟩
      have hon : o = none := by
        have hO := HON.out
        rw [HL.out] at hO
        exact tail_find hO rfl ho
      subst hon
      rw [show found none = .tuple #[.agg #[.string ⟨#[]⟩, .int .u64 0, .int .u64 0, .int .u8 0], .bool false] from rfl]
      have HZ5 := (HZ4.out.trans (hb.mono HZ4.out.size)).alloc (Nat.le_trans HZ4.out.size hb.size) (.cells zeroCells 28)
      have HG5 := (HG4.out.below hb HG4.out.lt).alloc (.cells zeroCells 28)
      clear hb ho HTT HG4 HZ4
      go_wp2_with fail
      generalize q5.alloc (.cells #[.string ⟨#[]⟩, .int .u64 0, .int .u64 0, .int .u8 0] 28) = X5 at HZ5 HG5 ⊢
      have HN2 := Lib.hid (fun W (h : Below X5.heap.size X5 W) => HN2.out W (HZ5.trans (h.mono HZ5.size)))
      have HS5 := Lib.hid (fun (W : World) (h : Below X5.heap.size X5 W) => show (W.cell? ⟨g, 0, none⟩ = some (.string SR) ∧ W.cell? ⟨g, 1, none⟩ = some (.int .u64 y.every) ∧ W.cell? ⟨g, 2, none⟩ = some (.int .u64 y.burst) ∧ W.cell? ⟨g, 3, none⟩ = some (.int .u8 y.kind)) ∧ (W.cell? ⟨b0, off + ix * 4, none⟩ = some (.string SR) ∧ W.cell? ⟨b0, off + ix * 4 + 1, none⟩ = some (.int .u64 y.every) ∧ W.cell? ⟨b0, off + ix * 4 + 2, none⟩ = some (.int .u64 y.burst) ∧ W.cell? ⟨b0, off + ix * 4 + 3, none⟩ = some (.int .u8 y.kind)) ∧ W.cell? ⟨x1.heap.size, 1, none⟩ = some (.slice (some ⟨b0, off, none⟩) L.length cp) from by
        have hg := HG5.below h HG5.lt
        have ht := HT6.out W (HZ5.trans (h.mono HZ5.size))
        exact ⟨⟨hg.cell 0, hg.cell 1, hg.cell 2, hg.cell 3⟩, ht.1, ht.2⟩)
      have HW6 := Lib.hid (HW6.out.trans (HZ5.mono HW6.out.size))
      have HZ := Lib.hid (show Below X5.heap.size X5 X5.drew from (Below.refl _ X5).drew)
      clear HZ5 HG5
      rename_i KF hKF
      have HKF := Lib.hid hKF
      clear hKF
      refine wp_region_held_drew (S := (fun w' => (w'.cell? ⟨g, 0, none⟩ = some (.string SR) ∧ w'.cell? ⟨g, 1, none⟩ = some (.int .u64 y.every) ∧ w'.cell? ⟨g, 2, none⟩ = some (.int .u64 y.burst) ∧ w'.cell? ⟨g, 3, none⟩ = some (.int .u8 y.kind)) ∧ (w'.cell? ⟨b0, off + ix * 4, none⟩ = some (.string SR) ∧ w'.cell? ⟨b0, off + ix * 4 + 1, none⟩ = some (.int .u64 y.every) ∧ w'.cell? ⟨b0, off + ix * 4 + 2, none⟩ = some (.int .u64 y.burst) ∧ w'.cell? ⟨b0, off + ix * 4 + 3, none⟩ = some (.int .u8 y.kind)) ∧ w'.cell? ⟨x1.heap.size, 1, none⟩ = some (.slice (some ⟨b0, off, none⟩) L.length cp))) (by kernel_rfl) ?_ (fun hHeld => ?_)
      · (try dsimp only)
        exact HS5.out _ HZ.out
      refine wpAnyH_ready (rs := [0]) (by kernel_rfl) (by simp) ?_
      refine (AllReadyH.cons (o := ({ dst := some 80, op := Op.call { callee := Callee.value (Operand.func 8), args := #[], argTypes := #[] }, type := 4, pos := "law.go:89", after := #[], guard := none } : Oper)) rfl (fun K hK => ?_) AllReadyH.nil)
      go_simp
      refine (known_any _).mono ?_; rintro e u1 ⟨rfl, hb⟩; have HZ := Lib.hid (HZ.out.trans (hb.mono HZ.out.size)); clear hb; go_wp2_with fail
      refine hK.out _ _ ?_ (fun hHeld => ?_)
      · (try dsimp only)
        exact HS5.out _ HZ.out
      clear hK K
      try simp only [Act.put, List.setIfInBounds_toArray, List.set_cons_zero, List.set_cons_succ]
      refine wpAnyH_take (i := 1) (oi := ({ dst := some 81, op := Op.move (Operand.tmp 80), type := 4, pos := "law.go:89", after := #[{ on := 0, ground := Ground.data }, { on := 0, ground := Ground.chain }], guard := none } : Oper)) (v := ?_) rfl (by kernel_rfl) (by kernel_rfl) (by kernel_rfl) (fun _ _ _ h => h) (Or.inl ⟨by kernel_rfl, ?_⟩) (by assumption) ?_
      rotate_left
      · (intro w hSw; (try dsimp only at hSw); go_simp)
        all_goals (with_reducible rfl)
      try simp only [Act.put, List.setIfInBounds_toArray, List.set_cons_zero, List.set_cons_succ]
      refine wpAnyH_take (i := 2) (oi := ({ dst := some 82, op := Op.move (Operand.tmp 16), type := 4, pos := "law.go:89", after := #[{ on := 1, ground := Ground.guard }], guard := some (1, true) } : Oper)) (v := ?_) rfl (by kernel_rfl) (by kernel_rfl) (by kernel_rfl) (fun _ _ _ h => h) (Or.inl ⟨by kernel_rfl, ?_⟩) (by assumption) ?_
      rotate_left
      · (intro w hSw; (try dsimp only at hSw); go_simp)
        all_goals (with_reducible rfl)
      try simp only [Act.put, List.setIfInBounds_toArray, List.set_cons_zero, List.set_cons_succ]
      refine wpAnyH_take (i := 3) (oi := ({ dst := some 83, op := Op.pick (Operand.tmp 81) (Operand.tmp 82) (Operand.const (Value.bool false)), type := 4, pos := "law.go:89", after := #[{ on := 1, ground := Ground.data }, { on := 2, ground := Ground.data }], guard := none } : Oper)) (v := ?_) rfl (by kernel_rfl) (by kernel_rfl) (by kernel_rfl) (fun _ _ _ h => h) (Or.inl ⟨by kernel_rfl, ?_⟩) (by assumption) ?_
      rotate_left
      · (intro w hSw; (try dsimp only at hSw); go_simp)
        all_goals (with_reducible rfl)
      try simp only [Act.put, List.setIfInBounds_toArray, List.set_cons_zero, List.set_cons_succ]
      refine wpAnyH_take (i := 4) (oi := ({ dst := some 84, op := Op.move (Operand.tmp 83), type := 4, pos := "law.go:89", after := #[{ on := 3, ground := Ground.data }, { on := 1, ground := Ground.chain }], guard := none } : Oper)) (v := ?_) rfl (by kernel_rfl) (by kernel_rfl) (by kernel_rfl) (fun _ _ _ h => h) (Or.inl ⟨by kernel_rfl, ?_⟩) (by assumption) ?_
      rotate_left
      · (intro w hSw; (try dsimp only at hSw); go_simp)
        all_goals (with_reducible rfl)
      try simp only [Act.put, List.setIfInBounds_toArray, List.set_cons_zero, List.set_cons_succ]
      refine wpAnyH_take (i := 5) (oi := ({ dst := some 85, op := Op.load 28 (Operand.tmp 15), type := 28, pos := "law.go:89", after := #[{ on := 4, ground := Ground.guard }], guard := some (4, true) } : Oper)) (v := ?_) rfl (by kernel_rfl) (by kernel_rfl) (by kernel_rfl) (fun _ _ _ h => h) (Or.inl ⟨by kernel_rfl, ?_⟩) (by assumption) ?_
      rotate_left
      · (intro w hSw; (try dsimp only at hSw); go_simp)
        all_goals (with_reducible rfl)
      try simp only [Act.put, List.setIfInBounds_toArray, List.set_cons_zero, List.set_cons_succ]
      refine wpAnyH_take (i := 6) (oi := ({ dst := some 86, op := Op.fieldAddr 31 (Operand.tmp 11) 1, type := 0, pos := "law.go:89", after := #[{ on := 4, ground := Ground.guard }], guard := some (4, true) } : Oper)) (v := ?_) rfl (by kernel_rfl) (by kernel_rfl) (by kernel_rfl) (fun _ _ _ h => h) (Or.inl ⟨by kernel_rfl, ?_⟩) (by assumption) ?_
      rotate_left
      · (intro w hSw; (try dsimp only at hSw); go_simp)
        all_goals (with_reducible rfl)
      try simp only [Act.put, List.setIfInBounds_toArray, List.set_cons_zero, List.set_cons_succ]
      refine wpAnyH_take (i := 7) (oi := ({ dst := some 87, op := Op.load 22 (Operand.tmp 86), type := 22, pos := "law.go:89", after := #[{ on := 6, ground := Ground.data }, { on := 4, ground := Ground.guard }], guard := some (4, true) } : Oper)) (v := ?_) rfl (by kernel_rfl) (by kernel_rfl) (by kernel_rfl) (fun _ _ _ h => h) (Or.inl ⟨by kernel_rfl, ?_⟩) (by assumption) ?_
      rotate_left
      · (intro w hSw; (try dsimp only at hSw); go_simp)
        all_goals (with_reducible rfl)
      try simp only [Act.put, List.setIfInBounds_toArray, List.set_cons_zero, List.set_cons_succ]
      refine wpAnyH_take (i := 8) (oi := ({ dst := some 88, op := Op.move (Operand.tmp 12), type := 3, pos := "law.go:89", after := #[{ on := 4, ground := Ground.guard }], guard := some (4, true) } : Oper)) (v := ?_) rfl (by kernel_rfl) (by kernel_rfl) (by kernel_rfl) (fun _ _ _ h => h) (Or.inl ⟨by kernel_rfl, ?_⟩) (by assumption) ?_
      rotate_left
      · (intro w hSw; (try dsimp only at hSw); go_simp)
        all_goals (with_reducible rfl)
      try simp only [Act.put, List.setIfInBounds_toArray, List.set_cons_zero, List.set_cons_succ]
      refine wpAnyH_take (i := 9) (oi := ({ dst := some 89, op := Op.indexAddr 22 (Operand.tmp 87) (Operand.tmp 88), type := 0, pos := "law.go:89", after := #[{ on := 7, ground := Ground.data }, { on := 8, ground := Ground.data }, { on := 4, ground := Ground.guard }], guard := some (4, true) } : Oper)) (v := ?_) rfl (by kernel_rfl) (by kernel_rfl) (by kernel_rfl) (fun _ _ _ h => h) (Or.inl ⟨by kernel_rfl, ?_⟩) (by assumption) ?_
      rotate_left
      · (intro w hSw; (try dsimp only at hSw); go_simp)
        all_goals (with_reducible rfl)
      try simp only [Act.put, List.setIfInBounds_toArray, List.set_cons_zero, List.set_cons_succ]
      refine wpAnyH_take (i := 10) (oi := ({ dst := some 90, op := Op.load 28 (Operand.tmp 89), type := 28, pos := "law.go:89", after := #[{ on := 9, ground := Ground.data }, { on := 4, ground := Ground.guard }], guard := some (4, true) } : Oper)) (v := ?_) rfl (by kernel_rfl) (by kernel_rfl) (by kernel_rfl) (fun _ _ _ h => h) (Or.inl ⟨by kernel_rfl, ?_⟩) (by assumption) ?_
      rotate_left
      · (intro w hSw; (try dsimp only at hSw); go_simp)
        all_goals (with_reducible rfl)
      try simp only [Act.put, List.setIfInBounds_toArray, List.set_cons_zero, List.set_cons_succ]
      refine wpAnyH_take (i := 11) (oi := ({ dst := some 91, op := Op.binOp BinOp.eql 28 (Operand.tmp 85) (Operand.tmp 90) 28, type := 4, pos := "law.go:89", after := #[{ on := 5, ground := Ground.data }, { on := 10, ground := Ground.data }, { on := 4, ground := Ground.guard }], guard := some (4, true) } : Oper)) (v := ?_) rfl (by kernel_rfl) (by kernel_rfl) (by kernel_rfl) (fun _ _ _ h => h) (Or.inl ⟨by kernel_rfl, ?_⟩) (by assumption) ?_
      rotate_left
      · (intro w hSw; (try dsimp only at hSw); go_simp)
        all_goals (with_reducible rfl)
      try simp only [Act.put, List.setIfInBounds_toArray, List.set_cons_zero, List.set_cons_succ]
      refine wpAnyH_take (i := 12) (oi := ({ dst := some 92, op := Op.pick (Operand.tmp 84) (Operand.tmp 91) (Operand.const (Value.bool false)), type := 4, pos := "law.go:89", after := #[{ on := 4, ground := Ground.data }, { on := 11, ground := Ground.data }], guard := none } : Oper)) (v := ?_) rfl (by kernel_rfl) (by kernel_rfl) (by kernel_rfl) (fun _ _ _ h => h) (Or.inl ⟨by kernel_rfl, ?_⟩) (by assumption) ?_
      rotate_left
      · (intro w hSw; (try dsimp only at hSw); go_simp)
        all_goals (with_reducible rfl)
      try simp only [Act.put, List.setIfInBounds_toArray, List.set_cons_zero, List.set_cons_succ]
      refine wpAnyH_take (i := 13) (oi := ({ dst := some 93, op := Op.move (Operand.tmp 92), type := 4, pos := "law.go:89", after := #[{ on := 12, ground := Ground.data }, { on := 4, ground := Ground.chain }], guard := none } : Oper)) (v := ?_) rfl (by kernel_rfl) (by kernel_rfl) (by kernel_rfl) (fun _ _ _ h => h) (Or.inl ⟨by kernel_rfl, ?_⟩) (by assumption) ?_
      rotate_left
      · (intro w hSw; (try dsimp only at hSw); go_simp)
        all_goals (with_reducible rfl)
      try simp only [Act.put, List.setIfInBounds_toArray, List.set_cons_zero, List.set_cons_succ]
      refine wpAnyH_take (i := 14) (oi := ({ dst := some 94, op := Op.move (Operand.tmp 14), type := 22, pos := "law.go:89", after := #[{ on := 13, ground := Ground.guard }], guard := some (13, true) } : Oper)) (v := ?_) rfl (by kernel_rfl) (by kernel_rfl) (by kernel_rfl) (fun _ _ _ h => h) (Or.inl ⟨by kernel_rfl, ?_⟩) (by assumption) ?_
      rotate_left
      · (intro w hSw; (try dsimp only at hSw); go_simp)
        all_goals (with_reducible rfl)
      try simp only [Act.put, List.setIfInBounds_toArray, List.set_cons_zero, List.set_cons_succ]
      refine wpAnyH_take (i := 17) (oi := ({ dst := some 97, op := Op.fieldAddr 31 (Operand.tmp 11) 1, type := 0, pos := "law.go:89", after := #[{ on := 13, ground := Ground.guard }], guard := some (13, true) } : Oper)) (v := ?_) rfl (by kernel_rfl) (by kernel_rfl) (by kernel_rfl) (fun _ _ _ h => h) (Or.inl ⟨by kernel_rfl, ?_⟩) (by assumption) ?_
      rotate_left
      · (intro w hSw; (try dsimp only at hSw); go_simp)
        all_goals (with_reducible rfl)
      try simp only [Act.put, List.setIfInBounds_toArray, List.set_cons_zero, List.set_cons_succ]
      refine wpAnyH_take (i := 18) (oi := ({ dst := some 98, op := Op.load 22 (Operand.tmp 97), type := 22, pos := "law.go:89", after := #[{ on := 17, ground := Ground.data }, { on := 13, ground := Ground.guard }], guard := some (13, true) } : Oper)) (v := ?_) rfl (by kernel_rfl) (by kernel_rfl) (by kernel_rfl) (fun _ _ _ h => h) (Or.inl ⟨by kernel_rfl, ?_⟩) (by assumption) ?_
      rotate_left
      · (intro w hSw; (try dsimp only at hSw); go_simp)
        all_goals (with_reducible rfl)
      try simp only [Act.put, List.setIfInBounds_toArray, List.set_cons_zero, List.set_cons_succ]
      refine wpAnyH_take (i := 19) (oi := ({ dst := some 99, op := Op.call { callee := Callee.builtin Builtin.len, args := #[Operand.tmp 98], argTypes := #[22] }, type := 3, pos := "law.go:89", after := #[{ on := 18, ground := Ground.data }, { on := 13, ground := Ground.guard }], guard := some (13, true) } : Oper)) (v := ?_) rfl (by kernel_rfl) (by kernel_rfl) (by kernel_rfl) (fun _ _ _ h => h) (Or.inl ⟨by kernel_rfl, ?_⟩) (by assumption) ?_
      rotate_left
      · (intro w hSw; (try dsimp only at hSw); go_simp)
        all_goals (with_reducible rfl)
      try simp only [Act.put, List.setIfInBounds_toArray, List.set_cons_zero, List.set_cons_succ]
      refine wpAnyH_ready (rs := [15]) (by kernel_rfl) (by simp) ?_
      refine (AllReadyH.cons (o := ({ dst := some 95, op := Op.call { callee := Callee.value (Operand.func 12), args := #[Operand.tmp 94], argTypes := #[22] }, type := 37, pos := "law.go:89", after := #[{ on := 14, ground := Ground.data }, { on := 13, ground := Ground.chain }, { on := 13, ground := Ground.guard }], guard := some (13, true) } : Oper)) rfl (fun K hK => ?_) AllReadyH.nil)
      go_simp
      refine (HN2.out _ HZ.out).mono ?_; rintro e u2 ⟨root5, rfl, hT, hb⟩; have HTT := Lib.hid hT; have HZ := Lib.hid (HZ.out.trans (hb.mono HZ.out.size)); clear hb hT; go_wp2_with fail
      refine hK.out _ _ ?_ (fun hHeld => ?_)
      · (try dsimp only)
        exact HS5.out _ HZ.out
      clear hK K
      try simp only [Act.put, List.setIfInBounds_toArray, List.set_cons_zero, List.set_cons_succ]
      refine wpAnyH_ready (rs := [16]) (by kernel_rfl) (by simp) ?_
      refine (AllReadyH.cons (o := ({ dst := some 96, op := Op.call { callee := Callee.value (Operand.func 14), args := #[Operand.tmp 95], argTypes := #[37] }, type := 3, pos := "law.go:89", after := #[{ on := 15, ground := Ground.data }, { on := 15, ground := Ground.chain }, { on := 13, ground := Ground.guard }], guard := some (13, true) } : Oper)) rfl (fun K hK => ?_) AllReadyH.nil)
      go_simp
      refine (len_any _ _ root5 (L ++ [R]) HTT.out).mono ?_; rintro e u3 ⟨rfl, hb⟩; have HZ := Lib.hid (HZ.out.trans (hb.mono HZ.out.size)); rw [LEN.out]; clear hb; go_wp2_with fail
      refine hK.out _ _ ?_ (fun hHeld => ?_)
      · (try dsimp only)
        exact HS5.out _ HZ.out
      clear hK K
      try simp only [Act.put, List.setIfInBounds_toArray, List.set_cons_zero, List.set_cons_succ]
      refine wpAnyH_take (i := 20) (oi := ({ dst := some 100, op := Op.binOp BinOp.eql 3 (Operand.tmp 96) (Operand.tmp 99) 3, type := 4, pos := "law.go:89", after := #[{ on := 16, ground := Ground.data }, { on := 19, ground := Ground.data }, { on := 13, ground := Ground.guard }], guard := some (13, true) } : Oper)) (v := ?_) rfl (by kernel_rfl) (by kernel_rfl) (by kernel_rfl) (fun _ _ _ h => h) (Or.inl ⟨by kernel_rfl, ?_⟩) (by assumption) ?_
      rotate_left
      · (intro w hSw; (try dsimp only at hSw); go_simp)
        all_goals (with_reducible rfl)
      try simp only [Act.put, List.setIfInBounds_toArray, List.set_cons_zero, List.set_cons_succ]
      refine wpAnyH_take (i := 21) (oi := ({ dst := some 101, op := Op.pick (Operand.tmp 93) (Operand.tmp 100) (Operand.const (Value.bool false)), type := 4, pos := "law.go:89", after := #[{ on := 13, ground := Ground.data }, { on := 20, ground := Ground.data }], guard := none } : Oper)) (v := ?_) rfl (by kernel_rfl) (by kernel_rfl) (by kernel_rfl) (fun _ _ _ h => h) (Or.inl ⟨by kernel_rfl, ?_⟩) (by assumption) ?_
      rotate_left
      · (intro w hSw; (try dsimp only at hSw); go_simp)
        all_goals (with_reducible rfl)
      try simp only [Act.put, List.setIfInBounds_toArray, List.set_cons_zero, List.set_cons_succ]
      refine wpAnyH_take (i := 22) (oi := ({ dst := some 102, op := Op.move (Operand.tmp 101), type := 4, pos := "law.go:89", after := #[{ on := 21, ground := Ground.data }, { on := 16, ground := Ground.chain }], guard := none } : Oper)) (v := ?_) rfl (by kernel_rfl) (by kernel_rfl) (by kernel_rfl) (fun _ _ _ h => h) (Or.inl ⟨by kernel_rfl, ?_⟩) (by assumption) ?_
      rotate_left
      · (intro w hSw; (try dsimp only at hSw); go_simp)
        all_goals (with_reducible rfl)
      try simp only [Act.put, List.setIfInBounds_toArray, List.set_cons_zero, List.set_cons_succ]
      refine wpAnyH_take (i := 23) (oi := ({ dst := some 103, op := Op.move (Operand.tmp 19), type := 4, pos := "law.go:89", after := #[{ on := 22, ground := Ground.guard }], guard := some (22, true) } : Oper)) (v := ?_) rfl (by kernel_rfl) (by kernel_rfl) (by kernel_rfl) (fun _ _ _ h => h) (Or.inl ⟨by kernel_rfl, ?_⟩) (by assumption) ?_
      rotate_left
      · (intro w hSw; (try dsimp only at hSw); go_simp)
        all_goals (with_reducible rfl)
      try simp only [Act.put, List.setIfInBounds_toArray, List.set_cons_zero, List.set_cons_succ]
      refine wpAnyH_take (i := 24) (oi := ({ dst := some 104, op := Op.unOp UnOp.not 4 (Operand.tmp 103), type := 4, pos := "law.go:89", after := #[{ on := 23, ground := Ground.data }, { on := 22, ground := Ground.guard }], guard := some (22, true) } : Oper)) (v := ?_) rfl (by kernel_rfl) (by kernel_rfl) (by kernel_rfl) (fun _ _ _ h => h) (Or.inl ⟨by kernel_rfl, ?_⟩) (by assumption) ?_
      rotate_left
      · (intro w hSw; (try dsimp only at hSw); go_simp)
        all_goals (with_reducible rfl)
      try simp only [Act.put, List.setIfInBounds_toArray, List.set_cons_zero, List.set_cons_succ]
      refine wpAnyH_take (i := 25) (oi := ({ dst := some 105, op := Op.pick (Operand.tmp 102) (Operand.tmp 104) (Operand.const (Value.bool false)), type := 4, pos := "law.go:89", after := #[{ on := 22, ground := Ground.data }, { on := 24, ground := Ground.data }], guard := none } : Oper)) (v := ?_) rfl (by kernel_rfl) (by kernel_rfl) (by kernel_rfl) (fun _ _ _ h => h) (Or.inl ⟨by kernel_rfl, ?_⟩) (by assumption) ?_
      rotate_left
      · (intro w hSw; (try dsimp only at hSw); go_simp)
        all_goals (with_reducible rfl)
      try simp only [Act.put, List.setIfInBounds_toArray, List.set_cons_zero, List.set_cons_succ]
      refine wpAnyH_take (i := 26) (oi := ({ dst := some 106, op := Op.move (Operand.tmp 105), type := 4, pos := "law.go:89", after := #[{ on := 25, ground := Ground.data }, { on := 22, ground := Ground.chain }], guard := none } : Oper)) (v := ?_) rfl (by kernel_rfl) (by kernel_rfl) (by kernel_rfl) (fun _ _ _ h => h) (Or.inl ⟨by kernel_rfl, ?_⟩) (by assumption) ?_
      rotate_left
      · (intro w hSw; (try dsimp only at hSw); go_simp)
        all_goals (with_reducible rfl)
      try simp only [Act.put, List.setIfInBounds_toArray, List.set_cons_zero, List.set_cons_succ]
      refine wpAnyH_take (i := 27) (oi := ({ dst := some 107, op := Op.move (Operand.tmp 21), type := 4, pos := "law.go:89", after := #[{ on := 26, ground := Ground.guard }], guard := some (26, true) } : Oper)) (v := ?_) rfl (by kernel_rfl) (by kernel_rfl) (by kernel_rfl) (fun _ _ _ h => h) (Or.inl ⟨by kernel_rfl, ?_⟩) (by assumption) ?_
      rotate_left
      · (intro w hSw; (try dsimp only at hSw); go_simp)
        all_goals (with_reducible rfl)
      try simp only [Act.put, List.setIfInBounds_toArray, List.set_cons_zero, List.set_cons_succ]
      refine wpAnyH_take (i := 28) (oi := ({ dst := some 108, op := Op.unOp UnOp.not 4 (Operand.tmp 107), type := 4, pos := "law.go:89", after := #[{ on := 27, ground := Ground.data }, { on := 26, ground := Ground.guard }], guard := some (26, true) } : Oper)) (v := ?_) rfl (by kernel_rfl) (by kernel_rfl) (by kernel_rfl) (fun _ _ _ h => h) (Or.inl ⟨by kernel_rfl, ?_⟩) (by assumption) ?_
      rotate_left
      · (intro w hSw; (try dsimp only at hSw); go_simp)
        all_goals (with_reducible rfl)
      try simp only [Act.put, List.setIfInBounds_toArray, List.set_cons_zero, List.set_cons_succ]
      refine wpAnyH_take (i := 29) (oi := ({ dst := some 109, op := Op.pick (Operand.tmp 106) (Operand.tmp 108) (Operand.const (Value.bool false)), type := 4, pos := "law.go:89", after := #[{ on := 26, ground := Ground.data }, { on := 28, ground := Ground.data }], guard := none } : Oper)) (v := ?_) rfl (by kernel_rfl) (by kernel_rfl) (by kernel_rfl) (fun _ _ _ h => h) (Or.inl ⟨by kernel_rfl, ?_⟩) (by assumption) ?_
      rotate_left
      · (intro w hSw; (try dsimp only at hSw); go_simp)
        all_goals (with_reducible rfl)
      try simp only [Act.put, List.setIfInBounds_toArray, List.set_cons_zero, List.set_cons_succ]
      refine wpAnyH_take (i := 30) (oi := ({ dst := some 110, op := Op.move (Operand.tmp 109), type := 4, pos := "law.go:89", after := #[{ on := 29, ground := Ground.data }, { on := 26, ground := Ground.chain }], guard := none } : Oper)) (v := ?_) rfl (by kernel_rfl) (by kernel_rfl) (by kernel_rfl) (fun _ _ _ h => h) (Or.inl ⟨by kernel_rfl, ?_⟩) (by assumption) ?_
      rotate_left
      · (intro w hSw; (try dsimp only at hSw); go_simp)
        all_goals (with_reducible rfl)
      try simp only [Act.put, List.setIfInBounds_toArray, List.set_cons_zero, List.set_cons_succ]
      refine wpAnyH_take (i := 31) (oi := ({ dst := some 111, op := Op.move (Operand.tmp 23), type := 4, pos := "law.go:89", after := #[{ on := 30, ground := Ground.guard }], guard := some (30, true) } : Oper)) (v := ?_) rfl (by kernel_rfl) (by kernel_rfl) (by kernel_rfl) (fun _ _ _ h => h) (Or.inl ⟨by kernel_rfl, ?_⟩) (by assumption) ?_
      rotate_left
      · (intro w hSw; (try dsimp only at hSw); go_simp)
        all_goals (with_reducible rfl)
      try simp only [Act.put, List.setIfInBounds_toArray, List.set_cons_zero, List.set_cons_succ]
      refine wpAnyH_take (i := 32) (oi := ({ dst := some 112, op := Op.unOp UnOp.not 4 (Operand.tmp 111), type := 4, pos := "law.go:89", after := #[{ on := 31, ground := Ground.data }, { on := 30, ground := Ground.guard }], guard := some (30, true) } : Oper)) (v := ?_) rfl (by kernel_rfl) (by kernel_rfl) (by kernel_rfl) (fun _ _ _ h => h) (Or.inl ⟨by kernel_rfl, ?_⟩) (by assumption) ?_
      rotate_left
      · (intro w hSw; (try dsimp only at hSw); go_simp)
        all_goals (with_reducible rfl)
      try simp only [Act.put, List.setIfInBounds_toArray, List.set_cons_zero, List.set_cons_succ]
      refine wpAnyH_take (i := 33) (oi := ({ dst := some 113, op := Op.pick (Operand.tmp 110) (Operand.tmp 112) (Operand.const (Value.bool false)), type := 4, pos := "law.go:89", after := #[{ on := 30, ground := Ground.data }, { on := 32, ground := Ground.data }], guard := none } : Oper)) (v := ?_) rfl (by kernel_rfl) (by kernel_rfl) (by kernel_rfl) (fun _ _ _ h => h) (Or.inl ⟨by kernel_rfl, ?_⟩) (by assumption) ?_
      rotate_left
      · (intro w hSw; (try dsimp only at hSw); go_simp)
        all_goals (with_reducible rfl)
      try simp only [Act.put, List.setIfInBounds_toArray, List.set_cons_zero, List.set_cons_succ]
      refine wpAnyH_take (i := 34) (oi := ({ dst := some 114, op := Op.move (Operand.tmp 113), type := 4, pos := "law.go:89", after := #[{ on := 33, ground := Ground.data }, { on := 30, ground := Ground.chain }], guard := none } : Oper)) (v := ?_) rfl (by kernel_rfl) (by kernel_rfl) (by kernel_rfl) (fun _ _ _ h => h) (Or.inl ⟨by kernel_rfl, ?_⟩) (by assumption) ?_
      rotate_left
      · (intro w hSw; (try dsimp only at hSw); go_simp)
        all_goals (with_reducible rfl)
      try simp only [Act.put, List.setIfInBounds_toArray, List.set_cons_zero, List.set_cons_succ]
      refine wpAnyH_take (i := 35) (oi := ({ dst := some 115, op := Op.move (Operand.tmp 17), type := 37, pos := "law.go:89", after := #[{ on := 34, ground := Ground.guard }], guard := some (34, true) } : Oper)) (v := ?_) rfl (by kernel_rfl) (by kernel_rfl) (by kernel_rfl) (fun _ _ _ h => h) (Or.inl ⟨by kernel_rfl, ?_⟩) (by assumption) ?_
      rotate_left
      · (intro w hSw; (try dsimp only at hSw); go_simp)
        all_goals (with_reducible rfl)
      try simp only [Act.put, List.setIfInBounds_toArray, List.set_cons_zero, List.set_cons_succ]
      refine wpAnyH_ready (rs := [36]) (by kernel_rfl) (by simp) ?_
      refine (AllReadyH.cons (o := ({ dst := some 116, op := Op.call { callee := Callee.value (Operand.func 14), args := #[Operand.tmp 115], argTypes := #[37] }, type := 3, pos := "law.go:89", after := #[{ on := 35, ground := Ground.data }, { on := 34, ground := Ground.chain }, { on := 34, ground := Ground.guard }], guard := some (34, true) } : Oper)) rfl (fun K hK => ?_) AllReadyH.nil)
      go_simp
      refine (lennil_any _).mono ?_; rintro e u4 ⟨rfl, hb⟩; have HZ := Lib.hid (HZ.out.trans (hb.mono HZ.out.size)); clear hb; go_wp2_with fail
      refine hK.out _ _ ?_ (fun hHeld => ?_)
      · (try dsimp only)
        exact HS5.out _ HZ.out
      clear hK K
      try simp only [Act.put, List.setIfInBounds_toArray, List.set_cons_zero, List.set_cons_succ]
      refine wpAnyH_take (i := 37) (oi := ({ dst := some 117, op := Op.binOp BinOp.eql 3 (Operand.tmp 116) (Operand.const (Value.int IntKind.i64 0)) 3, type := 4, pos := "law.go:89", after := #[{ on := 36, ground := Ground.data }, { on := 34, ground := Ground.guard }], guard := some (34, true) } : Oper)) (v := ?_) rfl (by kernel_rfl) (by kernel_rfl) (by kernel_rfl) (fun _ _ _ h => h) (Or.inl ⟨by kernel_rfl, ?_⟩) (by assumption) ?_
      rotate_left
      · (intro w hSw; (try dsimp only at hSw); go_simp)
        all_goals (with_reducible rfl)
      try simp only [Act.put, List.setIfInBounds_toArray, List.set_cons_zero, List.set_cons_succ]
      refine wpAnyH_take (i := 38) (oi := ({ dst := some 118, op := Op.pick (Operand.tmp 114) (Operand.tmp 117) (Operand.const (Value.bool false)), type := 4, pos := "law.go:89", after := #[{ on := 34, ground := Ground.data }, { on := 37, ground := Ground.data }], guard := none } : Oper)) (v := ?_) rfl (by kernel_rfl) (by kernel_rfl) (by kernel_rfl) (fun _ _ _ h => h) (Or.inl ⟨by kernel_rfl, ?_⟩) (by assumption) ?_
      rotate_left
      · (intro w hSw; (try dsimp only at hSw); go_simp)
        all_goals (with_reducible rfl)
      try simp only [Act.put, List.setIfInBounds_toArray, List.set_cons_zero, List.set_cons_succ]
      refine wpAnyH_take (i := 39) (oi := ({ dst := some 10, op := Op.assign (Operand.tmp 118), type := 4, pos := "law.go:89", after := #[{ on := 38, ground := Ground.data }, { on := 36, ground := Ground.chain }, { on := 0, ground := Ground.phase }, { on := 1, ground := Ground.phase }, { on := 2, ground := Ground.phase }, { on := 3, ground := Ground.phase }, { on := 4, ground := Ground.phase }, { on := 5, ground := Ground.phase }, { on := 6, ground := Ground.phase }, { on := 7, ground := Ground.phase }, { on := 8, ground := Ground.phase }, { on := 9, ground := Ground.phase }, { on := 10, ground := Ground.phase }, { on := 11, ground := Ground.phase }, { on := 12, ground := Ground.phase }, { on := 13, ground := Ground.phase }, { on := 14, ground := Ground.phase }, { on := 15, ground := Ground.phase }, { on := 16, ground := Ground.phase }, { on := 17, ground := Ground.phase }, { on := 18, ground := Ground.phase }, { on := 19, ground := Ground.phase }, { on := 20, ground := Ground.phase }, { on := 21, ground := Ground.phase }, { on := 22, ground := Ground.phase }, { on := 23, ground := Ground.phase }, { on := 24, ground := Ground.phase }, { on := 25, ground := Ground.phase }, { on := 26, ground := Ground.phase }, { on := 27, ground := Ground.phase }, { on := 28, ground := Ground.phase }, { on := 29, ground := Ground.phase }, { on := 30, ground := Ground.phase }, { on := 31, ground := Ground.phase }, { on := 32, ground := Ground.phase }, { on := 33, ground := Ground.phase }, { on := 34, ground := Ground.phase }, { on := 35, ground := Ground.phase }, { on := 36, ground := Ground.phase }, { on := 37, ground := Ground.phase }, { on := 38, ground := Ground.phase }], guard := none } : Oper)) (v := ?_) rfl (by kernel_rfl) (by kernel_rfl) (by kernel_rfl) (fun _ _ _ h => h) (Or.inl ⟨by kernel_rfl, ?_⟩) (by assumption) ?_
      rotate_left
      · (intro w hSw; (try dsimp only at hSw); go_simp)
        all_goals (with_reducible rfl)
      try simp only [Act.put, List.setIfInBounds_toArray, List.set_cons_zero, List.set_cons_succ]
      refine wpAnyH_done (by kernel_rfl) ?_ _
      change KF _ _
      refine HKF.out _ _ ?_
      go_wp2
      go_ret
      exact ⟨rfl, HW6.out.trans (HZ.out.mono HW6.out.size)⟩
  -- END REGION
end Go.Proofs.Ytdjhjgimlpdckaa.pre
