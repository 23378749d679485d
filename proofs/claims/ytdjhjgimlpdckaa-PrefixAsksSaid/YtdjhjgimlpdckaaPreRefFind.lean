/- the reference's Find and Len, walked. -/
import Derived.Test.YtdjhjgimlpdckaaPreWay
import Derived.Test.YtdjhjgimlpdckaaPreFind
import Derived.Test.YtdjhjgimlpdckaaPreRefHas
import Derived.Deep.RegionHeld
import Derived.Deep.QuietTactic
namespace Go.Proofs.Ytdjhjgimlpdckaa.pre
open Go.RowKit
open Go.Proofs.Ytdjhjgimlpdckaa.aid

/-- what is found of the first m rules -/
def FindInv (L : List Rul) (k : List UInt8) (m : Nat) : Option Nat → Prop
  | none => ∀ i y, i < m → L[i]? = some y → ¬ y.pre <+: k
  | some j => ∃ x, j < m ∧ L[j]? = some x ∧ x.pre <+: k ∧ (∀ i y, i < m → L[i]? = some y → y.pre <+: k → y.pre.length ≤ x.pre.length) ∧ ∀ i y, i < j → L[i]? = some y → y.pre <+: k → y.pre.length < x.pre.length
def atVal : Option Nat → Int
  | none => -1
  | some j => (j : Int)
theorem inv_skip {L : List Rul} {k : List UInt8} {m : Nat} {y : Rul} {o : Option Nat} (h : FindInv L k m o) (hy : L[m]? = some y) (hn : ¬ y.pre <+: k) : FindInv L k (m + 1) o := by
  have step : ∀ {i : Nat} {z : Rul}, i < m + 1 → L[i]? = some z → i < m ∨ z = y := fun {i z} hi hz => by
    rcases Nat.lt_or_ge i m with hl | hl
    · exact .inl hl
    · obtain rfl : i = m := by omega
      rw [hy] at hz
      exact .inr (Option.some.inj hz).symm
  cases o with
  | none =>
    intro i z hi hz
    rcases step hi hz with hl | rfl
    · exact h i z hl hz
    · exact hn
  | some j =>
    obtain ⟨x, h1, h2, h3, h4, h5⟩ := h
    refine ⟨x, by omega, h2, h3, fun i z hi hz hp => ?_, h5⟩
    rcases step hi hz with hl | rfl
    · exact h4 i z hl hz hp
    · exact absurd hp hn
theorem inv_less {L : List Rul} {k : List UInt8} {m j : Nat} {x y : Rul} (h : FindInv L k m (some j)) (hx : L[j]? = some x) (hy : L[m]? = some y) (hl : y.pre.length ≤ x.pre.length) : FindInv L k (m + 1) (some j) := by
  obtain ⟨x', h1, h2, h3, h4, h5⟩ := h
  rw [hx] at h2
  cases h2
  refine ⟨x, by omega, hx, h3, fun i z hi hz hp => ?_, h5⟩
  rcases Nat.lt_or_ge i m with hlt | hge
  · exact h4 i z hlt hz hp
  · obtain rfl : i = m := by omega
    rw [hy] at hz
    cases hz
    exact hl
theorem inv_new {L : List Rul} {k : List UInt8} {m : Nat} {y : Rul} {o : Option Nat} (h : FindInv L k m o) (hy : L[m]? = some y) (hp : y.pre <+: k) (hl : ∀ j x, o = some j → L[j]? = some x → x.pre.length < y.pre.length) : FindInv L k (m + 1) (some m) := by
  have old : ∀ i z, i < m → L[i]? = some z → z.pre <+: k → z.pre.length < y.pre.length := fun i z hi hz hpz => by
    cases o with
    | none => exact absurd hpz (h i z hi hz)
    | some j =>
      obtain ⟨x, h1, h2, h3, h4, h5⟩ := h
      have := h4 i z hi hz hpz
      have := hl j x rfl h2
      omega
  refine ⟨y, by omega, hy, hp, fun i z hi hz hpz => ?_, old⟩
  rcases Nat.lt_or_ge i m with hlt | hge
  · exact Nat.le_of_lt (old i z hlt hz hpz)
  · obtain rfl : i = m := by omega
    rw [hy] at hz
    cases hz
    exact Nat.le_refl _
theorem inv_end {L : List Rul} {k : List UInt8} : (FindInv L k L.length none → IsFind L k none) ∧ ∀ j x, FindInv L k L.length (some j) → L[j]? = some x → IsFind L k (some x) := by
  refine ⟨fun h x hx => ?_, fun j x h hx => ?_⟩
  · obtain ⟨i, hi⟩ := List.mem_iff_getElem?.1 hx
    exact h i x (List.getElem?_eq_some_iff.1 hi).1 hi
  · obtain ⟨x', h1, h2, h3, h4, h5⟩ := h
    rw [hx] at h2
    cases h2
    refine ⟨⟨j, hx, fun i z hi hz he => ?_⟩, h3, fun z hz hp => ?_⟩
    · have := h5 i z hi hz (by rw [he]; exact h3)
      rw [he] at this
      omega
    · obtain ⟨i, hi⟩ := List.mem_iff_getElem?.1 hz
      exact h4 i z (List.getElem?_eq_some_iff.1 hi).1 hi hp

def RFRel (w : World) (L : List Rul) (k : List UInt8) (a i : Value) (wr : World) : Prop :=
  ∃ (m : Nat) (o : Option Nat), m ≤ L.length ∧ i = .int .i64 (m : Nat) ∧ a = .int .i64 (atVal o) ∧ Hid (FindInv L k m o) ∧ Hid (Blk wr w.heap.size 28 zeroRul.cells) ∧ Hid (Below w.heap.size w wr)

set_option maxRecDepth 100000 in
set_option maxHeartbeats 4000000 in
theorem reffind_any (L : List Rul) (A : Option Addr) (c : Nat) (hL : L.length ≤ 1000000) (hbig : ∀ x ∈ L, x.pre.length ≤ 1000000) (k : ByteArray) (hk : k.size ≤ 9223372036854775807) (w : World) (hr : Row w w.heap.size A (rcells L)) :
    Calls Try.prog 15 #[.slice A L.length c, .string k] w fun e w' => ∃ o, e = .returned (found o) ∧ IsFind L k.data.toList o ∧ Below w.heap.size w w' := by
  have HR := Lib.hid hr
  have HBG := Lib.hid hbig
  have hst : RFRel w L k.data.toList (.int .i64 (-1)) (.int .i64 ((0 : Nat) : Int)) (w.alloc (.cells #[.string ⟨#[]⟩, .int .u64 0, .int .u64 0, .int .u8 0] 28)) :=
    ⟨0, none, Nat.zero_le _, rfl, rfl, Lib.hid (fun i y hi => by omega), Lib.hid (Blk.new w 28 zeroRul.cells), Lib.hid ((Below.refl _ w).alloc (Nat.le_refl _) _)⟩
  have HST := Lib.hid hst
  clear hr hbig hst
  go_enter Try.func15, Try.ntmps15
  go_wp2
  go_loopw [6, 7] (fun a i wr => RFRel w L k.data.toList a i wr) (fun _ i _ => L.length - (intOf i).toNat)
  case atStart => exact HST.out
  case round =>
    clear HST
    obtain ⟨m, o, hm, rfl, rfl, HI, HK, HB⟩ := hrel
    by_cases hlt : m < L.length
    · obtain ⟨y, hy⟩ : ∃ y, L[m]? = some y := ⟨_, List.getElem?_eq_getElem hlt⟩
      have hrow := HR.out.below HB.out
      obtain ⟨b1, off1, rfl, hb1, d0, -⟩ := rul_at hrow hy
      have hbl : b1 < wr.heap.size := Nat.lt_of_lt_of_le hb1 HB.out.size
      obtain ⟨S1, hS1⟩ : ∃ S1 : ByteArray, S1 = ⟨y.pre.toArray⟩ := ⟨_, rfl⟩
      rw [← hS1] at d0
      have hz1 : S1.size = y.pre.length := by rw [hS1]; simp [ByteArray.size]
      have hyb := HBG.out y (List.mem_iff_getElem?.2 ⟨m, hy⟩)
      have hs1 : S1.size ≤ 9223372036854775807 := by omega
      have hwm : IntKind.i64.wrap ((m : Int) + 1) = (m : Int) + 1 := wrap_small _ (by omega) (by omega)
      have hiff : key.has k.data.toList S1.data.toList = true ↔ y.pre <+: k.data.toList := by
        rw [hS1]
        exact List.isPrefixOf_iff_prefix
      have HY := Lib.hid hy
      have HSB := Lib.hid (fun (W : World) (h : Below wr.heap.size wr W) => show W.cell? ⟨b1, off1 + m * 4, none⟩ = some (.string S1) from (h.cell (p := ⟨b1, _, none⟩) hbl).trans d0)
      have HZ1 := Lib.hid hz1
      have HROW := Lib.hid hrow
      have HZ := Lib.hid (show Below wr.heap.size wr wr.drew from (Below.refl _ wr).drew)
      cases hh : key.has k.data.toList S1.data.toList with
      | false =>
        have HH := Lib.hid hh
        have HNP := Lib.hid (show ¬ y.pre <+: k.data.toList from fun h => by rw [hiff.2 h] at hh; cases hh)
        clear hiff hS1 hy hh hz1 hyb hrow
        go_wp2
        rename_i KC hKC
        have HKC := Lib.hid hKC
        clear hKC
        -- REGION 1
        refine wp_region_held_drew (S := (fun w' => w'.cell? ⟨b1, off1 + m * 4, none⟩ = some (.string S1))) (by kernel_rfl) ?_ (fun hHeld => ?_)
        · (try dsimp only)
          exact HSB.out _ HZ.out
        refine wpAnyH_take (i := 0) (oi := ({ dst := some 14, op := Op.move (Operand.tmp 1), type := 9, pos := "ref.go:13", after := #[], guard := none } : Oper)) (v := ?_) rfl (by kernel_rfl) (by kernel_rfl) (by kernel_rfl) (fun _ _ _ h => h) (Or.inl ⟨by kernel_rfl, ?_⟩) (by assumption) ?_
        rotate_left
        · (intro w hSw; (try dsimp only at hSw); go_simp)
          all_goals (with_reducible rfl)
        try simp only [Act.put, List.setIfInBounds_toArray, List.set_cons_zero, List.set_cons_succ]
        refine wpAnyH_take (i := 1) (oi := ({ dst := some 15, op := Op.move (Operand.tmp 0), type := 22, pos := "ref.go:13", after := #[], guard := none } : Oper)) (v := ?_) rfl (by kernel_rfl) (by kernel_rfl) (by kernel_rfl) (fun _ _ _ h => h) (Or.inl ⟨by kernel_rfl, ?_⟩) (by assumption) ?_
        rotate_left
        · (intro w hSw; (try dsimp only at hSw); go_simp)
          all_goals (with_reducible rfl)
        try simp only [Act.put, List.setIfInBounds_toArray, List.set_cons_zero, List.set_cons_succ]
        refine wpAnyH_take (i := 2) (oi := ({ dst := some 16, op := Op.move (Operand.tmp 7), type := 3, pos := "ref.go:13", after := #[], guard := none } : Oper)) (v := ?_) rfl (by kernel_rfl) (by kernel_rfl) (by kernel_rfl) (fun _ _ _ h => h) (Or.inl ⟨by kernel_rfl, ?_⟩) (by assumption) ?_
        rotate_left
        · (intro w hSw; (try dsimp only at hSw); go_simp)
          all_goals (with_reducible rfl)
        try simp only [Act.put, List.setIfInBounds_toArray, List.set_cons_zero, List.set_cons_succ]
        refine wpAnyH_take (i := 3) (oi := ({ dst := some 17, op := Op.indexAddr 22 (Operand.tmp 15) (Operand.tmp 16), type := 0, pos := "ref.go:13", after := #[{ on := 1, ground := Ground.data }, { on := 2, ground := Ground.data }], guard := none } : Oper)) (v := ?_) rfl (by kernel_rfl) (by kernel_rfl) (by kernel_rfl) (fun _ _ _ h => h) (Or.inl ⟨by kernel_rfl, ?_⟩) (by assumption) ?_
        rotate_left
        · (intro w hSw; (try dsimp only at hSw); go_simp)
          all_goals (with_reducible rfl)
        try simp only [Act.put, List.setIfInBounds_toArray, List.set_cons_zero, List.set_cons_succ]
        refine wpAnyH_take (i := 4) (oi := ({ dst := some 18, op := Op.fieldAddr 28 (Operand.tmp 17) 0, type := 0, pos := "ref.go:13", after := #[{ on := 3, ground := Ground.data }], guard := none } : Oper)) (v := ?_) rfl (by kernel_rfl) (by kernel_rfl) (by kernel_rfl) (fun _ _ _ h => h) (Or.inl ⟨by kernel_rfl, ?_⟩) (by assumption) ?_
        rotate_left
        · (intro w hSw; (try dsimp only at hSw); go_simp)
          all_goals (with_reducible rfl)
        try simp only [Act.put, List.setIfInBounds_toArray, List.set_cons_zero, List.set_cons_succ]
        refine wpAnyH_take (i := 5) (oi := ({ dst := some 19, op := Op.load 9 (Operand.tmp 18), type := 9, pos := "ref.go:13", after := #[{ on := 4, ground := Ground.data }], guard := none } : Oper)) (v := ?_) rfl (by kernel_rfl) (by kernel_rfl) (by kernel_rfl) (fun _ _ _ h => h) (Or.inl ⟨by kernel_rfl, ?_⟩) (by assumption) ?_
        rotate_left
        · (intro w hSw; (try dsimp only at hSw); go_simp)
          all_goals (with_reducible rfl)
        try simp only [Act.put, List.setIfInBounds_toArray, List.set_cons_zero, List.set_cons_succ]
        refine wpAnyH_ready (rs := [6]) (by kernel_rfl) (by simp) ?_
        refine (AllReadyH.cons (o := ({ dst := some 20, op := Op.call { callee := Callee.value (Operand.func 19), args := #[Operand.tmp 14, Operand.tmp 19], argTypes := #[9, 9] }, type := 4, pos := "ref.go:13", after := #[{ on := 0, ground := Ground.data }, { on := 5, ground := Ground.data }], guard := none } : Oper)) rfl (fun K hK => ?_) AllReadyH.nil)
        go_simp
        refine (key.refhas_any k S1 hk hs1 _).mono ?_; rintro e z1 ⟨rfl, hb⟩; have HZ := Lib.hid (HZ.out.trans (hb.mono HZ.out.size)); rw [HH.out]; clear hb; go_wp2_with fail
        refine hK.out _ _ ?_ (fun hHeld => ?_)
        · (try dsimp only)
          exact HSB.out _ HZ.out
        clear hK K
        try simp only [Act.put, List.setIfInBounds_toArray, List.set_cons_zero, List.set_cons_succ]
        refine wpAnyH_take (i := 7) (oi := ({ dst := some 21, op := Op.move (Operand.tmp 20), type := 4, pos := "ref.go:13", after := #[{ on := 6, ground := Ground.data }, { on := 6, ground := Ground.chain }], guard := none } : Oper)) (v := ?_) rfl (by kernel_rfl) (by kernel_rfl) (by kernel_rfl) (fun _ _ _ h => h) (Or.inl ⟨by kernel_rfl, ?_⟩) (by assumption) ?_
        rotate_left
        · (intro w hSw; (try dsimp only at hSw); go_simp)
          all_goals (with_reducible rfl)
        try simp only [Act.put, List.setIfInBounds_toArray, List.set_cons_zero, List.set_cons_succ]
        refine wpAnyH_take (i := 8) (oi := ({ dst := some 22, op := Op.move (Operand.tmp 6), type := 3, pos := "ref.go:13", after := #[{ on := 7, ground := Ground.guard }], guard := some (7, true) } : Oper)) (v := undef) rfl (by kernel_rfl) (by kernel_rfl) (by kernel_rfl) (fun _ _ _ h => h) (Or.inr ⟨by kernel_rfl, rfl⟩) (by assumption) ?_
        try simp only [Act.put, List.setIfInBounds_toArray, List.set_cons_zero, List.set_cons_succ]
        refine wpAnyH_take (i := 9) (oi := ({ dst := some 23, op := Op.binOp BinOp.lss 3 (Operand.tmp 22) (Operand.const (Value.int IntKind.i64 0)) 3, type := 4, pos := "ref.go:13", after := #[{ on := 8, ground := Ground.data }, { on := 7, ground := Ground.guard }], guard := some (7, true) } : Oper)) (v := undef) rfl (by kernel_rfl) (by kernel_rfl) (by kernel_rfl) (fun _ _ _ h => h) (Or.inr ⟨by kernel_rfl, rfl⟩) (by assumption) ?_
        try simp only [Act.put, List.setIfInBounds_toArray, List.set_cons_zero, List.set_cons_succ]
        refine wpAnyH_take (i := 10) (oi := ({ dst := some 24, op := Op.move (Operand.tmp 23), type := 4, pos := "ref.go:13", after := #[{ on := 9, ground := Ground.data }, { on := 7, ground := Ground.chain }, { on := 7, ground := Ground.guard }], guard := some (7, true) } : Oper)) (v := undef) rfl (by kernel_rfl) (by kernel_rfl) (by kernel_rfl) (fun _ _ _ h => h) (Or.inr ⟨by kernel_rfl, rfl⟩) (by assumption) ?_
        try simp only [Act.put, List.setIfInBounds_toArray, List.set_cons_zero, List.set_cons_succ]
        refine wpAnyH_take (i := 11) (oi := ({ dst := some 25, op := Op.move (Operand.tmp 0), type := 22, pos := "ref.go:13", after := #[{ on := 10, ground := Ground.guard }], guard := some (10, false) } : Oper)) (v := undef) rfl (by kernel_rfl) (by kernel_rfl) (by kernel_rfl) (fun _ _ _ h => h) (Or.inr ⟨by kernel_rfl, rfl⟩) (by assumption) ?_
        try simp only [Act.put, List.setIfInBounds_toArray, List.set_cons_zero, List.set_cons_succ]
        refine wpAnyH_take (i := 12) (oi := ({ dst := some 26, op := Op.move (Operand.tmp 7), type := 3, pos := "ref.go:13", after := #[{ on := 10, ground := Ground.guard }], guard := some (10, false) } : Oper)) (v := undef) rfl (by kernel_rfl) (by kernel_rfl) (by kernel_rfl) (fun _ _ _ h => h) (Or.inr ⟨by kernel_rfl, rfl⟩) (by assumption) ?_
        try simp only [Act.put, List.setIfInBounds_toArray, List.set_cons_zero, List.set_cons_succ]
        refine wpAnyH_take (i := 13) (oi := ({ dst := some 27, op := Op.indexAddr 22 (Operand.tmp 25) (Operand.tmp 26), type := 0, pos := "ref.go:13", after := #[{ on := 11, ground := Ground.data }, { on := 12, ground := Ground.data }, { on := 10, ground := Ground.guard }], guard := some (10, false) } : Oper)) (v := undef) rfl (by kernel_rfl) (by kernel_rfl) (by kernel_rfl) (fun _ _ _ h => h) (Or.inr ⟨by kernel_rfl, rfl⟩) (by assumption) ?_
        try simp only [Act.put, List.setIfInBounds_toArray, List.set_cons_zero, List.set_cons_succ]
        refine wpAnyH_take (i := 14) (oi := ({ dst := some 28, op := Op.fieldAddr 28 (Operand.tmp 27) 0, type := 0, pos := "ref.go:13", after := #[{ on := 13, ground := Ground.data }, { on := 10, ground := Ground.guard }], guard := some (10, false) } : Oper)) (v := undef) rfl (by kernel_rfl) (by kernel_rfl) (by kernel_rfl) (fun _ _ _ h => h) (Or.inr ⟨by kernel_rfl, rfl⟩) (by assumption) ?_
        try simp only [Act.put, List.setIfInBounds_toArray, List.set_cons_zero, List.set_cons_succ]
        refine wpAnyH_take (i := 15) (oi := ({ dst := some 29, op := Op.load 9 (Operand.tmp 28), type := 9, pos := "ref.go:13", after := #[{ on := 14, ground := Ground.data }, { on := 10, ground := Ground.guard }], guard := some (10, false) } : Oper)) (v := undef) rfl (by kernel_rfl) (by kernel_rfl) (by kernel_rfl) (fun _ _ _ h => h) (Or.inr ⟨by kernel_rfl, rfl⟩) (by assumption) ?_
        try simp only [Act.put, List.setIfInBounds_toArray, List.set_cons_zero, List.set_cons_succ]
        refine wpAnyH_take (i := 16) (oi := ({ dst := some 30, op := Op.call { callee := Callee.builtin Builtin.len, args := #[Operand.tmp 29], argTypes := #[9] }, type := 3, pos := "ref.go:13", after := #[{ on := 15, ground := Ground.data }, { on := 10, ground := Ground.guard }], guard := some (10, false) } : Oper)) (v := undef) rfl (by kernel_rfl) (by kernel_rfl) (by kernel_rfl) (fun _ _ _ h => h) (Or.inr ⟨by kernel_rfl, rfl⟩) (by assumption) ?_
        try simp only [Act.put, List.setIfInBounds_toArray, List.set_cons_zero, List.set_cons_succ]
        refine wpAnyH_take (i := 17) (oi := ({ dst := some 31, op := Op.move (Operand.tmp 0), type := 22, pos := "ref.go:13", after := #[{ on := 10, ground := Ground.guard }], guard := some (10, false) } : Oper)) (v := undef) rfl (by kernel_rfl) (by kernel_rfl) (by kernel_rfl) (fun _ _ _ h => h) (Or.inr ⟨by kernel_rfl, rfl⟩) (by assumption) ?_
        try simp only [Act.put, List.setIfInBounds_toArray, List.set_cons_zero, List.set_cons_succ]
        refine wpAnyH_take (i := 18) (oi := ({ dst := some 32, op := Op.move (Operand.tmp 6), type := 3, pos := "ref.go:13", after := #[{ on := 10, ground := Ground.guard }], guard := some (10, false) } : Oper)) (v := undef) rfl (by kernel_rfl) (by kernel_rfl) (by kernel_rfl) (fun _ _ _ h => h) (Or.inr ⟨by kernel_rfl, rfl⟩) (by assumption) ?_
        try simp only [Act.put, List.setIfInBounds_toArray, List.set_cons_zero, List.set_cons_succ]
        refine wpAnyH_take (i := 19) (oi := ({ dst := some 33, op := Op.indexAddr 22 (Operand.tmp 31) (Operand.tmp 32), type := 0, pos := "ref.go:13", after := #[{ on := 17, ground := Ground.data }, { on := 18, ground := Ground.data }, { on := 10, ground := Ground.guard }], guard := some (10, false) } : Oper)) (v := undef) rfl (by kernel_rfl) (by kernel_rfl) (by kernel_rfl) (fun _ _ _ h => h) (Or.inr ⟨by kernel_rfl, rfl⟩) (by assumption) ?_
        try simp only [Act.put, List.setIfInBounds_toArray, List.set_cons_zero, List.set_cons_succ]
        refine wpAnyH_take (i := 20) (oi := ({ dst := some 34, op := Op.fieldAddr 28 (Operand.tmp 33) 0, type := 0, pos := "ref.go:13", after := #[{ on := 19, ground := Ground.data }, { on := 10, ground := Ground.guard }], guard := some (10, false) } : Oper)) (v := undef) rfl (by kernel_rfl) (by kernel_rfl) (by kernel_rfl) (fun _ _ _ h => h) (Or.inr ⟨by kernel_rfl, rfl⟩) (by assumption) ?_
        try simp only [Act.put, List.setIfInBounds_toArray, List.set_cons_zero, List.set_cons_succ]
        refine wpAnyH_take (i := 21) (oi := ({ dst := some 35, op := Op.load 9 (Operand.tmp 34), type := 9, pos := "ref.go:13", after := #[{ on := 20, ground := Ground.data }, { on := 10, ground := Ground.guard }], guard := some (10, false) } : Oper)) (v := undef) rfl (by kernel_rfl) (by kernel_rfl) (by kernel_rfl) (fun _ _ _ h => h) (Or.inr ⟨by kernel_rfl, rfl⟩) (by assumption) ?_
        try simp only [Act.put, List.setIfInBounds_toArray, List.set_cons_zero, List.set_cons_succ]
        refine wpAnyH_take (i := 22) (oi := ({ dst := some 36, op := Op.call { callee := Callee.builtin Builtin.len, args := #[Operand.tmp 35], argTypes := #[9] }, type := 3, pos := "ref.go:13", after := #[{ on := 21, ground := Ground.data }, { on := 10, ground := Ground.guard }], guard := some (10, false) } : Oper)) (v := undef) rfl (by kernel_rfl) (by kernel_rfl) (by kernel_rfl) (fun _ _ _ h => h) (Or.inr ⟨by kernel_rfl, rfl⟩) (by assumption) ?_
        try simp only [Act.put, List.setIfInBounds_toArray, List.set_cons_zero, List.set_cons_succ]
        refine wpAnyH_take (i := 23) (oi := ({ dst := some 37, op := Op.binOp BinOp.gtr 3 (Operand.tmp 30) (Operand.tmp 36) 3, type := 4, pos := "ref.go:13", after := #[{ on := 16, ground := Ground.data }, { on := 22, ground := Ground.data }, { on := 10, ground := Ground.guard }], guard := some (10, false) } : Oper)) (v := undef) rfl (by kernel_rfl) (by kernel_rfl) (by kernel_rfl) (fun _ _ _ h => h) (Or.inr ⟨by kernel_rfl, rfl⟩) (by assumption) ?_
        try simp only [Act.put, List.setIfInBounds_toArray, List.set_cons_zero, List.set_cons_succ]
        refine wpAnyH_take (i := 24) (oi := ({ dst := some 38, op := Op.pick (Operand.tmp 24) (Operand.const (Value.bool true)) (Operand.tmp 37), type := 4, pos := "ref.go:13", after := #[{ on := 10, ground := Ground.data }, { on := 23, ground := Ground.data }, { on := 7, ground := Ground.guard }], guard := some (7, true) } : Oper)) (v := undef) rfl (by kernel_rfl) (by kernel_rfl) (by kernel_rfl) (fun _ _ _ h => h) (Or.inr ⟨by kernel_rfl, rfl⟩) (by assumption) ?_
        try simp only [Act.put, List.setIfInBounds_toArray, List.set_cons_zero, List.set_cons_succ]
        refine wpAnyH_take (i := 25) (oi := ({ dst := some 39, op := Op.pick (Operand.tmp 21) (Operand.tmp 38) (Operand.const (Value.bool false)), type := 4, pos := "ref.go:13", after := #[{ on := 7, ground := Ground.data }, { on := 24, ground := Ground.data }], guard := none } : Oper)) (v := ?_) rfl (by kernel_rfl) (by kernel_rfl) (by kernel_rfl) (fun _ _ _ h => h) (Or.inl ⟨by kernel_rfl, ?_⟩) (by assumption) ?_
        rotate_left
        · (intro w hSw; (try dsimp only at hSw); go_simp)
          all_goals (with_reducible rfl)
        try simp only [Act.put, List.setIfInBounds_toArray, List.set_cons_zero, List.set_cons_succ]
        refine wpAnyH_done (by kernel_rfl) ?_ _
        -- END REGION 1
        change KC _ _
        refine HKC.out _ _ ?_
        clear HKC
        go_wp2
        go_roundw
        case rel => exact ⟨m + 1, o, hlt, by go_num, rfl, Lib.hid (inv_skip HI.out HY.out HNP.out), Lib.hid (HK.out.below HZ.out HK.out.lt), Lib.hid (HB.out.trans (HZ.out.mono HB.out.size))⟩
        case measure => simp [intOf]; omega
      | true =>
        have HH := Lib.hid hh
        have HPP := Lib.hid (hiff.1 hh)
        clear hiff hS1 hy hh hz1 hyb
        cases o with
        | none =>
          have e1 : atVal none = -1 := rfl
          rw [e1]
          clear e1 hrow
          go_wp2
          rename_i KC hKC
          have HKC := Lib.hid hKC
          clear hKC
          -- REGION 2
          refine wp_region_held_drew (S := (fun w' => w'.cell? ⟨b1, off1 + m * 4, none⟩ = some (.string S1))) (by kernel_rfl) ?_ (fun hHeld => ?_)
          · (try dsimp only)
            exact HSB.out _ HZ.out
          refine wpAnyH_take (i := 0) (oi := ({ dst := some 14, op := Op.move (Operand.tmp 1), type := 9, pos := "ref.go:13", after := #[], guard := none } : Oper)) (v := ?_) rfl (by kernel_rfl) (by kernel_rfl) (by kernel_rfl) (fun _ _ _ h => h) (Or.inl ⟨by kernel_rfl, ?_⟩) (by assumption) ?_
          rotate_left
          · (intro w hSw; (try dsimp only at hSw); go_simp)
            all_goals (with_reducible rfl)
          try simp only [Act.put, List.setIfInBounds_toArray, List.set_cons_zero, List.set_cons_succ]
          refine wpAnyH_take (i := 1) (oi := ({ dst := some 15, op := Op.move (Operand.tmp 0), type := 22, pos := "ref.go:13", after := #[], guard := none } : Oper)) (v := ?_) rfl (by kernel_rfl) (by kernel_rfl) (by kernel_rfl) (fun _ _ _ h => h) (Or.inl ⟨by kernel_rfl, ?_⟩) (by assumption) ?_
          rotate_left
          · (intro w hSw; (try dsimp only at hSw); go_simp)
            all_goals (with_reducible rfl)
          try simp only [Act.put, List.setIfInBounds_toArray, List.set_cons_zero, List.set_cons_succ]
          refine wpAnyH_take (i := 2) (oi := ({ dst := some 16, op := Op.move (Operand.tmp 7), type := 3, pos := "ref.go:13", after := #[], guard := none } : Oper)) (v := ?_) rfl (by kernel_rfl) (by kernel_rfl) (by kernel_rfl) (fun _ _ _ h => h) (Or.inl ⟨by kernel_rfl, ?_⟩) (by assumption) ?_
          rotate_left
          · (intro w hSw; (try dsimp only at hSw); go_simp)
            all_goals (with_reducible rfl)
          try simp only [Act.put, List.setIfInBounds_toArray, List.set_cons_zero, List.set_cons_succ]
          refine wpAnyH_take (i := 3) (oi := ({ dst := some 17, op := Op.indexAddr 22 (Operand.tmp 15) (Operand.tmp 16), type := 0, pos := "ref.go:13", after := #[{ on := 1, ground := Ground.data }, { on := 2, ground := Ground.data }], guard := none } : Oper)) (v := ?_) rfl (by kernel_rfl) (by kernel_rfl) (by kernel_rfl) (fun _ _ _ h => h) (Or.inl ⟨by kernel_rfl, ?_⟩) (by assumption) ?_
          rotate_left
          · (intro w hSw; (try dsimp only at hSw); go_simp)
            all_goals (with_reducible rfl)
          try simp only [Act.put, List.setIfInBounds_toArray, List.set_cons_zero, List.set_cons_succ]
          refine wpAnyH_take (i := 4) (oi := ({ dst := some 18, op := Op.fieldAddr 28 (Operand.tmp 17) 0, type := 0, pos := "ref.go:13", after := #[{ on := 3, ground := Ground.data }], guard := none } : Oper)) (v := ?_) rfl (by kernel_rfl) (by kernel_rfl) (by kernel_rfl) (fun _ _ _ h => h) (Or.inl ⟨by kernel_rfl, ?_⟩) (by assumption) ?_
          rotate_left
          · (intro w hSw; (try dsimp only at hSw); go_simp)
            all_goals (with_reducible rfl)
          try simp only [Act.put, List.setIfInBounds_toArray, List.set_cons_zero, List.set_cons_succ]
          refine wpAnyH_take (i := 5) (oi := ({ dst := some 19, op := Op.load 9 (Operand.tmp 18), type := 9, pos := "ref.go:13", after := #[{ on := 4, ground := Ground.data }], guard := none } : Oper)) (v := ?_) rfl (by kernel_rfl) (by kernel_rfl) (by kernel_rfl) (fun _ _ _ h => h) (Or.inl ⟨by kernel_rfl, ?_⟩) (by assumption) ?_
          rotate_left
          · (intro w hSw; (try dsimp only at hSw); go_simp)
            all_goals (with_reducible rfl)
          try simp only [Act.put, List.setIfInBounds_toArray, List.set_cons_zero, List.set_cons_succ]
          refine wpAnyH_ready (rs := [6]) (by kernel_rfl) (by simp) ?_
          refine (AllReadyH.cons (o := ({ dst := some 20, op := Op.call { callee := Callee.value (Operand.func 19), args := #[Operand.tmp 14, Operand.tmp 19], argTypes := #[9, 9] }, type := 4, pos := "ref.go:13", after := #[{ on := 0, ground := Ground.data }, { on := 5, ground := Ground.data }], guard := none } : Oper)) rfl (fun K hK => ?_) AllReadyH.nil)
          go_simp
          refine (key.refhas_any k S1 hk hs1 _).mono ?_; rintro e z1 ⟨rfl, hb⟩; have HZ := Lib.hid (HZ.out.trans (hb.mono HZ.out.size)); rw [HH.out]; clear hb; go_wp2_with fail
          refine hK.out _ _ ?_ (fun hHeld => ?_)
          · (try dsimp only)
            exact HSB.out _ HZ.out
          clear hK K
          try simp only [Act.put, List.setIfInBounds_toArray, List.set_cons_zero, List.set_cons_succ]
          refine wpAnyH_take (i := 7) (oi := ({ dst := some 21, op := Op.move (Operand.tmp 20), type := 4, pos := "ref.go:13", after := #[{ on := 6, ground := Ground.data }, { on := 6, ground := Ground.chain }], guard := none } : Oper)) (v := ?_) rfl (by kernel_rfl) (by kernel_rfl) (by kernel_rfl) (fun _ _ _ h => h) (Or.inl ⟨by kernel_rfl, ?_⟩) (by assumption) ?_
          rotate_left
          · (intro w hSw; (try dsimp only at hSw); go_simp)
            all_goals (with_reducible rfl)
          try simp only [Act.put, List.setIfInBounds_toArray, List.set_cons_zero, List.set_cons_succ]
          refine wpAnyH_take (i := 8) (oi := ({ dst := some 22, op := Op.move (Operand.tmp 6), type := 3, pos := "ref.go:13", after := #[{ on := 7, ground := Ground.guard }], guard := some (7, true) } : Oper)) (v := ?_) rfl (by kernel_rfl) (by kernel_rfl) (by kernel_rfl) (fun _ _ _ h => h) (Or.inl ⟨by kernel_rfl, ?_⟩) (by assumption) ?_
          rotate_left
          · (intro w hSw; (try dsimp only at hSw); go_simp)
            all_goals (with_reducible rfl)
          try simp only [Act.put, List.setIfInBounds_toArray, List.set_cons_zero, List.set_cons_succ]
          refine wpAnyH_take (i := 9) (oi := ({ dst := some 23, op := Op.binOp BinOp.lss 3 (Operand.tmp 22) (Operand.const (Value.int IntKind.i64 0)) 3, type := 4, pos := "ref.go:13", after := #[{ on := 8, ground := Ground.data }, { on := 7, ground := Ground.guard }], guard := some (7, true) } : Oper)) (v := ?_) rfl (by kernel_rfl) (by kernel_rfl) (by kernel_rfl) (fun _ _ _ h => h) (Or.inl ⟨by kernel_rfl, ?_⟩) (by assumption) ?_
          rotate_left
          · (intro w hSw; (try dsimp only at hSw); go_simp)
            all_goals (with_reducible rfl)
          try simp only [Act.put, List.setIfInBounds_toArray, List.set_cons_zero, List.set_cons_succ]
          refine wpAnyH_take (i := 10) (oi := ({ dst := some 24, op := Op.move (Operand.tmp 23), type := 4, pos := "ref.go:13", after := #[{ on := 9, ground := Ground.data }, { on := 7, ground := Ground.chain }, { on := 7, ground := Ground.guard }], guard := some (7, true) } : Oper)) (v := ?_) rfl (by kernel_rfl) (by kernel_rfl) (by kernel_rfl) (fun _ _ _ h => h) (Or.inl ⟨by kernel_rfl, ?_⟩) (by assumption) ?_
          rotate_left
          · (intro w hSw; (try dsimp only at hSw); go_simp)
            all_goals (with_reducible rfl)
          try simp only [Act.put, List.setIfInBounds_toArray, List.set_cons_zero, List.set_cons_succ]
          refine wpAnyH_take (i := 11) (oi := ({ dst := some 25, op := Op.move (Operand.tmp 0), type := 22, pos := "ref.go:13", after := #[{ on := 10, ground := Ground.guard }], guard := some (10, false) } : Oper)) (v := undef) rfl (by kernel_rfl) (by kernel_rfl) (by kernel_rfl) (fun _ _ _ h => h) (Or.inr ⟨by kernel_rfl, rfl⟩) (by assumption) ?_
          try simp only [Act.put, List.setIfInBounds_toArray, List.set_cons_zero, List.set_cons_succ]
          refine wpAnyH_take (i := 12) (oi := ({ dst := some 26, op := Op.move (Operand.tmp 7), type := 3, pos := "ref.go:13", after := #[{ on := 10, ground := Ground.guard }], guard := some (10, false) } : Oper)) (v := undef) rfl (by kernel_rfl) (by kernel_rfl) (by kernel_rfl) (fun _ _ _ h => h) (Or.inr ⟨by kernel_rfl, rfl⟩) (by assumption) ?_
          try simp only [Act.put, List.setIfInBounds_toArray, List.set_cons_zero, List.set_cons_succ]
          refine wpAnyH_take (i := 13) (oi := ({ dst := some 27, op := Op.indexAddr 22 (Operand.tmp 25) (Operand.tmp 26), type := 0, pos := "ref.go:13", after := #[{ on := 11, ground := Ground.data }, { on := 12, ground := Ground.data }, { on := 10, ground := Ground.guard }], guard := some (10, false) } : Oper)) (v := undef) rfl (by kernel_rfl) (by kernel_rfl) (by kernel_rfl) (fun _ _ _ h => h) (Or.inr ⟨by kernel_rfl, rfl⟩) (by assumption) ?_
          try simp only [Act.put, List.setIfInBounds_toArray, List.set_cons_zero, List.set_cons_succ]
          refine wpAnyH_take (i := 14) (oi := ({ dst := some 28, op := Op.fieldAddr 28 (Operand.tmp 27) 0, type := 0, pos := "ref.go:13", after := #[{ on := 13, ground := Ground.data }, { on := 10, ground := Ground.guard }], guard := some (10, false) } : Oper)) (v := undef) rfl (by kernel_rfl) (by kernel_rfl) (by kernel_rfl) (fun _ _ _ h => h) (Or.inr ⟨by kernel_rfl, rfl⟩) (by assumption) ?_
          try simp only [Act.put, List.setIfInBounds_toArray, List.set_cons_zero, List.set_cons_succ]
          refine wpAnyH_take (i := 15) (oi := ({ dst := some 29, op := Op.load 9 (Operand.tmp 28), type := 9, pos := "ref.go:13", after := #[{ on := 14, ground := Ground.data }, { on := 10, ground := Ground.guard }], guard := some (10, false) } : Oper)) (v := undef) rfl (by kernel_rfl) (by kernel_rfl) (by kernel_rfl) (fun _ _ _ h => h) (Or.inr ⟨by kernel_rfl, rfl⟩) (by assumption) ?_
          try simp only [Act.put, List.setIfInBounds_toArray, List.set_cons_zero, List.set_cons_succ]
          refine wpAnyH_take (i := 16) (oi := ({ dst := some 30, op := Op.call { callee := Callee.builtin Builtin.len, args := #[Operand.tmp 29], argTypes := #[9] }, type := 3, pos := "ref.go:13", after := #[{ on := 15, ground := Ground.data }, { on := 10, ground := Ground.guard }], guard := some (10, false) } : Oper)) (v := undef) rfl (by kernel_rfl) (by kernel_rfl) (by kernel_rfl) (fun _ _ _ h => h) (Or.inr ⟨by kernel_rfl, rfl⟩) (by assumption) ?_
          try simp only [Act.put, List.setIfInBounds_toArray, List.set_cons_zero, List.set_cons_succ]
          refine wpAnyH_take (i := 17) (oi := ({ dst := some 31, op := Op.move (Operand.tmp 0), type := 22, pos := "ref.go:13", after := #[{ on := 10, ground := Ground.guard }], guard := some (10, false) } : Oper)) (v := undef) rfl (by kernel_rfl) (by kernel_rfl) (by kernel_rfl) (fun _ _ _ h => h) (Or.inr ⟨by kernel_rfl, rfl⟩) (by assumption) ?_
          try simp only [Act.put, List.setIfInBounds_toArray, List.set_cons_zero, List.set_cons_succ]
          refine wpAnyH_take (i := 18) (oi := ({ dst := some 32, op := Op.move (Operand.tmp 6), type := 3, pos := "ref.go:13", after := #[{ on := 10, ground := Ground.guard }], guard := some (10, false) } : Oper)) (v := undef) rfl (by kernel_rfl) (by kernel_rfl) (by kernel_rfl) (fun _ _ _ h => h) (Or.inr ⟨by kernel_rfl, rfl⟩) (by assumption) ?_
          try simp only [Act.put, List.setIfInBounds_toArray, List.set_cons_zero, List.set_cons_succ]
          refine wpAnyH_take (i := 19) (oi := ({ dst := some 33, op := Op.indexAddr 22 (Operand.tmp 31) (Operand.tmp 32), type := 0, pos := "ref.go:13", after := #[{ on := 17, ground := Ground.data }, { on := 18, ground := Ground.data }, { on := 10, ground := Ground.guard }], guard := some (10, false) } : Oper)) (v := undef) rfl (by kernel_rfl) (by kernel_rfl) (by kernel_rfl) (fun _ _ _ h => h) (Or.inr ⟨by kernel_rfl, rfl⟩) (by assumption) ?_
          try simp only [Act.put, List.setIfInBounds_toArray, List.set_cons_zero, List.set_cons_succ]
          refine wpAnyH_take (i := 20) (oi := ({ dst := some 34, op := Op.fieldAddr 28 (Operand.tmp 33) 0, type := 0, pos := "ref.go:13", after := #[{ on := 19, ground := Ground.data }, { on := 10, ground := Ground.guard }], guard := some (10, false) } : Oper)) (v := undef) rfl (by kernel_rfl) (by kernel_rfl) (by kernel_rfl) (fun _ _ _ h => h) (Or.inr ⟨by kernel_rfl, rfl⟩) (by assumption) ?_
          try simp only [Act.put, List.setIfInBounds_toArray, List.set_cons_zero, List.set_cons_succ]
          refine wpAnyH_take (i := 21) (oi := ({ dst := some 35, op := Op.load 9 (Operand.tmp 34), type := 9, pos := "ref.go:13", after := #[{ on := 20, ground := Ground.data }, { on := 10, ground := Ground.guard }], guard := some (10, false) } : Oper)) (v := undef) rfl (by kernel_rfl) (by kernel_rfl) (by kernel_rfl) (fun _ _ _ h => h) (Or.inr ⟨by kernel_rfl, rfl⟩) (by assumption) ?_
          try simp only [Act.put, List.setIfInBounds_toArray, List.set_cons_zero, List.set_cons_succ]
          refine wpAnyH_take (i := 22) (oi := ({ dst := some 36, op := Op.call { callee := Callee.builtin Builtin.len, args := #[Operand.tmp 35], argTypes := #[9] }, type := 3, pos := "ref.go:13", after := #[{ on := 21, ground := Ground.data }, { on := 10, ground := Ground.guard }], guard := some (10, false) } : Oper)) (v := undef) rfl (by kernel_rfl) (by kernel_rfl) (by kernel_rfl) (fun _ _ _ h => h) (Or.inr ⟨by kernel_rfl, rfl⟩) (by assumption) ?_
          try simp only [Act.put, List.setIfInBounds_toArray, List.set_cons_zero, List.set_cons_succ]
          refine wpAnyH_take (i := 23) (oi := ({ dst := some 37, op := Op.binOp BinOp.gtr 3 (Operand.tmp 30) (Operand.tmp 36) 3, type := 4, pos := "ref.go:13", after := #[{ on := 16, ground := Ground.data }, { on := 22, ground := Ground.data }, { on := 10, ground := Ground.guard }], guard := some (10, false) } : Oper)) (v := undef) rfl (by kernel_rfl) (by kernel_rfl) (by kernel_rfl) (fun _ _ _ h => h) (Or.inr ⟨by kernel_rfl, rfl⟩) (by assumption) ?_
          try simp only [Act.put, List.setIfInBounds_toArray, List.set_cons_zero, List.set_cons_succ]
          refine wpAnyH_take (i := 24) (oi := ({ dst := some 38, op := Op.pick (Operand.tmp 24) (Operand.const (Value.bool true)) (Operand.tmp 37), type := 4, pos := "ref.go:13", after := #[{ on := 10, ground := Ground.data }, { on := 23, ground := Ground.data }, { on := 7, ground := Ground.guard }], guard := some (7, true) } : Oper)) (v := ?_) rfl (by kernel_rfl) (by kernel_rfl) (by kernel_rfl) (fun _ _ _ h => h) (Or.inl ⟨by kernel_rfl, ?_⟩) (by assumption) ?_
          rotate_left
          · (intro w hSw; (try dsimp only at hSw); go_simp)
            all_goals (with_reducible rfl)
          try simp only [Act.put, List.setIfInBounds_toArray, List.set_cons_zero, List.set_cons_succ]
          refine wpAnyH_take (i := 25) (oi := ({ dst := some 39, op := Op.pick (Operand.tmp 21) (Operand.tmp 38) (Operand.const (Value.bool false)), type := 4, pos := "ref.go:13", after := #[{ on := 7, ground := Ground.data }, { on := 24, ground := Ground.data }], guard := none } : Oper)) (v := ?_) rfl (by kernel_rfl) (by kernel_rfl) (by kernel_rfl) (fun _ _ _ h => h) (Or.inl ⟨by kernel_rfl, ?_⟩) (by assumption) ?_
          rotate_left
          · (intro w hSw; (try dsimp only at hSw); go_simp)
            all_goals (with_reducible rfl)
          try simp only [Act.put, List.setIfInBounds_toArray, List.set_cons_zero, List.set_cons_succ]
          refine wpAnyH_done (by kernel_rfl) ?_ _
          -- END REGION 2
          change KC _ _
          refine HKC.out _ _ ?_
          clear HKC
          go_wp2
          go_roundw
          case rel => exact ⟨m + 1, some m, hlt, by go_num, rfl, Lib.hid (inv_new HI.out HY.out HPP.out (fun j x e => by cases e)), Lib.hid (HK.out.below HZ.out HK.out.lt), Lib.hid (HB.out.trans (HZ.out.mono HB.out.size))⟩
          case measure => simp [intOf]; omega
        | some j =>
          obtain ⟨x, hj, hx, -⟩ := id HI.out
          obtain ⟨b2, off2, e2, hb2, f0, -⟩ := rul_at hrow hx
          injection e2 with e2
          injection e2 with e3 e4
          subst e3 e4
          obtain ⟨S2, hS2⟩ : ∃ S2 : ByteArray, S2 = ⟨x.pre.toArray⟩ := ⟨_, rfl⟩
          rw [← hS2] at f0
          have HZ2 := Lib.hid (show S2.size = x.pre.length by rw [hS2]; simp [ByteArray.size])
          have HX := Lib.hid hx
          have HSB2 := Lib.hid (fun (W : World) (h : Below wr.heap.size wr W) => show W.cell? ⟨b1, off1 + m * 4, none⟩ = some (.string S1) ∧ W.cell? ⟨b1, off1 + j * 4, none⟩ = some (.string S2) from ⟨HSB.out W h, (h.cell (p := ⟨b1, _, none⟩) hbl).trans f0⟩)
          have e1 : atVal (some j) = (j : Int) := rfl
          rw [e1]
          have hj0 : ¬ ((j : Int) < 0) := by omega
          have hj0' : decide ((j : Int) < 0) = false := by simp
          have hjl : (j : Int) < L.length := by omega
          clear hx hS2 e1 hrow
          by_cases hgt : S2.size < S1.size
          · have hg1 : (S2.size : Int) < S1.size := by omega
            go_wp2
            rename_i KC hKC _
            have HKC := Lib.hid hKC
            clear hKC
            -- REGION 3
            refine wp_region_held_drew (S := (fun w' => w'.cell? ⟨b1, off1 + m * 4, none⟩ = some (.string S1) ∧ w'.cell? ⟨b1, off1 + j * 4, none⟩ = some (.string S2))) (by kernel_rfl) ?_ (fun hHeld => ?_)
            · (try dsimp only)
              exact HSB2.out _ HZ.out
            refine wpAnyH_take (i := 0) (oi := ({ dst := some 14, op := Op.move (Operand.tmp 1), type := 9, pos := "ref.go:13", after := #[], guard := none } : Oper)) (v := ?_) rfl (by kernel_rfl) (by kernel_rfl) (by kernel_rfl) (fun _ _ _ h => h) (Or.inl ⟨by kernel_rfl, ?_⟩) (by assumption) ?_
            rotate_left
            · (intro w hSw; (try dsimp only at hSw); go_simp)
              all_goals (with_reducible rfl)
            try simp only [Act.put, List.setIfInBounds_toArray, List.set_cons_zero, List.set_cons_succ]
            refine wpAnyH_take (i := 1) (oi := ({ dst := some 15, op := Op.move (Operand.tmp 0), type := 22, pos := "ref.go:13", after := #[], guard := none } : Oper)) (v := ?_) rfl (by kernel_rfl) (by kernel_rfl) (by kernel_rfl) (fun _ _ _ h => h) (Or.inl ⟨by kernel_rfl, ?_⟩) (by assumption) ?_
            rotate_left
            · (intro w hSw; (try dsimp only at hSw); go_simp)
              all_goals (with_reducible rfl)
            try simp only [Act.put, List.setIfInBounds_toArray, List.set_cons_zero, List.set_cons_succ]
            refine wpAnyH_take (i := 2) (oi := ({ dst := some 16, op := Op.move (Operand.tmp 7), type := 3, pos := "ref.go:13", after := #[], guard := none } : Oper)) (v := ?_) rfl (by kernel_rfl) (by kernel_rfl) (by kernel_rfl) (fun _ _ _ h => h) (Or.inl ⟨by kernel_rfl, ?_⟩) (by assumption) ?_
            rotate_left
            · (intro w hSw; (try dsimp only at hSw); go_simp)
              all_goals (with_reducible rfl)
            try simp only [Act.put, List.setIfInBounds_toArray, List.set_cons_zero, List.set_cons_succ]
            refine wpAnyH_take (i := 3) (oi := ({ dst := some 17, op := Op.indexAddr 22 (Operand.tmp 15) (Operand.tmp 16), type := 0, pos := "ref.go:13", after := #[{ on := 1, ground := Ground.data }, { on := 2, ground := Ground.data }], guard := none } : Oper)) (v := ?_) rfl (by kernel_rfl) (by kernel_rfl) (by kernel_rfl) (fun _ _ _ h => h) (Or.inl ⟨by kernel_rfl, ?_⟩) (by assumption) ?_
            rotate_left
            · (intro w hSw; (try dsimp only at hSw); go_simp)
              all_goals (with_reducible rfl)
            try simp only [Act.put, List.setIfInBounds_toArray, List.set_cons_zero, List.set_cons_succ]
            refine wpAnyH_take (i := 4) (oi := ({ dst := some 18, op := Op.fieldAddr 28 (Operand.tmp 17) 0, type := 0, pos := "ref.go:13", after := #[{ on := 3, ground := Ground.data }], guard := none } : Oper)) (v := ?_) rfl (by kernel_rfl) (by kernel_rfl) (by kernel_rfl) (fun _ _ _ h => h) (Or.inl ⟨by kernel_rfl, ?_⟩) (by assumption) ?_
            rotate_left
            · (intro w hSw; (try dsimp only at hSw); go_simp)
              all_goals (with_reducible rfl)
            try simp only [Act.put, List.setIfInBounds_toArray, List.set_cons_zero, List.set_cons_succ]
            refine wpAnyH_take (i := 5) (oi := ({ dst := some 19, op := Op.load 9 (Operand.tmp 18), type := 9, pos := "ref.go:13", after := #[{ on := 4, ground := Ground.data }], guard := none } : Oper)) (v := ?_) rfl (by kernel_rfl) (by kernel_rfl) (by kernel_rfl) (fun _ _ _ h => h) (Or.inl ⟨by kernel_rfl, ?_⟩) (by assumption) ?_
            rotate_left
            · (intro w hSw; (try dsimp only at hSw); go_simp)
              all_goals (with_reducible rfl)
            try simp only [Act.put, List.setIfInBounds_toArray, List.set_cons_zero, List.set_cons_succ]
            refine wpAnyH_ready (rs := [6]) (by kernel_rfl) (by simp) ?_
            refine (AllReadyH.cons (o := ({ dst := some 20, op := Op.call { callee := Callee.value (Operand.func 19), args := #[Operand.tmp 14, Operand.tmp 19], argTypes := #[9, 9] }, type := 4, pos := "ref.go:13", after := #[{ on := 0, ground := Ground.data }, { on := 5, ground := Ground.data }], guard := none } : Oper)) rfl (fun K hK => ?_) AllReadyH.nil)
            go_simp
            refine (key.refhas_any k S1 hk hs1 _).mono ?_; rintro e z1 ⟨rfl, hb⟩; have HZ := Lib.hid (HZ.out.trans (hb.mono HZ.out.size)); rw [HH.out]; clear hb; go_wp2_with fail
            refine hK.out _ _ ?_ (fun hHeld => ?_)
            · (try dsimp only)
              exact HSB2.out _ HZ.out
            clear hK K
            try simp only [Act.put, List.setIfInBounds_toArray, List.set_cons_zero, List.set_cons_succ]
            refine wpAnyH_take (i := 7) (oi := ({ dst := some 21, op := Op.move (Operand.tmp 20), type := 4, pos := "ref.go:13", after := #[{ on := 6, ground := Ground.data }, { on := 6, ground := Ground.chain }], guard := none } : Oper)) (v := ?_) rfl (by kernel_rfl) (by kernel_rfl) (by kernel_rfl) (fun _ _ _ h => h) (Or.inl ⟨by kernel_rfl, ?_⟩) (by assumption) ?_
            rotate_left
            · (intro w hSw; (try dsimp only at hSw); go_simp)
              all_goals (with_reducible rfl)
            try simp only [Act.put, List.setIfInBounds_toArray, List.set_cons_zero, List.set_cons_succ]
            refine wpAnyH_take (i := 8) (oi := ({ dst := some 22, op := Op.move (Operand.tmp 6), type := 3, pos := "ref.go:13", after := #[{ on := 7, ground := Ground.guard }], guard := some (7, true) } : Oper)) (v := ?_) rfl (by kernel_rfl) (by kernel_rfl) (by kernel_rfl) (fun _ _ _ h => h) (Or.inl ⟨by kernel_rfl, ?_⟩) (by assumption) ?_
            rotate_left
            · (intro w hSw; (try dsimp only at hSw); go_simp)
              all_goals (with_reducible rfl)
            try simp only [Act.put, List.setIfInBounds_toArray, List.set_cons_zero, List.set_cons_succ]
            refine wpAnyH_take (i := 9) (oi := ({ dst := some 23, op := Op.binOp BinOp.lss 3 (Operand.tmp 22) (Operand.const (Value.int IntKind.i64 0)) 3, type := 4, pos := "ref.go:13", after := #[{ on := 8, ground := Ground.data }, { on := 7, ground := Ground.guard }], guard := some (7, true) } : Oper)) (v := ?_) rfl (by kernel_rfl) (by kernel_rfl) (by kernel_rfl) (fun _ _ _ h => h) (Or.inl ⟨by kernel_rfl, ?_⟩) (by assumption) ?_
            rotate_left
            · (intro w hSw; (try dsimp only at hSw); go_simp)
              all_goals (with_reducible rfl)
            try simp only [Act.put, List.setIfInBounds_toArray, List.set_cons_zero, List.set_cons_succ]
            refine wpAnyH_take (i := 10) (oi := ({ dst := some 24, op := Op.move (Operand.tmp 23), type := 4, pos := "ref.go:13", after := #[{ on := 9, ground := Ground.data }, { on := 7, ground := Ground.chain }, { on := 7, ground := Ground.guard }], guard := some (7, true) } : Oper)) (v := ?_) rfl (by kernel_rfl) (by kernel_rfl) (by kernel_rfl) (fun _ _ _ h => h) (Or.inl ⟨by kernel_rfl, ?_⟩) (by assumption) ?_
            rotate_left
            · (intro w hSw; (try dsimp only at hSw); go_simp)
              all_goals (with_reducible rfl)
            try simp only [Act.put, List.setIfInBounds_toArray, List.set_cons_zero, List.set_cons_succ]
            refine wpAnyH_take (i := 11) (oi := ({ dst := some 25, op := Op.move (Operand.tmp 0), type := 22, pos := "ref.go:13", after := #[{ on := 10, ground := Ground.guard }], guard := some (10, false) } : Oper)) (v := ?_) rfl (by kernel_rfl) (by kernel_rfl) (by kernel_rfl) (fun _ _ _ h => h) (Or.inl ⟨by kernel_rfl, ?_⟩) (by assumption) ?_
            rotate_left
            · (intro w hSw; (try dsimp only at hSw); go_simp)
              all_goals (with_reducible rfl)
            try simp only [Act.put, List.setIfInBounds_toArray, List.set_cons_zero, List.set_cons_succ]
            refine wpAnyH_take (i := 12) (oi := ({ dst := some 26, op := Op.move (Operand.tmp 7), type := 3, pos := "ref.go:13", after := #[{ on := 10, ground := Ground.guard }], guard := some (10, false) } : Oper)) (v := ?_) rfl (by kernel_rfl) (by kernel_rfl) (by kernel_rfl) (fun _ _ _ h => h) (Or.inl ⟨by kernel_rfl, ?_⟩) (by assumption) ?_
            rotate_left
            · (intro w hSw; (try dsimp only at hSw); go_simp)
              all_goals (with_reducible rfl)
            try simp only [Act.put, List.setIfInBounds_toArray, List.set_cons_zero, List.set_cons_succ]
            refine wpAnyH_take (i := 13) (oi := ({ dst := some 27, op := Op.indexAddr 22 (Operand.tmp 25) (Operand.tmp 26), type := 0, pos := "ref.go:13", after := #[{ on := 11, ground := Ground.data }, { on := 12, ground := Ground.data }, { on := 10, ground := Ground.guard }], guard := some (10, false) } : Oper)) (v := ?_) rfl (by kernel_rfl) (by kernel_rfl) (by kernel_rfl) (fun _ _ _ h => h) (Or.inl ⟨by kernel_rfl, ?_⟩) (by assumption) ?_
            rotate_left
            · (intro w hSw; (try dsimp only at hSw); go_simp)
              all_goals (with_reducible rfl)
            try simp only [Act.put, List.setIfInBounds_toArray, List.set_cons_zero, List.set_cons_succ]
            refine wpAnyH_take (i := 14) (oi := ({ dst := some 28, op := Op.fieldAddr 28 (Operand.tmp 27) 0, type := 0, pos := "ref.go:13", after := #[{ on := 13, ground := Ground.data }, { on := 10, ground := Ground.guard }], guard := some (10, false) } : Oper)) (v := ?_) rfl (by kernel_rfl) (by kernel_rfl) (by kernel_rfl) (fun _ _ _ h => h) (Or.inl ⟨by kernel_rfl, ?_⟩) (by assumption) ?_
            rotate_left
            · (intro w hSw; (try dsimp only at hSw); go_simp)
              all_goals (with_reducible rfl)
            try simp only [Act.put, List.setIfInBounds_toArray, List.set_cons_zero, List.set_cons_succ]
            refine wpAnyH_take (i := 15) (oi := ({ dst := some 29, op := Op.load 9 (Operand.tmp 28), type := 9, pos := "ref.go:13", after := #[{ on := 14, ground := Ground.data }, { on := 10, ground := Ground.guard }], guard := some (10, false) } : Oper)) (v := ?_) rfl (by kernel_rfl) (by kernel_rfl) (by kernel_rfl) (fun _ _ _ h => h) (Or.inl ⟨by kernel_rfl, ?_⟩) (by assumption) ?_
            rotate_left
            · (intro w hSw; (try dsimp only at hSw); go_simp)
              all_goals (with_reducible rfl)
            try simp only [Act.put, List.setIfInBounds_toArray, List.set_cons_zero, List.set_cons_succ]
            refine wpAnyH_take (i := 16) (oi := ({ dst := some 30, op := Op.call { callee := Callee.builtin Builtin.len, args := #[Operand.tmp 29], argTypes := #[9] }, type := 3, pos := "ref.go:13", after := #[{ on := 15, ground := Ground.data }, { on := 10, ground := Ground.guard }], guard := some (10, false) } : Oper)) (v := ?_) rfl (by kernel_rfl) (by kernel_rfl) (by kernel_rfl) (fun _ _ _ h => h) (Or.inl ⟨by kernel_rfl, ?_⟩) (by assumption) ?_
            rotate_left
            · (intro w hSw; (try dsimp only at hSw); go_simp)
              all_goals (with_reducible rfl)
            try simp only [Act.put, List.setIfInBounds_toArray, List.set_cons_zero, List.set_cons_succ]
            refine wpAnyH_take (i := 17) (oi := ({ dst := some 31, op := Op.move (Operand.tmp 0), type := 22, pos := "ref.go:13", after := #[{ on := 10, ground := Ground.guard }], guard := some (10, false) } : Oper)) (v := ?_) rfl (by kernel_rfl) (by kernel_rfl) (by kernel_rfl) (fun _ _ _ h => h) (Or.inl ⟨by kernel_rfl, ?_⟩) (by assumption) ?_
            rotate_left
            · (intro w hSw; (try dsimp only at hSw); go_simp)
              all_goals (with_reducible rfl)
            try simp only [Act.put, List.setIfInBounds_toArray, List.set_cons_zero, List.set_cons_succ]
            refine wpAnyH_take (i := 18) (oi := ({ dst := some 32, op := Op.move (Operand.tmp 6), type := 3, pos := "ref.go:13", after := #[{ on := 10, ground := Ground.guard }], guard := some (10, false) } : Oper)) (v := ?_) rfl (by kernel_rfl) (by kernel_rfl) (by kernel_rfl) (fun _ _ _ h => h) (Or.inl ⟨by kernel_rfl, ?_⟩) (by assumption) ?_
            rotate_left
            · (intro w hSw; (try dsimp only at hSw); go_simp)
              all_goals (with_reducible rfl)
            try simp only [Act.put, List.setIfInBounds_toArray, List.set_cons_zero, List.set_cons_succ]
            refine wpAnyH_take (i := 19) (oi := ({ dst := some 33, op := Op.indexAddr 22 (Operand.tmp 31) (Operand.tmp 32), type := 0, pos := "ref.go:13", after := #[{ on := 17, ground := Ground.data }, { on := 18, ground := Ground.data }, { on := 10, ground := Ground.guard }], guard := some (10, false) } : Oper)) (v := ?_) rfl (by kernel_rfl) (by kernel_rfl) (by kernel_rfl) (fun _ _ _ h => h) (Or.inl ⟨by kernel_rfl, ?_⟩) (by assumption) ?_
            rotate_left
            · (intro w hSw; (try dsimp only at hSw); go_simp)
              all_goals (with_reducible rfl)
            try simp only [Act.put, List.setIfInBounds_toArray, List.set_cons_zero, List.set_cons_succ]
            refine wpAnyH_take (i := 20) (oi := ({ dst := some 34, op := Op.fieldAddr 28 (Operand.tmp 33) 0, type := 0, pos := "ref.go:13", after := #[{ on := 19, ground := Ground.data }, { on := 10, ground := Ground.guard }], guard := some (10, false) } : Oper)) (v := ?_) rfl (by kernel_rfl) (by kernel_rfl) (by kernel_rfl) (fun _ _ _ h => h) (Or.inl ⟨by kernel_rfl, ?_⟩) (by assumption) ?_
            rotate_left
            · (intro w hSw; (try dsimp only at hSw); go_simp)
              all_goals (with_reducible rfl)
            try simp only [Act.put, List.setIfInBounds_toArray, List.set_cons_zero, List.set_cons_succ]
            refine wpAnyH_take (i := 21) (oi := ({ dst := some 35, op := Op.load 9 (Operand.tmp 34), type := 9, pos := "ref.go:13", after := #[{ on := 20, ground := Ground.data }, { on := 10, ground := Ground.guard }], guard := some (10, false) } : Oper)) (v := ?_) rfl (by kernel_rfl) (by kernel_rfl) (by kernel_rfl) (fun _ _ _ h => h) (Or.inl ⟨by kernel_rfl, ?_⟩) (by assumption) ?_
            rotate_left
            · (intro w hSw; (try dsimp only at hSw); go_simp)
              all_goals (with_reducible rfl)
            try simp only [Act.put, List.setIfInBounds_toArray, List.set_cons_zero, List.set_cons_succ]
            refine wpAnyH_take (i := 22) (oi := ({ dst := some 36, op := Op.call { callee := Callee.builtin Builtin.len, args := #[Operand.tmp 35], argTypes := #[9] }, type := 3, pos := "ref.go:13", after := #[{ on := 21, ground := Ground.data }, { on := 10, ground := Ground.guard }], guard := some (10, false) } : Oper)) (v := ?_) rfl (by kernel_rfl) (by kernel_rfl) (by kernel_rfl) (fun _ _ _ h => h) (Or.inl ⟨by kernel_rfl, ?_⟩) (by assumption) ?_
            rotate_left
            · (intro w hSw; (try dsimp only at hSw); go_simp)
              all_goals (with_reducible rfl)
            try simp only [Act.put, List.setIfInBounds_toArray, List.set_cons_zero, List.set_cons_succ]
            refine wpAnyH_take (i := 23) (oi := ({ dst := some 37, op := Op.binOp BinOp.gtr 3 (Operand.tmp 30) (Operand.tmp 36) 3, type := 4, pos := "ref.go:13", after := #[{ on := 16, ground := Ground.data }, { on := 22, ground := Ground.data }, { on := 10, ground := Ground.guard }], guard := some (10, false) } : Oper)) (v := ?_) rfl (by kernel_rfl) (by kernel_rfl) (by kernel_rfl) (fun _ _ _ h => h) (Or.inl ⟨by kernel_rfl, ?_⟩) (by assumption) ?_
            rotate_left
            · (intro w hSw; (try dsimp only at hSw); go_simp)
              all_goals (with_reducible rfl)
            try simp only [Act.put, List.setIfInBounds_toArray, List.set_cons_zero, List.set_cons_succ]
            refine wpAnyH_take (i := 24) (oi := ({ dst := some 38, op := Op.pick (Operand.tmp 24) (Operand.const (Value.bool true)) (Operand.tmp 37), type := 4, pos := "ref.go:13", after := #[{ on := 10, ground := Ground.data }, { on := 23, ground := Ground.data }, { on := 7, ground := Ground.guard }], guard := some (7, true) } : Oper)) (v := ?_) rfl (by kernel_rfl) (by kernel_rfl) (by kernel_rfl) (fun _ _ _ h => h) (Or.inl ⟨by kernel_rfl, ?_⟩) (by assumption) ?_
            rotate_left
            · (intro w hSw; (try dsimp only at hSw); go_simp)
              all_goals (with_reducible rfl)
            try simp only [Act.put, List.setIfInBounds_toArray, List.set_cons_zero, List.set_cons_succ]
            refine wpAnyH_take (i := 25) (oi := ({ dst := some 39, op := Op.pick (Operand.tmp 21) (Operand.tmp 38) (Operand.const (Value.bool false)), type := 4, pos := "ref.go:13", after := #[{ on := 7, ground := Ground.data }, { on := 24, ground := Ground.data }], guard := none } : Oper)) (v := ?_) rfl (by kernel_rfl) (by kernel_rfl) (by kernel_rfl) (fun _ _ _ h => h) (Or.inl ⟨by kernel_rfl, ?_⟩) (by assumption) ?_
            rotate_left
            · (intro w hSw; (try dsimp only at hSw); go_simp)
              all_goals (with_reducible rfl)
            try simp only [Act.put, List.setIfInBounds_toArray, List.set_cons_zero, List.set_cons_succ]
            refine wpAnyH_done (by kernel_rfl) ?_ _
            -- END REGION 3
            change KC _ _
            refine HKC.out _ _ ?_
            clear HKC
            go_wp2
            go_roundw
            case rel => exact ⟨m + 1, some m, hlt, by go_num, rfl, Lib.hid (inv_new HI.out HY.out HPP.out (fun j' x' e hx' => by cases e; have := HX.out; rw [hx'] at this; cases this; have := HZ1.out; have := HZ2.out; omega)), Lib.hid (HK.out.below HZ.out HK.out.lt), Lib.hid (HB.out.trans (HZ.out.mono HB.out.size))⟩
            case measure => simp [intOf]; omega
          · have hg1 : (S1.size : Int) ≤ S2.size := by omega
            have hg2 : decide ((S2.size : Int) < S1.size) = false := by simp; omega
            have hg3 : decide (S2.size < S1.size) = false := by simp; omega
            go_wp2
            rename_i KC hKC _
            have HKC := Lib.hid hKC
            clear hKC
            -- REGION 4
            refine wp_region_held_drew (S := (fun w' => w'.cell? ⟨b1, off1 + m * 4, none⟩ = some (.string S1) ∧ w'.cell? ⟨b1, off1 + j * 4, none⟩ = some (.string S2))) (by kernel_rfl) ?_ (fun hHeld => ?_)
            · (try dsimp only)
              exact HSB2.out _ HZ.out
            refine wpAnyH_take (i := 0) (oi := ({ dst := some 14, op := Op.move (Operand.tmp 1), type := 9, pos := "ref.go:13", after := #[], guard := none } : Oper)) (v := ?_) rfl (by kernel_rfl) (by kernel_rfl) (by kernel_rfl) (fun _ _ _ h => h) (Or.inl ⟨by kernel_rfl, ?_⟩) (by assumption) ?_
            rotate_left
            · (intro w hSw; (try dsimp only at hSw); go_simp)
              all_goals (with_reducible rfl)
            try simp only [Act.put, List.setIfInBounds_toArray, List.set_cons_zero, List.set_cons_succ]
            refine wpAnyH_take (i := 1) (oi := ({ dst := some 15, op := Op.move (Operand.tmp 0), type := 22, pos := "ref.go:13", after := #[], guard := none } : Oper)) (v := ?_) rfl (by kernel_rfl) (by kernel_rfl) (by kernel_rfl) (fun _ _ _ h => h) (Or.inl ⟨by kernel_rfl, ?_⟩) (by assumption) ?_
            rotate_left
            · (intro w hSw; (try dsimp only at hSw); go_simp)
              all_goals (with_reducible rfl)
            try simp only [Act.put, List.setIfInBounds_toArray, List.set_cons_zero, List.set_cons_succ]
            refine wpAnyH_take (i := 2) (oi := ({ dst := some 16, op := Op.move (Operand.tmp 7), type := 3, pos := "ref.go:13", after := #[], guard := none } : Oper)) (v := ?_) rfl (by kernel_rfl) (by kernel_rfl) (by kernel_rfl) (fun _ _ _ h => h) (Or.inl ⟨by kernel_rfl, ?_⟩) (by assumption) ?_
            rotate_left
            · (intro w hSw; (try dsimp only at hSw); go_simp)
              all_goals (with_reducible rfl)
            try simp only [Act.put, List.setIfInBounds_toArray, List.set_cons_zero, List.set_cons_succ]
            refine wpAnyH_take (i := 3) (oi := ({ dst := some 17, op := Op.indexAddr 22 (Operand.tmp 15) (Operand.tmp 16), type := 0, pos := "ref.go:13", after := #[{ on := 1, ground := Ground.data }, { on := 2, ground := Ground.data }], guard := none } : Oper)) (v := ?_) rfl (by kernel_rfl) (by kernel_rfl) (by kernel_rfl) (fun _ _ _ h => h) (Or.inl ⟨by kernel_rfl, ?_⟩) (by assumption) ?_
            rotate_left
            · (intro w hSw; (try dsimp only at hSw); go_simp)
              all_goals (with_reducible rfl)
            try simp only [Act.put, List.setIfInBounds_toArray, List.set_cons_zero, List.set_cons_succ]
            refine wpAnyH_take (i := 4) (oi := ({ dst := some 18, op := Op.fieldAddr 28 (Operand.tmp 17) 0, type := 0, pos := "ref.go:13", after := #[{ on := 3, ground := Ground.data }], guard := none } : Oper)) (v := ?_) rfl (by kernel_rfl) (by kernel_rfl) (by kernel_rfl) (fun _ _ _ h => h) (Or.inl ⟨by kernel_rfl, ?_⟩) (by assumption) ?_
            rotate_left
            · (intro w hSw; (try dsimp only at hSw); go_simp)
              all_goals (with_reducible rfl)
            try simp only [Act.put, List.setIfInBounds_toArray, List.set_cons_zero, List.set_cons_succ]
            refine wpAnyH_take (i := 5) (oi := ({ dst := some 19, op := Op.load 9 (Operand.tmp 18), type := 9, pos := "ref.go:13", after := #[{ on := 4, ground := Ground.data }], guard := none } : Oper)) (v := ?_) rfl (by kernel_rfl) (by kernel_rfl) (by kernel_rfl) (fun _ _ _ h => h) (Or.inl ⟨by kernel_rfl, ?_⟩) (by assumption) ?_
            rotate_left
            · (intro w hSw; (try dsimp only at hSw); go_simp)
              all_goals (with_reducible rfl)
            try simp only [Act.put, List.setIfInBounds_toArray, List.set_cons_zero, List.set_cons_succ]
            refine wpAnyH_ready (rs := [6]) (by kernel_rfl) (by simp) ?_
            refine (AllReadyH.cons (o := ({ dst := some 20, op := Op.call { callee := Callee.value (Operand.func 19), args := #[Operand.tmp 14, Operand.tmp 19], argTypes := #[9, 9] }, type := 4, pos := "ref.go:13", after := #[{ on := 0, ground := Ground.data }, { on := 5, ground := Ground.data }], guard := none } : Oper)) rfl (fun K hK => ?_) AllReadyH.nil)
            go_simp
            refine (key.refhas_any k S1 hk hs1 _).mono ?_; rintro e z1 ⟨rfl, hb⟩; have HZ := Lib.hid (HZ.out.trans (hb.mono HZ.out.size)); rw [HH.out]; clear hb; go_wp2_with fail
            refine hK.out _ _ ?_ (fun hHeld => ?_)
            · (try dsimp only)
              exact HSB2.out _ HZ.out
            clear hK K
            try simp only [Act.put, List.setIfInBounds_toArray, List.set_cons_zero, List.set_cons_succ]
            refine wpAnyH_take (i := 7) (oi := ({ dst := some 21, op := Op.move (Operand.tmp 20), type := 4, pos := "ref.go:13", after := #[{ on := 6, ground := Ground.data }, { on := 6, ground := Ground.chain }], guard := none } : Oper)) (v := ?_) rfl (by kernel_rfl) (by kernel_rfl) (by kernel_rfl) (fun _ _ _ h => h) (Or.inl ⟨by kernel_rfl, ?_⟩) (by assumption) ?_
            rotate_left
            · (intro w hSw; (try dsimp only at hSw); go_simp)
              all_goals (with_reducible rfl)
            try simp only [Act.put, List.setIfInBounds_toArray, List.set_cons_zero, List.set_cons_succ]
            refine wpAnyH_take (i := 8) (oi := ({ dst := some 22, op := Op.move (Operand.tmp 6), type := 3, pos := "ref.go:13", after := #[{ on := 7, ground := Ground.guard }], guard := some (7, true) } : Oper)) (v := ?_) rfl (by kernel_rfl) (by kernel_rfl) (by kernel_rfl) (fun _ _ _ h => h) (Or.inl ⟨by kernel_rfl, ?_⟩) (by assumption) ?_
            rotate_left
            · (intro w hSw; (try dsimp only at hSw); go_simp)
              all_goals (with_reducible rfl)
            try simp only [Act.put, List.setIfInBounds_toArray, List.set_cons_zero, List.set_cons_succ]
            refine wpAnyH_take (i := 9) (oi := ({ dst := some 23, op := Op.binOp BinOp.lss 3 (Operand.tmp 22) (Operand.const (Value.int IntKind.i64 0)) 3, type := 4, pos := "ref.go:13", after := #[{ on := 8, ground := Ground.data }, { on := 7, ground := Ground.guard }], guard := some (7, true) } : Oper)) (v := ?_) rfl (by kernel_rfl) (by kernel_rfl) (by kernel_rfl) (fun _ _ _ h => h) (Or.inl ⟨by kernel_rfl, ?_⟩) (by assumption) ?_
            rotate_left
            · (intro w hSw; (try dsimp only at hSw); go_simp)
              all_goals (with_reducible rfl)
            try simp only [Act.put, List.setIfInBounds_toArray, List.set_cons_zero, List.set_cons_succ]
            refine wpAnyH_take (i := 10) (oi := ({ dst := some 24, op := Op.move (Operand.tmp 23), type := 4, pos := "ref.go:13", after := #[{ on := 9, ground := Ground.data }, { on := 7, ground := Ground.chain }, { on := 7, ground := Ground.guard }], guard := some (7, true) } : Oper)) (v := ?_) rfl (by kernel_rfl) (by kernel_rfl) (by kernel_rfl) (fun _ _ _ h => h) (Or.inl ⟨by kernel_rfl, ?_⟩) (by assumption) ?_
            rotate_left
            · (intro w hSw; (try dsimp only at hSw); go_simp)
              all_goals (with_reducible rfl)
            try simp only [Act.put, List.setIfInBounds_toArray, List.set_cons_zero, List.set_cons_succ]
            refine wpAnyH_take (i := 11) (oi := ({ dst := some 25, op := Op.move (Operand.tmp 0), type := 22, pos := "ref.go:13", after := #[{ on := 10, ground := Ground.guard }], guard := some (10, false) } : Oper)) (v := ?_) rfl (by kernel_rfl) (by kernel_rfl) (by kernel_rfl) (fun _ _ _ h => h) (Or.inl ⟨by kernel_rfl, ?_⟩) (by assumption) ?_
            rotate_left
            · (intro w hSw; (try dsimp only at hSw); go_simp)
              all_goals (with_reducible rfl)
            try simp only [Act.put, List.setIfInBounds_toArray, List.set_cons_zero, List.set_cons_succ]
            refine wpAnyH_take (i := 12) (oi := ({ dst := some 26, op := Op.move (Operand.tmp 7), type := 3, pos := "ref.go:13", after := #[{ on := 10, ground := Ground.guard }], guard := some (10, false) } : Oper)) (v := ?_) rfl (by kernel_rfl) (by kernel_rfl) (by kernel_rfl) (fun _ _ _ h => h) (Or.inl ⟨by kernel_rfl, ?_⟩) (by assumption) ?_
            rotate_left
            · (intro w hSw; (try dsimp only at hSw); go_simp)
              all_goals (with_reducible rfl)
            try simp only [Act.put, List.setIfInBounds_toArray, List.set_cons_zero, List.set_cons_succ]
            refine wpAnyH_take (i := 13) (oi := ({ dst := some 27, op := Op.indexAddr 22 (Operand.tmp 25) (Operand.tmp 26), type := 0, pos := "ref.go:13", after := #[{ on := 11, ground := Ground.data }, { on := 12, ground := Ground.data }, { on := 10, ground := Ground.guard }], guard := some (10, false) } : Oper)) (v := ?_) rfl (by kernel_rfl) (by kernel_rfl) (by kernel_rfl) (fun _ _ _ h => h) (Or.inl ⟨by kernel_rfl, ?_⟩) (by assumption) ?_
            rotate_left
            · (intro w hSw; (try dsimp only at hSw); go_simp)
              all_goals (with_reducible rfl)
            try simp only [Act.put, List.setIfInBounds_toArray, List.set_cons_zero, List.set_cons_succ]
            refine wpAnyH_take (i := 14) (oi := ({ dst := some 28, op := Op.fieldAddr 28 (Operand.tmp 27) 0, type := 0, pos := "ref.go:13", after := #[{ on := 13, ground := Ground.data }, { on := 10, ground := Ground.guard }], guard := some (10, false) } : Oper)) (v := ?_) rfl (by kernel_rfl) (by kernel_rfl) (by kernel_rfl) (fun _ _ _ h => h) (Or.inl ⟨by kernel_rfl, ?_⟩) (by assumption) ?_
            rotate_left
            · (intro w hSw; (try dsimp only at hSw); go_simp)
              all_goals (with_reducible rfl)
            try simp only [Act.put, List.setIfInBounds_toArray, List.set_cons_zero, List.set_cons_succ]
            refine wpAnyH_take (i := 15) (oi := ({ dst := some 29, op := Op.load 9 (Operand.tmp 28), type := 9, pos := "ref.go:13", after := #[{ on := 14, ground := Ground.data }, { on := 10, ground := Ground.guard }], guard := some (10, false) } : Oper)) (v := ?_) rfl (by kernel_rfl) (by kernel_rfl) (by kernel_rfl) (fun _ _ _ h => h) (Or.inl ⟨by kernel_rfl, ?_⟩) (by assumption) ?_
            rotate_left
            · (intro w hSw; (try dsimp only at hSw); go_simp)
              all_goals (with_reducible rfl)
            try simp only [Act.put, List.setIfInBounds_toArray, List.set_cons_zero, List.set_cons_succ]
            refine wpAnyH_take (i := 16) (oi := ({ dst := some 30, op := Op.call { callee := Callee.builtin Builtin.len, args := #[Operand.tmp 29], argTypes := #[9] }, type := 3, pos := "ref.go:13", after := #[{ on := 15, ground := Ground.data }, { on := 10, ground := Ground.guard }], guard := some (10, false) } : Oper)) (v := ?_) rfl (by kernel_rfl) (by kernel_rfl) (by kernel_rfl) (fun _ _ _ h => h) (Or.inl ⟨by kernel_rfl, ?_⟩) (by assumption) ?_
            rotate_left
            · (intro w hSw; (try dsimp only at hSw); go_simp)
              all_goals (with_reducible rfl)
            try simp only [Act.put, List.setIfInBounds_toArray, List.set_cons_zero, List.set_cons_succ]
            refine wpAnyH_take (i := 17) (oi := ({ dst := some 31, op := Op.move (Operand.tmp 0), type := 22, pos := "ref.go:13", after := #[{ on := 10, ground := Ground.guard }], guard := some (10, false) } : Oper)) (v := ?_) rfl (by kernel_rfl) (by kernel_rfl) (by kernel_rfl) (fun _ _ _ h => h) (Or.inl ⟨by kernel_rfl, ?_⟩) (by assumption) ?_
            rotate_left
            · (intro w hSw; (try dsimp only at hSw); go_simp)
              all_goals (with_reducible rfl)
            try simp only [Act.put, List.setIfInBounds_toArray, List.set_cons_zero, List.set_cons_succ]
            refine wpAnyH_take (i := 18) (oi := ({ dst := some 32, op := Op.move (Operand.tmp 6), type := 3, pos := "ref.go:13", after := #[{ on := 10, ground := Ground.guard }], guard := some (10, false) } : Oper)) (v := ?_) rfl (by kernel_rfl) (by kernel_rfl) (by kernel_rfl) (fun _ _ _ h => h) (Or.inl ⟨by kernel_rfl, ?_⟩) (by assumption) ?_
            rotate_left
            · (intro w hSw; (try dsimp only at hSw); go_simp)
              all_goals (with_reducible rfl)
            try simp only [Act.put, List.setIfInBounds_toArray, List.set_cons_zero, List.set_cons_succ]
            refine wpAnyH_take (i := 19) (oi := ({ dst := some 33, op := Op.indexAddr 22 (Operand.tmp 31) (Operand.tmp 32), type := 0, pos := "ref.go:13", after := #[{ on := 17, ground := Ground.data }, { on := 18, ground := Ground.data }, { on := 10, ground := Ground.guard }], guard := some (10, false) } : Oper)) (v := ?_) rfl (by kernel_rfl) (by kernel_rfl) (by kernel_rfl) (fun _ _ _ h => h) (Or.inl ⟨by kernel_rfl, ?_⟩) (by assumption) ?_
            rotate_left
            · (intro w hSw; (try dsimp only at hSw); go_simp)
              all_goals (with_reducible rfl)
            try simp only [Act.put, List.setIfInBounds_toArray, List.set_cons_zero, List.set_cons_succ]
            refine wpAnyH_take (i := 20) (oi := ({ dst := some 34, op := Op.fieldAddr 28 (Operand.tmp 33) 0, type := 0, pos := "ref.go:13", after := #[{ on := 19, ground := Ground.data }, { on := 10, ground := Ground.guard }], guard := some (10, false) } : Oper)) (v := ?_) rfl (by kernel_rfl) (by kernel_rfl) (by kernel_rfl) (fun _ _ _ h => h) (Or.inl ⟨by kernel_rfl, ?_⟩) (by assumption) ?_
            rotate_left
            · (intro w hSw; (try dsimp only at hSw); go_simp)
              all_goals (with_reducible rfl)
            try simp only [Act.put, List.setIfInBounds_toArray, List.set_cons_zero, List.set_cons_succ]
            refine wpAnyH_take (i := 21) (oi := ({ dst := some 35, op := Op.load 9 (Operand.tmp 34), type := 9, pos := "ref.go:13", after := #[{ on := 20, ground := Ground.data }, { on := 10, ground := Ground.guard }], guard := some (10, false) } : Oper)) (v := ?_) rfl (by kernel_rfl) (by kernel_rfl) (by kernel_rfl) (fun _ _ _ h => h) (Or.inl ⟨by kernel_rfl, ?_⟩) (by assumption) ?_
            rotate_left
            · (intro w hSw; (try dsimp only at hSw); go_simp)
              all_goals (with_reducible rfl)
            try simp only [Act.put, List.setIfInBounds_toArray, List.set_cons_zero, List.set_cons_succ]
            refine wpAnyH_take (i := 22) (oi := ({ dst := some 36, op := Op.call { callee := Callee.builtin Builtin.len, args := #[Operand.tmp 35], argTypes := #[9] }, type := 3, pos := "ref.go:13", after := #[{ on := 21, ground := Ground.data }, { on := 10, ground := Ground.guard }], guard := some (10, false) } : Oper)) (v := ?_) rfl (by kernel_rfl) (by kernel_rfl) (by kernel_rfl) (fun _ _ _ h => h) (Or.inl ⟨by kernel_rfl, ?_⟩) (by assumption) ?_
            rotate_left
            · (intro w hSw; (try dsimp only at hSw); go_simp)
              all_goals (with_reducible rfl)
            try simp only [Act.put, List.setIfInBounds_toArray, List.set_cons_zero, List.set_cons_succ]
            refine wpAnyH_take (i := 23) (oi := ({ dst := some 37, op := Op.binOp BinOp.gtr 3 (Operand.tmp 30) (Operand.tmp 36) 3, type := 4, pos := "ref.go:13", after := #[{ on := 16, ground := Ground.data }, { on := 22, ground := Ground.data }, { on := 10, ground := Ground.guard }], guard := some (10, false) } : Oper)) (v := ?_) rfl (by kernel_rfl) (by kernel_rfl) (by kernel_rfl) (fun _ _ _ h => h) (Or.inl ⟨by kernel_rfl, ?_⟩) (by assumption) ?_
            rotate_left
            · (intro w hSw; (try dsimp only at hSw); go_simp)
              all_goals (with_reducible rfl)
            try simp only [Act.put, List.setIfInBounds_toArray, List.set_cons_zero, List.set_cons_succ]
            refine wpAnyH_take (i := 24) (oi := ({ dst := some 38, op := Op.pick (Operand.tmp 24) (Operand.const (Value.bool true)) (Operand.tmp 37), type := 4, pos := "ref.go:13", after := #[{ on := 10, ground := Ground.data }, { on := 23, ground := Ground.data }, { on := 7, ground := Ground.guard }], guard := some (7, true) } : Oper)) (v := ?_) rfl (by kernel_rfl) (by kernel_rfl) (by kernel_rfl) (fun _ _ _ h => h) (Or.inl ⟨by kernel_rfl, ?_⟩) (by assumption) ?_
            rotate_left
            · (intro w hSw; (try dsimp only at hSw); go_simp)
              all_goals (with_reducible rfl)
            try simp only [Act.put, List.setIfInBounds_toArray, List.set_cons_zero, List.set_cons_succ]
            refine wpAnyH_take (i := 25) (oi := ({ dst := some 39, op := Op.pick (Operand.tmp 21) (Operand.tmp 38) (Operand.const (Value.bool false)), type := 4, pos := "ref.go:13", after := #[{ on := 7, ground := Ground.data }, { on := 24, ground := Ground.data }], guard := none } : Oper)) (v := ?_) rfl (by kernel_rfl) (by kernel_rfl) (by kernel_rfl) (fun _ _ _ h => h) (Or.inl ⟨by kernel_rfl, ?_⟩) (by assumption) ?_
            rotate_left
            · (intro w hSw; (try dsimp only at hSw); go_simp)
              all_goals (with_reducible rfl)
            try simp only [Act.put, List.setIfInBounds_toArray, List.set_cons_zero, List.set_cons_succ]
            refine wpAnyH_done (by kernel_rfl) ?_ _
            -- END REGION 4
            change KC _ _
            refine HKC.out _ _ ?_
            clear HKC
            go_wp2
            go_roundw
            case rel => exact ⟨m + 1, some j, hlt, by go_num, rfl, Lib.hid (inv_less HI.out HX.out HY.out (by have := HZ1.out; have := HZ2.out; omega)), Lib.hid (HK.out.below HZ.out HK.out.lt), Lib.hid (HB.out.trans (HZ.out.mono HB.out.size))⟩
            case measure => simp [intOf]; omega
    · obtain rfl : m = L.length := by omega
      have d0 : wr.cell? ⟨w.heap.size, 0, none⟩ = some (.string ⟨#[]⟩) := HK.out.cell 0
      have d1 : wr.cell? ⟨w.heap.size, 1, none⟩ = some (.int .u64 0) := HK.out.cell 1
      have d2 : wr.cell? ⟨w.heap.size, 2, none⟩ = some (.int .u64 0) := HK.out.cell 2
      have d3 : wr.cell? ⟨w.heap.size, 3, none⟩ = some (.int .u8 0) := HK.out.cell 3
      have g0 := HK.out.frozen 0
      have g1 := HK.out.frozen 1
      have g2 := HK.out.frozen 2
      have g3 := HK.out.frozen 3
      cases o with
      | none =>
        have e1 : atVal none = -1 := rfl
        rw [e1]
        go_wp2
        have q := (((HK.out.set_ 0 (.string ⟨#[]⟩)).set_ 1 (.int .u64 0)).set_ 2 (.int .u64 0)).set_ 3 (.int .u8 0)
        have hB4 := ((((HB.out.setCell (p := ⟨w.heap.size, 0, none⟩) (Nat.le_refl _) (.string ⟨#[]⟩)).setCell (p := ⟨w.heap.size, 1, none⟩) (Nat.le_refl _) (.int .u64 0)).setCell (p := ⟨w.heap.size, 2, none⟩) (Nat.le_refl _) (.int .u64 0)).setCell (p := ⟨w.heap.size, 3, none⟩) (Nat.le_refl _) (.int .u8 0))
        generalize ((((wr.setCell ⟨w.heap.size, 0, none⟩ (.string ⟨#[]⟩)).setCell ⟨w.heap.size, 1, none⟩ (.int .u64 0)).setCell ⟨w.heap.size, 2, none⟩ (.int .u64 0)).setCell ⟨w.heap.size, 3, none⟩ (.int .u8 0)) = W4 at q hB4 ⊢
        have r0 := q.cell 0
        have r1 := q.cell 1
        have r2 := q.cell 2
        have r3 := q.cell 3
        simp [zeroRul, Rul.cells] at r0 r1 r2 r3
        refine bodyPost_ret (v := found none) (by simp [results, Try.results15, go_sem, r0, r1, r2, r3, found, zeroRul, Rul.cells]) rfl ?_
        exact ⟨_, rfl, inv_end.1 HI.out, hB4⟩
      | some j =>
        obtain ⟨x, hj, hx, -⟩ := id HI.out
        obtain ⟨b1, off1, rfl, hb1, e0, e1, e2, e3⟩ := rul_at (HR.out.below HB.out) hx
        have hbl : b1 < wr.heap.size := Nat.lt_of_lt_of_le hb1 HB.out.size
        have hF := inv_end.2 j x HI.out hx
        have HF := Lib.hid hF
        have ea : atVal (some j) = (j : Int) := rfl
        rw [ea]
        have hj0 : ¬ ((j : Int) < 0) := by omega
        have hjl : (j : Int) < L.length := by omega
        clear hF hx ea
        go_wp2
        have q := (((HK.out.set_ 0 (.string ⟨x.pre.toArray⟩)).set_ 1 (.int .u64 x.every)).set_ 2 (.int .u64 x.burst)).set_ 3 (.int .u8 x.kind)
        have hB4 := ((((HB.out.setCell (p := ⟨w.heap.size, 0, none⟩) (Nat.le_refl _) (.string ⟨x.pre.toArray⟩)).setCell (p := ⟨w.heap.size, 1, none⟩) (Nat.le_refl _) (.int .u64 x.every)).setCell (p := ⟨w.heap.size, 2, none⟩) (Nat.le_refl _) (.int .u64 x.burst)).setCell (p := ⟨w.heap.size, 3, none⟩) (Nat.le_refl _) (.int .u8 x.kind))
        generalize ((((wr.setCell ⟨w.heap.size, 0, none⟩ (.string ⟨x.pre.toArray⟩)).setCell ⟨w.heap.size, 1, none⟩ (.int .u64 x.every)).setCell ⟨w.heap.size, 2, none⟩ (.int .u64 x.burst)).setCell ⟨w.heap.size, 3, none⟩ (.int .u8 x.kind)) = W4 at q hB4 ⊢
        have r0 := q.cell 0
        have r1 := q.cell 1
        have r2 := q.cell 2
        have r3 := q.cell 3
        simp [zeroRul, Rul.cells] at r0 r1 r2 r3
        refine bodyPost_ret (v := found (some x)) (by simp [results, Try.results15, go_sem, r0, r1, r2, r3, found, zeroRul, Rul.cells]) rfl ?_
        exact ⟨_, rfl, HF.out, hB4⟩
end Go.Proofs.Ytdjhjgimlpdckaa.pre
