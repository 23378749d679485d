/- tollerlaw12.Policy, walked. -/
import Derived.Test.YtdjhjgimlpdckaaPreRules
import Derived.Test.YtdjhjgimlpdckaaKeyKey
import Derived.Test.YtdjhjgimlpdckaaAppendN
import Derived.Test.YtdjhjgimlpdckaaBytes
import Derived.Deep.RegionHeld
import Derived.Deep.QuietTactic
namespace Go.Proofs.Ytdjhjgimlpdckaa.pre
open Go.RowKit
open Go.Proofs.Ytdjhjgimlpdckaa.aid

/-- what a rule's numbers are -/
structure Num where
  pre : List UInt8
  A : Option Addr
  c : Nat
  every : Nat
  burst : Nat
  kind : Nat
def Num.cells (x : Num) : Array Value := #[.slice x.A x.pre.length x.c, .int .u32 (x.every : Nat), .int .u16 (x.burst : Nat), .int .u8 (x.kind : Nat)]
def ncells (L : List Num) : List Value := L.flatMap fun x => x.cells.toList
theorem ncells_len : ∀ L : List Num, (ncells L).length = 4 * L.length
  | [] => rfl
  | x :: r => by
    have := ncells_len r
    have e1 : ncells (x :: r) = .slice x.A x.pre.length x.c :: .int .u32 (x.every : Nat) :: .int .u16 (x.burst : Nat) :: .int .u8 (x.kind : Nat) :: ncells r := rfl
    rw [e1]
    simp only [List.length_cons]
    omega
theorem ncells_at : ∀ (L : List Num) (k : Nat) (x : Num), L[k]? = some x → (ncells L)[4 * k]? = some (.slice x.A x.pre.length x.c) ∧ (ncells L)[4 * k + 1]? = some (.int .u32 (x.every : Nat)) ∧ (ncells L)[4 * k + 2]? = some (.int .u16 (x.burst : Nat)) ∧ (ncells L)[4 * k + 3]? = some (.int .u8 (x.kind : Nat))
  | [], _, _, h => by simp at h
  | y :: r, 0, x, h => by
    simp at h
    subst h
    exact ⟨rfl, rfl, rfl, rfl⟩
  | y :: r, k + 1, x, h => by
    obtain ⟨h1, h2, h3, h4⟩ := ncells_at r k x (by simpa using h)
    have e1 : ncells (y :: r) = .slice y.A y.pre.length y.c :: .int .u32 (y.every : Nat) :: .int .u16 (y.burst : Nat) :: .int .u8 (y.kind : Nat) :: ncells r := rfl
    rw [e1, show 4 * (k + 1) = 4 * k + 1 + 1 + 1 + 1 from by omega, show 4 * k + 1 + 1 + 1 + 1 + 1 = (4 * k + 1) + 1 + 1 + 1 + 1 from by omega, show 4 * k + 1 + 1 + 1 + 1 + 2 = (4 * k + 2) + 1 + 1 + 1 + 1 from by omega, show 4 * k + 1 + 1 + 1 + 1 + 3 = (4 * k + 3) + 1 + 1 + 1 + 1 from by omega]
    simp only [List.getElem?_cons_succ]
    exact ⟨h1, h2, h3, h4⟩
/-- the slice's elements are the numbers ns -/
def Nums (w : World) (B : Nat) (A : Option Addr) (ns : List Num) : Prop :=
  Row w B A (ncells ns) ∧ ∀ x ∈ ns, Row w B x.A (u8s x.pre) ∧ x.pre.length ≤ 9223372036854775807 ∧ x.every < 4294967296 ∧ x.burst < 65536 ∧ x.kind < 256
theorem Nums.below {w w' : World} {B : Nat} {A : Option Addr} {ns : List Num} (h : Nums w B A ns) (hb : Below B w w') : Nums w' B A ns := ⟨h.1.below hb, fun x hx => ⟨(h.2 x hx).1.below hb, (h.2 x hx).2⟩⟩
theorem Nums.more {w : World} {B B' : Nat} {A : Option Addr} {ns : List Num} (h : Nums w B A ns) (hb : B ≤ B') : Nums w B' A ns := ⟨h.1.more hb, fun x hx => ⟨(h.2 x hx).1.more hb, (h.2 x hx).2⟩⟩
theorem num_at {w : World} {B : Nat} {A : Option Addr} {L : List Num} (h : Row w B A (ncells L)) {k : Nat} {x : Num} (hk : L[k]? = some x) : ∃ b off, A = some ⟨b, off, none⟩ ∧ b < B ∧ w.cell? ⟨b, off + k * 4, none⟩ = some (.slice x.A x.pre.length x.c) ∧
    w.cell? ⟨b, off + k * 4 + 1, none⟩ = some (.int .u32 (x.every : Nat)) ∧ w.cell? ⟨b, off + k * 4 + 2, none⟩ = some (.int .u16 (x.burst : Nat)) ∧ w.cell? ⟨b, off + k * 4 + 3, none⟩ = some (.int .u8 (x.kind : Nat)) := by
  have hl : k < L.length := (List.getElem?_eq_some_iff.1 hk).1
  obtain ⟨b, off, e, hlt, hc⟩ := h.at_ (k := 4 * k) (by rw [ncells_len]; omega)
  obtain ⟨h1, h2, h3, h4⟩ := ncells_at L k x hk
  rw [Nat.mul_comm k 4]
  exact ⟨b, off, e, hlt, hc _ _ h1, by rw [Nat.add_assoc]; exact hc _ _ h2, by rw [Nat.add_assoc]; exact hc _ _ h3, by rw [Nat.add_assoc]; exact hc _ _ h4⟩

def ruleOf (x : Num) : Rul := if 200 ≤ x.kind then ⟨key.keyOf x.pre, ((1 + x.every % 50 : Nat) : Int), ((1 + x.burst % 9 : Nat) : Int), ((1 + x.kind % 3 : Nat) : Int)⟩ else ⟨key.keyOf x.pre, ((1 + x.every : Nat) : Int), ((1 + x.burst : Nat) : Int), ((1 + x.kind % 3 : Nat) : Int)⟩
def rule0 (most : Nat) : Rul := ⟨[], 1000, 5, ((1 + most % 3 : Nat) : Int)⟩
def newIn (l : List Rul) (p : List UInt8) : Bool := l.all fun y => decide (y.pre ≠ p)
theorem newIn_succ {L : List Rul} {m : Nat} {y : Rul} {p : List UInt8} (h : L[m]? = some y) : newIn (L.take (m + 1)) p = (newIn (L.take m) p && decide (y.pre ≠ p)) := by
  obtain ⟨hl, e⟩ := List.getElem?_eq_some_iff.1 h
  unfold newIn
  rw [List.take_succ_eq_append_getElem hl, List.all_append, e]
  simp
def polTo (most : Nat) (ns : List Num) : Nat → List Rul
  | 0 => [rule0 most]
  | k + 1 => match ns[k]? with
    | some x => if newIn (polTo most ns k) (ruleOf x).pre then polTo most ns k ++ [ruleOf x] else polTo most ns k
    | none => polTo most ns k
def polRules (most : Nat) (ns : List Num) : List Rul := polTo most ns (min ns.length 12)
theorem polTo_len (most : Nat) (ns : List Num) : ∀ k, 1 ≤ (polTo most ns k).length ∧ (polTo most ns k).length ≤ k + 1
  | 0 => ⟨by simp [polTo], by simp [polTo]⟩
  | k + 1 => by
    have := polTo_len most ns k
    unfold polTo
    split
    · split
      · simp
        omega
      · omega
    · omega

def PolRel (w : World) (most : Nat) (ns : List Num) (i : Value) (wr : World) : Prop :=
  ∃ (k : Nat) (v : Value), i = .int .i64 (k : Nat) ∧ k ≤ ns.length ∧ k ≤ 12 ∧ Hid (Blk wr w.heap.size 31 #[.int .i64 0, .slice none 0 0]) ∧ Hid (Blk wr (w.heap.size + 1) 31 #[.int .i64 ((1 + most % 50 : Nat) : Int), v]) ∧
    Hid (wr.ownsRow (w.heap.size + 2) 28 4 v (polTo most ns k).length (rcells (polTo most ns k))) ∧ Hid (Below w.heap.size w wr)

theorem own_formN {w : World} {base : Nat} {e : TypeId} {size : Nat} {v : Value} {n : Nat} {xs : List Value} (h : w.ownsRow base e size v n xs) : ∃ A c, v = .slice A n c ∧ n ≤ c := by
  rcases h.2 with ⟨rfl, rfl⟩ | ⟨g, cap, cur, rfl, _, _, hnc, _⟩
  · exact ⟨none, 0, rfl, Nat.le_refl _⟩
  · exact ⟨_, cap, rfl, hnc⟩
theorem own_old {w w' : World} {base : Nat} {e : TypeId} {size : Nat} {v : Value} {n : Nat} {xs : List Value} (h : w.ownsRow base e size v n xs) (hb : Below w.heap.size w w') : w'.ownsRow base e size v n xs :=
  h.kept (grown_none hb none) (by cases hv : v.ownBlock <;> simp)
theorem of_ownN {w : World} {base : Nat} {e : TypeId} {size n c : Nat} {A : Option Addr} {vs : List Value} (h : w.ownsRow base e size (.slice A n c) n vs) : Row w w.heap.size A vs := fun hn => by
  have hlen := h.1
  rcases h.2 with ⟨hv, h0⟩ | ⟨g, cap, cur, hv, hbase, hblk, hn1, hcap, hsz, htake⟩
  · exact absurd (List.eq_nil_of_length_eq_zero (by rw [hlen, h0]; simp)) hn
  · have hA : A = some ⟨g, 0, none⟩ := by injection hv
    subst hA
    have hlt : g < w.heap.size := (Array.getElem?_eq_some_iff.1 hblk).1
    refine ⟨g, 0, rfl, hlt, fun j v hj => ?_⟩
    rw [Nat.zero_add, cell_of_row w g j cur e (0, 0) hblk]
    rw [← htake, List.getElem?_take] at hj
    split at hj
    · simpa using hj
    · cases hj
abbrev zeroCells : Array Value := #[.string ⟨#[]⟩, .int .u64 0, .int .u64 0, .int .u8 0]
theorem blk_zero {B : Nat} {w W : World} (_ : Below B w W) : Blk (W.alloc (.cells zeroCells 28)) W.heap.size 28 zeroCells := Blk.new W _ _

theorem zero_at {W : World} {g : Nat} (h : Blk W g 28 zeroCells) : W.cell? ⟨g, 0, none⟩ = some (.string ⟨#[]⟩) ∧ W.cell? ⟨g, 1, none⟩ = some (.int .u64 0) ∧ W.cell? ⟨g, 2, none⟩ = some (.int .u64 0) ∧ W.cell? ⟨g, 3, none⟩ = some (.int .u8 0) ∧ ∀ i, W.frozen? ⟨g, i, none⟩ = false :=
  ⟨h.cell 0, h.cell 1, h.cell 2, h.cell 3, h.frozen⟩

theorem info_rule : (Try.prog.info? 28).map (fun i => (i.zero, i.size, i.bytes)) = some (some (.agg #[.string ⟨#[]⟩, .int .u64 0, .int .u64 0, .int .u8 0]), 4, 40) := by kernel_rfl

set_option maxRecDepth 100000 in
set_option maxHeartbeats 4000000 in
theorem policy_any (most : Nat) (hm : most < 65536) (ns : List Num) (A : Option Addr) (c : Nat) (hn : ns.length ≤ 9223372036854775807) (w : World) (hr : Nums w w.heap.size A ns) :
    Calls Try.prog 9 #[.int .u16 (most : Nat), .slice A ns.length c] w fun e w' => ∃ A' c', e = .returned (.agg #[.int .i64 ((1 + most % 50 : Nat) : Int), .slice A' (polRules most ns).length c']) ∧ (polRules most ns).length ≤ c' ∧
      Row w' w'.heap.size A' (rcells (polRules most ns)) ∧ Below w.heap.size w w' := by
  have HR := Lib.hid hr
  clear hr
  obtain ⟨i0, hi, hz0, hz1, hz2⟩ := info_parts info_rule
  have HQ := Lib.hid (show _ ∧ _ ∧ _ ∧ _ from ⟨hi, hz0, hz1, hz2⟩)
  clear hi hz0 hz1 hz2
  have w1 : IntKind.u8.wrap (1 + ((most : Int) % 3)) = ((1 + most % 3 : Nat) : Int) := by
    unfold IntKind.wrap
    simp [IntKind.bits, IntKind.signed, IntKind.min, IntKind.max]
    omega
  go_enter Try.func9, Try.ntmps9
  have hm3 : (0 : Int) ≤ (most : Int) % 3 ∧ (most : Int) % 3 ≤ 2 := by omega
  go_wp2_with (at_builtin; go_loud (refine wpList_append_rowN _ rfl (.tmp 16) (.tmp 22) 22 rfl (w.heap.size + 2) 28 i0 _ 4 40 (by omega) rfl HQ.out.1 HQ.out.2.1 HQ.out.2.2.1 HQ.out.2.2.2 rfl (.slice none 0 0) 0 [] rfl (World.ownsRow_nil _ _ _ _) _ (some ⟨w.heap.size + 1 + 1, 0, none⟩) 1 1 [.string ⟨#[]⟩, .int .u64 1000, .int .u64 5, .int .u8 (1 + (most : Int) % 3)] rfl rfl (by have := Row.new ((w.alloc (.cells #[.int .i64 0, .slice none 0 0] 31)).alloc (.cells #[.int .i64 (1 + (most : Int) % 50), .slice none 0 0] 31)) 28 #[.string ⟨#[]⟩, .int .u64 1000, .int .u64 5, .int .u8 (1 + (most : Int) % 3)]; simp only [World.size_alloc] at this; exact this) (by simp [Value.oneCell']) (by unfold maxLen; omega) (by omega) (by simp only [World.size_alloc]; omega) ?_); go_loud (intro v1 w5 hown1 hg1 hat1; have hs5 := (((Blk.new w 31 #[.int .i64 0, .slice none 0 0]).alloc (.cells #[.int .i64 (1 + (most : Int) % 50), .slice none 0 0] 31)).alloc (.cells #[.string ⟨#[]⟩, .int .u64 1000, .int .u64 5, .int .u8 (1 + (most : Int) % 3)] 28)).grown hg1 (by intro e; cases e); have hp5 := ((Blk.new (w.alloc (.cells #[.int .i64 0, .slice none 0 0] 31)) 31 #[.int .i64 (1 + (most : Int) % 50), .slice none 0 0]).alloc (.cells #[.string ⟨#[]⟩, .int .u64 1000, .int .u64 5, .int .u8 (1 + (most : Int) % 3)] 28)).grown hg1 (by intro e; cases e); have hb5 := ((((Below.refl _ w).alloc (Nat.le_refl _) (.cells #[.int .i64 0, .slice none 0 0] 31)).alloc (by simp only [World.size_alloc]; omega) (.cells #[.int .i64 (1 + (most : Int) % 50), .slice none 0 0] 31)).alloc (by simp only [World.size_alloc]; omega) (.cells #[.string ⟨#[]⟩, .int .u64 1000, .int .u64 5, .int .u8 (1 + (most : Int) % 3)] 28)).grown hg1 (by simp only [World.size_alloc]; omega) (fun k hk => by cases hk); simp only [World.size_alloc] at hp5; obtain ⟨A5, c5, rfl, hc5⟩ := own_formN hown1; have q0 := hp5.cell 0; have q1 := hp5.cell 1; have qf := hp5.frozen 1; have HS5 := Lib.hid hs5; have HP5 := Lib.hid hp5; have HB5 := Lib.hid hb5; have HO5 := Lib.hid hown1; clear hs5 hp5 hb5 hown1 hg1 hat1; simp only [List.getElem?_toArray, List.getElem?_cons_zero, List.getElem?_cons_succ] at q0 q1))
  have start : PolRel w most ns (.int .i64 ((0 : Nat) : Int)) (w5.setCell ⟨w.heap.size + 1, 1, none⟩ (.slice A5 1 c5)) := by
    refine ⟨0, .slice A5 1 c5, rfl, Nat.zero_le _, by omega, Lib.hid (HS5.out.far (p := ⟨w.heap.size + 1, 1, none⟩) (show w.heap.size ≠ w.heap.size + 1 by omega) _), Lib.hid ?_, Lib.hid ?_, Lib.hid (HB5.out.setCell (p := ⟨w.heap.size + 1, 1, none⟩) (show w.heap.size ≤ w.heap.size + 1 by omega) _)⟩
    · have := HP5.out.set_ 1 (.slice A5 1 c5)
      have e : ((1 + most % 50 : Nat) : Int) = 1 + (most : Int) % 50 := by omega
      rw [e]
      exact this
    · have e : rcells (polTo most ns 0) = [.string ⟨#[]⟩, .int .u64 1000, .int .u64 5, .int .u8 (1 + (most : Int) % 3)] := by
        have e : ((1 + most % 3 : Nat) : Int) = 1 + (most : Int) % 3 := by omega
        rw [← e]
        rfl
      rw [e]
      exact own_kept HO5.out (grown_set _ _ _ _) (fun hh => by have := (own_lt HO5.out hh).1; omega)
  have START := Lib.hid start
  clear start HS5 HP5 HB5 HO5 q0 q1 qf
  go_loopw [6] (fun i wr => PolRel w most ns i wr) (fun i _ => 12 - (intOf i).toNat)
  case atStart => exact START.out
  case round =>
    clear START
    obtain ⟨k, v, rfl, hk, hk12, HS, HP, HO, HB⟩ := hrel
    have hfin : ∀ {n : Nat}, n = min ns.length 12 → polTo most ns n = polRules most ns := fun h => by rw [h]; rfl
    by_cases hlt : k < ns.length
    · by_cases hlt12 : k < 12
      · obtain ⟨x, hx⟩ : ∃ x, ns[k]? = some x := ⟨_, List.getElem?_eq_getElem hlt⟩
        have hrow := HR.out.below HB.out
        obtain ⟨b0, off, rfl, hb0, c0, c1, c2, c3⟩ := num_at hrow.1 hx
        have hb1 : b0 < wr.heap.size := Nat.lt_of_lt_of_le hb0 HB.out.size
        obtain ⟨hxr, hxl, hx1, hx2, hx3⟩ := hrow.2 x (List.mem_iff_getElem?.2 ⟨k, hx⟩)
        have HNX := Lib.hid (show Row wr wr.heap.size x.A (u8s x.pre) ∧ x.pre.length ≤ 9223372036854775807 from ⟨hxr.more HB.out.size, hxl⟩)
        have HX := Lib.hid hx
        have HSB := Lib.hid (fun (W : World) (h : Below wr.heap.size wr W) => show W.cell? ⟨b0, off + k * 4, none⟩ = some (.slice x.A x.pre.length x.c) ∧ W.cell? ⟨b0, off + k * 4 + 1, none⟩ = some (.int .u32 (x.every : Nat)) ∧ W.cell? ⟨b0, off + k * 4 + 2, none⟩ = some (.int .u16 (x.burst : Nat)) ∧ W.cell? ⟨b0, off + k * 4 + 3, none⟩ = some (.int .u8 (x.kind : Nat)) from
          ⟨(h.cell (p := ⟨b0, _, none⟩) hb1).trans c0, (h.cell (p := ⟨b0, _, none⟩) hb1).trans c1, (h.cell (p := ⟨b0, _, none⟩) hb1).trans c2, (h.cell (p := ⟨b0, _, none⟩) hb1).trans c3⟩)
        have wE0 : IntKind.u64.wrap (x.every : Int) = x.every := by unfold IntKind.wrap; simp [IntKind.bits, IntKind.signed, IntKind.min, IntKind.max]; omega
        have wE1 : IntKind.u64.wrap (1 + (x.every : Int)) = 1 + x.every := by unfold IntKind.wrap; simp [IntKind.bits, IntKind.signed, IntKind.min, IntKind.max]; omega
        have wU0 : IntKind.u64.wrap (x.burst : Int) = x.burst := by unfold IntKind.wrap; simp [IntKind.bits, IntKind.signed, IntKind.min, IntKind.max]; omega
        have wU1 : IntKind.u64.wrap (1 + (x.burst : Int)) = 1 + x.burst := by unfold IntKind.wrap; simp [IntKind.bits, IntKind.signed, IntKind.min, IntKind.max]; omega
        have wD0 : (x.kind : Int).tmod 3 = (x.kind : Int) % 3 := Int.tmod_eq_emod_of_nonneg (by omega)
        have wD1 : IntKind.u8.wrap (1 + (x.kind : Int) % 3) = 1 + (x.kind : Int) % 3 := by unfold IntKind.wrap; simp [IntKind.bits, IntKind.signed, IntKind.min, IntKind.max]; omega
        clear hx hxr hxl hrow hfin c0 c1 c2 c3
        go_wp2_with fail
        rename_i KC hKC
        have HKC := Lib.hid hKC
        clear hKC
        have HZ := Lib.hid (show Below wr.heap.size wr wr.drew from (Below.refl _ wr).drew)
        -- REGION
        refine wp_region_held_drew (S := (fun w' => w'.cell? ⟨b0, off + k * 4, none⟩ = some (.slice x.A x.pre.length x.c) ∧ w'.cell? ⟨b0, off + k * 4 + 1, none⟩ = some (.int .u32 (x.every : Nat)) ∧ w'.cell? ⟨b0, off + k * 4 + 2, none⟩ = some (.int .u16 (x.burst : Nat)) ∧ w'.cell? ⟨b0, off + k * 4 + 3, none⟩ = some (.int .u8 (x.kind : Nat)))) (by kernel_rfl) ?_ (fun hHeld => ?_)
        · (try dsimp only)
          first | exact HSB.out _ HZ.out | exact HSB.out _ (HZ0.out.alloc HZ0.out.size _) | exact HSB.out _ ((((HZ.out.setCell (p := ⟨_, 0, none⟩) (Nat.le_refl _) _).setCell (p := ⟨_, 1, none⟩) (Nat.le_refl _) _).setCell (p := ⟨_, 2, none⟩) (Nat.le_refl _) _).setCell (p := ⟨_, 3, none⟩) (Nat.le_refl _) _)
        refine wpAnyH_take (i := 0) (oi := ({ dst := some 35, op := Op.move (Operand.tmp 1), type := 24, pos := "law.go:34", after := #[], guard := none } : Oper)) (v := ?_) rfl (by kernel_rfl) (by kernel_rfl) (by kernel_rfl) (fun _ _ _ h => h) (Or.inl ⟨by kernel_rfl, ?_⟩) (by assumption) ?_
        rotate_left
        · (intro w hSw; (try dsimp only at hSw); go_simp)
          all_goals (with_reducible rfl)
        try simp only [Act.put, List.setIfInBounds_toArray, List.set_cons_zero, List.set_cons_succ]
        refine wpAnyH_take (i := 1) (oi := ({ dst := some 36, op := Op.move (Operand.tmp 6), type := 3, pos := "law.go:34", after := #[], guard := none } : Oper)) (v := ?_) rfl (by kernel_rfl) (by kernel_rfl) (by kernel_rfl) (fun _ _ _ h => h) (Or.inl ⟨by kernel_rfl, ?_⟩) (by assumption) ?_
        rotate_left
        · (intro w hSw; (try dsimp only at hSw); go_simp)
          all_goals (with_reducible rfl)
        try simp only [Act.put, List.setIfInBounds_toArray, List.set_cons_zero, List.set_cons_succ]
        refine wpAnyH_take (i := 2) (oi := ({ dst := some 37, op := Op.indexAddr 24 (Operand.tmp 35) (Operand.tmp 36), type := 0, pos := "law.go:34", after := #[{ on := 0, ground := Ground.data }, { on := 1, ground := Ground.data }], guard := none } : Oper)) (v := ?_) rfl (by kernel_rfl) (by kernel_rfl) (by kernel_rfl) (fun _ _ _ h => h) (Or.inl ⟨by kernel_rfl, ?_⟩) (by assumption) ?_
        rotate_left
        · (intro w hSw; (try dsimp only at hSw); go_simp)
          all_goals (with_reducible rfl)
        try simp only [Act.put, List.setIfInBounds_toArray, List.set_cons_zero, List.set_cons_succ]
        refine wpAnyH_take (i := 3) (oi := ({ dst := some 38, op := Op.fieldAddr 47 (Operand.tmp 37) 0, type := 0, pos := "law.go:34", after := #[{ on := 2, ground := Ground.data }], guard := none } : Oper)) (v := ?_) rfl (by kernel_rfl) (by kernel_rfl) (by kernel_rfl) (fun _ _ _ h => h) (Or.inl ⟨by kernel_rfl, ?_⟩) (by assumption) ?_
        rotate_left
        · (intro w hSw; (try dsimp only at hSw); go_simp)
          all_goals (with_reducible rfl)
        try simp only [Act.put, List.setIfInBounds_toArray, List.set_cons_zero, List.set_cons_succ]
        refine wpAnyH_take (i := 4) (oi := ({ dst := some 39, op := Op.load 25 (Operand.tmp 38), type := 25, pos := "law.go:34", after := #[{ on := 3, ground := Ground.data }], guard := none } : Oper)) (v := ?_) rfl (by kernel_rfl) (by kernel_rfl) (by kernel_rfl) (fun _ _ _ h => h) (Or.inl ⟨by kernel_rfl, ?_⟩) (by assumption) ?_
        rotate_left
        · (intro w hSw; (try dsimp only at hSw); go_simp)
          all_goals (with_reducible rfl)
        try simp only [Act.put, List.setIfInBounds_toArray, List.set_cons_zero, List.set_cons_succ]
        refine wpAnyH_take (i := 6) (oi := ({ dst := some 41, op := Op.move (Operand.tmp 1), type := 24, pos := "law.go:34", after := #[], guard := none } : Oper)) (v := ?_) rfl (by kernel_rfl) (by kernel_rfl) (by kernel_rfl) (fun _ _ _ h => h) (Or.inl ⟨by kernel_rfl, ?_⟩) (by assumption) ?_
        rotate_left
        · (intro w hSw; (try dsimp only at hSw); go_simp)
          all_goals (with_reducible rfl)
        try simp only [Act.put, List.setIfInBounds_toArray, List.set_cons_zero, List.set_cons_succ]
        refine wpAnyH_take (i := 7) (oi := ({ dst := some 42, op := Op.move (Operand.tmp 6), type := 3, pos := "law.go:34", after := #[], guard := none } : Oper)) (v := ?_) rfl (by kernel_rfl) (by kernel_rfl) (by kernel_rfl) (fun _ _ _ h => h) (Or.inl ⟨by kernel_rfl, ?_⟩) (by assumption) ?_
        rotate_left
        · (intro w hSw; (try dsimp only at hSw); go_simp)
          all_goals (with_reducible rfl)
        try simp only [Act.put, List.setIfInBounds_toArray, List.set_cons_zero, List.set_cons_succ]
        refine wpAnyH_take (i := 8) (oi := ({ dst := some 43, op := Op.indexAddr 24 (Operand.tmp 41) (Operand.tmp 42), type := 0, pos := "law.go:34", after := #[{ on := 6, ground := Ground.data }, { on := 7, ground := Ground.data }], guard := none } : Oper)) (v := ?_) rfl (by kernel_rfl) (by kernel_rfl) (by kernel_rfl) (fun _ _ _ h => h) (Or.inl ⟨by kernel_rfl, ?_⟩) (by assumption) ?_
        rotate_left
        · (intro w hSw; (try dsimp only at hSw); go_simp)
          all_goals (with_reducible rfl)
        try simp only [Act.put, List.setIfInBounds_toArray, List.set_cons_zero, List.set_cons_succ]
        refine wpAnyH_take (i := 9) (oi := ({ dst := some 44, op := Op.fieldAddr 47 (Operand.tmp 43) 1, type := 0, pos := "law.go:34", after := #[{ on := 8, ground := Ground.data }], guard := none } : Oper)) (v := ?_) rfl (by kernel_rfl) (by kernel_rfl) (by kernel_rfl) (fun _ _ _ h => h) (Or.inl ⟨by kernel_rfl, ?_⟩) (by assumption) ?_
        rotate_left
        · (intro w hSw; (try dsimp only at hSw); go_simp)
          all_goals (with_reducible rfl)
        try simp only [Act.put, List.setIfInBounds_toArray, List.set_cons_zero, List.set_cons_succ]
        refine wpAnyH_take (i := 10) (oi := ({ dst := some 45, op := Op.load 45 (Operand.tmp 44), type := 45, pos := "law.go:34", after := #[{ on := 9, ground := Ground.data }], guard := none } : Oper)) (v := ?_) rfl (by kernel_rfl) (by kernel_rfl) (by kernel_rfl) (fun _ _ _ h => h) (Or.inl ⟨by kernel_rfl, ?_⟩) (by assumption) ?_
        rotate_left
        · (intro w hSw; (try dsimp only at hSw); go_simp)
          all_goals (with_reducible rfl)
        try simp only [Act.put, List.setIfInBounds_toArray, List.set_cons_zero, List.set_cons_succ]
        refine wpAnyH_take (i := 11) (oi := ({ dst := some 46, op := Op.convert 45 26 (Operand.tmp 45), type := 26, pos := "law.go:34", after := #[{ on := 10, ground := Ground.data }], guard := none } : Oper)) (v := ?_) rfl (by kernel_rfl) (by kernel_rfl) (by kernel_rfl) (fun _ _ _ h => h) (Or.inl ⟨by kernel_rfl, ?_⟩) (by assumption) ?_
        rotate_left
        · (intro w hSw; (try dsimp only at hSw); go_simp)
          all_goals (with_reducible rfl)
        try simp only [Act.put, List.setIfInBounds_toArray, List.set_cons_zero, List.set_cons_succ]
        refine wpAnyH_take (i := 12) (oi := ({ dst := some 47, op := Op.binOp BinOp.add 26 (Operand.const (Value.int IntKind.u64 1)) (Operand.tmp 46) 26, type := 26, pos := "law.go:34", after := #[{ on := 11, ground := Ground.data }], guard := none } : Oper)) (v := ?_) rfl (by kernel_rfl) (by kernel_rfl) (by kernel_rfl) (fun _ _ _ h => h) (Or.inl ⟨by kernel_rfl, ?_⟩) (by assumption) ?_
        rotate_left
        · (intro w hSw; (try dsimp only at hSw); go_simp)
          all_goals (with_reducible rfl)
        try simp only [Act.put, List.setIfInBounds_toArray, List.set_cons_zero, List.set_cons_succ]
        refine wpAnyH_take (i := 13) (oi := ({ dst := some 48, op := Op.move (Operand.tmp 1), type := 24, pos := "law.go:34", after := #[], guard := none } : Oper)) (v := ?_) rfl (by kernel_rfl) (by kernel_rfl) (by kernel_rfl) (fun _ _ _ h => h) (Or.inl ⟨by kernel_rfl, ?_⟩) (by assumption) ?_
        rotate_left
        · (intro w hSw; (try dsimp only at hSw); go_simp)
          all_goals (with_reducible rfl)
        try simp only [Act.put, List.setIfInBounds_toArray, List.set_cons_zero, List.set_cons_succ]
        refine wpAnyH_take (i := 14) (oi := ({ dst := some 49, op := Op.move (Operand.tmp 6), type := 3, pos := "law.go:34", after := #[], guard := none } : Oper)) (v := ?_) rfl (by kernel_rfl) (by kernel_rfl) (by kernel_rfl) (fun _ _ _ h => h) (Or.inl ⟨by kernel_rfl, ?_⟩) (by assumption) ?_
        rotate_left
        · (intro w hSw; (try dsimp only at hSw); go_simp)
          all_goals (with_reducible rfl)
        try simp only [Act.put, List.setIfInBounds_toArray, List.set_cons_zero, List.set_cons_succ]
        refine wpAnyH_take (i := 15) (oi := ({ dst := some 50, op := Op.indexAddr 24 (Operand.tmp 48) (Operand.tmp 49), type := 0, pos := "law.go:34", after := #[{ on := 13, ground := Ground.data }, { on := 14, ground := Ground.data }], guard := none } : Oper)) (v := ?_) rfl (by kernel_rfl) (by kernel_rfl) (by kernel_rfl) (fun _ _ _ h => h) (Or.inl ⟨by kernel_rfl, ?_⟩) (by assumption) ?_
        rotate_left
        · (intro w hSw; (try dsimp only at hSw); go_simp)
          all_goals (with_reducible rfl)
        try simp only [Act.put, List.setIfInBounds_toArray, List.set_cons_zero, List.set_cons_succ]
        refine wpAnyH_take (i := 16) (oi := ({ dst := some 51, op := Op.fieldAddr 47 (Operand.tmp 50) 2, type := 0, pos := "law.go:34", after := #[{ on := 15, ground := Ground.data }], guard := none } : Oper)) (v := ?_) rfl (by kernel_rfl) (by kernel_rfl) (by kernel_rfl) (fun _ _ _ h => h) (Or.inl ⟨by kernel_rfl, ?_⟩) (by assumption) ?_
        rotate_left
        · (intro w hSw; (try dsimp only at hSw); go_simp)
          all_goals (with_reducible rfl)
        try simp only [Act.put, List.setIfInBounds_toArray, List.set_cons_zero, List.set_cons_succ]
        refine wpAnyH_take (i := 17) (oi := ({ dst := some 52, op := Op.load 23 (Operand.tmp 51), type := 23, pos := "law.go:34", after := #[{ on := 16, ground := Ground.data }], guard := none } : Oper)) (v := ?_) rfl (by kernel_rfl) (by kernel_rfl) (by kernel_rfl) (fun _ _ _ h => h) (Or.inl ⟨by kernel_rfl, ?_⟩) (by assumption) ?_
        rotate_left
        · (intro w hSw; (try dsimp only at hSw); go_simp)
          all_goals (with_reducible rfl)
        try simp only [Act.put, List.setIfInBounds_toArray, List.set_cons_zero, List.set_cons_succ]
        refine wpAnyH_take (i := 18) (oi := ({ dst := some 53, op := Op.convert 23 26 (Operand.tmp 52), type := 26, pos := "law.go:34", after := #[{ on := 17, ground := Ground.data }], guard := none } : Oper)) (v := ?_) rfl (by kernel_rfl) (by kernel_rfl) (by kernel_rfl) (fun _ _ _ h => h) (Or.inl ⟨by kernel_rfl, ?_⟩) (by assumption) ?_
        rotate_left
        · (intro w hSw; (try dsimp only at hSw); go_simp)
          all_goals (with_reducible rfl)
        try simp only [Act.put, List.setIfInBounds_toArray, List.set_cons_zero, List.set_cons_succ]
        refine wpAnyH_take (i := 19) (oi := ({ dst := some 54, op := Op.binOp BinOp.add 26 (Operand.const (Value.int IntKind.u64 1)) (Operand.tmp 53) 26, type := 26, pos := "law.go:34", after := #[{ on := 18, ground := Ground.data }], guard := none } : Oper)) (v := ?_) rfl (by kernel_rfl) (by kernel_rfl) (by kernel_rfl) (fun _ _ _ h => h) (Or.inl ⟨by kernel_rfl, ?_⟩) (by assumption) ?_
        rotate_left
        · (intro w hSw; (try dsimp only at hSw); go_simp)
          all_goals (with_reducible rfl)
        try simp only [Act.put, List.setIfInBounds_toArray, List.set_cons_zero, List.set_cons_succ]
        refine wpAnyH_take (i := 20) (oi := ({ dst := some 55, op := Op.move (Operand.tmp 1), type := 24, pos := "law.go:34", after := #[], guard := none } : Oper)) (v := ?_) rfl (by kernel_rfl) (by kernel_rfl) (by kernel_rfl) (fun _ _ _ h => h) (Or.inl ⟨by kernel_rfl, ?_⟩) (by assumption) ?_
        rotate_left
        · (intro w hSw; (try dsimp only at hSw); go_simp)
          all_goals (with_reducible rfl)
        try simp only [Act.put, List.setIfInBounds_toArray, List.set_cons_zero, List.set_cons_succ]
        refine wpAnyH_take (i := 21) (oi := ({ dst := some 56, op := Op.move (Operand.tmp 6), type := 3, pos := "law.go:34", after := #[], guard := none } : Oper)) (v := ?_) rfl (by kernel_rfl) (by kernel_rfl) (by kernel_rfl) (fun _ _ _ h => h) (Or.inl ⟨by kernel_rfl, ?_⟩) (by assumption) ?_
        rotate_left
        · (intro w hSw; (try dsimp only at hSw); go_simp)
          all_goals (with_reducible rfl)
        try simp only [Act.put, List.setIfInBounds_toArray, List.set_cons_zero, List.set_cons_succ]
        refine wpAnyH_take (i := 22) (oi := ({ dst := some 57, op := Op.indexAddr 24 (Operand.tmp 55) (Operand.tmp 56), type := 0, pos := "law.go:34", after := #[{ on := 20, ground := Ground.data }, { on := 21, ground := Ground.data }], guard := none } : Oper)) (v := ?_) rfl (by kernel_rfl) (by kernel_rfl) (by kernel_rfl) (fun _ _ _ h => h) (Or.inl ⟨by kernel_rfl, ?_⟩) (by assumption) ?_
        rotate_left
        · (intro w hSw; (try dsimp only at hSw); go_simp)
          all_goals (with_reducible rfl)
        try simp only [Act.put, List.setIfInBounds_toArray, List.set_cons_zero, List.set_cons_succ]
        refine wpAnyH_take (i := 23) (oi := ({ dst := some 58, op := Op.fieldAddr 47 (Operand.tmp 57) 3, type := 0, pos := "law.go:34", after := #[{ on := 22, ground := Ground.data }], guard := none } : Oper)) (v := ?_) rfl (by kernel_rfl) (by kernel_rfl) (by kernel_rfl) (fun _ _ _ h => h) (Or.inl ⟨by kernel_rfl, ?_⟩) (by assumption) ?_
        rotate_left
        · (intro w hSw; (try dsimp only at hSw); go_simp)
          all_goals (with_reducible rfl)
        try simp only [Act.put, List.setIfInBounds_toArray, List.set_cons_zero, List.set_cons_succ]
        refine wpAnyH_take (i := 24) (oi := ({ dst := some 59, op := Op.load 5 (Operand.tmp 58), type := 5, pos := "law.go:34", after := #[{ on := 23, ground := Ground.data }], guard := none } : Oper)) (v := ?_) rfl (by kernel_rfl) (by kernel_rfl) (by kernel_rfl) (fun _ _ _ h => h) (Or.inl ⟨by kernel_rfl, ?_⟩) (by assumption) ?_
        rotate_left
        · (intro w hSw; (try dsimp only at hSw); go_simp)
          all_goals (with_reducible rfl)
        try simp only [Act.put, List.setIfInBounds_toArray, List.set_cons_zero, List.set_cons_succ]
        refine wpAnyH_take (i := 25) (oi := ({ dst := some 60, op := Op.binOp BinOp.rem 5 (Operand.tmp 59) (Operand.const (Value.int IntKind.u8 3)) 5, type := 5, pos := "law.go:34", after := #[{ on := 24, ground := Ground.data }], guard := none } : Oper)) (v := ?_) rfl (by kernel_rfl) (by kernel_rfl) (by kernel_rfl) (fun _ _ _ h => h) (Or.inl ⟨by kernel_rfl, ?_⟩) (by assumption) ?_
        rotate_left
        · (intro w hSw; (try dsimp only at hSw); go_simp)
          all_goals (with_reducible rfl)
        try simp only [Act.put, List.setIfInBounds_toArray, List.set_cons_zero, List.set_cons_succ]
        refine wpAnyH_take (i := 26) (oi := ({ dst := some 61, op := Op.binOp BinOp.add 5 (Operand.const (Value.int IntKind.u8 1)) (Operand.tmp 60) 5, type := 5, pos := "law.go:34", after := #[{ on := 25, ground := Ground.data }], guard := none } : Oper)) (v := ?_) rfl (by kernel_rfl) (by kernel_rfl) (by kernel_rfl) (fun _ _ _ h => h) (Or.inl ⟨by kernel_rfl, ?_⟩) (by assumption) ?_
        rotate_left
        · (intro w hSw; (try dsimp only at hSw); go_simp)
          all_goals (with_reducible rfl)
        try simp only [Act.put, List.setIfInBounds_toArray, List.set_cons_zero, List.set_cons_succ]
        refine wpAnyH_ready (rs := [5, 28]) (by kernel_rfl) (by simp) ?_
        refine (AllReadyH.cons (o := ({ dst := some 40, op := Op.call { callee := Callee.value (Operand.func 10), args := #[Operand.tmp 39], argTypes := #[25] }, type := 9, pos := "law.go:34", after := #[{ on := 4, ground := Ground.data }], guard := none } : Oper)) rfl (fun K hK => ?_) (AllReadyH.cons (o := ({ dst := some 7, op := Op.alloc 28, type := 0, pos := "law.go:34", after := #[], guard := none } : Oper)) rfl (fun K hK => ?_) AllReadyH.nil))
        · go_simp
          refine (key.key_any x.pre x.A x.c HNX.out.2 _ ((HNX.out.1.below HZ.out).more HZ.out.size)).mono ?_; rintro e z1 ⟨rfl, hb⟩; (try (have HG := Lib.hid (HG.out.below hb HG.out.lt); obtain ⟨y0, y1, y2, y3, yf⟩ : z1.cell? ⟨wr.heap.size, 0, none⟩ = some (.string ⟨#[]⟩) ∧ z1.cell? ⟨wr.heap.size, 1, none⟩ = some (.int .u64 0) ∧ z1.cell? ⟨wr.heap.size, 2, none⟩ = some (.int .u64 0) ∧ z1.cell? ⟨wr.heap.size, 3, none⟩ = some (.int .u8 0) ∧ ∀ i, z1.frozen? ⟨wr.heap.size, i, none⟩ = false := zero_at HG.out; have yf0 := yf 0; have yf1 := yf 1; have yf2 := yf 2; have yf3 := yf 3; clear yf)); have HZ := Lib.hid (HZ.out.trans (hb.mono HZ.out.size)); clear hb; go_wp2_with fail
          refine hK.out _ _ ?_ (fun hHeld => ?_)
          · (try dsimp only)
            first | exact HSB.out _ HZ.out | exact HSB.out _ (HZ0.out.alloc HZ0.out.size _) | exact HSB.out _ ((((HZ.out.setCell (p := ⟨_, 0, none⟩) (Nat.le_refl _) _).setCell (p := ⟨_, 1, none⟩) (Nat.le_refl _) _).setCell (p := ⟨_, 2, none⟩) (Nat.le_refl _) _).setCell (p := ⟨_, 3, none⟩) (Nat.le_refl _) _)
          clear hK K
          try simp only [Act.put, List.setIfInBounds_toArray, List.set_cons_zero, List.set_cons_succ]
          refine wpAnyH_take (i := 27) (oi := ({ dst := some 62, op := Op.build 28 #[(0, Operand.tmp 40), (1, Operand.tmp 47), (2, Operand.tmp 54), (3, Operand.tmp 61)], type := 28, pos := "law.go:34", after := #[{ on := 5, ground := Ground.data }, { on := 12, ground := Ground.data }, { on := 19, ground := Ground.data }, { on := 26, ground := Ground.data }], guard := none } : Oper)) (v := ?_) rfl (by kernel_rfl) (by kernel_rfl) (by kernel_rfl) (fun _ _ _ h => h) (Or.inl ⟨by kernel_rfl, ?_⟩) (by assumption) ?_
          rotate_left
          · (intro w hSw; (try dsimp only at hSw); go_simp)
            all_goals (with_reducible rfl)
          try simp only [Act.put, List.setIfInBounds_toArray, List.set_cons_zero, List.set_cons_succ]
          refine wpAnyH_ready (rs := [28]) (by kernel_rfl) (by simp) ?_
          refine (AllReadyH.cons (o := ({ dst := some 7, op := Op.alloc 28, type := 0, pos := "law.go:34", after := #[], guard := none } : Oper)) rfl (fun K hK => ?_) AllReadyH.nil)
          go_simp
          have HZ0 := HZ; have HG := Lib.hid (blk_zero HZ.out); have HZ := Lib.hid (HZ.out.alloc HZ.out.size (.cells zeroCells 28))
          refine hK.out _ _ ?_ (fun hHeld => ?_)
          · (try dsimp only)
            first | exact HSB.out _ HZ.out | exact HSB.out _ (HZ0.out.alloc HZ0.out.size _) | exact HSB.out _ ((((HZ.out.setCell (p := ⟨_, 0, none⟩) (Nat.le_refl _) _).setCell (p := ⟨_, 1, none⟩) (Nat.le_refl _) _).setCell (p := ⟨_, 2, none⟩) (Nat.le_refl _) _).setCell (p := ⟨_, 3, none⟩) (Nat.le_refl _) _)
          clear hK K
          try simp only [Act.put, List.setIfInBounds_toArray, List.set_cons_zero, List.set_cons_succ]
          refine wpAnyH_ready (rs := [29]) (by kernel_rfl) (by simp) ?_
          refine (AllReadyH.cons (o := ({ dst := none, op := Op.store 28 (Operand.tmp 7) (Operand.tmp 62), type := 0, pos := "law.go:34", after := #[{ on := 28, ground := Ground.data }, { on := 27, ground := Ground.data }, { on := 5, ground := Ground.chain }, { on := 0, ground := Ground.phase }, { on := 1, ground := Ground.phase }, { on := 2, ground := Ground.phase }, { on := 3, ground := Ground.phase }, { on := 4, ground := Ground.phase }, { on := 5, ground := Ground.phase }, { on := 6, ground := Ground.phase }, { on := 7, ground := Ground.phase }, { on := 8, ground := Ground.phase }, { on := 9, ground := Ground.phase }, { on := 10, ground := Ground.phase }, { on := 11, ground := Ground.phase }, { on := 12, ground := Ground.phase }, { on := 13, ground := Ground.phase }, { on := 14, ground := Ground.phase }, { on := 15, ground := Ground.phase }, { on := 16, ground := Ground.phase }, { on := 17, ground := Ground.phase }, { on := 18, ground := Ground.phase }, { on := 19, ground := Ground.phase }, { on := 20, ground := Ground.phase }, { on := 21, ground := Ground.phase }, { on := 22, ground := Ground.phase }, { on := 23, ground := Ground.phase }, { on := 24, ground := Ground.phase }, { on := 25, ground := Ground.phase }, { on := 26, ground := Ground.phase }, { on := 27, ground := Ground.phase }, { on := 28, ground := Ground.phase }], guard := none } : Oper)) rfl (fun K hK => ?_) AllReadyH.nil)
          go_simp
          skip
          refine hK.out _ _ ?_ (fun hHeld => ?_)
          · (try dsimp only)
            first | exact HSB.out _ HZ.out | exact HSB.out _ (HZ0.out.alloc HZ0.out.size _) | exact HSB.out _ ((((HZ.out.setCell (p := ⟨_, 0, none⟩) (Nat.le_refl _) _).setCell (p := ⟨_, 1, none⟩) (Nat.le_refl _) _).setCell (p := ⟨_, 2, none⟩) (Nat.le_refl _) _).setCell (p := ⟨_, 3, none⟩) (Nat.le_refl _) _)
          clear hK K
          try simp only [Act.put, List.setIfInBounds_toArray, List.set_cons_zero, List.set_cons_succ]
          refine wpAnyH_done (by kernel_rfl) ?_ _
          change KC _ _
          refine HKC.out _ _ ?_
          clear HKC
          first
            | (have hy0 := y0; have hG : Blk ((((z1.setCell ⟨wr.heap.size, 0, none⟩ (.string ⟨(key.keyOf x.pre).toArray⟩)).setCell ⟨wr.heap.size, 1, none⟩ (.int .u64 (1 + (x.every : Int)))).setCell ⟨wr.heap.size, 2, none⟩ (.int .u64 (1 + (x.burst : Int)))).setCell ⟨wr.heap.size, 3, none⟩ (.int .u8 (1 + (x.kind : Int) % 3))) wr.heap.size 28 #[.string ⟨(key.keyOf x.pre).toArray⟩, .int .u64 (1 + (x.every : Int)), .int .u64 (1 + (x.burst : Int)), .int .u8 (1 + (x.kind : Int) % 3)] := (((HG.out.set_ 0 _).set_ 1 _).set_ 2 _).set_ 3 _; have hZ : Below wr.heap.size wr ((((z1.setCell ⟨wr.heap.size, 0, none⟩ (.string ⟨(key.keyOf x.pre).toArray⟩)).setCell ⟨wr.heap.size, 1, none⟩ (.int .u64 (1 + (x.every : Int)))).setCell ⟨wr.heap.size, 2, none⟩ (.int .u64 (1 + (x.burst : Int)))).setCell ⟨wr.heap.size, 3, none⟩ (.int .u8 (1 + (x.kind : Int) % 3))) := ((((HZ.out.setCell (p := ⟨_, 0, none⟩) (Nat.le_refl _) _).setCell (p := ⟨_, 1, none⟩) (Nat.le_refl _) _).setCell (p := ⟨_, 2, none⟩) (Nat.le_refl _) _).setCell (p := ⟨_, 3, none⟩) (Nat.le_refl _) _); generalize ((((z1.setCell ⟨wr.heap.size, 0, none⟩ (.string ⟨(key.keyOf x.pre).toArray⟩)).setCell ⟨wr.heap.size, 1, none⟩ (.int .u64 (1 + (x.every : Int)))).setCell ⟨wr.heap.size, 2, none⟩ (.int .u64 (1 + (x.burst : Int)))).setCell ⟨wr.heap.size, 3, none⟩ (.int .u8 (1 + (x.kind : Int) % 3))) = W at hG hZ ⊢; generalize hgg : wr.heap.size = g at hG ⊢; have hge : wr.heap.size ≤ g := Nat.le_of_eq hgg)
            | (have hG := Blk.new z1 28 #[.string ⟨(key.keyOf x.pre).toArray⟩, .int .u64 (1 + (x.every : Int)), .int .u64 (1 + (x.burst : Int)), .int .u8 (1 + (x.kind : Int) % 3)]; have hge := HZ0.out.size; have hZ := HZ0.out.alloc HZ0.out.size (.cells #[.string ⟨(key.keyOf x.pre).toArray⟩, .int .u64 (1 + (x.every : Int)), .int .u64 (1 + (x.burst : Int)), .int .u8 (1 + (x.kind : Int) % 3)] 28); generalize z1.alloc (.cells #[.string ⟨(key.keyOf x.pre).toArray⟩, .int .u64 (1 + (x.every : Int)), .int .u64 (1 + (x.burst : Int)), .int .u8 (1 + (x.kind : Int) % 3)] 28) = W at hG hZ ⊢; generalize z1.heap.size = g at hG hge ⊢; skip)
          obtain ⟨-, q1, q2, q3⟩ := HSB.out W hZ
          have g0 : W.cell? ⟨g, 0, none⟩ = some (.string ⟨(key.keyOf x.pre).toArray⟩) := hG.cell 0
          have g1 : W.cell? ⟨g, 1, none⟩ = some (.int .u64 (1 + (x.every : Int))) := hG.cell 1
          have g2 : W.cell? ⟨g, 2, none⟩ = some (.int .u64 (1 + (x.burst : Int))) := hG.cell 2
          have gf1 := hG.frozen 1
          have gf2 := hG.frozen 2
          have HG := Lib.hid hG
          have HZZ := Lib.hid hZ
          have HGE := Lib.hid hge
          clear hG hZ hge HZ HSB
          obtain ⟨W2, hfacts⟩ : ∃ W2 : World, Hid (Blk W2 g 28 (ruleOf x).cells ∧ Below wr.heap.size wr W2 ∧ W2 = if 200 ≤ x.kind then ((W.setCell ⟨g, 1, none⟩ (.int .u64 (1 + (x.every : Int) % 50))).setCell ⟨g, 2, none⟩ (.int .u64 (1 + (x.burst : Int) % 9))) else W) := by
            by_cases h200 : 200 ≤ x.kind
            · refine ⟨_, Lib.hid ⟨?_, (HZZ.out.setCell (p := ⟨g, 1, none⟩) HGE.out _).setCell (p := ⟨g, 2, none⟩) HGE.out _, (if_pos h200).symm⟩⟩
              unfold ruleOf
              rw [if_pos h200]
              have e1 : ((1 + x.every % 50 : Nat) : Int) = 1 + (x.every : Int) % 50 := by omega
              have e2 : ((1 + x.burst % 9 : Nat) : Int) = 1 + (x.burst : Int) % 9 := by omega
              have e3 : ((1 + x.kind % 3 : Nat) : Int) = 1 + (x.kind : Int) % 3 := by omega
              rw [e1, e2, e3]
              exact (HG.out.set_ 1 _).set_ 2 _
            · refine ⟨_, Lib.hid ⟨?_, HZZ.out, (if_neg h200).symm⟩⟩
              unfold ruleOf
              rw [if_neg h200]
              have e1 : ((1 + x.every : Nat) : Int) = 1 + (x.every : Int) := by omega
              have e2 : ((1 + x.burst : Nat) : Int) = 1 + (x.burst : Int) := by omega
              have e3 : ((1 + x.kind % 3 : Nat) : Int) = 1 + (x.kind : Int) % 3 := by omega
              rw [e1, e2, e3]
              exact HG.out
          have wA : (x.every : Int).tmod 50 = (x.every : Int) % 50 := Int.tmod_eq_emod_of_nonneg (by omega)
          have wA0 : IntKind.u64.wrap ((x.every : Int) % 50) = (x.every : Int) % 50 := by unfold IntKind.wrap; simp [IntKind.bits, IntKind.signed, IntKind.min, IntKind.max]; omega
          have wA1 : IntKind.u64.wrap (1 + (x.every : Int) % 50) = 1 + (x.every : Int) % 50 := by unfold IntKind.wrap; simp [IntKind.bits, IntKind.signed, IntKind.min, IntKind.max]; omega
          have wB : (x.burst : Int).tmod 9 = (x.burst : Int) % 9 := Int.tmod_eq_emod_of_nonneg (by omega)
          have wB0 : IntKind.u64.wrap ((x.burst : Int) % 9) = (x.burst : Int) % 9 := by unfold IntKind.wrap; simp [IntKind.bits, IntKind.signed, IntKind.min, IntKind.max]; omega
          have wB1 : IntKind.u64.wrap (1 + (x.burst : Int) % 9) = 1 + (x.burst : Int) % 9 := by unfold IntKind.wrap; simp [IntKind.bits, IntKind.signed, IntKind.min, IntKind.max]; omega
          by_cases h200 : 200 ≤ x.kind
          all_goals
            have e2 := hfacts.out.2.2
            first | rw [if_pos h200] at e2 | rw [if_neg h200] at e2
            have hk200 : (200 : Int) ≤ x.kind ∨ (x.kind : Int) < 200 := by omega
            try (have h2' : (200 : Int) ≤ x.kind := by omega)
            try (have h2' : (x.kind : Int) < 200 := by omega)
            have E2 := Lib.hid e2
            clear e2 hk200 h200
            go_wp2
            try rw [← E2.out]
            have B2 := Lib.hid hfacts.out.1
            have Z2 := Lib.hid hfacts.out.2.1
            clear E2 hfacts HG HZZ g0 g1 g2 gf1 gf2 q1 q2 q3
            obtain ⟨Av, cv, rfl, hcv⟩ := own_formN HO.out
            have hlen := polTo_len most ns k
            obtain ⟨L, hL⟩ : ∃ L, L = polTo most ns k := ⟨_, rfl⟩
            rw [← hL] at HO HP hcv hlen
            have HLL := Lib.hid hL
            have hpre : (ruleOf x).pre = key.keyOf x.pre := by unfold ruleOf; split <;> rfl
            obtain ⟨K, hK⟩ : ∃ K, K = key.keyOf x.pre := ⟨_, rfl⟩
            rw [← hK] at hpre ⊢
            have HPRE := Lib.hid hpre
            have hs0 : w.heap.size + 1 < wr.heap.size := HP.out.lt
            have ROW := Lib.hid (of_ownN HO.out)
            have s0 : W2.cell? ⟨w.heap.size + 1, 1, none⟩ = some (.slice Av L.length cv) := (Z2.out.cell (p := ⟨w.heap.size + 1, 1, none⟩) hs0).trans (HP.out.cell 1)
            have r0 : W2.cell? ⟨g, 0, none⟩ = some (.string ⟨K.toArray⟩) := by
              have := B2.out.cell 0
              rw [← hpre]
              exact this
            have glt : g < W2.heap.size := B2.out.lt
            have s1lt : w.heap.size + 1 < W2.heap.size := Nat.lt_of_lt_of_le hs0 Z2.out.size
            obtain ⟨S, hS⟩ : ∃ S : ByteArray, S = ⟨K.toArray⟩ := ⟨_, rfl⟩
            rw [← hS] at r0 ⊢
            have HS2 := Lib.hid hS
            clear hL hpre hK hS
            obtain ⟨wo, rfl⟩ : ∃ wo : World, wo = wr := ⟨_, rfl⟩
            go_loopw [8, 9] (fun is j wr2 => ∃ m : Nat, m ≤ L.length ∧ j = .int .i64 (m : Nat) ∧ is = .bool (newIn (L.take m) K) ∧ Hid (Below W2.heap.size W2 wr2)) (fun _ j _ => L.length - (intOf j).toNat)
            case atStart => exact ⟨0, Nat.zero_le _, rfl, rfl, Lib.hid (Below.refl _ _)⟩
            case round =>
              obtain ⟨m, hm2, rfl, rfl, HB2⟩ := hrel
              have s0' : wr.cell? ⟨w.heap.size + 1, 1, none⟩ = some (.slice Av L.length cv) := (HB2.out.cell (p := ⟨w.heap.size + 1, 1, none⟩) s1lt).trans s0
              have r0' : wr.cell? ⟨g, 0, none⟩ = some (.string S) := (HB2.out.cell (p := ⟨g, 0, none⟩) glt).trans r0
              by_cases hlt2 : m < L.length
              · obtain ⟨y, hy⟩ : ∃ y, L[m]? = some y := ⟨_, List.getElem?_eq_getElem hlt2⟩
                obtain ⟨b2, off2, rfl, hb2, d0, -⟩ := rul_at ((ROW.out.below Z2.out).below (HB2.out.mono Z2.out.size)) hy
                obtain ⟨S1, hS1⟩ : ∃ S1 : ByteArray, S1 = ⟨y.pre.toArray⟩ := ⟨_, rfl⟩
                rw [← hS1] at d0
                have HY := Lib.hid hy
                have HS1 := Lib.hid hS1
                clear hy
                have hwm : IntKind.i64.wrap ((m : Int) + 1) = (m : Int) + 1 := wrap_small _ (by omega) (by omega)
                cases hb : newIn (L.take m) K with
                | false =>
                  go_wp2
                  go_quiet (fail)
                  go_wp2
                  go_roundw
                  case rel => exact ⟨m + 1, hlt2, by go_num, by rw [newIn_succ HY.out, hb]; rfl, Lib.hid (below_drewN HB2.out _)⟩
                  case measure => simp [intOf]; omega
                | true =>
                  by_cases he : y.pre = K
                  · have hse : S1 = S := by rw [HS1.out, HS2.out, he]
                    clear hS1
                    go_wp2
                    go_quiet (fail)
                    go_wp2
                    go_roundw
                    case rel => exact ⟨m + 1, hlt2, by go_num, by rw [newIn_succ HY.out, hb]; simp [he], Lib.hid (below_drewN HB2.out _)⟩
                    case measure => simp [intOf]; omega
                  · have hse : S1 ≠ S := by
                      rw [HS1.out, HS2.out]
                      intro e
                      injection e with e
                      exact he (by simpa using e)
                    have HSL := Lib.hid (show ¬ S1.toList = S.toList from fun e => he (by rw [HS1.out, HS2.out, ByteArray.toList_eq, ByteArray.toList_eq] at e; simpa using e))
                    clear hS1
                    go_wp2
                    go_quiet (fail)
                    go_wp2
                    go_roundw
                    case rel => exact ⟨m + 1, hlt2, by go_num, by rw [newIn_succ HY.out, hb]; simp [he]; exact HSL.out, Lib.hid (below_drewN HB2.out _)⟩
                    case measure => simp [intOf]; omega
              · obtain rfl : m = L.length := by omega
                have ht : newIn (L.take L.length) K = newIn L K := by rw [List.take_length]
                rw [ht]
                clear ht
                have hwk : IntKind.i64.wrap ((k : Int) + 1) = (k : Int) + 1 := wrap_small _ (by omega) (by omega)
                have ZW : Below wo.heap.size wo wr := Z2.out.trans (HB2.out.mono Z2.out.size)
                have BS : Blk wr w.heap.size 31 #[.int .i64 0, .slice none 0 0] := HS.out.below ZW HS.out.lt
                have BP : Blk wr (w.heap.size + 1) 31 #[.int .i64 ((1 + most % 50 : Nat) : Int), .slice Av L.length cv] := HP.out.below ZW HP.out.lt
                have OW : wr.ownsRow (w.heap.size + 2) 28 4 (.slice Av L.length cv) L.length (rcells L) := own_old HO.out ZW
                have BW : Below w.heap.size w wr := HB.out.trans (ZW.mono HB.out.size)
                have h2 : w.heap.size + 2 ≤ wr.heap.size := by have := BP.lt; omega
                cases hb : newIn L K with
                | false =>
                  have hto : polTo most ns (k + 1) = L := by
                    unfold polTo
                    rw [HX.out]
                    simp only
                    rw [← HLL.out, HPRE.out, hb]
                    rfl
                  have H1 := Lib.hid BS
                  have H2 := Lib.hid BP
                  have H3 := Lib.hid OW
                  have H4 := Lib.hid BW
                  have HTO := Lib.hid hto
                  clear BS BP OW BW ZW hto
                  go_wp2
                  go_roundw
                  case rel => exact ⟨k + 1, _, by go_num, hlt, by omega, H1, H2, by rw [HTO.out]; exact H3, H4⟩
                  case measure => simp [intOf]; omega
                | true =>
                  have hto : polTo most ns (k + 1) = L ++ [ruleOf x] := by
                    unfold polTo
                    rw [HX.out]
                    simp only
                    rw [← HLL.out, HPRE.out, hb]
                    rfl
                  have BG : Blk wr g 28 (ruleOf x).cells := B2.out.below HB2.out glt
                  obtain ⟨E, hE⟩ : ∃ E, E = (ruleOf x).every := ⟨_, rfl⟩
                  obtain ⟨U, hU⟩ : ∃ U, U = (ruleOf x).burst := ⟨_, rfl⟩
                  obtain ⟨D, hD⟩ : ∃ D, D = (ruleOf x).kind := ⟨_, rfl⟩
                  have r1' : wr.cell? ⟨g, 1, none⟩ = some (.int .u64 E) := by rw [hE]; exact BG.cell 1
                  have r2' : wr.cell? ⟨g, 2, none⟩ = some (.int .u64 U) := by rw [hU]; exact BG.cell 2
                  have r3' : wr.cell? ⟨g, 3, none⟩ = some (.int .u8 D) := by rw [hD]; exact BG.cell 3
                  have hcs : rcells (L ++ [ruleOf x]) = rcells L ++ [.string S, .int .u64 E, .int .u64 U, .int .u8 D] := by
                    rw [rcells_append, HS2.out, hE, hU, hD, ← HPRE.out]
                    rfl
                  have glt' : g < wr.heap.size := BG.lt
                  have H1 := Lib.hid BS
                  have H2 := Lib.hid BP
                  have H3 := Lib.hid (OW.alloc (.cells #[.string S, .int .u64 E, .int .u64 U, .int .u8 D] 28))
                  have H4 := Lib.hid BW
                  have HTO := Lib.hid hto
                  have HCS := Lib.hid hcs
                  clear BS BP OW BW ZW hto hcs BG hE hU hD
                  go_wp2_with (at_builtin; refine wpList_append_rowN _ rfl (.tmp 108) (.tmp 110) 22 rfl (w.heap.size + 2) 28 i0 _ 4 40 (by omega) rfl HQ.out.1 HQ.out.2.1 HQ.out.2.2.1 HQ.out.2.2.2 rfl (.slice Av L.length cv) L.length (rcells L) rfl H3.out _ (some ⟨wr.heap.size, 0, none⟩) 1 1 [.string S, .int .u64 E, .int .u64 U, .int .u8 D] rfl rfl (Row.new wr 28 #[.string S, .int .u64 E, .int .u64 U, .int .u8 D]) (by simp [Value.oneCell']) (by unfold maxLen; omega) (by omega) (by simp only [World.size_alloc]; omega) ?_; intro v3 w7 hown3 hg3 hat3; have hne : ∀ q, q < w.heap.size + 2 → some q ≠ (Value.slice Av L.length cv).ownBlock := fun q hq e => (by have := (own_lt H3.out e.symm).1; omega); have h7s := (H1.out.alloc (.cells #[.string S, .int .u64 E, .int .u64 U, .int .u8 D] 28)).grown hg3 (hne _ (by omega)); have h7p := (H2.out.alloc (.cells #[.string S, .int .u64 E, .int .u64 U, .int .u8 D] 28)).grown hg3 (hne _ (by omega)); have h7b := (H4.out.alloc H4.out.size (.cells #[.string S, .int .u64 E, .int .u64 U, .int .u8 D] 28)).grown hg3 (by have := H4.out.size; simp only [World.size_alloc]; omega) (fun q hq => (by have := (own_lt H3.out hq).1; omega)); obtain ⟨A7, c7, rfl, hc7⟩ := own_formN hown3; have p1 : w7.cell? ⟨w.heap.size + 1, 1, none⟩ = some (.slice Av L.length cv) := h7p.cell 1; have pf := h7p.frozen 1; have H7S := Lib.hid h7s; have H7P := Lib.hid h7p; have H7B := Lib.hid h7b; have H7O := Lib.hid hown3; clear h7s h7p h7b hown3 hg3 hat3 hne)
                  go_roundw
                  case rel =>
                    refine ⟨k + 1, .slice A7 (L.length + 1) c7, by go_num, hlt, by omega, Lib.hid (H7S.out.far (p := ⟨w.heap.size + 1, 1, none⟩) (show w.heap.size ≠ w.heap.size + 1 by omega) _), Lib.hid (H7P.out.set_ 1 _), Lib.hid ?_, Lib.hid (H7B.out.setCell (p := ⟨w.heap.size + 1, 1, none⟩) (show w.heap.size ≤ w.heap.size + 1 by omega) _)⟩
                    rw [HTO.out, HCS.out, List.length_append, List.length_singleton]
                    exact own_kept H7O.out (grown_set _ _ _ _) (fun hh => by have := (own_lt H7O.out hh).1; omega)
                  case measure => simp [intOf]; omega
        · go_simp
          have HZ0 := HZ; have HG := Lib.hid (blk_zero HZ.out); have HZ := Lib.hid (HZ.out.alloc HZ.out.size (.cells zeroCells 28))
          refine hK.out _ _ ?_ (fun hHeld => ?_)
          · (try dsimp only)
            first | exact HSB.out _ HZ.out | exact HSB.out _ (HZ0.out.alloc HZ0.out.size _) | exact HSB.out _ ((((HZ.out.setCell (p := ⟨_, 0, none⟩) (Nat.le_refl _) _).setCell (p := ⟨_, 1, none⟩) (Nat.le_refl _) _).setCell (p := ⟨_, 2, none⟩) (Nat.le_refl _) _).setCell (p := ⟨_, 3, none⟩) (Nat.le_refl _) _)
          clear hK K
          try simp only [Act.put, List.setIfInBounds_toArray, List.set_cons_zero, List.set_cons_succ]
          refine wpAnyH_ready (rs := [5]) (by kernel_rfl) (by simp) ?_
          refine (AllReadyH.cons (o := ({ dst := some 40, op := Op.call { callee := Callee.value (Operand.func 10), args := #[Operand.tmp 39], argTypes := #[25] }, type := 9, pos := "law.go:34", after := #[{ on := 4, ground := Ground.data }], guard := none } : Oper)) rfl (fun K hK => ?_) AllReadyH.nil)
          go_simp
          refine (key.key_any x.pre x.A x.c HNX.out.2 _ ((HNX.out.1.below HZ.out).more HZ.out.size)).mono ?_; rintro e z1 ⟨rfl, hb⟩; (try (have HG := Lib.hid (HG.out.below hb HG.out.lt); obtain ⟨y0, y1, y2, y3, yf⟩ : z1.cell? ⟨wr.heap.size, 0, none⟩ = some (.string ⟨#[]⟩) ∧ z1.cell? ⟨wr.heap.size, 1, none⟩ = some (.int .u64 0) ∧ z1.cell? ⟨wr.heap.size, 2, none⟩ = some (.int .u64 0) ∧ z1.cell? ⟨wr.heap.size, 3, none⟩ = some (.int .u8 0) ∧ ∀ i, z1.frozen? ⟨wr.heap.size, i, none⟩ = false := zero_at HG.out; have yf0 := yf 0; have yf1 := yf 1; have yf2 := yf 2; have yf3 := yf 3; clear yf)); have HZ := Lib.hid (HZ.out.trans (hb.mono HZ.out.size)); clear hb; go_wp2_with fail
          refine hK.out _ _ ?_ (fun hHeld => ?_)
          · (try dsimp only)
            first | exact HSB.out _ HZ.out | exact HSB.out _ (HZ0.out.alloc HZ0.out.size _) | exact HSB.out _ ((((HZ.out.setCell (p := ⟨_, 0, none⟩) (Nat.le_refl _) _).setCell (p := ⟨_, 1, none⟩) (Nat.le_refl _) _).setCell (p := ⟨_, 2, none⟩) (Nat.le_refl _) _).setCell (p := ⟨_, 3, none⟩) (Nat.le_refl _) _)
          clear hK K
          try simp only [Act.put, List.setIfInBounds_toArray, List.set_cons_zero, List.set_cons_succ]
          refine wpAnyH_take (i := 27) (oi := ({ dst := some 62, op := Op.build 28 #[(0, Operand.tmp 40), (1, Operand.tmp 47), (2, Operand.tmp 54), (3, Operand.tmp 61)], type := 28, pos := "law.go:34", after := #[{ on := 5, ground := Ground.data }, { on := 12, ground := Ground.data }, { on := 19, ground := Ground.data }, { on := 26, ground := Ground.data }], guard := none } : Oper)) (v := ?_) rfl (by kernel_rfl) (by kernel_rfl) (by kernel_rfl) (fun _ _ _ h => h) (Or.inl ⟨by kernel_rfl, ?_⟩) (by assumption) ?_
          rotate_left
          · (intro w hSw; (try dsimp only at hSw); go_simp)
            all_goals (with_reducible rfl)
          try simp only [Act.put, List.setIfInBounds_toArray, List.set_cons_zero, List.set_cons_succ]
          refine wpAnyH_ready (rs := [29]) (by kernel_rfl) (by simp) ?_
          refine (AllReadyH.cons (o := ({ dst := none, op := Op.store 28 (Operand.tmp 7) (Operand.tmp 62), type := 0, pos := "law.go:34", after := #[{ on := 28, ground := Ground.data }, { on := 27, ground := Ground.data }, { on := 5, ground := Ground.chain }, { on := 0, ground := Ground.phase }, { on := 1, ground := Ground.phase }, { on := 2, ground := Ground.phase }, { on := 3, ground := Ground.phase }, { on := 4, ground := Ground.phase }, { on := 5, ground := Ground.phase }, { on := 6, ground := Ground.phase }, { on := 7, ground := Ground.phase }, { on := 8, ground := Ground.phase }, { on := 9, ground := Ground.phase }, { on := 10, ground := Ground.phase }, { on := 11, ground := Ground.phase }, { on := 12, ground := Ground.phase }, { on := 13, ground := Ground.phase }, { on := 14, ground := Ground.phase }, { on := 15, ground := Ground.phase }, { on := 16, ground := Ground.phase }, { on := 17, ground := Ground.phase }, { on := 18, ground := Ground.phase }, { on := 19, ground := Ground.phase }, { on := 20, ground := Ground.phase }, { on := 21, ground := Ground.phase }, { on := 22, ground := Ground.phase }, { on := 23, ground := Ground.phase }, { on := 24, ground := Ground.phase }, { on := 25, ground := Ground.phase }, { on := 26, ground := Ground.phase }, { on := 27, ground := Ground.phase }, { on := 28, ground := Ground.phase }], guard := none } : Oper)) rfl (fun K hK => ?_) AllReadyH.nil)
          go_simp
          skip
          refine hK.out _ _ ?_ (fun hHeld => ?_)
          · (try dsimp only)
            first | exact HSB.out _ HZ.out | exact HSB.out _ (HZ0.out.alloc HZ0.out.size _) | exact HSB.out _ ((((HZ.out.setCell (p := ⟨_, 0, none⟩) (Nat.le_refl _) _).setCell (p := ⟨_, 1, none⟩) (Nat.le_refl _) _).setCell (p := ⟨_, 2, none⟩) (Nat.le_refl _) _).setCell (p := ⟨_, 3, none⟩) (Nat.le_refl _) _)
          clear hK K
          try simp only [Act.put, List.setIfInBounds_toArray, List.set_cons_zero, List.set_cons_succ]
          refine wpAnyH_done (by kernel_rfl) ?_ _
          change KC _ _
          refine HKC.out _ _ ?_
          clear HKC
          first
            | (have hy0 := y0; have hG : Blk ((((z1.setCell ⟨wr.heap.size, 0, none⟩ (.string ⟨(key.keyOf x.pre).toArray⟩)).setCell ⟨wr.heap.size, 1, none⟩ (.int .u64 (1 + (x.every : Int)))).setCell ⟨wr.heap.size, 2, none⟩ (.int .u64 (1 + (x.burst : Int)))).setCell ⟨wr.heap.size, 3, none⟩ (.int .u8 (1 + (x.kind : Int) % 3))) wr.heap.size 28 #[.string ⟨(key.keyOf x.pre).toArray⟩, .int .u64 (1 + (x.every : Int)), .int .u64 (1 + (x.burst : Int)), .int .u8 (1 + (x.kind : Int) % 3)] := (((HG.out.set_ 0 _).set_ 1 _).set_ 2 _).set_ 3 _; have hZ : Below wr.heap.size wr ((((z1.setCell ⟨wr.heap.size, 0, none⟩ (.string ⟨(key.keyOf x.pre).toArray⟩)).setCell ⟨wr.heap.size, 1, none⟩ (.int .u64 (1 + (x.every : Int)))).setCell ⟨wr.heap.size, 2, none⟩ (.int .u64 (1 + (x.burst : Int)))).setCell ⟨wr.heap.size, 3, none⟩ (.int .u8 (1 + (x.kind : Int) % 3))) := ((((HZ.out.setCell (p := ⟨_, 0, none⟩) (Nat.le_refl _) _).setCell (p := ⟨_, 1, none⟩) (Nat.le_refl _) _).setCell (p := ⟨_, 2, none⟩) (Nat.le_refl _) _).setCell (p := ⟨_, 3, none⟩) (Nat.le_refl _) _); generalize ((((z1.setCell ⟨wr.heap.size, 0, none⟩ (.string ⟨(key.keyOf x.pre).toArray⟩)).setCell ⟨wr.heap.size, 1, none⟩ (.int .u64 (1 + (x.every : Int)))).setCell ⟨wr.heap.size, 2, none⟩ (.int .u64 (1 + (x.burst : Int)))).setCell ⟨wr.heap.size, 3, none⟩ (.int .u8 (1 + (x.kind : Int) % 3))) = W at hG hZ ⊢; generalize hgg : wr.heap.size = g at hG ⊢; have hge : wr.heap.size ≤ g := Nat.le_of_eq hgg)
            | (have hG := Blk.new z1 28 #[.string ⟨(key.keyOf x.pre).toArray⟩, .int .u64 (1 + (x.every : Int)), .int .u64 (1 + (x.burst : Int)), .int .u8 (1 + (x.kind : Int) % 3)]; have hge := HZ0.out.size; have hZ := HZ0.out.alloc HZ0.out.size (.cells #[.string ⟨(key.keyOf x.pre).toArray⟩, .int .u64 (1 + (x.every : Int)), .int .u64 (1 + (x.burst : Int)), .int .u8 (1 + (x.kind : Int) % 3)] 28); generalize z1.alloc (.cells #[.string ⟨(key.keyOf x.pre).toArray⟩, .int .u64 (1 + (x.every : Int)), .int .u64 (1 + (x.burst : Int)), .int .u8 (1 + (x.kind : Int) % 3)] 28) = W at hG hZ ⊢; generalize z1.heap.size = g at hG hge ⊢; skip)
          obtain ⟨-, q1, q2, q3⟩ := HSB.out W hZ
          have g0 : W.cell? ⟨g, 0, none⟩ = some (.string ⟨(key.keyOf x.pre).toArray⟩) := hG.cell 0
          have g1 : W.cell? ⟨g, 1, none⟩ = some (.int .u64 (1 + (x.every : Int))) := hG.cell 1
          have g2 : W.cell? ⟨g, 2, none⟩ = some (.int .u64 (1 + (x.burst : Int))) := hG.cell 2
          have gf1 := hG.frozen 1
          have gf2 := hG.frozen 2
          have HG := Lib.hid hG
          have HZZ := Lib.hid hZ
          have HGE := Lib.hid hge
          clear hG hZ hge HZ HSB
          obtain ⟨W2, hfacts⟩ : ∃ W2 : World, Hid (Blk W2 g 28 (ruleOf x).cells ∧ Below wr.heap.size wr W2 ∧ W2 = if 200 ≤ x.kind then ((W.setCell ⟨g, 1, none⟩ (.int .u64 (1 + (x.every : Int) % 50))).setCell ⟨g, 2, none⟩ (.int .u64 (1 + (x.burst : Int) % 9))) else W) := by
            by_cases h200 : 200 ≤ x.kind
            · refine ⟨_, Lib.hid ⟨?_, (HZZ.out.setCell (p := ⟨g, 1, none⟩) HGE.out _).setCell (p := ⟨g, 2, none⟩) HGE.out _, (if_pos h200).symm⟩⟩
              unfold ruleOf
              rw [if_pos h200]
              have e1 : ((1 + x.every % 50 : Nat) : Int) = 1 + (x.every : Int) % 50 := by omega
              have e2 : ((1 + x.burst % 9 : Nat) : Int) = 1 + (x.burst : Int) % 9 := by omega
              have e3 : ((1 + x.kind % 3 : Nat) : Int) = 1 + (x.kind : Int) % 3 := by omega
              rw [e1, e2, e3]
              exact (HG.out.set_ 1 _).set_ 2 _
            · refine ⟨_, Lib.hid ⟨?_, HZZ.out, (if_neg h200).symm⟩⟩
              unfold ruleOf
              rw [if_neg h200]
              have e1 : ((1 + x.every : Nat) : Int) = 1 + (x.every : Int) := by omega
              have e2 : ((1 + x.burst : Nat) : Int) = 1 + (x.burst : Int) := by omega
              have e3 : ((1 + x.kind % 3 : Nat) : Int) = 1 + (x.kind : Int) % 3 := by omega
              rw [e1, e2, e3]
              exact HG.out
          have wA : (x.every : Int).tmod 50 = (x.every : Int) % 50 := Int.tmod_eq_emod_of_nonneg (by omega)
          have wA0 : IntKind.u64.wrap ((x.every : Int) % 50) = (x.every : Int) % 50 := by unfold IntKind.wrap; simp [IntKind.bits, IntKind.signed, IntKind.min, IntKind.max]; omega
          have wA1 : IntKind.u64.wrap (1 + (x.every : Int) % 50) = 1 + (x.every : Int) % 50 := by unfold IntKind.wrap; simp [IntKind.bits, IntKind.signed, IntKind.min, IntKind.max]; omega
          have wB : (x.burst : Int).tmod 9 = (x.burst : Int) % 9 := Int.tmod_eq_emod_of_nonneg (by omega)
          have wB0 : IntKind.u64.wrap ((x.burst : Int) % 9) = (x.burst : Int) % 9 := by unfold IntKind.wrap; simp [IntKind.bits, IntKind.signed, IntKind.min, IntKind.max]; omega
          have wB1 : IntKind.u64.wrap (1 + (x.burst : Int) % 9) = 1 + (x.burst : Int) % 9 := by unfold IntKind.wrap; simp [IntKind.bits, IntKind.signed, IntKind.min, IntKind.max]; omega
          by_cases h200 : 200 ≤ x.kind
          all_goals
            have e2 := hfacts.out.2.2
            first | rw [if_pos h200] at e2 | rw [if_neg h200] at e2
            have hk200 : (200 : Int) ≤ x.kind ∨ (x.kind : Int) < 200 := by omega
            try (have h2' : (200 : Int) ≤ x.kind := by omega)
            try (have h2' : (x.kind : Int) < 200 := by omega)
            have E2 := Lib.hid e2
            clear e2 hk200 h200
            go_wp2
            try rw [← E2.out]
            have B2 := Lib.hid hfacts.out.1
            have Z2 := Lib.hid hfacts.out.2.1
            clear E2 hfacts HG HZZ g0 g1 g2 gf1 gf2 q1 q2 q3
            obtain ⟨Av, cv, rfl, hcv⟩ := own_formN HO.out
            have hlen := polTo_len most ns k
            obtain ⟨L, hL⟩ : ∃ L, L = polTo most ns k := ⟨_, rfl⟩
            rw [← hL] at HO HP hcv hlen
            have HLL := Lib.hid hL
            have hpre : (ruleOf x).pre = key.keyOf x.pre := by unfold ruleOf; split <;> rfl
            obtain ⟨K, hK⟩ : ∃ K, K = key.keyOf x.pre := ⟨_, rfl⟩
            rw [← hK] at hpre ⊢
            have HPRE := Lib.hid hpre
            have hs0 : w.heap.size + 1 < wr.heap.size := HP.out.lt
            have ROW := Lib.hid (of_ownN HO.out)
            have s0 : W2.cell? ⟨w.heap.size + 1, 1, none⟩ = some (.slice Av L.length cv) := (Z2.out.cell (p := ⟨w.heap.size + 1, 1, none⟩) hs0).trans (HP.out.cell 1)
            have r0 : W2.cell? ⟨g, 0, none⟩ = some (.string ⟨K.toArray⟩) := by
              have := B2.out.cell 0
              rw [← hpre]
              exact this
            have glt : g < W2.heap.size := B2.out.lt
            have s1lt : w.heap.size + 1 < W2.heap.size := Nat.lt_of_lt_of_le hs0 Z2.out.size
            obtain ⟨S, hS⟩ : ∃ S : ByteArray, S = ⟨K.toArray⟩ := ⟨_, rfl⟩
            rw [← hS] at r0 ⊢
            have HS2 := Lib.hid hS
            clear hL hpre hK hS
            obtain ⟨wo, rfl⟩ : ∃ wo : World, wo = wr := ⟨_, rfl⟩
            go_loopw [8, 9] (fun is j wr2 => ∃ m : Nat, m ≤ L.length ∧ j = .int .i64 (m : Nat) ∧ is = .bool (newIn (L.take m) K) ∧ Hid (Below W2.heap.size W2 wr2)) (fun _ j _ => L.length - (intOf j).toNat)
            case atStart => exact ⟨0, Nat.zero_le _, rfl, rfl, Lib.hid (Below.refl _ _)⟩
            case round =>
              obtain ⟨m, hm2, rfl, rfl, HB2⟩ := hrel
              have s0' : wr.cell? ⟨w.heap.size + 1, 1, none⟩ = some (.slice Av L.length cv) := (HB2.out.cell (p := ⟨w.heap.size + 1, 1, none⟩) s1lt).trans s0
              have r0' : wr.cell? ⟨g, 0, none⟩ = some (.string S) := (HB2.out.cell (p := ⟨g, 0, none⟩) glt).trans r0
              by_cases hlt2 : m < L.length
              · obtain ⟨y, hy⟩ : ∃ y, L[m]? = some y := ⟨_, List.getElem?_eq_getElem hlt2⟩
                obtain ⟨b2, off2, rfl, hb2, d0, -⟩ := rul_at ((ROW.out.below Z2.out).below (HB2.out.mono Z2.out.size)) hy
                obtain ⟨S1, hS1⟩ : ∃ S1 : ByteArray, S1 = ⟨y.pre.toArray⟩ := ⟨_, rfl⟩
                rw [← hS1] at d0
                have HY := Lib.hid hy
                have HS1 := Lib.hid hS1
                clear hy
                have hwm : IntKind.i64.wrap ((m : Int) + 1) = (m : Int) + 1 := wrap_small _ (by omega) (by omega)
                cases hb : newIn (L.take m) K with
                | false =>
                  go_wp2
                  go_quiet (fail)
                  go_wp2
                  go_roundw
                  case rel => exact ⟨m + 1, hlt2, by go_num, by rw [newIn_succ HY.out, hb]; rfl, Lib.hid (below_drewN HB2.out _)⟩
                  case measure => simp [intOf]; omega
                | true =>
                  by_cases he : y.pre = K
                  · have hse : S1 = S := by rw [HS1.out, HS2.out, he]
                    clear hS1
                    go_wp2
                    go_quiet (fail)
                    go_wp2
                    go_roundw
                    case rel => exact ⟨m + 1, hlt2, by go_num, by rw [newIn_succ HY.out, hb]; simp [he], Lib.hid (below_drewN HB2.out _)⟩
                    case measure => simp [intOf]; omega
                  · have hse : S1 ≠ S := by
                      rw [HS1.out, HS2.out]
                      intro e
                      injection e with e
                      exact he (by simpa using e)
                    have HSL := Lib.hid (show ¬ S1.toList = S.toList from fun e => he (by rw [HS1.out, HS2.out, ByteArray.toList_eq, ByteArray.toList_eq] at e; simpa using e))
                    clear hS1
                    go_wp2
                    go_quiet (fail)
                    go_wp2
                    go_roundw
                    case rel => exact ⟨m + 1, hlt2, by go_num, by rw [newIn_succ HY.out, hb]; simp [he]; exact HSL.out, Lib.hid (below_drewN HB2.out _)⟩
                    case measure => simp [intOf]; omega
              · obtain rfl : m = L.length := by omega
                have ht : newIn (L.take L.length) K = newIn L K := by rw [List.take_length]
                rw [ht]
                clear ht
                have hwk : IntKind.i64.wrap ((k : Int) + 1) = (k : Int) + 1 := wrap_small _ (by omega) (by omega)
                have ZW : Below wo.heap.size wo wr := Z2.out.trans (HB2.out.mono Z2.out.size)
                have BS : Blk wr w.heap.size 31 #[.int .i64 0, .slice none 0 0] := HS.out.below ZW HS.out.lt
                have BP : Blk wr (w.heap.size + 1) 31 #[.int .i64 ((1 + most % 50 : Nat) : Int), .slice Av L.length cv] := HP.out.below ZW HP.out.lt
                have OW : wr.ownsRow (w.heap.size + 2) 28 4 (.slice Av L.length cv) L.length (rcells L) := own_old HO.out ZW
                have BW : Below w.heap.size w wr := HB.out.trans (ZW.mono HB.out.size)
                have h2 : w.heap.size + 2 ≤ wr.heap.size := by have := BP.lt; omega
                cases hb : newIn L K with
                | false =>
                  have hto : polTo most ns (k + 1) = L := by
                    unfold polTo
                    rw [HX.out]
                    simp only
                    rw [← HLL.out, HPRE.out, hb]
                    rfl
                  have H1 := Lib.hid BS
                  have H2 := Lib.hid BP
                  have H3 := Lib.hid OW
                  have H4 := Lib.hid BW
                  have HTO := Lib.hid hto
                  clear BS BP OW BW ZW hto
                  go_wp2
                  go_roundw
                  case rel => exact ⟨k + 1, _, by go_num, hlt, by omega, H1, H2, by rw [HTO.out]; exact H3, H4⟩
                  case measure => simp [intOf]; omega
                | true =>
                  have hto : polTo most ns (k + 1) = L ++ [ruleOf x] := by
                    unfold polTo
                    rw [HX.out]
                    simp only
                    rw [← HLL.out, HPRE.out, hb]
                    rfl
                  have BG : Blk wr g 28 (ruleOf x).cells := B2.out.below HB2.out glt
                  obtain ⟨E, hE⟩ : ∃ E, E = (ruleOf x).every := ⟨_, rfl⟩
                  obtain ⟨U, hU⟩ : ∃ U, U = (ruleOf x).burst := ⟨_, rfl⟩
                  obtain ⟨D, hD⟩ : ∃ D, D = (ruleOf x).kind := ⟨_, rfl⟩
                  have r1' : wr.cell? ⟨g, 1, none⟩ = some (.int .u64 E) := by rw [hE]; exact BG.cell 1
                  have r2' : wr.cell? ⟨g, 2, none⟩ = some (.int .u64 U) := by rw [hU]; exact BG.cell 2
                  have r3' : wr.cell? ⟨g, 3, none⟩ = some (.int .u8 D) := by rw [hD]; exact BG.cell 3
                  have hcs : rcells (L ++ [ruleOf x]) = rcells L ++ [.string S, .int .u64 E, .int .u64 U, .int .u8 D] := by
                    rw [rcells_append, HS2.out, hE, hU, hD, ← HPRE.out]
                    rfl
                  have glt' : g < wr.heap.size := BG.lt
                  have H1 := Lib.hid BS
                  have H2 := Lib.hid BP
                  have H3 := Lib.hid (OW.alloc (.cells #[.string S, .int .u64 E, .int .u64 U, .int .u8 D] 28))
                  have H4 := Lib.hid BW
                  have HTO := Lib.hid hto
                  have HCS := Lib.hid hcs
                  clear BS BP OW BW ZW hto hcs BG hE hU hD
                  go_wp2_with (at_builtin; refine wpList_append_rowN _ rfl (.tmp 108) (.tmp 110) 22 rfl (w.heap.size + 2) 28 i0 _ 4 40 (by omega) rfl HQ.out.1 HQ.out.2.1 HQ.out.2.2.1 HQ.out.2.2.2 rfl (.slice Av L.length cv) L.length (rcells L) rfl H3.out _ (some ⟨wr.heap.size, 0, none⟩) 1 1 [.string S, .int .u64 E, .int .u64 U, .int .u8 D] rfl rfl (Row.new wr 28 #[.string S, .int .u64 E, .int .u64 U, .int .u8 D]) (by simp [Value.oneCell']) (by unfold maxLen; omega) (by omega) (by simp only [World.size_alloc]; omega) ?_; intro v3 w7 hown3 hg3 hat3; have hne : ∀ q, q < w.heap.size + 2 → some q ≠ (Value.slice Av L.length cv).ownBlock := fun q hq e => (by have := (own_lt H3.out e.symm).1; omega); have h7s := (H1.out.alloc (.cells #[.string S, .int .u64 E, .int .u64 U, .int .u8 D] 28)).grown hg3 (hne _ (by omega)); have h7p := (H2.out.alloc (.cells #[.string S, .int .u64 E, .int .u64 U, .int .u8 D] 28)).grown hg3 (hne _ (by omega)); have h7b := (H4.out.alloc H4.out.size (.cells #[.string S, .int .u64 E, .int .u64 U, .int .u8 D] 28)).grown hg3 (by have := H4.out.size; simp only [World.size_alloc]; omega) (fun q hq => (by have := (own_lt H3.out hq).1; omega)); obtain ⟨A7, c7, rfl, hc7⟩ := own_formN hown3; have p1 : w7.cell? ⟨w.heap.size + 1, 1, none⟩ = some (.slice Av L.length cv) := h7p.cell 1; have pf := h7p.frozen 1; have H7S := Lib.hid h7s; have H7P := Lib.hid h7p; have H7B := Lib.hid h7b; have H7O := Lib.hid hown3; clear h7s h7p h7b hown3 hg3 hat3 hne)
                  go_roundw
                  case rel =>
                    refine ⟨k + 1, .slice A7 (L.length + 1) c7, by go_num, hlt, by omega, Lib.hid (H7S.out.far (p := ⟨w.heap.size + 1, 1, none⟩) (show w.heap.size ≠ w.heap.size + 1 by omega) _), Lib.hid (H7P.out.set_ 1 _), Lib.hid ?_, Lib.hid (H7B.out.setCell (p := ⟨w.heap.size + 1, 1, none⟩) (show w.heap.size ≤ w.heap.size + 1 by omega) _)⟩
                    rw [HTO.out, HCS.out, List.length_append, List.length_singleton]
                    exact own_kept H7O.out (grown_set _ _ _ _) (fun hh => by have := (own_lt H7O.out hh).1; omega)
                  case measure => simp [intOf]; omega
        -- END REGION
      · have hpol : polTo most ns k = polRules most ns := hfin (by omega)
        obtain ⟨Av, cv, rfl, hcv⟩ := own_formN HO.out
        obtain ⟨M, hM⟩ : ∃ M, M = ((1 + most % 50 : Nat) : Int) := ⟨_, rfl⟩
        rw [hpol] at HO HP hcv
        rw [← hM] at HP
        obtain ⟨N, hN⟩ : ∃ N, N = (polRules most ns).length := ⟨_, rfl⟩
        rw [← hN] at HO HP hcv
        have c0 : wr.cell? ⟨w.heap.size, 0, none⟩ = some (.int .i64 0) := HS.out.cell 0
        have c1 : wr.cell? ⟨w.heap.size, 1, none⟩ = some (.slice none 0 0) := HS.out.cell 1
        have f0 := HS.out.frozen 0
        have f1 := HS.out.frozen 1
        have p0 : wr.cell? ⟨w.heap.size + 1, 0, none⟩ = some (.int .i64 M) := HP.out.cell 0
        have p1 : wr.cell? ⟨w.heap.size + 1, 1, none⟩ = some (.slice Av N cv) := HP.out.cell 1
        have q := ((HS.out.set_ 0 (.int .i64 M)).set_ 1 (.slice Av N cv))
        have q0 : ((wr.setCell ⟨w.heap.size, 0, none⟩ (.int .i64 M)).setCell ⟨w.heap.size, 1, none⟩ (.slice Av N cv)).cell? ⟨w.heap.size, 0, none⟩ = some (.int .i64 M) := q.cell 0
        have q1 : ((wr.setCell ⟨w.heap.size, 0, none⟩ (.int .i64 M)).setCell ⟨w.heap.size, 1, none⟩ (.slice Av N cv)).cell? ⟨w.heap.size, 1, none⟩ = some (.slice Av N cv) := q.cell 1
        have HRW := Lib.hid (of_ownN HO.out)
        have hnot : ∀ b, b < w.heap.size + 2 → some b ≠ (Value.slice Av N cv).ownBlock := fun b hb e => by have := (own_lt HO.out e.symm).1; omega
        have OF := own_kept (own_kept HO.out (grown_set wr w.heap.size 0 (.int .i64 M)) (fun e => hnot _ (by omega) e.symm)) (grown_set _ w.heap.size 1 (.slice Av N cv)) (fun e => hnot _ (by omega) e.symm)
        have RF := Lib.hid (of_ownN OF)
        have BF := Lib.hid ((HB.out.setCell (p := ⟨w.heap.size, 0, none⟩) (Nat.le_refl _) (.int .i64 M)).setCell (p := ⟨w.heap.size, 1, none⟩) (Nat.le_refl _) (.slice Av N cv))
        have Q0 := Lib.hid q0
        have Q1 := Lib.hid q1
        have HM := Lib.hid hM
        have HN := Lib.hid hN
        clear q q0 q1 OF hnot hpol hfin hM hN HRW
        go_wp2
        have q0 := Q0.out
        have q1 := Q1.out
        have rf := RF.out
        have bf := BF.out
        generalize ((wr.setCell ⟨w.heap.size, 0, none⟩ (.int .i64 M)).setCell ⟨w.heap.size, 1, none⟩ (.slice Av N cv)) = WF at q0 q1 rf bf ⊢
        refine bodyPost_ret (v := .agg #[.int .i64 M, .slice Av N cv]) (by simp [results, Try.results9, go_sem, q0, q1]) rfl ?_
        exact ⟨Av, cv, by rw [HM.out, HN.out], by rw [← HN.out]; exact hcv, rf, bf⟩
    · have hpol : polTo most ns k = polRules most ns := hfin (by omega)
      obtain ⟨Av, cv, rfl, hcv⟩ := own_formN HO.out
      obtain ⟨M, hM⟩ : ∃ M, M = ((1 + most % 50 : Nat) : Int) := ⟨_, rfl⟩
      rw [hpol] at HO HP hcv
      rw [← hM] at HP
      obtain ⟨N, hN⟩ : ∃ N, N = (polRules most ns).length := ⟨_, rfl⟩
      rw [← hN] at HO HP hcv
      have c0 : wr.cell? ⟨w.heap.size, 0, none⟩ = some (.int .i64 0) := HS.out.cell 0
      have c1 : wr.cell? ⟨w.heap.size, 1, none⟩ = some (.slice none 0 0) := HS.out.cell 1
      have f0 := HS.out.frozen 0
      have f1 := HS.out.frozen 1
      have p0 : wr.cell? ⟨w.heap.size + 1, 0, none⟩ = some (.int .i64 M) := HP.out.cell 0
      have p1 : wr.cell? ⟨w.heap.size + 1, 1, none⟩ = some (.slice Av N cv) := HP.out.cell 1
      have q := ((HS.out.set_ 0 (.int .i64 M)).set_ 1 (.slice Av N cv))
      have q0 : ((wr.setCell ⟨w.heap.size, 0, none⟩ (.int .i64 M)).setCell ⟨w.heap.size, 1, none⟩ (.slice Av N cv)).cell? ⟨w.heap.size, 0, none⟩ = some (.int .i64 M) := q.cell 0
      have q1 : ((wr.setCell ⟨w.heap.size, 0, none⟩ (.int .i64 M)).setCell ⟨w.heap.size, 1, none⟩ (.slice Av N cv)).cell? ⟨w.heap.size, 1, none⟩ = some (.slice Av N cv) := q.cell 1
      have HRW := Lib.hid (of_ownN HO.out)
      have hnot : ∀ b, b < w.heap.size + 2 → some b ≠ (Value.slice Av N cv).ownBlock := fun b hb e => by have := (own_lt HO.out e.symm).1; omega
      have OF := own_kept (own_kept HO.out (grown_set wr w.heap.size 0 (.int .i64 M)) (fun e => hnot _ (by omega) e.symm)) (grown_set _ w.heap.size 1 (.slice Av N cv)) (fun e => hnot _ (by omega) e.symm)
      have RF := Lib.hid (of_ownN OF)
      have BF := Lib.hid ((HB.out.setCell (p := ⟨w.heap.size, 0, none⟩) (Nat.le_refl _) (.int .i64 M)).setCell (p := ⟨w.heap.size, 1, none⟩) (Nat.le_refl _) (.slice Av N cv))
      have Q0 := Lib.hid q0
      have Q1 := Lib.hid q1
      have HM := Lib.hid hM
      have HN := Lib.hid hN
      clear q q0 q1 OF hnot hpol hfin hM hN HRW
      go_wp2
      have q0 := Q0.out
      have q1 := Q1.out
      have rf := RF.out
      have bf := BF.out
      generalize ((wr.setCell ⟨w.heap.size, 0, none⟩ (.int .i64 M)).setCell ⟨w.heap.size, 1, none⟩ (.slice Av N cv)) = WF at q0 q1 rf bf ⊢
      refine bodyPost_ret (v := .agg #[.int .i64 M, .slice Av N cv]) (by simp [results, Try.results9, go_sem, q0, q1]) rfl ?_
      exact ⟨Av, cv, by rw [HM.out, HN.out], by rw [← HN.out]; exact hcv, rf, bf⟩
end Go.Proofs.Ytdjhjgimlpdckaa.pre
