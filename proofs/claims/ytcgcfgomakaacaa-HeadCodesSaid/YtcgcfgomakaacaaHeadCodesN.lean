/- HeadCodes, walked: a part. -/
import Derived.Test.YtcgcfgomakaacaaHeadLaw
import Derived.Deep.RegionHeld3
namespace Go.Proofs.Ytcgcfgomakaacaa.head
open Go.RowKit
open Go.Proofs.Ytcgcfgomakaacaa.aid

set_option maxHeartbeats 40000000 in
theorem codes_nine (w : World) (a0 a1 a2 a3 a4 a5 a6 a8 b0 b1 b2 b3 b4 b5 b6 b8 y0 m n : Int) (a7 b7 : Bool) (la lb : List UInt8) (A : Option Addr) (c : Nat) (B : Option Addr) (d : Nat)
    (NX : Hid (∀ W, Calls Try.prog 11 #[.agg #[.int .u8 a0, .int .u16 a1, .int .u64 a2, .int .u64 a3, .int .u64 a4, .int .u64 a5, .int .u64 a6, .bool a7, .int .i64 a8, .slice A la.length c], .int .u8 m] W fun e w' => e = .returned (.agg #[.int .u8 9, .int .u16 a1, .int .u64 a2, .int .u64 a3, .int .u64 a4, .int .u64 a5, .int .u64 a6, .bool a7, .int .i64 a8, .slice A la.length c]) ∧ Below W.heap.size W w'))
    (NY : Hid (∀ W, Calls Try.prog 11 #[.agg #[.int .u8 b0, .int .u16 b1, .int .u64 b2, .int .u64 b3, .int .u64 b4, .int .u64 b5, .int .u64 b6, .bool b7, .int .i64 b8, .slice B lb.length d], .int .u8 n] W fun e w' => e = .returned (.agg #[.int .u8 y0, .int .u16 b1, .int .u64 b2, .int .u64 b3, .int .u64 b4, .int .u64 b5, .int .u64 b6, .bool b7, .int .i64 b8, .slice B lb.length d]) ∧ Below W.heap.size W w'))
    (hFx : Fine ⟨9, a1, a2, a3, a4, a5, a6, a7, a8, la⟩) (hFy : Fine ⟨y0, b1, b2, b3, b4, b5, b6, b7, b8, lb⟩) (hra : Row w w.heap.size A (u8s la)) (hrb : Row w w.heap.size B (u8s lb)) (hs : (la.length : Int) + lb.length ≤ 300) (hs1 : (la.length : Int) ≤ 300) (hs2 : (lb.length : Int) ≤ 300) :
    Calls Try.prog 5 #[.agg #[.int .u8 a0, .int .u16 a1, .int .u64 a2, .int .u64 a3, .int .u64 a4, .int .u64 a5, .int .u64 a6, .bool a7, .int .i64 a8, .slice A la.length c], .agg #[.int .u8 b0, .int .u16 b1, .int .u64 b2, .int .u64 b3, .int .u64 b4, .int .u64 b5, .int .u64 b6, .bool b7, .int .i64 b8, .slice B lb.length d], .int .u8 m, .int .u8 n] w fun e w' => e = .returned (.bool true) ∧ Below w.heap.size w w' := by
  have RX := Lib.hid (fun W (h : Below w.heap.size w W) => render_any ⟨9, a1, a2, a3, a4, a5, a6, a7, a8, la⟩ hFx A c W ((hra.below h).more h.size))
  have ST := Lib.hid (fun W => status_any 9 W)
  rw [show render ⟨9, a1, a2, a3, a4, a5, a6, a7, a8, la⟩ = [] from render_none (by simp [isCode])] at RX
  rw [show str (status 9) = .string ⟨#[]⟩ from rfl] at ST
  have HB := Lib.hid (((Below.refl w.heap.size w).alloc (Nat.le_refl _) (.cells #[.int .u8 a0, .int .u16 a1, .int .u64 a2, .int .u64 a3, .int .u64 a4, .int .u64 a5, .int .u64 a6, .bool a7, .int .i64 a8, .slice A la.length c] 27)).alloc (by simp) (.cells #[.int .u8 b0, .int .u16 b1, .int .u64 b2, .int .u64 b3, .int .u64 b4, .int .u64 b5, .int .u64 b6, .bool b7, .int .i64 b8, .slice B lb.length d] 27))
  have hxb := Blk.new (w.alloc (.cells #[.int .u8 a0, .int .u16 a1, .int .u64 a2, .int .u64 a3, .int .u64 a4, .int .u64 a5, .int .u64 a6, .bool a7, .int .i64 a8, .slice A la.length c] 27)) 27 #[.int .u8 b0, .int .u16 b1, .int .u64 b2, .int .u64 b3, .int .u64 b4, .int .u64 b5, .int .u64 b6, .bool b7, .int .i64 b8, .slice B lb.length d]
  rw [World.size_alloc] at hxb
  have XB := Lib.hid hxb
  clear hxb hFx hFy hra hrb
  go_enter Try.func5, Try.ntmps5
  go_wp2_with fail
  refine (NX.out _).mono ?_
  rintro e w1 ⟨rfl, hb1⟩
  have XB1 := Lib.hid (Blk.below XB.out hb1 XB.out.lt)
  have G1 := Lib.hid (HB.out.trans (hb1.mono HB.out.size))
  obtain ⟨e0, e1, e2, e3, e4, e5, e6, e7, e8, e9⟩ := Blk.ten XB1.out
  have hz1 := XB1.out.lt
  have BX1 := Lib.hid (Blk.new w1 27 #[.int .u8 9, .int .u16 a1, .int .u64 a2, .int .u64 a3, .int .u64 a4, .int .u64 a5, .int .u64 a6, .bool a7, .int .i64 a8, .slice A la.length c])
  clear hb1 XB HB
  go_wp2_with fail
  refine (NY.out _).mono ?_
  rintro e w2 ⟨rfl, hb2⟩
  have BX2 := Lib.hid (Blk.below BX1.out hb2 BX1.out.lt)
  have G2 := Lib.hid ((G1.out.alloc G1.out.size _).trans (hb2.mono (by have := G1.out.size; simp; omega)))
  have hxy := Blk.new w2 27 #[.int .u8 y0, .int .u16 b1, .int .u64 b2, .int .u64 b3, .int .u64 b4, .int .u64 b5, .int .u64 b6, .bool b7, .int .i64 b8, .slice B lb.length d]
  have hxx := BX2.out.alloc (.cells #[.int .u8 y0, .int .u16 b1, .int .u64 b2, .int .u64 b3, .int .u64 b4, .int .u64 b5, .int .u64 b6, .bool b7, .int .i64 b8, .slice B lb.length d] 27)
  have hG := G2.out.alloc G2.out.size (.cells #[.int .u8 y0, .int .u16 b1, .int .u64 b2, .int .u64 b3, .int .u64 b4, .int .u64 b5, .int .u64 b6, .bool b7, .int .i64 b8, .slice B lb.length d] 27)
  obtain ⟨W, hW⟩ : ∃ W : World, W = w2.alloc (.cells #[.int .u8 y0, .int .u16 b1, .int .u64 b2, .int .u64 b3, .int .u64 b4, .int .u64 b5, .int .u64 b6, .bool b7, .int .i64 b8, .slice B lb.length d] 27) := ⟨_, rfl⟩
  rw [← hW] at hxy hxx hG
  have Bx_0 := Lib.hid (Blk.drew hxx)
  have By_0 := Lib.hid (Blk.drew hxy)
  have G_0 := Lib.hid hG.drew
  clear e0 e1 e2 e3 e4 e5 e6 e7 e8 e9 hb2 BX1 G1 XB1 BX2 G2 hz1
  generalize w1.heap.size = gx at *
  have kx_0 := fun i => hxx.cell i
  obtain ⟨e0, e1, e2, e3, e4, e5, e6, e7, e8, e9⟩ := Blk.ten hxx
  rw [hW] at e0 e1 e2 e3 e4 e5 e6 e7 e8 e9
  go_wp2_with fail
  clear e0 e1 e2 e3 e4 e5 e6 e7 e8 e9
  rw [← hW]
  generalize w2.heap.size = gy at *
  have ky_0 := fun i => hxy.cell i
  clear hW hxx hxy hG
  rename_i KC hKC
  have HKC := Lib.hid hKC
  clear hKC
  refine wp_region_held_drew (S := (fun w' => (∀ i, w'.cell? ⟨gx, i, none⟩ = (#[.int .u8 9, .int .u16 a1, .int .u64 a2, .int .u64 a3, .int .u64 a4, .int .u64 a5, .int .u64 a6, .bool a7, .int .i64 a8, .slice A la.length c] : Array Value)[i]?) ∧ (∀ i, w'.cell? ⟨gy, i, none⟩ = (#[.int .u8 y0, .int .u16 b1, .int .u64 b2, .int .u64 b3, .int .u64 b4, .int .u64 b5, .int .u64 b6, .bool b7, .int .i64 b8, .slice B lb.length d] : Array Value)[i]?))) (by kernel_rfl) ?_ (fun hHeld => ?_)
  · (try dsimp only)
    first | exact ⟨‹_›, ‹_›⟩ | go_keep
  refine wpAnyH_ready (rs := [0]) (by kernel_rfl) (by simp) ?_
  refine AllReadyH.cons (o := ({ dst := some 35, op := Op.call { callee := Callee.value (Operand.func 9), args := #[], argTypes := #[] }, type := 4, pos := "law.go:54", after := #[], guard := none } : Oper)) rfl (fun K hK => ?_) AllReadyH.nil
  go_simp
  refine (known_any _).mono ?_; rintro e z1 ⟨rfl, hb⟩; have Bx_1 := Lib.hid (Blk.below Bx_0.out hb Bx_0.out.lt); have kx_1 := fun i => Bx_1.out.cell i; have By_1 := Lib.hid (Blk.below By_0.out hb By_0.out.lt); have ky_1 := fun i => By_1.out.cell i; have G_1 := Lib.hid (G_0.out.trans (hb.mono G_0.out.size)); clear hb; go_wp2_with fail
  refine hK.out _ _ ?_ (fun hHeld => ?_)
  · (try dsimp only)
    first | exact ⟨‹_›, ‹_›⟩ | go_keep
  clear hK K
  try simp only [Act.put, List.setIfInBounds_toArray, List.set_cons_zero, List.set_cons_succ]
  refine wpAnyH_take (i := 1) (oi := ({ dst := some 36, op := Op.move (Operand.tmp 35), type := 4, pos := "law.go:54", after := #[{ on := 0, ground := Ground.data }, { on := 0, ground := Ground.chain }], guard := none } : Oper)) (v := ?_) rfl (by kernel_rfl) (by kernel_rfl) (by kernel_rfl) (fun _ _ _ h => h) (Or.inl ⟨by kernel_rfl, ?_⟩) (by assumption) ?_
  rotate_left
  · (intro w hSw; (try dsimp only at hSw); go_simp)
    all_goals (with_reducible rfl)
  try simp only [Act.put, List.setIfInBounds_toArray, List.set_cons_zero, List.set_cons_succ]
  refine wpAnyH_take (i := 2) (oi := ({ dst := some 37, op := Op.load 27 (Operand.tmp 9), type := 27, pos := "law.go:54", after := #[{ on := 1, ground := Ground.guard }], guard := some (1, true) } : Oper)) (v := ?_) rfl (by kernel_rfl) (by kernel_rfl) (by kernel_rfl) (fun _ _ _ h => h) (Or.inl ⟨by kernel_rfl, ?_⟩) (by assumption) ?_
  rotate_left
  · (intro w hSw; (try dsimp only at hSw); go_simp)
    all_goals (with_reducible rfl)
  try simp only [Act.put, List.setIfInBounds_toArray, List.set_cons_zero, List.set_cons_succ]
  refine wpAnyH_take (i := 6) (oi := ({ dst := some 41, op := Op.move (Operand.tmp 11), type := 4, pos := "law.go:54", after := #[{ on := 1, ground := Ground.guard }], guard := some (1, true) } : Oper)) (v := ?_) rfl (by kernel_rfl) (by kernel_rfl) (by kernel_rfl) (fun _ _ _ h => h) (Or.inl ⟨by kernel_rfl, ?_⟩) (by assumption) ?_
  rotate_left
  · (intro w hSw; (try dsimp only at hSw); go_simp)
    all_goals (with_reducible rfl)
  try simp only [Act.put, List.setIfInBounds_toArray, List.set_cons_zero, List.set_cons_succ]
  refine wpAnyH_ready (rs := [3]) (by kernel_rfl) (by simp) ?_
  refine AllReadyH.cons (o := ({ dst := some 38, op := Op.call { callee := Callee.value (Operand.func 15), args := #[Operand.tmp 37], argTypes := #[27] }, type := 25, pos := "law.go:54", after := #[{ on := 2, ground := Ground.data }, { on := 1, ground := Ground.chain }, { on := 1, ground := Ground.guard }], guard := some (1, true) } : Oper)) rfl (fun K hK => ?_) AllReadyH.nil
  go_simp
  refine (RX.out _ G_1.out).mono ?_; rintro e z2 ⟨Ar1, cr1, rfl, -, hr, hb⟩; have Bx_2 := Lib.hid (Blk.below Bx_1.out hb Bx_1.out.lt); have kx_2 := fun i => Bx_2.out.cell i; have By_2 := Lib.hid (Blk.below By_1.out hb By_1.out.lt); have ky_2 := fun i => By_2.out.cell i; have G_2 := Lib.hid (G_1.out.trans (hb.mono G_1.out.size)); have r1_2 := Lib.hid hr; clear hr hb; go_wp2_with fail
  refine hK.out _ _ ?_ (fun hHeld => ?_)
  · (try dsimp only)
    first | exact ⟨‹_›, ‹_›⟩ | go_keep
  clear hK K
  try simp only [Act.put, List.setIfInBounds_toArray, List.set_cons_zero, List.set_cons_succ]
  refine wpAnyH_take (i := 4) (oi := ({ dst := some 39, op := Op.call { callee := Callee.builtin Builtin.len, args := #[Operand.tmp 38], argTypes := #[25] }, type := 3, pos := "law.go:54", after := #[{ on := 3, ground := Ground.data }, { on := 1, ground := Ground.guard }], guard := some (1, true) } : Oper)) (v := ?_) rfl (by kernel_rfl) (by kernel_rfl) (by kernel_rfl) (fun _ _ _ h => h) (Or.inl ⟨by kernel_rfl, ?_⟩) (by assumption) ?_
  rotate_left
  · (intro w hSw; (try dsimp only at hSw); go_simp)
    all_goals (with_reducible rfl)
  try simp only [Act.put, List.setIfInBounds_toArray, List.set_cons_zero, List.set_cons_succ]
  refine wpAnyH_take (i := 5) (oi := ({ dst := some 40, op := Op.binOp BinOp.gtr 3 (Operand.tmp 39) (Operand.const (Value.int IntKind.i64 0)) 3, type := 4, pos := "law.go:54", after := #[{ on := 4, ground := Ground.data }, { on := 1, ground := Ground.guard }], guard := some (1, true) } : Oper)) (v := ?_) rfl (by kernel_rfl) (by kernel_rfl) (by kernel_rfl) (fun _ _ _ h => h) (Or.inl ⟨by kernel_rfl, ?_⟩) (by assumption) ?_
  rotate_left
  · (intro w hSw; (try dsimp only at hSw); go_simp)
    all_goals (with_reducible rfl)
  try simp only [Act.put, List.setIfInBounds_toArray, List.set_cons_zero, List.set_cons_succ]
  refine wpAnyH_take (i := 7) (oi := ({ dst := some 42, op := Op.binOp BinOp.eql 4 (Operand.tmp 40) (Operand.tmp 41) 4, type := 4, pos := "law.go:54", after := #[{ on := 5, ground := Ground.data }, { on := 6, ground := Ground.data }, { on := 1, ground := Ground.guard }], guard := some (1, true) } : Oper)) (v := ?_) rfl (by kernel_rfl) (by kernel_rfl) (by kernel_rfl) (fun _ _ _ h => h) (Or.inl ⟨by kernel_rfl, ?_⟩) (by assumption) ?_
  rotate_left
  · (intro w hSw; (try dsimp only at hSw); go_simp)
    all_goals (with_reducible rfl)
  try simp only [Act.put, List.setIfInBounds_toArray, List.set_cons_zero, List.set_cons_succ]
  refine wpAnyH_take (i := 8) (oi := ({ dst := some 43, op := Op.pick (Operand.tmp 36) (Operand.tmp 42) (Operand.const (Value.bool false)), type := 4, pos := "law.go:54", after := #[{ on := 1, ground := Ground.data }, { on := 7, ground := Ground.data }], guard := none } : Oper)) (v := ?_) rfl (by kernel_rfl) (by kernel_rfl) (by kernel_rfl) (fun _ _ _ h => h) (Or.inl ⟨by kernel_rfl, ?_⟩) (by assumption) ?_
  rotate_left
  · (intro w hSw; (try dsimp only at hSw); go_simp)
    all_goals (with_reducible rfl)
  try simp only [Act.put, List.setIfInBounds_toArray, List.set_cons_zero, List.set_cons_succ]
  refine wpAnyH_take (i := 9) (oi := ({ dst := some 44, op := Op.move (Operand.tmp 43), type := 4, pos := "law.go:54", after := #[{ on := 8, ground := Ground.data }, { on := 3, ground := Ground.chain }], guard := none } : Oper)) (v := ?_) rfl (by kernel_rfl) (by kernel_rfl) (by kernel_rfl) (fun _ _ _ h => h) (Or.inl ⟨by kernel_rfl, ?_⟩) (by assumption) ?_
  rotate_left
  · (intro w hSw; (try dsimp only at hSw); go_simp)
    all_goals (with_reducible rfl)
  try simp only [Act.put, List.setIfInBounds_toArray, List.set_cons_zero, List.set_cons_succ]
  refine wpAnyH_take (i := 10) (oi := ({ dst := some 45, op := Op.fieldAddr 27 (Operand.tmp 9) 0, type := 0, pos := "law.go:54", after := #[{ on := 9, ground := Ground.guard }], guard := some (9, true) } : Oper)) (v := ?_) rfl (by kernel_rfl) (by kernel_rfl) (by kernel_rfl) (fun _ _ _ h => h) (Or.inl ⟨by kernel_rfl, ?_⟩) (by assumption) ?_
  rotate_left
  · (intro w hSw; (try dsimp only at hSw); go_simp)
    all_goals (with_reducible rfl)
  try simp only [Act.put, List.setIfInBounds_toArray, List.set_cons_zero, List.set_cons_succ]
  refine wpAnyH_take (i := 11) (oi := ({ dst := some 46, op := Op.load 5 (Operand.tmp 45), type := 5, pos := "law.go:54", after := #[{ on := 10, ground := Ground.data }, { on := 9, ground := Ground.guard }], guard := some (9, true) } : Oper)) (v := ?_) rfl (by kernel_rfl) (by kernel_rfl) (by kernel_rfl) (fun _ _ _ h => h) (Or.inl ⟨by kernel_rfl, ?_⟩) (by assumption) ?_
  rotate_left
  · (intro w hSw; (try dsimp only at hSw); go_simp)
    all_goals (with_reducible rfl)
  try simp only [Act.put, List.setIfInBounds_toArray, List.set_cons_zero, List.set_cons_succ]
  refine wpAnyH_take (i := 14) (oi := ({ dst := some 49, op := Op.move (Operand.tmp 11), type := 4, pos := "law.go:54", after := #[{ on := 9, ground := Ground.guard }], guard := some (9, true) } : Oper)) (v := ?_) rfl (by kernel_rfl) (by kernel_rfl) (by kernel_rfl) (fun _ _ _ h => h) (Or.inl ⟨by kernel_rfl, ?_⟩) (by assumption) ?_
  rotate_left
  · (intro w hSw; (try dsimp only at hSw); go_simp)
    all_goals (with_reducible rfl)
  try simp only [Act.put, List.setIfInBounds_toArray, List.set_cons_zero, List.set_cons_succ]
  refine wpAnyH_ready (rs := [12]) (by kernel_rfl) (by simp) ?_
  refine AllReadyH.cons (o := ({ dst := some 47, op := Op.call { callee := Callee.value (Operand.func 12), args := #[Operand.tmp 46], argTypes := #[5] }, type := 9, pos := "law.go:54", after := #[{ on := 11, ground := Ground.data }, { on := 9, ground := Ground.chain }, { on := 9, ground := Ground.guard }], guard := some (9, true) } : Oper)) rfl (fun K hK => ?_) AllReadyH.nil
  go_simp
  refine (ST.out _).mono ?_; rintro e z3 ⟨rfl, hb⟩; have Bx_3 := Lib.hid (Blk.below Bx_2.out hb Bx_2.out.lt); have kx_3 := fun i => Bx_3.out.cell i; have By_3 := Lib.hid (Blk.below By_2.out hb By_2.out.lt); have ky_3 := fun i => By_3.out.cell i; have G_3 := Lib.hid (G_2.out.trans (hb.mono G_2.out.size)); clear hb; go_wp2_with fail
  refine hK.out _ _ ?_ (fun hHeld => ?_)
  · (try dsimp only)
    first | exact ⟨‹_›, ‹_›⟩ | go_keep
  clear hK K
  try simp only [Act.put, List.setIfInBounds_toArray, List.set_cons_zero, List.set_cons_succ]
  refine wpAnyH_take (i := 13) (oi := ({ dst := some 48, op := Op.binOp BinOp.neq 9 (Operand.tmp 47) (Operand.const (Value.string { data := #[] })) 9, type := 4, pos := "law.go:54", after := #[{ on := 12, ground := Ground.data }, { on := 9, ground := Ground.guard }], guard := some (9, true) } : Oper)) (v := ?_) rfl (by kernel_rfl) (by kernel_rfl) (by kernel_rfl) (fun _ _ _ h => h) (Or.inl ⟨by kernel_rfl, ?_⟩) (by assumption) ?_
  rotate_left
  · (intro w hSw; (try dsimp only at hSw); go_simp)
    all_goals (with_reducible rfl)
  try simp only [Act.put, List.setIfInBounds_toArray, List.set_cons_zero, List.set_cons_succ]
  refine wpAnyH_take (i := 15) (oi := ({ dst := some 50, op := Op.binOp BinOp.eql 4 (Operand.tmp 48) (Operand.tmp 49) 4, type := 4, pos := "law.go:54", after := #[{ on := 13, ground := Ground.data }, { on := 14, ground := Ground.data }, { on := 9, ground := Ground.guard }], guard := some (9, true) } : Oper)) (v := ?_) rfl (by kernel_rfl) (by kernel_rfl) (by kernel_rfl) (fun _ _ _ h => h) (Or.inl ⟨by kernel_rfl, ?_⟩) (by assumption) ?_
  rotate_left
  · (intro w hSw; (try dsimp only at hSw); go_simp)
    all_goals (with_reducible rfl)
  try simp only [Act.put, List.setIfInBounds_toArray, List.set_cons_zero, List.set_cons_succ]
  refine wpAnyH_take (i := 16) (oi := ({ dst := some 51, op := Op.pick (Operand.tmp 44) (Operand.tmp 50) (Operand.const (Value.bool false)), type := 4, pos := "law.go:54", after := #[{ on := 9, ground := Ground.data }, { on := 15, ground := Ground.data }], guard := none } : Oper)) (v := ?_) rfl (by kernel_rfl) (by kernel_rfl) (by kernel_rfl) (fun _ _ _ h => h) (Or.inl ⟨by kernel_rfl, ?_⟩) (by assumption) ?_
  rotate_left
  · (intro w hSw; (try dsimp only at hSw); go_simp)
    all_goals (with_reducible rfl)
  try simp only [Act.put, List.setIfInBounds_toArray, List.set_cons_zero, List.set_cons_succ]
  refine wpAnyH_take (i := 17) (oi := ({ dst := some 52, op := Op.move (Operand.tmp 51), type := 4, pos := "law.go:54", after := #[{ on := 16, ground := Ground.data }, { on := 12, ground := Ground.chain }], guard := none } : Oper)) (v := ?_) rfl (by kernel_rfl) (by kernel_rfl) (by kernel_rfl) (fun _ _ _ h => h) (Or.inl ⟨by kernel_rfl, ?_⟩) (by assumption) ?_
  rotate_left
  · (intro w hSw; (try dsimp only at hSw); go_simp)
    all_goals (with_reducible rfl)
  try simp only [Act.put, List.setIfInBounds_toArray, List.set_cons_zero, List.set_cons_succ]
  refine wpAnyH_take (i := 18) (oi := ({ dst := some 53, op := Op.move (Operand.tmp 11), type := 4, pos := "law.go:54", after := #[{ on := 17, ground := Ground.guard }], guard := some (17, true) } : Oper)) (v := ?_) rfl (by kernel_rfl) (by kernel_rfl) (by kernel_rfl) (fun _ _ _ h => h) (Or.inl ⟨by kernel_rfl, ?_⟩) (by assumption) ?_
  rotate_left
  · (intro w hSw; (try dsimp only at hSw); go_simp)
    all_goals (with_reducible rfl)
  try simp only [Act.put, List.setIfInBounds_toArray, List.set_cons_zero, List.set_cons_succ]
  refine wpAnyH_take (i := 19) (oi := ({ dst := some 54, op := Op.unOp UnOp.not 4 (Operand.tmp 53), type := 4, pos := "law.go:54", after := #[{ on := 18, ground := Ground.data }, { on := 17, ground := Ground.guard }], guard := some (17, true) } : Oper)) (v := ?_) rfl (by kernel_rfl) (by kernel_rfl) (by kernel_rfl) (fun _ _ _ h => h) (Or.inl ⟨by kernel_rfl, ?_⟩) (by assumption) ?_
  rotate_left
  · (intro w hSw; (try dsimp only at hSw); go_simp)
    all_goals (with_reducible rfl)
  try simp only [Act.put, List.setIfInBounds_toArray, List.set_cons_zero, List.set_cons_succ]
  refine wpAnyH_take (i := 20) (oi := ({ dst := some 55, op := Op.move (Operand.tmp 54), type := 4, pos := "law.go:54", after := #[{ on := 19, ground := Ground.data }, { on := 17, ground := Ground.chain }, { on := 17, ground := Ground.guard }], guard := some (17, true) } : Oper)) (v := ?_) rfl (by kernel_rfl) (by kernel_rfl) (by kernel_rfl) (fun _ _ _ h => h) (Or.inl ⟨by kernel_rfl, ?_⟩) (by assumption) ?_
  rotate_left
  · (intro w hSw; (try dsimp only at hSw); go_simp)
    all_goals (with_reducible rfl)
  try simp only [Act.put, List.setIfInBounds_toArray, List.set_cons_zero, List.set_cons_succ]
  refine wpAnyH_take (i := 21) (oi := ({ dst := some 56, op := Op.fieldAddr 27 (Operand.tmp 9) 0, type := 0, pos := "law.go:54", after := #[{ on := 20, ground := Ground.guard }], guard := some (20, false) } : Oper)) (v := undef) rfl (by kernel_rfl) (by kernel_rfl) (by kernel_rfl) (fun _ _ _ h => h) (Or.inr ⟨by kernel_rfl, rfl⟩) (by assumption) ?_
  try simp only [Act.put, List.setIfInBounds_toArray, List.set_cons_zero, List.set_cons_succ]
  refine wpAnyH_take (i := 22) (oi := ({ dst := some 57, op := Op.load 5 (Operand.tmp 56), type := 5, pos := "law.go:54", after := #[{ on := 21, ground := Ground.data }, { on := 20, ground := Ground.guard }], guard := some (20, false) } : Oper)) (v := undef) rfl (by kernel_rfl) (by kernel_rfl) (by kernel_rfl) (fun _ _ _ h => h) (Or.inr ⟨by kernel_rfl, rfl⟩) (by assumption) ?_
  try simp only [Act.put, List.setIfInBounds_toArray, List.set_cons_zero, List.set_cons_succ]
  refine wpAnyH_take (i := 23) (oi := ({ dst := some 58, op := Op.fieldAddr 27 (Operand.tmp 10) 0, type := 0, pos := "law.go:54", after := #[{ on := 20, ground := Ground.guard }], guard := some (20, false) } : Oper)) (v := undef) rfl (by kernel_rfl) (by kernel_rfl) (by kernel_rfl) (fun _ _ _ h => h) (Or.inr ⟨by kernel_rfl, rfl⟩) (by assumption) ?_
  try simp only [Act.put, List.setIfInBounds_toArray, List.set_cons_zero, List.set_cons_succ]
  refine wpAnyH_take (i := 24) (oi := ({ dst := some 59, op := Op.load 5 (Operand.tmp 58), type := 5, pos := "law.go:54", after := #[{ on := 23, ground := Ground.data }, { on := 20, ground := Ground.guard }], guard := some (20, false) } : Oper)) (v := undef) rfl (by kernel_rfl) (by kernel_rfl) (by kernel_rfl) (fun _ _ _ h => h) (Or.inr ⟨by kernel_rfl, rfl⟩) (by assumption) ?_
  try simp only [Act.put, List.setIfInBounds_toArray, List.set_cons_zero, List.set_cons_succ]
  refine wpAnyH_take (i := 25) (oi := ({ dst := some 60, op := Op.binOp BinOp.eql 5 (Operand.tmp 57) (Operand.tmp 59) 5, type := 4, pos := "law.go:54", after := #[{ on := 22, ground := Ground.data }, { on := 24, ground := Ground.data }, { on := 20, ground := Ground.guard }], guard := some (20, false) } : Oper)) (v := undef) rfl (by kernel_rfl) (by kernel_rfl) (by kernel_rfl) (fun _ _ _ h => h) (Or.inr ⟨by kernel_rfl, rfl⟩) (by assumption) ?_
  try simp only [Act.put, List.setIfInBounds_toArray, List.set_cons_zero, List.set_cons_succ]
  refine wpAnyH_take (i := 26) (oi := ({ dst := some 61, op := Op.pick (Operand.tmp 55) (Operand.const (Value.bool true)) (Operand.tmp 60), type := 4, pos := "law.go:54", after := #[{ on := 20, ground := Ground.data }, { on := 25, ground := Ground.data }, { on := 17, ground := Ground.guard }], guard := some (17, true) } : Oper)) (v := ?_) rfl (by kernel_rfl) (by kernel_rfl) (by kernel_rfl) (fun _ _ _ h => h) (Or.inl ⟨by kernel_rfl, ?_⟩) (by assumption) ?_
  rotate_left
  · (intro w hSw; (try dsimp only at hSw); go_simp)
    all_goals (with_reducible rfl)
  try simp only [Act.put, List.setIfInBounds_toArray, List.set_cons_zero, List.set_cons_succ]
  refine wpAnyH_take (i := 27) (oi := ({ dst := some 62, op := Op.move (Operand.tmp 61), type := 4, pos := "law.go:54", after := #[{ on := 26, ground := Ground.data }, { on := 20, ground := Ground.chain }, { on := 17, ground := Ground.guard }], guard := some (17, true) } : Oper)) (v := ?_) rfl (by kernel_rfl) (by kernel_rfl) (by kernel_rfl) (fun _ _ _ h => h) (Or.inl ⟨by kernel_rfl, ?_⟩) (by assumption) ?_
  rotate_left
  · (intro w hSw; (try dsimp only at hSw); go_simp)
    all_goals (with_reducible rfl)
  try simp only [Act.put, List.setIfInBounds_toArray, List.set_cons_zero, List.set_cons_succ]
  refine wpAnyH_take (i := 28) (oi := ({ dst := some 63, op := Op.load 27 (Operand.tmp 9), type := 27, pos := "law.go:54", after := #[{ on := 27, ground := Ground.guard }], guard := some (27, false) } : Oper)) (v := undef) rfl (by kernel_rfl) (by kernel_rfl) (by kernel_rfl) (fun _ _ _ h => h) (Or.inr ⟨by kernel_rfl, rfl⟩) (by assumption) ?_
  try simp only [Act.put, List.setIfInBounds_toArray, List.set_cons_zero, List.set_cons_succ]
  refine wpAnyH_take (i := 29) (oi := ({ dst := some 64, op := Op.call { callee := Callee.value (Operand.func 15), args := #[Operand.tmp 63], argTypes := #[27] }, type := 25, pos := "law.go:54", after := #[{ on := 28, ground := Ground.data }, { on := 27, ground := Ground.chain }, { on := 27, ground := Ground.guard }], guard := some (27, false) } : Oper)) (v := undef) rfl (by kernel_rfl) (by kernel_rfl) (by kernel_rfl) (fun _ _ _ h => h) (Or.inr ⟨by kernel_rfl, rfl⟩) (by assumption) ?_
  try simp only [Act.put, List.setIfInBounds_toArray, List.set_cons_zero, List.set_cons_succ]
  refine wpAnyH_take (i := 30) (oi := ({ dst := some 65, op := Op.convert 25 9 (Operand.tmp 64), type := 9, pos := "law.go:54", after := #[{ on := 29, ground := Ground.data }, { on := 27, ground := Ground.guard }], guard := some (27, false) } : Oper)) (v := undef) rfl (by kernel_rfl) (by kernel_rfl) (by kernel_rfl) (fun _ _ _ h => h) (Or.inr ⟨by kernel_rfl, rfl⟩) (by assumption) ?_
  try simp only [Act.put, List.setIfInBounds_toArray, List.set_cons_zero, List.set_cons_succ]
  refine wpAnyH_take (i := 31) (oi := ({ dst := some 66, op := Op.load 27 (Operand.tmp 10), type := 27, pos := "law.go:54", after := #[{ on := 27, ground := Ground.guard }], guard := some (27, false) } : Oper)) (v := undef) rfl (by kernel_rfl) (by kernel_rfl) (by kernel_rfl) (fun _ _ _ h => h) (Or.inr ⟨by kernel_rfl, rfl⟩) (by assumption) ?_
  try simp only [Act.put, List.setIfInBounds_toArray, List.set_cons_zero, List.set_cons_succ]
  refine wpAnyH_take (i := 32) (oi := ({ dst := some 67, op := Op.call { callee := Callee.value (Operand.func 15), args := #[Operand.tmp 66], argTypes := #[27] }, type := 25, pos := "law.go:54", after := #[{ on := 31, ground := Ground.data }, { on := 29, ground := Ground.chain }, { on := 27, ground := Ground.guard }], guard := some (27, false) } : Oper)) (v := undef) rfl (by kernel_rfl) (by kernel_rfl) (by kernel_rfl) (fun _ _ _ h => h) (Or.inr ⟨by kernel_rfl, rfl⟩) (by assumption) ?_
  try simp only [Act.put, List.setIfInBounds_toArray, List.set_cons_zero, List.set_cons_succ]
  refine wpAnyH_take (i := 33) (oi := ({ dst := some 68, op := Op.convert 25 9 (Operand.tmp 67), type := 9, pos := "law.go:54", after := #[{ on := 32, ground := Ground.data }, { on := 27, ground := Ground.guard }], guard := some (27, false) } : Oper)) (v := undef) rfl (by kernel_rfl) (by kernel_rfl) (by kernel_rfl) (fun _ _ _ h => h) (Or.inr ⟨by kernel_rfl, rfl⟩) (by assumption) ?_
  try simp only [Act.put, List.setIfInBounds_toArray, List.set_cons_zero, List.set_cons_succ]
  refine wpAnyH_take (i := 34) (oi := ({ dst := some 69, op := Op.binOp BinOp.neq 9 (Operand.tmp 65) (Operand.tmp 68) 9, type := 4, pos := "law.go:54", after := #[{ on := 30, ground := Ground.data }, { on := 33, ground := Ground.data }, { on := 27, ground := Ground.guard }], guard := some (27, false) } : Oper)) (v := undef) rfl (by kernel_rfl) (by kernel_rfl) (by kernel_rfl) (fun _ _ _ h => h) (Or.inr ⟨by kernel_rfl, rfl⟩) (by assumption) ?_
  try simp only [Act.put, List.setIfInBounds_toArray, List.set_cons_zero, List.set_cons_succ]
  refine wpAnyH_take (i := 35) (oi := ({ dst := some 70, op := Op.pick (Operand.tmp 62) (Operand.const (Value.bool true)) (Operand.tmp 69), type := 4, pos := "law.go:54", after := #[{ on := 27, ground := Ground.data }, { on := 34, ground := Ground.data }, { on := 17, ground := Ground.guard }], guard := some (17, true) } : Oper)) (v := ?_) rfl (by kernel_rfl) (by kernel_rfl) (by kernel_rfl) (fun _ _ _ h => h) (Or.inl ⟨by kernel_rfl, ?_⟩) (by assumption) ?_
  rotate_left
  · (intro w hSw; (try dsimp only at hSw); go_simp)
    all_goals (with_reducible rfl)
  try simp only [Act.put, List.setIfInBounds_toArray, List.set_cons_zero, List.set_cons_succ]
  refine wpAnyH_take (i := 36) (oi := ({ dst := some 71, op := Op.pick (Operand.tmp 52) (Operand.tmp 70) (Operand.const (Value.bool false)), type := 4, pos := "law.go:54", after := #[{ on := 17, ground := Ground.data }, { on := 35, ground := Ground.data }], guard := none } : Oper)) (v := ?_) rfl (by kernel_rfl) (by kernel_rfl) (by kernel_rfl) (fun _ _ _ h => h) (Or.inl ⟨by kernel_rfl, ?_⟩) (by assumption) ?_
  rotate_left
  · (intro w hSw; (try dsimp only at hSw); go_simp)
    all_goals (with_reducible rfl)
  try simp only [Act.put, List.setIfInBounds_toArray, List.set_cons_zero, List.set_cons_succ]
  refine wpAnyH_take (i := 37) (oi := ({ dst := some 8, op := Op.assign (Operand.tmp 71), type := 4, pos := "law.go:54", after := #[{ on := 36, ground := Ground.data }, { on := 32, ground := Ground.chain }, { on := 0, ground := Ground.phase }, { on := 1, ground := Ground.phase }, { on := 2, ground := Ground.phase }, { on := 3, ground := Ground.phase }, { on := 4, ground := Ground.phase }, { on := 5, ground := Ground.phase }, { on := 6, ground := Ground.phase }, { on := 7, ground := Ground.phase }, { on := 8, ground := Ground.phase }, { on := 9, ground := Ground.phase }, { on := 10, ground := Ground.phase }, { on := 11, ground := Ground.phase }, { on := 12, ground := Ground.phase }, { on := 13, ground := Ground.phase }, { on := 14, ground := Ground.phase }, { on := 15, ground := Ground.phase }, { on := 16, ground := Ground.phase }, { on := 17, ground := Ground.phase }, { on := 18, ground := Ground.phase }, { on := 19, ground := Ground.phase }, { on := 20, ground := Ground.phase }, { on := 21, ground := Ground.phase }, { on := 22, ground := Ground.phase }, { on := 23, ground := Ground.phase }, { on := 24, ground := Ground.phase }, { on := 25, ground := Ground.phase }, { on := 26, ground := Ground.phase }, { on := 27, ground := Ground.phase }, { on := 28, ground := Ground.phase }, { on := 29, ground := Ground.phase }, { on := 30, ground := Ground.phase }, { on := 31, ground := Ground.phase }, { on := 32, ground := Ground.phase }, { on := 33, ground := Ground.phase }, { on := 34, ground := Ground.phase }, { on := 35, ground := Ground.phase }, { on := 36, ground := Ground.phase }], guard := none } : Oper)) (v := ?_) rfl (by kernel_rfl) (by kernel_rfl) (by kernel_rfl) (fun _ _ _ h => h) (Or.inl ⟨by kernel_rfl, ?_⟩) (by assumption) ?_
  rotate_left
  · (intro w hSw; (try dsimp only at hSw); go_simp)
    all_goals (with_reducible rfl)
  try simp only [Act.put, List.setIfInBounds_toArray, List.set_cons_zero, List.set_cons_succ]
  refine wpAnyH_done (by kernel_rfl) ?_ _
  change KC _ _
  refine HKC.out _ _ ?_
  go_wp2
  go_ret
  exact ⟨rfl, G_3.out⟩
end Go.Proofs.Ytcgcfgomakaacaa.head
