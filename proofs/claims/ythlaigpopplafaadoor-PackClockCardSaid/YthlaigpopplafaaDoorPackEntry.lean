/- pack.reader's entry, walked. -/
import Derived.Test.YthlaigpopplafaaDoorPackRead
import Derived.Test.YthlaigpopplafaaDoorKeyRight
import Derived.Test.YthlaigpopplafaaDoorKeyLs
namespace Go.Proofs.YthlaigpopplafaaDoor.pack
open Go.RowKit
open Go.Proofs.YthlaigpopplafaaDoor.aid
open Go.Proofs.YthlaigpopplafaaDoor.key (right less right_any less_any)

theorem num_cons_take (x : UInt8) (r : List UInt8) : num ((x :: r).take 1) = x.toNat := num_one x
theorem Rd.moved {w w' : World} {b B : Nat} {l : List UInt8} {lk : Bool} (h : Rd w b B l lk) (hg : w.grownBy w' none) : Rd w' b B l lk := by
  obtain ⟨A, c, h1, h2, h3, h4⟩ := h
  have hlt := h1.lt
  refine ⟨A, c, h1.grown hg (by simp), h2, fun hn => ?_, h4⟩
  obtain ⟨g, off, e, hlt, hc⟩ := h3 hn
  exact ⟨g, off, e, hlt, fun j v hv => hg.cell (hc j v hv) (by simp)⟩
theorem Rd.alloc {w : World} {b B : Nat} {l : List UInt8} {lk : Bool} (h : Rd w b B l lk) (o : Obj) : Rd (w.alloc o) b B l lk := h.moved (World.grownBy_alloc w o none)
theorem Rd.set_ {w : World} {b B : Nat} {l : List UInt8} {lk : Bool} (h : Rd w b B l lk) (p : Addr) (hp : b < p.block) (v : Value) : Rd (w.setCell p v) b B l lk := by
  obtain ⟨A, c, h1, h2, h3, h4⟩ := h
  refine ⟨A, c, h1.far (by omega) v, h2, fun hn => ?_, h4⟩
  obtain ⟨g, off, e, hlt, hc⟩ := h3 hn
  exact ⟨g, off, e, hlt, fun j u hu => (World.cell?_of_block (a := ⟨g, off + j, none⟩) (Below.heap_setCell _ _ _ _ (by show g ≠ _; omega))).trans (hc j u hu)⟩
theorem Rd.far {w : World} {b B : Nat} {l : List UInt8} {lk : Bool} (h : Rd w b B l lk) (p : Addr) (hp : p.block ≠ b) (hB : B ≤ p.block) (v : Value) : Rd (w.setCell p v) b B l lk := by
  obtain ⟨A, c, h1, h2, h3, h4⟩ := h
  refine ⟨A, c, h1.far (fun e => hp e.symm) v, h2, fun hn => ?_, h4⟩
  obtain ⟨g, off, e, hlt, hc⟩ := h3 hn
  exact ⟨g, off, e, hlt, fun j u hu => (World.cell?_of_block (a := ⟨g, off + j, none⟩) (Below.heap_setCell _ _ _ _ (by show g ≠ _; omega))).trans (hc j u hu)⟩
theorem Rd.lacks {w : World} {b B : Nat} {l : List UInt8} {lk : Bool} (h : Rd w b B l lk) : w.cell? ⟨b, 1, none⟩ = some (.bool lk) := by
  obtain ⟨A, c, h1, -⟩ := h
  exact h1.cell 1
abbrev ent0 : Array Value := #[.string ⟨#[]⟩, .int .u64 0]

set_option maxRecDepth 100000 in
set_option maxHeartbeats 2000000 in
/-- a key that is there -/
theorem entry_there {b B : Nat} {x : UInt8} {r last : List UInt8} {w : World} (h : Rd w b B (x :: r) false) (hr : r.length ≤ 9223372036854775806) (hlast : last.length ≤ 128) (hx : x.toNat + 8 ≤ r.length) :
    Calls Tryd.prog 36 #[.pointer (some ⟨b, 0, none⟩), .string ⟨last.toArray⟩] w fun e w' =>
      e = .returned (.tuple #[.agg #[.string ⟨(r.take x.toNat).toArray⟩, .int .u64 (num ((r.drop x.toNat).take 8) : Nat)], .int .u16 (if right (r.take x.toNat) = false then 12 else if less last (r.take x.toNat) = false then 42 else 0)]) ∧
      Rd w' b B (r.drop (x.toNat + 8)) false ∧ w.grownBy w' (some b) := by
  have hb := h.lt.1
  have hx2 : x.toNat < 256 := x.toNat_lt
  have HN1 := Lib.hid (number_yes (h.alloc (.cells ent0 31)) 1 (by omega) (by simp))
  rw [num_cons_take, show (x :: r).drop 1 = r from rfl] at HN1
  have hkl : (r.take x.toNat).length = x.toNat := by rw [List.length_take]; omega
  have hd : (r.drop x.toNat).drop 8 = r.drop (x.toNat + 8) := by rw [List.drop_drop]
  have HKS : Hid (∀ (w : World) (A : Option Addr), Row w B A (u8s (r.take x.toNat)) → (convert 26 9 (.slice A x.toNat x.toNat)).run Tryd.prog w = .ok (.string ⟨(r.take x.toNat).toArray⟩) w) := Lib.hid fun w A h => by
    have := row_string (c := x.toNat) h
    rwa [hkl] at this
  have HD := Lib.hid hd
  have hnl := num_take_lt (r.drop x.toNat) 8 (by omega)
  have HTK := Lib.hid (fun (w : World) (h : Rd w b B r false) => take_yes h x.toNat (by omega))
  have HNM := Lib.hid (fun (w : World) (h : Rd w b B (r.drop x.toNat) false) => number_yes h 8 (by omega) (by rw [List.length_drop]; omega))
  rw [HD.out] at HNM
  have HRI := Lib.hid (fun w => right_any ⟨(r.take x.toNat).toArray⟩ (by simp [ByteArray.size]; omega) w)
  have HLE := Lib.hid (fun w => less_any ⟨last.toArray⟩ ⟨(r.take x.toNat).toArray⟩ (by simp [ByteArray.size]; omega) (by simp [ByteArray.size]; omega) w)
  change Hid (∀ w, Calls _ _ _ w fun e w' => e = .returned (.bool (right (r.take x.toNat))) ∧ Below w.heap.size w w') at HRI
  change Hid (∀ w, Calls _ _ _ w fun e w' => e = .returned (.bool (less last (r.take x.toNat))) ∧ Below w.heap.size w w') at HLE
  clear h hd hkl hlast hr hx
  generalize num ((r.drop x.toNat).take 8) = u at *
  generalize r.drop (x.toNat + 8) = rest at *
  generalize r.drop x.toNat = mid at *
  generalize r.take x.toNat = k at *
  generalize x.toNat = n at *
  generalize right k = rk at *
  generalize less last k = lk at *
  go_enter Tryd.func36, Tryd.ntmps36
  go_wp2_with fail
  refine HN1.out.mono ?_
  rintro e w1 ⟨rfl, hrd, hg⟩
  have g1 := Lib.hid ((World.grownBy_alloc w _ _).trans hg)
  have x1 := Lib.hid ((Blk.new w 31 ent0).grown hg (by simp; omega))
  have R1 := Lib.hid hrd
  have z1 : w.heap.size < w1.heap.size := x1.out.lt
  clear hrd hg HN1
  go_wp2_with fail
  refine (HTK.out _ R1.out).mono ?_
  rintro e w2 ⟨A2, rfl, hrow, hrd, hg⟩
  have hks := HKS.out w2 A2 hrow
  have g2 := Lib.hid (g1.out.trans hg)
  have x2 := Lib.hid (x1.out.grown hg (by simp; omega))
  have R2 := Lib.hid hrd
  have z2 : w.heap.size < w2.heap.size := x2.out.lt
  clear hrd hg hrow HTK HKS R1 x1 z1 g1
  go_wp2_with fail
  have hY := Lib.hid (Blk.new w2 31 #[.string ⟨k.toArray⟩, .int .u64 0])
  refine (HNM.out _ (R2.out.alloc _)).mono ?_
  rintro e w3 ⟨rfl, hrd, hg⟩
  have g3 := Lib.hid ((grown_alloc g2.out (.cells #[.string ⟨k.toArray⟩, .int .u64 0] 31)).trans hg)
  have x3 := Lib.hid ((x2.out.alloc (.cells #[.string ⟨k.toArray⟩, .int .u64 0] 31)).grown hg (by simp; omega))
  have y3 := Lib.hid (hY.out.grown hg (by have := R2.out.lt.1; simp; omega))
  have R3 := Lib.hid hrd
  have hne : b ≠ w2.heap.size := by have := R2.out.lt.1; omega
  have hne2 : w.heap.size ≠ w2.heap.size := by omega
  have hne3 : w2.heap.size ≠ w.heap.size := by omega
  have hne4 : b ≠ w.heap.size := by omega
  have hsz := Lib.hid g2.out.size
  have hlt2 := Lib.hid R2.out.lt.1
  clear hrd hg HNM hY R2 x2 g2 z2 hks
  have cl := R3.out.lacks
  have e0 : w3.cell? ⟨w2.heap.size, 0, none⟩ = some (.string ⟨k.toArray⟩) := y3.out.cell 0
  have e1 : w3.cell? ⟨w2.heap.size, 1, none⟩ = some (.int .u64 0) := y3.out.cell 1
  have p0 := y3.out.frozen 0
  have p1 := y3.out.frozen 1
  have c0 : w3.cell? ⟨w.heap.size, 0, none⟩ = some (.string ⟨#[]⟩) := x3.out.cell 0
  have c1 : w3.cell? ⟨w.heap.size, 1, none⟩ = some (.int .u64 0) := x3.out.cell 1
  have f0 := x3.out.frozen 0
  have f1 := x3.out.frozen 1
  go_wp2_with fail
  have y3s := Lib.hid (y3.out.set_ 1 (.int .u64 u))
  have x3s := Lib.hid (x3.out.far (p := ⟨w2.heap.size, 1, none⟩) hne2 (.int .u64 u))
  have R3s := Lib.hid (R3.out.set_ ⟨w2.heap.size, 1, none⟩ hlt2.out (.int .u64 u))
  have g3s := Lib.hid (grown_new g3.out ⟨w2.heap.size, 1, none⟩ hsz.out (.int .u64 u))
  refine (HRI.out _).mono ?_
  rintro e w4 ⟨rfl, hb4⟩
  have y4 := Lib.hid (y3s.out.below hb4 y3s.out.lt)
  have x4 := Lib.hid (x3s.out.below hb4 x3s.out.lt)
  have R4 := Lib.hid (R3s.out.kept hb4)
  have g4 := Lib.hid (g3s.out.trans (grown_none hb4 _))
  clear hb4 y3s x3s R3s g3s y3 x3 R3 g3 cl e0 e1 p0 p1 c0 c1 f0 f1 HRI
  cases rk with
  | false =>
    clear HLE
    have e0 : w4.cell? ⟨w2.heap.size, 0, none⟩ = some (.string ⟨k.toArray⟩) := y4.out.cell 0
    have e1 : w4.cell? ⟨w2.heap.size, 1, none⟩ = some (.int .u64 u) := y4.out.cell 1
    have c0 : w4.cell? ⟨w.heap.size, 0, none⟩ = some (.string ⟨#[]⟩) := x4.out.cell 0
    have c1 : w4.cell? ⟨w.heap.size, 1, none⟩ = some (.int .u64 0) := x4.out.cell 1
    have f0 := x4.out.frozen 0
    have f1 := x4.out.frozen 1
    go_wp2
    refine bodyPost_ret (v := .tuple #[.agg #[.string ⟨k.toArray⟩, .int .u64 u], .int .u16 12]) (by simp [results, Tryd.results36, go_sem, c0, c1, f0, f1, e0, e1]) rfl ⟨rfl, (R4.out.set_ ⟨w.heap.size, 0, none⟩ hb _).set_ ⟨w.heap.size, 1, none⟩ hb _, grown_new (grown_new g4.out ⟨w.heap.size, 0, none⟩ (Nat.le_refl _) _) ⟨w.heap.size, 1, none⟩ (Nat.le_refl _) _⟩
  | true =>
    have e0 : w4.cell? ⟨w2.heap.size, 0, none⟩ = some (.string ⟨k.toArray⟩) := y4.out.cell 0
    go_wp2_with fail
    refine (HLE.out _).mono ?_
    rintro e w5 ⟨rfl, hb5⟩
    have y5 := Lib.hid (y4.out.below hb5 y4.out.lt)
    have x5 := Lib.hid (x4.out.below hb5 x4.out.lt)
    have R5 := Lib.hid (R4.out.kept hb5)
    have g5 := Lib.hid (g4.out.trans (grown_none hb5 _))
    clear hb5 y4 x4 R4 g4 e0 HLE
    have e0 : w5.cell? ⟨w2.heap.size, 0, none⟩ = some (.string ⟨k.toArray⟩) := y5.out.cell 0
    have e1 : w5.cell? ⟨w2.heap.size, 1, none⟩ = some (.int .u64 u) := y5.out.cell 1
    have c0 : w5.cell? ⟨w.heap.size, 0, none⟩ = some (.string ⟨#[]⟩) := x5.out.cell 0
    have c1 : w5.cell? ⟨w.heap.size, 1, none⟩ = some (.int .u64 0) := x5.out.cell 1
    have f0 := x5.out.frozen 0
    have f1 := x5.out.frozen 1
    cases lk with
    | false =>
      go_wp2
      refine bodyPost_ret (v := .tuple #[.agg #[.string ⟨k.toArray⟩, .int .u64 u], .int .u16 42]) (by simp [results, Tryd.results36, go_sem, c0, c1, f0, f1, e0, e1]) rfl ⟨rfl, (R5.out.set_ ⟨w.heap.size, 0, none⟩ hb _).set_ ⟨w.heap.size, 1, none⟩ hb _, grown_new (grown_new g5.out ⟨w.heap.size, 0, none⟩ (Nat.le_refl _) _) ⟨w.heap.size, 1, none⟩ (Nat.le_refl _) _⟩
    | true =>
      go_wp2
      refine bodyPost_ret (v := .tuple #[.agg #[.string ⟨k.toArray⟩, .int .u64 u], .int .u16 0]) (by simp [results, Tryd.results36, go_sem, c0, c1, f0, f1, e0, e1]) rfl ⟨rfl, (R5.out.set_ ⟨w.heap.size, 0, none⟩ hb _).set_ ⟨w.heap.size, 1, none⟩ hb _, grown_new (grown_new g5.out ⟨w.heap.size, 0, none⟩ (Nat.le_refl _) _) ⟨w.heap.size, 1, none⟩ (Nat.le_refl _) _⟩
theorem take_any {b B : Nat} {l : List UInt8} {lk : Bool} {w : World} (h : Rd w b B l lk) (m : Nat) (hl : l.length ≤ 9223372036854775807) (hm : m ≤ 9223372036854775807) :
    Calls Tryd.prog 34 #[.pointer (some ⟨b, 0, none⟩), .int .i64 m] w fun e w' => ∃ (A : Option Addr) (k l' : List UInt8) (lk' : Bool), e = .returned (.slice A k.length k.length) ∧ Row w' B A (u8s k) ∧ Rd w' b B l' lk' ∧ w.grownBy w' (some b) ∧ (lk' = false → lk = false ∧ m ≤ l.length ∧ l' = l.drop m) ∧ l'.length ≤ l.length := by
  by_cases hno : lk = true ∨ l.length < m
  · refine (take_no h m hl hm hno).mono ?_
    rintro e w' ⟨rfl, hrd, hg⟩
    exact ⟨none, [], l, true, rfl, Row.nil_, hrd, hg, (fun h => by cases h), Nat.le_refl _⟩
  · have hlk : lk = false := by cases lk <;> simp_all
    subst hlk
    have hle : m ≤ l.length := by
      rcases Nat.lt_or_ge l.length m with h | h
      · exact absurd (.inr h) hno
      · exact h
    refine (take_yes h m hle).mono ?_
    rintro e w' ⟨A, rfl, hrow, hrd, hg⟩
    have hkl : (l.take m).length = m := by rw [List.length_take]; omega
    exact ⟨A, l.take m, l.drop m, false, by rw [hkl], hrow, hrd, hg, fun _ => ⟨rfl, hle, rfl⟩, by rw [List.length_drop]; omega⟩
theorem number_any {b B : Nat} {l : List UInt8} {lk : Bool} {w : World} (h : Rd w b B l lk) (m : Nat) (hl : l.length ≤ 9223372036854775807) (hm : m = 1 ∨ m = 4 ∨ m = 8) :
    Calls Tryd.prog 35 #[.pointer (some ⟨b, 0, none⟩), .int .i64 m] w fun e w' => ∃ (n : Nat) (l' : List UInt8) (lk' : Bool), e = .returned (.int .u64 n) ∧ n < 256 ^ m ∧ Rd w' b B l' lk' ∧ w.grownBy w' (some b) ∧ (lk' = false → lk = false ∧ m ≤ l.length ∧ l' = l.drop m ∧ n = num (l.take m)) ∧ l'.length ≤ l.length := by
  by_cases hno : lk = true ∨ l.length < m
  · refine (number_no h m hl (by omega) hno).mono ?_
    rintro e w' ⟨rfl, hrd, hg⟩
    exact ⟨0, l, true, rfl, Nat.pow_pos (by omega), hrd, hg, (fun h => by cases h), Nat.le_refl _⟩
  · have hlk : lk = false := by cases lk <;> simp_all
    subst hlk
    have hle : m ≤ l.length := by
      rcases Nat.lt_or_ge l.length m with h | h
      · exact absurd (.inr h) hno
      · exact h
    refine (number_yes h m (by omega) hle).mono ?_
    rintro e w' ⟨rfl, hrd, hg⟩
    have hb := num_lt (l.take m)
    rw [List.length_take, Nat.min_eq_left hle] at hb
    exact ⟨_, l.drop m, false, rfl, hb, hrd, hg, fun _ => ⟨rfl, hle, rfl, rfl⟩, by rw [List.length_drop]; omega⟩
set_option maxRecDepth 100000 in
set_option maxHeartbeats 2000000 in
/-- what lacks bytes -/
theorem entry_short {b B : Nat} {l last : List UInt8} {w : World} (h : Rd w b B l false) (hl : l.length ≤ 9223372036854775807) (hs : ∀ x r, l = x :: r → r.length < x.toNat + 8) :
    Calls Tryd.prog 36 #[.pointer (some ⟨b, 0, none⟩), .string ⟨last.toArray⟩] w fun e w' => ∃ (k : List UInt8) (u : Nat),
      e = .returned (.tuple #[.agg #[.string ⟨k.toArray⟩, .int .u64 u], .int .u16 41]) ∧ w.grownBy w' (some b) := by
  have hb := h.lt.1
  have HN1 := Lib.hid (number_any (h.alloc (.cells ent0 31)) 1 hl (.inl rfl))
  clear h
  go_enter Tryd.func36, Tryd.ntmps36
  go_wp2_with fail
  refine HN1.out.mono ?_
  rintro e w1 ⟨n, l1, lk1, rfl, hn, hrd, hg, hf1, hl1⟩
  have g1 := Lib.hid ((World.grownBy_alloc w _ _).trans hg)
  have x1 := Lib.hid ((Blk.new w 31 ent0).grown hg (by simp; omega))
  have R1 := Lib.hid hrd
  have z1 : w.heap.size < w1.heap.size := x1.out.lt
  have F1 := Lib.hid hf1
  have hn2 : (n : Int) ≤ 255 := by simp only [Nat.pow_one] at hn; omega
  clear hrd hg HN1 hf1 hn
  go_wp2_with fail
  refine (take_any R1.out n (by omega) (by omega)).mono ?_
  rintro e w2 ⟨A2, k, l2, lk2, rfl, hrow, hrd, hg, hf2, hl2⟩
  have hks := row_string (c := k.length) hrow
  have g2 := Lib.hid (g1.out.trans hg)
  have x2 := Lib.hid (x1.out.grown hg (by simp; omega))
  have R2 := Lib.hid hrd
  have z2 : w.heap.size < w2.heap.size := x2.out.lt
  have F2 := Lib.hid hf2
  clear hrd hg hrow R1 x1 z1 g1 hf2
  go_wp2_with fail
  have hY := Lib.hid (Blk.new w2 31 #[.string ⟨k.toArray⟩, .int .u64 0])
  refine (number_any (R2.out.alloc _) 8 (by omega) (.inr (.inr rfl))).mono ?_
  rintro e w3 ⟨u, l3, lk3, rfl, hu, hrd, hg, hf3, -⟩
  have hlk : lk3 = true := by
    cases lk3 with
    | true => rfl
    | false =>
      exfalso
      obtain ⟨h1, h2, -⟩ := hf3 rfl
      obtain ⟨h3, h4, h5⟩ := F2.out h1
      obtain ⟨-, h6, h7, h8⟩ := F1.out h3
      cases l with
      | nil => simp at h6
      | cons x r =>
        have := hs x r rfl
        rw [num_cons_take] at h8
        subst h7 h8 h5
        simp only [List.drop_one, List.tail_cons, List.length_drop] at h2 h4
        omega
  subst hlk
  have g3 := Lib.hid ((grown_alloc g2.out (.cells #[.string ⟨k.toArray⟩, .int .u64 0] 31)).trans hg)
  have x3 := Lib.hid ((x2.out.alloc (.cells #[.string ⟨k.toArray⟩, .int .u64 0] 31)).grown hg (by simp; omega))
  have y3 := Lib.hid (hY.out.grown hg (by have := R2.out.lt.1; simp; omega))
  have R3 := Lib.hid hrd
  have hne : b ≠ w2.heap.size := by have := R2.out.lt.1; omega
  have hne2 : w.heap.size ≠ w2.heap.size := by omega
  have hne3 : w2.heap.size ≠ w.heap.size := by omega
  have hne4 : b ≠ w.heap.size := by omega
  have hsz := Lib.hid g2.out.size
  have hu2 : (u : Int) ≤ 18446744073709551615 := by simp only [Nat.reducePow] at hu; omega
  clear hrd hg hY R2 x2 g2 z2 hks hf3 F1 F2 hs hl1 hl2 hu hl
  have cl := R3.out.lacks
  have e0 : w3.cell? ⟨w2.heap.size, 0, none⟩ = some (.string ⟨k.toArray⟩) := y3.out.cell 0
  have e1 : w3.cell? ⟨w2.heap.size, 1, none⟩ = some (.int .u64 0) := y3.out.cell 1
  have p0 := y3.out.frozen 0
  have p1 := y3.out.frozen 1
  have c0 : w3.cell? ⟨w.heap.size, 0, none⟩ = some (.string ⟨#[]⟩) := x3.out.cell 0
  have c1 : w3.cell? ⟨w.heap.size, 1, none⟩ = some (.int .u64 0) := x3.out.cell 1
  have f0 := x3.out.frozen 0
  have f1 := x3.out.frozen 1
  go_wp2_with fail
  refine bodyPost_ret (v := .tuple #[.agg #[.string ⟨k.toArray⟩, .int .u64 u], .int .u16 41]) (by simp [results, Tryd.results36, go_sem, c0, c1, f0, f1, e0, e1]) rfl ⟨k, u, rfl, ?_⟩
  exact grown_new (grown_new (grown_new g3.out ⟨w2.heap.size, 1, none⟩ hsz.out (.int .u64 u)) ⟨w.heap.size, 0, none⟩ (Nat.le_refl _) _) ⟨w.heap.size, 1, none⟩ (Nat.le_refl _) _
end Go.Proofs.YthlaigpopplafaaDoor.pack
