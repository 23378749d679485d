/- pack.reader, walked: take, number. -/
import Derived.Test.YthlaigpopplafaaDoorBytes
import Derived.Test.YthlaigpopplafaaDoorPackPlain
import Derived.LoopTactic
import Derived.Maps.AppendAt
import Derived.Lib.EndianBits
namespace Go.Proofs.YthlaigpopplafaaDoor.pack
open Go.RowKit
open Go.Proofs.YthlaigpopplafaaDoor.aid

set_option maxHeartbeats 1000000 in
theorem take_t (b : Nat) (A : Option Addr) (n c m : Nat) (w : World) (h : Blk w b 75 #[.slice A n c, .bool true]) :
    Calls Tryd.prog 34 #[.pointer (some ⟨b, 0, none⟩), .int .i64 m] w fun e w' => e = .returned (.slice none 0 0) ∧ w' = w.setCell ⟨b, 1, none⟩ (.bool true) := by
  have c0 : w.cell? ⟨b, 0, none⟩ = some (.slice A n c) := h.cell 0
  have c1 : w.cell? ⟨b, 1, none⟩ = some (.bool true) := h.cell 1
  have f0 := h.frozen 0
  have f1 := h.frozen 1
  go_enter Tryd.func34, Tryd.ntmps34
  go_wp2
  go_ret
  exact ⟨rfl, rfl⟩
set_option maxHeartbeats 1000000 in
theorem take_n (b : Nat) (A : Option Addr) (n c m : Nat) (w : World) (hn : (n : Int) ≤ 9223372036854775807) (hm : (m : Int) ≤ 9223372036854775807) (hnm : n < m) (h : Blk w b 75 #[.slice A n c, .bool false]) :
    Calls Tryd.prog 34 #[.pointer (some ⟨b, 0, none⟩), .int .i64 m] w fun e w' => e = .returned (.slice none 0 0) ∧ w' = w.setCell ⟨b, 1, none⟩ (.bool true) := by
  have c0 : w.cell? ⟨b, 0, none⟩ = some (.slice A n c) := h.cell 0
  have c1 : w.cell? ⟨b, 1, none⟩ = some (.bool false) := h.cell 1
  have f0 := h.frozen 0
  have f1 := h.frozen 1
  have ht : (n : Int) < m := by omega
  go_enter Tryd.func34, Tryd.ntmps34
  go_wp2
  go_ret
  exact ⟨rfl, rfl⟩
set_option maxHeartbeats 1000000 in
theorem take_s (b : Nat) (A : Option Addr) (n c m : Nat) (w : World) (hnc : n ≤ c) (hnm : m ≤ n) (h : Blk w b 75 #[.slice A n c, .bool false]) :
    Calls Tryd.prog 34 #[.pointer (some ⟨b, 0, none⟩), .int .i64 m] w fun e w' => e = .returned (.slice A m m) ∧
      w' = (w.setCell ⟨b, 1, none⟩ (.bool false)).setCell ⟨b, 0, none⟩ (.slice (if c = m then A else A.map (·.add m)) (n - m) (c - m)) := by
  have c0 : w.cell? ⟨b, 0, none⟩ = some (.slice A n c) := h.cell 0
  have c1 : w.cell? ⟨b, 1, none⟩ = some (.bool false) := h.cell 1
  have f0 := h.frozen 0
  have f1 := h.frozen 1
  have ht : (m : Int) ≤ n := by omega
  have ht2 : (n : Int) ≤ c := by omega
  go_enter Tryd.func34, Tryd.ntmps34
  go_wp2
  all_goals
    go_ret
    exact ⟨rfl, rfl⟩

/-- the reader in block b has the bytes l left, which lie below block B; they may lack -/
def Rd (w : World) (b B : Nat) (l : List UInt8) (lk : Bool) : Prop := ∃ A c, Blk w b 75 #[.slice A l.length c, .bool lk] ∧ l.length ≤ c ∧ Row w B A (u8s l) ∧ B ≤ b
theorem Rd.kept {w w' : World} {b B : Nat} {l : List UInt8} {lk : Bool} (h : Rd w b B l lk) (hb : Below w.heap.size w w') : Rd w' b B l lk := by
  obtain ⟨A, c, h1, h2, h3, h4⟩ := h
  exact ⟨A, c, h1.below hb h1.lt, h2, h3.below (hb.mono (by have := h1.lt; omega)), h4⟩
theorem Rd.lt {w : World} {b B : Nat} {l : List UInt8} {lk : Bool} (h : Rd w b B l lk) : b < w.heap.size ∧ B ≤ b := by
  obtain ⟨A, c, h1, h2, h3, h4⟩ := h
  exact ⟨h1.lt, h4⟩

theorem take_no {b B : Nat} {l : List UInt8} {lk : Bool} {w : World} (h : Rd w b B l lk) (m : Nat) (hl : l.length ≤ 9223372036854775807) (hm : m ≤ 9223372036854775807) (hno : lk = true ∨ l.length < m) :
    Calls Tryd.prog 34 #[.pointer (some ⟨b, 0, none⟩), .int .i64 m] w fun e w' => e = .returned (.slice none 0 0) ∧ Rd w' b B l true ∧ w.grownBy w' (some b) := by
  obtain ⟨A, c, h1, h2, h3, h4⟩ := h
  have hB : B ≤ w.heap.size := by have := h1.lt; omega
  have fin : ∀ w', w' = w.setCell ⟨b, 1, none⟩ (.bool true) → Rd w' b B l true ∧ w.grownBy w' (some b) := by
    rintro w' rfl
    have hg := grown_set w b 1 (.bool true)
    refine ⟨⟨A, c, ?_, h2, Row.grown h3 hg h4, h4⟩, hg⟩
    exact h1.set_ 1 (.bool true)
  cases lk
  · refine (take_n b A l.length c m w (by omega) (by omega) ?_ h1).mono fun e w' ⟨he, hw⟩ => ⟨he, fin w' hw⟩
    rcases hno with h | h
    · cases h
    · exact h
  · exact (take_t b A l.length c m w h1).mono fun e w' ⟨he, hw⟩ => ⟨he, fin w' hw⟩
theorem u8s_take (l : List UInt8) (m : Nat) : (u8s l).take m = u8s (l.take m) := by simp [u8s, List.map_take]
theorem u8s_drop (l : List UInt8) (m : Nat) : (u8s l).drop m = u8s (l.drop m) := by simp [u8s, List.map_drop]
theorem take_yes {b B : Nat} {l : List UInt8} {w : World} (h : Rd w b B l false) (m : Nat) (hm : m ≤ l.length) :
    Calls Tryd.prog 34 #[.pointer (some ⟨b, 0, none⟩), .int .i64 m] w fun e w' => ∃ A, e = .returned (.slice A m m) ∧ Row w' B A (u8s (l.take m)) ∧ Rd w' b B (l.drop m) false ∧ w.grownBy w' (some b) := by
  obtain ⟨A, c, h1, h2, h3, h4⟩ := h
  have hB : B ≤ w.heap.size := by have := h1.lt; omega
  refine (take_s b A l.length c m w h2 hm h1).mono ?_
  rintro e w' ⟨rfl, rfl⟩
  have hg := (grown_set w b 1 (.bool false)).trans (grown_set (w.setCell ⟨b, 1, none⟩ (.bool false)) b 0 (.slice (if c = m then A else A.map (·.add m)) (l.length - m) (c - m)))
  refine ⟨A, rfl, ?_, ⟨if c = m then A else A.map (·.add m), c - m, ?_, ?_, ?_, h4⟩, hg⟩
  · rw [← u8s_take]
    exact (Row.grown h3 hg h4).take m
  · rw [List.length_drop]
    exact (h1.set_ 1 (.bool false)).set_ 0 _
  · rw [List.length_drop]
    omega
  · rw [← u8s_drop]
    exact (Row.grown h3 hg h4).drop (by simpa [u8s] using h2)

theorem or8 (n x : Nat) (hx : x < 256) (h : n * 256 + x < 18446744073709551616) : bits .or .u64 ((n : Int) * 256) (x : Int) = ((n * 256 + x : Nat) : Int) := by
  rw [bits_join .u64 64 (by decide) wraps_u64 8 _ _ (by omega) (by omega) (by omega) (by omega) (by omega) (by omega)]
  omega
theorem num_take_lt (l : List UInt8) (k : Nat) (hk : k ≤ 8) : num (l.take k) < 18446744073709551616 := by
  have h := num_lt (l.take k)
  have hl : (l.take k).length ≤ 8 := by rw [List.length_take]; omega
  have := Nat.pow_le_pow_right (show 0 < 256 by omega) hl
  omega
set_option maxHeartbeats 1000000 in
theorem number_yes {b B : Nat} {l : List UInt8} {w : World} (h : Rd w b B l false) (m : Nat) (hm8 : m ≤ 8) (hm : m ≤ l.length) :
    Calls Tryd.prog 35 #[.pointer (some ⟨b, 0, none⟩), .int .i64 m] w fun e w' => e = .returned (.int .u64 (num (l.take m) : Nat)) ∧ Rd w' b B (l.drop m) false ∧ w.grownBy w' (some b) := by
  have HT := Lib.hid (take_yes h m hm)
  have hm2 : (m : Int) ≤ 8 := by omega
  clear h
  go_enter Tryd.func35, Tryd.ntmps35
  go_wp2_with fail
  refine HT.out.mono ?_
  rintro e w' ⟨A, rfl, hr, hrd, hg⟩
  have HR := Lib.hid hr
  have HD := Lib.hid (And.intro hrd hg)
  clear hr hrd hg
  go_wp2_with fail
  go_loop [5, 12] (fun a i => ∃ k : Nat, k ≤ m ∧ i = .int .i64 k ∧ a = .int .u64 (num (l.take k) : Nat)) (fun _ i => m - (intOf i).toNat)
  case atStart => exact ⟨0, by omega, rfl, rfl⟩
  case round =>
    obtain ⟨k, hk, rfl, rfl⟩ := hrel
    by_cases hlt : k < m
    · obtain ⟨g, off, rfl, hgb, hc⟩ := HR.out.at_ (k := k) (by simp [u8s]; omega)
      have hc0 := hc k (.int .u8 (l[k].toNat : Int)) (by rw [u8s_at _ _ (by rw [List.length_take]; omega)]; simp)
      have hsn : num (l.take (k + 1)) = num (l.take k) * 256 + l[k].toNat := by rw [List.take_succ_eq_append_getElem (by omega), num_snoc]
      have hb1 := num_lt (l.take k)
      have hlk : (l.take k).length = k := by rw [List.length_take]; omega
      have hb2 := num_take_lt l (k + 1) (by omega)
      have hb3 := l[k].toNat_lt
      rw [hsn] at hb2
      have HS := Lib.hid hsn
      clear hsn hc
      generalize num (l.take k) = n at *
      generalize l[k].toNat = x at *
      go_wp2_with fail
      go_round
      case rel => exact ⟨k + 1, by omega, by go_num, by rw [HS.out, or8 _ _ hb3 hb2]⟩
      case measure => simp [intOf]; omega
    · obtain rfl : k = m := by omega
      go_wp2_with fail
      go_ret
      exact ⟨rfl, HD.out.1, HD.out.2⟩
theorem number_no {b B : Nat} {l : List UInt8} {lk : Bool} {w : World} (h : Rd w b B l lk) (m : Nat) (hl : l.length ≤ 9223372036854775807) (hm : m ≤ 9223372036854775807) (hno : lk = true ∨ l.length < m) :
    Calls Tryd.prog 35 #[.pointer (some ⟨b, 0, none⟩), .int .i64 m] w fun e w' => e = .returned (.int .u64 0) ∧ Rd w' b B l true ∧ w.grownBy w' (some b) := by
  have HT := Lib.hid (take_no h m hl hm hno)
  clear h hno
  go_enter Tryd.func35, Tryd.ntmps35
  go_wp2_with fail
  refine HT.out.mono ?_
  rintro e w' ⟨rfl, hrd, hg⟩
  have HD := Lib.hid (And.intro hrd hg)
  clear hrd hg
  go_wp2_with fail
  go_loop [5, 12] (fun a i => i = .int .i64 0 ∧ a = .int .u64 0) (fun _ _ => 0)
  case atStart => exact ⟨rfl, rfl⟩
  case round =>
    obtain ⟨rfl, rfl⟩ := hrel
    go_wp2_with fail
    go_ret
    exact ⟨rfl, HD.out.1, HD.out.2⟩
end Go.Proofs.YthlaigpopplafaaDoor.pack
