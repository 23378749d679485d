/- the laws' texts of choices, walked. -/
import Derived.Test.YtnfkeaplglknlaaWordsOwn
import Derived.Test.YtnfkeaplglknlaaAppend
import Derived.Laws.OwnMore
namespace Go.Proofs.Ytnfkeaplglknlaa.words
open Go.RowKit
open Go.Proofs.Ytnfkeaplglknlaa.aid

/-- one choice's text -/
def tab (x : Nat) : List UInt8 :=
  if x = 0 then [97] else if x = 1 then [98, 99] else if x = 2 then [32] else if x = 3 then [9] else if x = 4 then [10] else if x = 5 then [35] else if x = 6 then [120, 49] else if x = 7 then [10] else if x = 8 then [32] else if x = 9 then [32, 32] else if x = 10 then [115, 105, 122, 101] else if x = 11 then [100, 101, 102, 97, 117, 108, 116] else if x = 12 then [114, 117, 108, 101] else if x = 13 then [55] else if x = 14 then [127] else [13]
def piece (x : UInt8) : List UInt8 := if x.toNat < 128 ∧ 13 < x.toNat % 16 then [121] else tab (x.toNat % 16)
def textTo (c : List UInt8) (k : Nat) : List UInt8 := (c.take k).flatMap piece
/-- a text of choices -/
def textOf (c : List UInt8) : List UInt8 := textTo c 80
theorem tab_len (x : Nat) (h : x < 16) : (tab x).length ≤ 7 := by
  have : x = 0 ∨ x = 1 ∨ x = 2 ∨ x = 3 ∨ x = 4 ∨ x = 5 ∨ x = 6 ∨ x = 7 ∨ x = 8 ∨ x = 9 ∨ x = 10 ∨ x = 11 ∨ x = 12 ∨ x = 13 ∨ x = 14 ∨ x = 15 := by omega
  rcases this with rfl | rfl | rfl | rfl | rfl | rfl | rfl | rfl | rfl | rfl | rfl | rfl | rfl | rfl | rfl | rfl <;> decide
theorem piece_len (x : UInt8) : (piece x).length ≤ 7 := by
  unfold piece
  split
  · simp
  · exact tab_len _ (by omega)
theorem textTo_succ (c : List UInt8) (k : Nat) (h : k < c.length) : textTo c (k + 1) = textTo c k ++ piece c[k] := by
  unfold textTo
  rw [List.take_succ_eq_append_getElem h, List.flatMap_append]
  simp
theorem textTo_len (c : List UInt8) (k : Nat) : (textTo c k).length ≤ 7 * k := by
  induction k with
  | zero => simp [textTo]
  | succ k ih =>
    by_cases h : k < c.length
    · rw [textTo_succ c k h, List.length_append]
      have := piece_len c[k]
      omega
    · have e : textTo c (k + 1) = textTo c k := by
        unfold textTo
        rw [List.take_of_length_le (by omega), List.take_of_length_le (by omega)]
      rw [e]
      omega
theorem textOf_len (c : List UInt8) : (textOf c).length ≤ 560 := textTo_len c 80
theorem textTo_all (c : List UInt8) (k : Nat) (h : c.length ≤ k ∨ 80 ≤ k) (hk : k ≤ 80) : textTo c k = textOf c := by
  unfold textOf textTo
  rcases h with h | h
  · rw [List.take_of_length_le h, List.take_of_length_le (by omega)]
  · rw [show k = 80 from by omega]
theorem u8s_snoc_ (l : List UInt8) (b : UInt8) : u8s l ++ [.int .u8 (b.toNat : Int)] = u8s (l ++ [b]) := by simp [u8s]

abbrev tabs : Array Value := #[.string ⟨#[97]⟩, .string ⟨#[98, 99]⟩, .string ⟨#[32]⟩, .string ⟨#[9]⟩, .string ⟨#[10]⟩, .string ⟨#[35]⟩, .string ⟨#[120, 49]⟩, .string ⟨#[10]⟩, .string ⟨#[32]⟩, .string ⟨#[32, 32]⟩, .string ⟨#[115, 105, 122, 101]⟩, .string ⟨#[100, 101, 102, 97, 117, 108, 116]⟩, .string ⟨#[114, 117, 108, 101]⟩, .string ⟨#[55]⟩, .string ⟨#[127]⟩, .string ⟨#[13]⟩]
theorem tab_at (x : Nat) (h : x < 16) : tabs[x]? = some (.string ⟨(tab x).toArray⟩) := by
  have : x = 0 ∨ x = 1 ∨ x = 2 ∨ x = 3 ∨ x = 4 ∨ x = 5 ∨ x = 6 ∨ x = 7 ∨ x = 8 ∨ x = 9 ∨ x = 10 ∨ x = 11 ∨ x = 12 ∨ x = 13 ∨ x = 14 ∨ x = 15 := by omega
  rcases this with rfl | rfl | rfl | rfl | rfl | rfl | rfl | rfl | rfl | rfl | rfl | rfl | rfl | rfl | rfl | rfl <;> rfl
theorem tab_cell (W : World) (x : Nat) (h : x < 16) : (W.alloc (.cells #[.string ⟨#[97]⟩, .string ⟨#[98, 99]⟩, .string ⟨#[32]⟩, .string ⟨#[9]⟩, .string ⟨#[10]⟩, .string ⟨#[35]⟩, .string ⟨#[120, 49]⟩, .string ⟨#[10]⟩, .string ⟨#[32]⟩, .string ⟨#[32, 32]⟩, .string ⟨#[115, 105, 122, 101]⟩, .string ⟨#[100, 101, 102, 97, 117, 108, 116]⟩, .string ⟨#[114, 117, 108, 101]⟩, .string ⟨#[55]⟩, .string ⟨#[127]⟩, .string ⟨#[13]⟩] 9)).cell? ⟨W.heap.size, x, none⟩ = some (.string ⟨(tab x).toArray⟩) :=
  ((Blk.new W 9 _).cell x).trans (tab_at x h)
theorem one_bytes (l : List UInt8) : ∀ u ∈ u8s l, u.oneCell' = true := by
  intro u hu
  obtain ⟨b, _, rfl⟩ := List.mem_map.1 hu
  rfl
theorem byte_info : (Try.prog.info? 5).map (fun i => (i.zero, i.size, i.bytes)) = some (some (.int .u8 0), 1, 1) := by kernel_rfl

set_option maxHeartbeats 4000000 in
set_option maxRecDepth 100000 in
theorem text_any (l : List UInt8) (A : Option Addr) (c : Nat) (hn : l.length ≤ 9223372036854775807) (w : World) (hr : Row w w.heap.size A (u8s l)) :
    Calls Try.prog 11 #[.slice A l.length c] w fun e w' => ∃ v, e = .returned v ∧ w'.ownsRow w.heap.size 5 1 v (textOf l).length (u8s (textOf l)) ∧ Below w.heap.size w w' := by
  have HR := Lib.hid hr
  clear hr
  obtain ⟨i0, hi0, hz0, hz1, hz2⟩ := info_parts byte_info
  go_enter Try.func11, Try.ntmps11
  go_wp2
  go_loopw [3, 4] (fun v i wr => ∃ k : Nat, k ≤ l.length ∧ k ≤ 80 ∧ i = .int .i64 (k : Int) ∧ wr.ownsRow w.heap.size 5 1 v (textTo l k).length (u8s (textTo l k)) ∧ Below w.heap.size w wr) (fun _ i _ => 80 - (intOf i).toNat)
  case atStart => exact ⟨0, by omega, by omega, rfl, World.ownsRow_nil _ _ _ _, Below.refl _ _⟩
  case round =>
    obtain ⟨k, hk, hk6, rfl, hown, hB⟩ := hrel
    by_cases hlt : k < l.length
    · have hlt' : (k : Int) < l.length := by omega
      by_cases hlt6 : k < 80
      · have hlt6' : (k : Int) < 80 := by omega
        obtain ⟨b, off, rfl, hb, hc⟩ := HR.out.at_ (k := k) (by simp; omega)
        have hc0 := (hB.cell (p := ⟨b, off + k, none⟩) hb).trans (hc k (.int .u8 (l[k].toNat : Int)) (u8s_at l k hlt))
        have hbl : b < wr.heap.size := Nat.lt_of_lt_of_le hb hB.size
        have hb8 : (l[k].toNat : Int) ≤ 255 := by have := l[k].toNat_lt; omega
        obtain ⟨x, hx⟩ : ∃ x, x = l[k].toNat := ⟨_, rfl⟩
        have hcw := tab_cell wr (x % 16) (by omega)
        rw [← hx] at hc0 hb8
        obtain ⟨s0, hs0⟩ : ∃ s : ByteArray, s = ⟨(tab (x % 16)).toArray⟩ := ⟨_, rfl⟩
        rw [← hs0] at hcw
        have HS0 := Lib.hid hs0
        have HX := Lib.hid hx
        have HO := Lib.hid hown
        have HB := Lib.hid hB
        clear hc hs0 hx hown hB
        have HBA := Lib.hid (HB.out.alloc HB.out.size (.cells #[.string ⟨#[97]⟩, .string ⟨#[98, 99]⟩, .string ⟨#[32]⟩, .string ⟨#[9]⟩, .string ⟨#[10]⟩, .string ⟨#[35]⟩, .string ⟨#[120, 49]⟩, .string ⟨#[10]⟩, .string ⟨#[32]⟩, .string ⟨#[32, 32]⟩, .string ⟨#[115, 105, 122, 101]⟩, .string ⟨#[100, 101, 102, 97, 117, 108, 116]⟩, .string ⟨#[114, 117, 108, 101]⟩, .string ⟨#[55]⟩, .string ⟨#[127]⟩, .string ⟨#[13]⟩] 9))
        by_cases hy : x < 128 ∧ 13 < x % 16
        · have hp : piece l[k] = [121] := by unfold piece; rw [← HX.out, if_pos hy]
          obtain ⟨acc, hacc⟩ : ∃ acc, acc = textTo l k := ⟨_, rfl⟩
          obtain ⟨sl, hsl⟩ : ∃ sl, sl = piece l[k] := ⟨_, rfl⟩
          have hts := textTo_succ l k hlt
          have htl := textTo_len l k
          rw [← hacc] at hts htl HO
          rw [← hsl] at hts
          have HTS := Lib.hid hts
          have HAL : Hid (acc.length ≤ 560) := Lib.hid (by omega)
          have HOA := Lib.hid (HO.out.alloc (.cells #[.string ⟨#[97]⟩, .string ⟨#[98, 99]⟩, .string ⟨#[32]⟩, .string ⟨#[9]⟩, .string ⟨#[10]⟩, .string ⟨#[35]⟩, .string ⟨#[120, 49]⟩, .string ⟨#[10]⟩, .string ⟨#[32]⟩, .string ⟨#[32, 32]⟩, .string ⟨#[115, 105, 122, 101]⟩, .string ⟨#[100, 101, 102, 97, 117, 108, 116]⟩, .string ⟨#[114, 117, 108, 101]⟩, .string ⟨#[55]⟩, .string ⟨#[127]⟩, .string ⟨#[13]⟩] 9))
          obtain ⟨S, hS⟩ : ∃ S : ByteArray, S = ⟨#[121]⟩ := ⟨_, rfl⟩
          have HS : Hid (S = ⟨sl.toArray⟩) := Lib.hid (by rw [hS, hsl, hp])
          have HSL : Hid (S.size = sl.length) := Lib.hid (by rw [HS.out]; simp [ByteArray.size])
          have HS7 : Hid (S.size ≤ 7) := Lib.hid (by rw [HSL.out, hsl]; exact piece_len _)
          have hS7 : S.size ≤ 7 := HS7.out
          have HSV := Lib.hid hS
          have g1 : (x : Int) < 128 := by omega
          have g2 : (13 : Int) < (x : Int) % 16 := by omega
          have g3 : 13 < x % 16 := hy.2
          clear hts htl hacc hsl hp hS HO HB hy
          go_wp2_with fail
          rw [← HSV.out]
          go_loopw [3, 6] (fun v i wr2 => ∃ j : Nat, j ≤ S.size ∧ i = .int .i64 (j : Int) ∧ wr2.ownsRow w.heap.size 5 1 v (acc.length + j) (u8s (acc ++ sl.take j)) ∧ Below w.heap.size w wr2) (fun _ i _ => S.size - (intOf i).toNat)
          case atStart => exact ⟨0, by omega, rfl, by rw [List.take_zero, List.append_nil]; exact HOA.out, HBA.out⟩
          case round =>
            obtain ⟨j, hj, rfl, hown, hB⟩ := hrel
            by_cases hjl : j < S.size
            · have hjl' : (j : Int) < S.size := by omega
              have hb8' : (S[j].toNat : Int) ≤ 255 := by have := S[j].toNat_lt; omega
              have hsj : sl.take (j + 1) = sl.take j ++ [S[j]] := by
                have hsj0 : S[j] = sl[j]'(by rw [← HSL.out]; exact hjl) := by
                  have := HS.out
                  subst this
                  rfl
                rw [hsj0]
                exact List.take_succ_eq_append_getElem _
              have HSJ := Lib.hid hsj
              have HO2 := Lib.hid (hown.alloc (.cells #[.int .u8 (S[j].toNat : Int)] 5))
              have hBa := hB.alloc hB.size (.cells #[.int .u8 (S[j].toNat : Int)] 5)
              have HB2 := Lib.hid hBa
              clear hsj hown hB hBa
              go_wp2_with (at_builtin; refine wpList_append_row _ rfl (.tmp 44) (.tmp 48) 22 rfl w.heap.size 5 i0 _ 1 rfl hi0 hz0 hz1 hz2 rfl _ (acc.length + j) _ rfl HO2.out _ (some ⟨wr.heap.size, 0, none⟩) 1 1 [.int .u8 (S[j].toNat : Int)] rfl rfl (Row.new wr 5 #[.int .u8 (S[j].toNat : Int)]) (by simp [Value.oneCell']) (by have := HAL.out; have := HS7.out; unfold maxLen; omega) (by have := HAL.out; have := HS7.out; omega) HB2.out.size ?_; intro v1 w3 hown3 hg3 hat3)
              have hB3 := grown_below HB2.out HO2.out (Nat.le_refl _) HB2.out.size hg3
              rw [u8s_snoc_, List.append_assoc, ← HSJ.out] at hown3
              have HO3 := Lib.hid hown3
              have HB3 := Lib.hid hB3
              clear hown3 hg3 hat3 hB3
              go_wp2_with fail
              go_roundw
              case rel => exact ⟨j + 1, by omega, by go_num, HO3.out, HB3.out⟩
              case measure => simp [intOf]; omega
            · obtain rfl : j = S.size := by omega
              have hfin : sl.take S.size = sl := by rw [HSL.out, List.take_length]
              rw [hfin] at hown
              have HO3 := Lib.hid hown
              have HB3 := Lib.hid hB
              clear hown hB hfin
              go_wp2_with fail
              go_roundw
              case rel => exact ⟨k + 1, by omega, by omega, by go_num, by rw [HTS.out, List.length_append, ← HSL.out]; exact HO3.out, HB3.out⟩
              case measure => simp [intOf]; omega
        · have hp : piece l[k] = tab (x % 16) := by unfold piece; rw [← HX.out, if_neg hy]
          obtain ⟨acc, hacc⟩ : ∃ acc, acc = textTo l k := ⟨_, rfl⟩
          obtain ⟨sl, hsl⟩ : ∃ sl, sl = piece l[k] := ⟨_, rfl⟩
          have hts := textTo_succ l k hlt
          have htl := textTo_len l k
          rw [← hacc] at hts htl HO
          rw [← hsl] at hts
          have HTS := Lib.hid hts
          have HAL : Hid (acc.length ≤ 560) := Lib.hid (by omega)
          have HOA := Lib.hid (HO.out.alloc (.cells #[.string ⟨#[97]⟩, .string ⟨#[98, 99]⟩, .string ⟨#[32]⟩, .string ⟨#[9]⟩, .string ⟨#[10]⟩, .string ⟨#[35]⟩, .string ⟨#[120, 49]⟩, .string ⟨#[10]⟩, .string ⟨#[32]⟩, .string ⟨#[32, 32]⟩, .string ⟨#[115, 105, 122, 101]⟩, .string ⟨#[100, 101, 102, 97, 117, 108, 116]⟩, .string ⟨#[114, 117, 108, 101]⟩, .string ⟨#[55]⟩, .string ⟨#[127]⟩, .string ⟨#[13]⟩] 9))
          obtain ⟨S, hS⟩ : ∃ S : ByteArray, S = s0 := ⟨_, rfl⟩
          have HS : Hid (S = ⟨sl.toArray⟩) := Lib.hid (by rw [hS, HS0.out, hsl, hp])
          have HSL : Hid (S.size = sl.length) := Lib.hid (by rw [HS.out]; simp [ByteArray.size])
          have HS7 : Hid (S.size ≤ 7) := Lib.hid (by rw [HSL.out, hsl]; exact piece_len _)
          have hS7 : S.size ≤ 7 := HS7.out
          rw [← hS] at hcw
          by_cases hx8 : x < 128
          · have g1 : (x : Int) < 128 := by omega
            have g2 : (x : Int) % 16 ≤ 13 := by omega
            have g3 : x % 16 ≤ 13 := by omega
            clear hts htl hacc hsl hp hS HO HB hy HS0
            go_wp2_with fail
            go_loopw [3, 6] (fun v i wr2 => ∃ j : Nat, j ≤ S.size ∧ i = .int .i64 (j : Int) ∧ wr2.ownsRow w.heap.size 5 1 v (acc.length + j) (u8s (acc ++ sl.take j)) ∧ Below w.heap.size w wr2) (fun _ i _ => S.size - (intOf i).toNat)
            case atStart => exact ⟨0, by omega, rfl, by rw [List.take_zero, List.append_nil]; exact HOA.out, HBA.out⟩
            case round =>
              obtain ⟨j, hj, rfl, hown, hB⟩ := hrel
              by_cases hjl : j < S.size
              · have hjl' : (j : Int) < S.size := by omega
                have hb8' : (S[j].toNat : Int) ≤ 255 := by have := S[j].toNat_lt; omega
                have hsj : sl.take (j + 1) = sl.take j ++ [S[j]] := by
                  have hsj0 : S[j] = sl[j]'(by rw [← HSL.out]; exact hjl) := by
                    have := HS.out
                    subst this
                    rfl
                  rw [hsj0]
                  exact List.take_succ_eq_append_getElem _
                have HSJ := Lib.hid hsj
                have HO2 := Lib.hid (hown.alloc (.cells #[.int .u8 (S[j].toNat : Int)] 5))
                have hBa := hB.alloc hB.size (.cells #[.int .u8 (S[j].toNat : Int)] 5)
                have HB2 := Lib.hid hBa
                clear hsj hown hB hBa
                go_wp2_with (at_builtin; refine wpList_append_row _ rfl (.tmp 44) (.tmp 48) 22 rfl w.heap.size 5 i0 _ 1 rfl hi0 hz0 hz1 hz2 rfl _ (acc.length + j) _ rfl HO2.out _ (some ⟨wr.heap.size, 0, none⟩) 1 1 [.int .u8 (S[j].toNat : Int)] rfl rfl (Row.new wr 5 #[.int .u8 (S[j].toNat : Int)]) (by simp [Value.oneCell']) (by have := HAL.out; have := HS7.out; unfold maxLen; omega) (by have := HAL.out; have := HS7.out; omega) HB2.out.size ?_; intro v1 w3 hown3 hg3 hat3)
                have hB3 := grown_below HB2.out HO2.out (Nat.le_refl _) HB2.out.size hg3
                rw [u8s_snoc_, List.append_assoc, ← HSJ.out] at hown3
                have HO3 := Lib.hid hown3
                have HB3 := Lib.hid hB3
                clear hown3 hg3 hat3 hB3
                go_wp2_with fail
                go_roundw
                case rel => exact ⟨j + 1, by omega, by go_num, HO3.out, HB3.out⟩
                case measure => simp [intOf]; omega
              · obtain rfl : j = S.size := by omega
                have hfin : sl.take S.size = sl := by rw [HSL.out, List.take_length]
                rw [hfin] at hown
                have HO3 := Lib.hid hown
                have HB3 := Lib.hid hB
                clear hown hB hfin
                go_wp2_with fail
                go_roundw
                case rel => exact ⟨k + 1, by omega, by omega, by go_num, by rw [HTS.out, List.length_append, ← HSL.out]; exact HO3.out, HB3.out⟩
                case measure => simp [intOf]; omega
          · have g1 : (128 : Int) ≤ x := by omega
            clear hts htl hacc hsl hp hS HO HB hy HS0
            go_wp2_with fail
            go_loopw [3, 6] (fun v i wr2 => ∃ j : Nat, j ≤ S.size ∧ i = .int .i64 (j : Int) ∧ wr2.ownsRow w.heap.size 5 1 v (acc.length + j) (u8s (acc ++ sl.take j)) ∧ Below w.heap.size w wr2) (fun _ i _ => S.size - (intOf i).toNat)
            case atStart => exact ⟨0, by omega, rfl, by rw [List.take_zero, List.append_nil]; exact HOA.out, HBA.out⟩
            case round =>
              obtain ⟨j, hj, rfl, hown, hB⟩ := hrel
              by_cases hjl : j < S.size
              · have hjl' : (j : Int) < S.size := by omega
                have hb8' : (S[j].toNat : Int) ≤ 255 := by have := S[j].toNat_lt; omega
                have hsj : sl.take (j + 1) = sl.take j ++ [S[j]] := by
                  have hsj0 : S[j] = sl[j]'(by rw [← HSL.out]; exact hjl) := by
                    have := HS.out
                    subst this
                    rfl
                  rw [hsj0]
                  exact List.take_succ_eq_append_getElem _
                have HSJ := Lib.hid hsj
                have HO2 := Lib.hid (hown.alloc (.cells #[.int .u8 (S[j].toNat : Int)] 5))
                have hBa := hB.alloc hB.size (.cells #[.int .u8 (S[j].toNat : Int)] 5)
                have HB2 := Lib.hid hBa
                clear hsj hown hB hBa
                go_wp2_with (at_builtin; refine wpList_append_row _ rfl (.tmp 44) (.tmp 48) 22 rfl w.heap.size 5 i0 _ 1 rfl hi0 hz0 hz1 hz2 rfl _ (acc.length + j) _ rfl HO2.out _ (some ⟨wr.heap.size, 0, none⟩) 1 1 [.int .u8 (S[j].toNat : Int)] rfl rfl (Row.new wr 5 #[.int .u8 (S[j].toNat : Int)]) (by simp [Value.oneCell']) (by have := HAL.out; have := HS7.out; unfold maxLen; omega) (by have := HAL.out; have := HS7.out; omega) HB2.out.size ?_; intro v1 w3 hown3 hg3 hat3)
                have hB3 := grown_below HB2.out HO2.out (Nat.le_refl _) HB2.out.size hg3
                rw [u8s_snoc_, List.append_assoc, ← HSJ.out] at hown3
                have HO3 := Lib.hid hown3
                have HB3 := Lib.hid hB3
                clear hown3 hg3 hat3 hB3
                go_wp2_with fail
                go_roundw
                case rel => exact ⟨j + 1, by omega, by go_num, HO3.out, HB3.out⟩
                case measure => simp [intOf]; omega
              · obtain rfl : j = S.size := by omega
                have hfin : sl.take S.size = sl := by rw [HSL.out, List.take_length]
                rw [hfin] at hown
                have HO3 := Lib.hid hown
                have HB3 := Lib.hid hB
                clear hown hB hfin
                go_wp2_with fail
                go_roundw
                case rel => exact ⟨k + 1, by omega, by omega, by go_num, by rw [HTS.out, List.length_append, ← HSL.out]; exact HO3.out, HB3.out⟩
                case measure => simp [intOf]; omega
      · have hfin := textTo_all l k (.inr (by omega)) hk6
        rw [hfin] at hown
        have HO := Lib.hid hown
        have HB := Lib.hid hB
        clear hown hB hfin
        go_wp2
        go_ret
        exact ⟨_, rfl, HO.out, HB.out⟩
    · have hfin := textTo_all l k (.inl (by omega)) hk6
      rw [hfin] at hown
      have HO := Lib.hid hown
      have HB := Lib.hid hB
      have hlt' : (l.length : Int) ≤ k := by omega
      clear hown hB hfin hlt
      go_wp2
      go_ret
      exact ⟨_, rfl, HO.out, HB.out⟩
end Go.Proofs.Ytnfkeaplglknlaa.words
