/- the reference's Cut, Parse and Print, walked. -/
import Derived.Test.YtolohhjepjefiaaAskWalk
import Derived.Test.YtolohhjepjefiaaStrs
import Derived.Test.YtolohhjepjefiaaKeyRefRight
namespace Go.Proofs.Ytolohhjepjefiaa.ask
open Go.RowKit
open Go.Proofs.Ytolohhjepjefiaa.aid

theorem extract_str (s : ByteArray) (a b : Nat) : s.extract a b = ⟨((s.data.toList.take b).drop a).toArray⟩ := by
  have h1 : s = ⟨s.data.toList.toArray⟩ := ByteArray.ext (Array.toArray_toList).symm
  conv => lhs; rw [h1]
  exact extract_mk _ _ _
theorem blank_snoc (l : List UInt8) (f k : Nat) (hf : f ≤ k) (hk : k < l.length) (h : blank ((l.take k).drop f) = false) (hc : l[k] ≠ 32) : blank ((l.take (k + 1)).drop f) = false := by
  rw [List.take_succ_eq_append_getElem hk, List.drop_append_of_le_length (by simp; omega), blank_app, h]
  have h4 : ¬ (32 : UInt8) = l[k] := fun e => hc e.symm
  simp [blank, h4]

abbrev strs (ls : List (List UInt8)) : List Value := ls.map str

set_option maxHeartbeats 2000000 in
set_option maxRecDepth 100000 in
theorem refcut_any (s : ByteArray) (hs : s.size ≤ 100000) (w : World) :
    Calls Try.prog 28 #[.string s] w fun e w' => ∃ A c, e = .returned (.slice A (pieces s.data.toList).length c) ∧ (pieces s.data.toList).length ≤ c ∧ Row w' w'.heap.size A (strs (pieces s.data.toList)) ∧ Below w.heap.size w w' := by
  obtain ⟨i0, hi0, hz0, hz1, hz2⟩ := info_parts str_info
  have hlen : s.data.toList.length = s.size := rfl
  go_enter Try.func28, Try.ntmps28
  go_wp2_with fail
  go_loopw [3, 4, 5] (fun v f i wr => ∃ (ps : List (List UInt8)) (fr k : Nat), fr ≤ k ∧ k ≤ s.size ∧ ps.length ≤ fr ∧ f = .int .i64 fr ∧ i = .int .i64 k ∧ pieces s.data.toList = ps ++ pieces (s.data.toList.drop fr) ∧ blank ((s.data.toList.take k).drop fr) = false ∧
      wr.ownsRow w.heap.size 9 1 v ps.length (strs ps) ∧ Below w.heap.size w wr) (fun _ _ i _ => s.size - (intOf i).toNat)
  case atStart => exact ⟨[], 0, 0, by omega, by omega, by simp, rfl, rfl, rfl, rfl, World.ownsRow_nil _ _ _ _, Below.refl _ _⟩
  case round =>
    obtain ⟨ps, fr, k, hfk, hk, hps, rfl, rfl, hpc, hbk, hown, hB⟩ := hrel
    by_cases hlt : k < s.size
    · have hlt' : (k : Int) < s.size := by omega
      have hb8 : (s[k].toNat : Int) ≤ 255 := by have := s[k].toNat_lt; omega
      have hat : s.data.toList[k]'(by rw [hlen]; exact hlt) = s[k] := rfl
      by_cases h32 : s[k] = 32
      · have h32' : ((s[k].toNat : Int) == 32) = true := by rw [h32]; rfl
        have hn := pieces_next s.data.toList fr k hfk (by omega) (by rw [hat]; exact h32) hbk
        rw [hn] at hpc
        have HPC := Lib.hid hpc
        have HO := Lib.hid hown
        clear hpc hown hn hbk hat h32
        have hfk' : (fr : Int) ≤ k := by omega
        have E1 := Lib.hid (extract_str s fr k)
        have hBa := hB.alloc hB.size (.cells #[.string (s.extract fr k)] 9)
        have HBA := Lib.hid hBa
        have HOK := Lib.hid (HO.out.alloc (.cells #[.string (s.extract fr k)] 9))
        clear hBa
        go_wp2_with (at_builtin; refine wpList_append_row _ rfl (.tmp 16) (.tmp 21) 41 rfl w.heap.size 9 i0 _ 16 rfl hi0 hz0 hz1 hz2 rfl _ ps.length _ rfl HOK.out _ (some ⟨wr.heap.size, 0, none⟩) 1 1 [.string (s.extract fr k)] rfl rfl (Row.new wr 9 #[.string (s.extract fr k)]) (by simp [Value.oneCell']) (by unfold maxLen; omega) (by omega) HBA.out.size ?_; intro v1 w3 hown3 hg3 hat3)
        have hB3 := grown_below HBA.out HOK.out (Nat.le_refl _) HBA.out.size hg3
        rw [E1.out, show strs ps ++ [Value.string ⟨((s.data.toList.take k).drop fr).toArray⟩] = strs (ps ++ [(s.data.toList.take k).drop fr]) by simp [strs, str]] at hown3
        have HO3 := Lib.hid hown3
        clear hown3 hg3 hat3
        go_wp2_with fail
        go_roundw
        case rel => exact ⟨ps ++ [(s.data.toList.take k).drop fr], k + 1, k + 1, by omega, by omega, by simp; omega, by go_num, by go_num, by rw [HPC.out]; simp, by rw [List.drop_eq_nil_of_le (by simp; omega)]; rfl, by rw [List.length_append]; exact HO3.out, hB3⟩
        case measure => simp [intOf]; omega
      · have h32' : ((s[k].toNat : Int) == 32) = false := by
          rw [beq_eq_false_iff_ne]
          intro h
          exact h32 (UInt8.toNat_inj.1 (by have : (32 : UInt8).toNat = 32 := rfl; omega))
        have HBK := Lib.hid (blank_snoc s.data.toList fr k hfk (by omega) hbk (by rw [hat]; exact h32))
        have HPC := Lib.hid hpc
        have HO := Lib.hid hown
        clear hpc hown hbk hat h32
        go_wp2_with fail
        go_roundw
        case rel => exact ⟨ps, fr, k + 1, by omega, by omega, hps, rfl, by go_num, HPC.out, HBK.out, HO.out, hB⟩
        case measure => simp [intOf]; omega
    · obtain rfl : k = s.size := by omega
      rw [List.take_of_length_le (by omega)] at hbk
      rw [pieces_one hbk] at hpc
      have E1 := Lib.hid (extract_str s fr s.size)
      have HPC := Lib.hid hpc
      have hBa := hB.alloc hB.size (.cells #[.string (s.extract fr s.size)] 9)
      have HBA := Lib.hid hBa
      have HOK := Lib.hid (hown.alloc (.cells #[.string (s.extract fr s.size)] 9))
      have hfk' : (fr : Int) ≤ s.size := by omega
      clear hBa hpc hown hbk hlt
      go_wp2_with (at_builtin; refine wpList_append_row _ rfl (.tmp 25) (.tmp 29) 41 rfl w.heap.size 9 i0 _ 16 rfl hi0 hz0 hz1 hz2 rfl _ ps.length _ rfl HOK.out _ (some ⟨wr.heap.size, 0, none⟩) 1 1 [.string (s.extract fr s.size)] rfl rfl (Row.new wr 9 #[.string (s.extract fr s.size)]) (by simp [Value.oneCell']) (by unfold maxLen; omega) (by omega) HBA.out.size ?_; intro v1 w3 hown3 hg3 hat3)
      have hB3 := grown_below HBA.out HOK.out (Nat.le_refl _) HBA.out.size hg3
      rw [E1.out, List.take_of_length_le (by omega), show strs ps ++ [Value.string ⟨(s.data.toList.drop fr).toArray⟩] = strs (ps ++ [s.data.toList.drop fr]) by simp [strs, str], ← HPC.out] at hown3
      obtain ⟨A2, c2, rfl, hkc, hrow⟩ := row_val hown3
      have HRW := Lib.hid hrow
      have hpl : ps.length + 1 = (pieces s.data.toList).length := by rw [HPC.out]; simp
      clear hown3 hg3 hat3 hrow
      go_ret
      rw [← hpl]
      exact ⟨A2, c2, rfl, hkc, HRW.out, hB3⟩

theorem told_short {ps : List (List UInt8)} (h : ps.length ≠ 3) : told ps = ([], 0, 13) := by
  match ps with
  | [] => rfl
  | [_] => rfl
  | [_, _] => rfl
  | [_, _, _] => exact absurd rfl h
  | _ :: _ :: _ :: _ :: _ => rfl

set_option maxHeartbeats 1600000 in
theorem refparse_any (A : Option Addr) (l : List UInt8) (c : Nat) (hl : l.length ≤ 100000) (w : World) (h : Row w w.heap.size A (u8s l)) :
    Calls Try.prog 22 #[.slice A l.length c] w fun e w' => e = .returned (.tuple #[str (ask l).1, .int .u64 (ask l).2.1, .int .i64 (ask l).2.2]) ∧ Below w.heap.size w w' := by
  have hrun := row_string (c := c) h
  have HC := Lib.hid (refcut_any ⟨l.toArray⟩ (by simpa [ByteArray.size] using hl) w)
  have HA := Lib.hid (ask_pieces l)
  have hpl := pieces_len l
  have hsz : ∀ p ∈ pieces l, p.length ≤ 100000 := fun p hp => by have := pieces_le l p hp; omega
  change Hid (Calls Try.prog 28 #[.string ⟨l.toArray⟩] w fun e w' => ∃ A c, e = .returned (.slice A (pieces l).length c) ∧ (pieces l).length ≤ c ∧ Row w' w'.heap.size A (strs (pieces l)) ∧ Below w.heap.size w w') at HC
  generalize pieces l = ps at *
  generalize ask l = r at *
  go_enter Try.func22, Try.ntmps22
  go_wp2_with fail
  refine HC.out.mono ?_
  rintro e w1 ⟨A1, c1, rfl, hc1, hrow, hb1⟩
  by_cases h3 : ps.length = 3
  · obtain ⟨b, off, rfl, hb, hcell⟩ := hrow.at_ (k := 0) (by simp; omega)
    match ps, h3 with
    | [p0, p1, p2], _ =>
      have c0 : w1.cell? ⟨b, off, none⟩ = some (str p0) := hcell 0 _ rfl
      have c1' : w1.cell? ⟨b, off + 1, none⟩ = some (str p1) := hcell 1 _ rfl
      have c2 : w1.cell? ⟨b, off + 2, none⟩ = some (str p2) := hcell 2 _ rfl
      have s1 : p1.length ≤ 100000 := hsz p1 (by simp)
      have s2 : p2.length ≤ 100000 := hsz p2 (by simp)
      have HT : Hid (told [p0, p1, p2] = if p0 = said then fin p1 p2 else ([], 0, 13)) := Lib.hid rfl
      have HF : Hid (fin p1 p2 = if key.right p1 then (if (dig.parse p2).2 = 0 then (p1, (dig.parse p2).1, 0) else ([], 0, (dig.parse p2).2)) else ([], 0, 12)) := Lib.hid rfl
      have HG := Lib.hid (fun W => key.refright_any ⟨p1.toArray⟩ (by simp [ByteArray.size]; omega) W)
      have HD := Lib.hid (fun W => dig.refparse_any ⟨p2.toArray⟩ (by simp [ByteArray.size]; omega) W)
      change Hid (∀ W, Calls Try.prog 15 #[str p1] W fun e w' => e = .returned (.bool (key.right p1)) ∧ W = w') at HG
      change Hid (∀ W, Calls Try.prog 29 #[str p2] W fun e w' => e = .returned (.tuple #[.int .u64 (dig.parse p2).1, .int .i64 (dig.parse p2).2]) ∧ W = w') at HD
      have herr := dig.parse_err p2
      have HB := Lib.hid hb1
      clear hcell hrow hsz hpl h
      generalize key.right p1 = rt at *
      generalize dig.parse p2 = pr at *
      obtain ⟨pn, pe⟩ := pr
      by_cases hp : p0 = said
      · have hp' : (p0 == [67, 72, 69, 67, 75]) = true := by rw [hp]; rfl
        rw [if_pos hp] at HT
        clear hp
        go_wp2_with fail
        refine (HG.out _).mono ?_
        rintro e w2 ⟨rfl, rfl⟩
        cases rt
        · go_wp2_with fail
          go_ret3
          rw [HA.out, HT.out, HF.out]
          exact ⟨rfl, HB.out⟩
        · go_wp2_with fail
          refine (HD.out _).mono ?_
          rintro e w3 ⟨rfl, rfl⟩
          by_cases hz : pe = 0
          · subst hz
            clear herr
            go_wp2_with fail
            go_ret3
            rw [HA.out, HT.out, HF.out]
            exact ⟨rfl, HB.out⟩
          · have hz' : ((pe : Int) != 0) = true := bne_iff_ne.2 (by omega)
            have he : fin p1 p2 = ([], 0, pe) := by rw [HF.out]; simp [hz]
            have HE := Lib.hid he
            clear he hz herr
            go_wp2_with fail
            go_ret3
            rw [HA.out, HT.out, HE.out]
            exact ⟨rfl, HB.out⟩
      · have hp' : (p0 == [67, 72, 69, 67, 75]) = false := beq_eq_false_iff_ne.2 hp
        rw [if_neg hp] at HT
        clear hp
        go_wp2_with fail
        go_ret3
        rw [HA.out, HT.out]
        exact ⟨rfl, HB.out⟩
  · have h3' : ((ps.length : Int) != 3) = true := bne_iff_ne.2 (by omega)
    have HT := Lib.hid (told_short h3)
    clear h3
    go_wp2_with fail
    go_ret3
    rw [HA.out, HT.out]
    exact ⟨rfl, hb1⟩
end Go.Proofs.Ytolohhjepjefiaa.ask
