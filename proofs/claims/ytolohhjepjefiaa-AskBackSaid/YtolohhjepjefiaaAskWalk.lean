/- ask.Parse, ask.Print, walked. -/
import Derived.Test.YtolohhjepjefiaaAskPlain
import Derived.Test.YtolohhjepjefiaaShelf
import Derived.Test.YtolohhjepjefiaaRow
import Derived.Test.YtolohhjepjefiaaKeyRight
import Derived.Test.YtolohhjepjefiaaDigNum
import Derived.OwnWalk
namespace Go.Proofs.Ytolohhjepjefiaa.ask
open Go.RowKit
open Go.Proofs.Ytolohhjepjefiaa.aid

abbrev str (l : List UInt8) : Value := .string ⟨l.toArray⟩

set_option maxHeartbeats 400000 in
theorem litecut_any (s : ByteArray) (hs : s.size ≤ 140737488351232) (w : World) :
    Calls Try.prog 24 #[.string s, .string ⟨#[32]⟩] w fun e w' => e = .returned (.tuple #[str (before s.data.toList), str (behind s.data.toList), .bool (blank s.data.toList)]) ∧ Below w.heap.size w w' := by
  have hlen : s.data.toList.length = s.size := rfl
  have HI := Lib.hid (fun W => Try.stringslite_Index_one s 32 W)
  change Hid (∀ W, Calls Try.prog 31 #[.string s, .string ⟨#[32]⟩] W fun e w' => e = .returned (.int .i64 (Lib.indexByte s.data.toList (32 : UInt8))) ∧ w' = W) at HI
  rcases Bool.eq_false_or_eq_true (blank s.data.toList) with hb | hb
  · have hi := index_yes hb
    have hbl : (before s.data.toList).length < s.size := by
      obtain ⟨e, -⟩ := split hb
      have := congrArg List.length e
      simp at this
      omega
    have e1 : s.extract 0 (before s.data.toList).length = ⟨(before s.data.toList).toArray⟩ := by
      have h1 : s = ⟨s.data.toList.toArray⟩ := ByteArray.ext (Array.toArray_toList).symm
      have h2 := take_before hb
      conv => lhs; rw [h1]
      rw [extract_mk, h2, List.drop_zero]
    have e2 : s.extract ((before s.data.toList).length + 1) s.size = ⟨(behind s.data.toList).toArray⟩ := by
      have h1 : s = ⟨s.data.toList.toArray⟩ := ByteArray.ext (Array.toArray_toList).symm
      conv => lhs; arg 1; rw [h1]
      rw [extract_mk, List.take_of_length_le (by omega)]
      rfl
    rw [hi] at HI
    have HB := Lib.hid hb
    generalize (before s.data.toList).length = n at *
    have E1 := Lib.hid e1
    have E2 := Lib.hid e2
    have HB := Lib.hid hb
    clear hi hb e1 e2 hlen
    go_enter Try.func24, Try.ntmps24
    go_wp2_with fail
    refine (HI.out _).mono ?_
    rintro e w' ⟨rfl, rfl⟩
    go_wp2_with fail
    go_quiet (fail)
    go_wp2_with fail
    go_ret3
    rw [E1.out, E2.out, HB.out]
    exact ⟨rfl, below_drewN (Below.refl _ _) _⟩
  · have hi := index_no hb
    have hn := before_none hb
    have hm := behind_none hb
    rw [hi] at HI
    have HN := Lib.hid hn
    have HM := Lib.hid hm
    have HB := Lib.hid hb
    clear hi hb hn hm hlen
    go_enter Try.func24, Try.ntmps24
    go_wp2_with fail
    refine (HI.out _).mono ?_
    rintro e w' ⟨rfl, rfl⟩
    go_wp2_with fail
    go_ret3
    rw [HN.out, HM.out, HB.out]
    exact ⟨rfl, Below.refl _ _⟩

theorem cut_any (s : ByteArray) (hs : s.size ≤ 140737488351232) (w : World) :
    Calls Try.prog 17 #[.string s, .string ⟨#[32]⟩] w fun e w' => e = .returned (.tuple #[str (before s.data.toList), str (behind s.data.toList), .bool (blank s.data.toList)]) ∧ Below w.heap.size w w' := by
  have H := Lib.hid (litecut_any s hs w)
  go_enter Try.func17, Try.ntmps17
  go_wp2_with fail
  refine H.out.mono ?_
  rintro e w' ⟨rfl, hb⟩
  go_wp2_with fail
  go_ret3
  exact ⟨rfl, hb⟩
theorem contains_any (s : ByteArray) (w : World) :
    Calls Try.prog 18 #[.string s, .string ⟨#[32]⟩] w fun e w' => e = .returned (.bool (blank s.data.toList)) ∧ w = w' := by
  refine (Try.strings_Contains_one s 32 w).mono ?_
  rintro e w' ⟨rfl, rfl⟩
  refine ⟨ret_bool ?_, rfl⟩
  rcases Bool.eq_false_or_eq_true (blank s.data.toList) with h | h
  · rw [h, index_yes h]; simp
  · rw [h, index_no h]; rfl
theorem prefix_any (s : ByteArray) (w : World) :
    Calls Try.prog 16 #[.string s, .string ⟨#[67, 72, 69, 67, 75, 32]⟩] w fun e w' => e = .returned (.tuple #[str (if key.has s.data.toList verb then s.data.toList.drop 6 else s.data.toList), .bool (key.has s.data.toList verb)]) ∧ w = w' := by
  refine (Try.strings_CutPrefix s ⟨#[67, 72, 69, 67, 75, 32]⟩ w).mono ?_
  rintro e w' ⟨rfl, rfl⟩
  exact ⟨rfl, rfl⟩

theorem row_string {w : World} {B : Nat} {A : Option Addr} {l : List UInt8} {c : Nat} (h : Row w B A (u8s l)) :
    (convert 22 9 (.slice A l.length c)).run Try.prog w = .ok (.string ⟨l.toArray⟩) w := by
  by_cases hl : l = []
  · subst hl
    cases A with
    | none =>
      rw [run_convert_bytes_string w 22 9 5 none _ c rfl rfl rfl]
      simp [Conv.bytesToString]
      rfl
    | some a => exact run_convert_bytes_back w 22 9 5 a c [] rfl rfl rfl (fun j hj => by simp at hj)
  · obtain ⟨b, off, rfl, -, hc⟩ := h (by simpa using hl)
    refine run_convert_bytes_back w 22 9 5 ⟨b, off, none⟩ c l rfl rfl rfl ?_
    intro j hj
    have e : (⟨b, off, none⟩ : Addr).add j = ⟨b, off + j, none⟩ := by
      simp only [Addr.add]
      split <;> simp_all
    rw [e]
    exact hc j _ (u8s_at l j hj)

def PJ (l : List UInt8) (w0 : World) (a : Act) (w : World) : Prop :=
  ∃ (e : Nat) (u0 u1 u2 u3 u4 u5 u7 u8 u9 u10 u11 u12 u13 u14 u15 u16 u17 u18 u19 u20 u21 u22 u23 u24 u25 u26 u27 u28 u29 u30 u31 u32 u33 u34 u35 u36 u37 u38 u39 u40 u41 u42 u43 u44 u45 u46 : Value), a = { tmps := #[u0, u1, u2, u3, u4, u5, .int .u16 e, u7, u8, u9, u10, u11, u12, u13, u14, u15, u16, u17, u18, u19, u20, u21, u22, u23, u24, u25, u26, u27, u28, u29, u30, u31, u32, u33, u34, u35, u36, u37, u38, u39, u40, u41, u42, u43, u44, u45, u46], defers := [] } ∧ ask l = ([], 0, e) ∧ Below w0.heap.size w0 w

set_option maxHeartbeats 800000 in
theorem parse_any (A : Option Addr) (l : List UInt8) (c : Nat) (hl : l.length ≤ 140737488351232) (w : World) (h : Row w w.heap.size A (u8s l)) :
    Calls Try.prog 10 #[.slice A l.length c] w fun e w' => e = .returned (.tuple #[str (ask l).1, .int .u64 (ask l).2.1, .int .u16 (ask l).2.2]) ∧ Below w.heap.size w w' := by
  have hrun := row_string (c := c) h
  have HP := Lib.hid (prefix_any ⟨l.toArray⟩ w)
  have hask : Hid (ask l = if key.has l verb && (blank (l.drop 6) && !blank (behind (l.drop 6))) then fin (before (l.drop 6)) (behind (l.drop 6)) else ([], 0, 13)) := Lib.hid rfl
  change Hid (Calls Try.prog 16 #[.string ⟨l.toArray⟩, .string ⟨#[67, 72, 69, 67, 75, 32]⟩] w fun e w' => e = .returned (.tuple #[str (if key.has l verb then l.drop 6 else l), .bool (key.has l verb)]) ∧ w = w') at HP
  have hHC : ∀ x : List UInt8, x.length ≤ 140737488351232 → ∀ W, Calls Try.prog 17 #[.string ⟨x.toArray⟩, .string ⟨#[32]⟩] W fun e w' => e = .returned (.tuple #[str (before x), str (behind x), .bool (blank x)]) ∧ Below W.heap.size W w' := fun x hx W => cut_any ⟨x.toArray⟩ (by simpa [ByteArray.size] using hx) W
  have hdl : (l.drop 6).length ≤ 140737488351232 := by simp; omega
  have hbl : (behind (l.drop 6)).length ≤ 140737488351232 := by unfold behind; simp; omega
  have hbf : (before (l.drop 6)).length ≤ 140737488351232 := by
    have := (List.takeWhile_sublist (p := (· != 32)) (l := l.drop 6)).length_le
    unfold before
    omega
  have HT := Lib.hid (fun W => contains_any ⟨(behind (l.drop 6)).toArray⟩ W)
  have HG := Lib.hid (fun W => key.right_any ⟨(before (l.drop 6)).toArray⟩ (by simp [ByteArray.size]; omega) W)
  have HD := Lib.hid (fun W => dig.parse_list (behind (l.drop 6)) (by omega) W)
  have hC1 := Lib.hid (hHC l hl)
  have hC2 := Lib.hid (hHC (l.drop 6) hdl)
  clear hHC hdl hbl hbf
  change Hid (∀ W, Calls Try.prog 18 #[.string ⟨(behind (l.drop 6)).toArray⟩, .string ⟨#[32]⟩] W fun e w' => e = .returned (.bool (blank (behind (l.drop 6)))) ∧ W = w') at HT
  change Hid (∀ W, Calls Try.prog 19 #[.string ⟨(before (l.drop 6)).toArray⟩] W fun e w' => e = .returned (.bool (key.right (before (l.drop 6)))) ∧ Below W.heap.size W w') at HG
  have HF : Hid (fin (before (l.drop 6)) (behind (l.drop 6)) = if key.right (before (l.drop 6)) then (if (dig.parse (behind (l.drop 6))).2 = 0 then (before (l.drop 6), (dig.parse (behind (l.drop 6))).1, 0) else ([], 0, (dig.parse (behind (l.drop 6))).2)) else ([], 0, 12)) := Lib.hid rfl
  obtain ⟨fb, hfb⟩ : ∃ f, f = fin (before (l.drop 6)) (behind (l.drop 6)) := ⟨_, rfl⟩
  rw [← hfb] at hask HF
  clear hfb
  have herr := dig.parse_err (behind (l.drop 6))
  generalize dig.parse (behind (l.drop 6)) = pr at *
  generalize key.right (before (l.drop 6)) = rt at *
  generalize blank (behind (l.drop 6)) = bb at *
  generalize behind (l.drop 6) = d at *
  generalize before (l.drop 6) = k at *
  generalize blank (l.drop 6) = br at *
  generalize before l = x1 at *
  generalize behind l = x2 at *
  generalize blank l = x3 at *
  generalize l.drop 6 = r at *
  generalize key.has l verb = hv at *
  obtain ⟨pn, pe⟩ := pr
  go_enter Try.func10, Try.ntmps10
  go_wp2_with fail
  refine wp_scope_once 0 (fun a' w' => PJ l w a' w') (fun a' _ => 0) rfl ?_ ?_
  · clear hrun HP hask hC1 hC2 HT HG HD HF herr h
    rintro a' w' ⟨e, u0, u1, u2, u3, u4, u5, u7, u8, u9, u10, u11, u12, u13, u14, u15, u16, u17, u18, u19, u20, u21, u22, u23, u24, u25, u26, u27, u28, u29, u30, u31, u32, u33, u34, u35, u36, u37, u38, u39, u40, u41, u42, u43, u44, u45, u46, rfl, he, hb⟩
    have HE := Lib.hid he
    clear he
    go_wp2_with fail
    try rw [jump_ret]
    go_ret3
    rw [HE.out]
    exact ⟨rfl, hb⟩
  · intro HR
    go_wp2_with fail
    refine HP.out.mono ?_
    rintro e w1 ⟨rfl, rfl⟩
    cases hv
    · go_wp2_with fail
      refine (hC1.out _).mono ?_
      rintro e w2 ⟨rfl, hb2⟩
      go_wp2_with fail
      go_step3
      exact ⟨rfl, 13, _, _, _, _, _, _, _, _, _, _, _, _, _, _, _, _, _, _, _, _, _, _, _, _, _, _, _, _, _, _, _, _, _, _, _, _, _, _, _, _, _, _, _, _, _, _, rfl, by rw [hask.out]; rfl, hb2⟩
    · go_wp2_with fail
      refine (hC2.out _).mono ?_
      rintro e w2 ⟨rfl, hb2⟩
      cases br
      · go_wp2_with fail
        go_step3
        exact ⟨rfl, 13, _, _, _, _, _, _, _, _, _, _, _, _, _, _, _, _, _, _, _, _, _, _, _, _, _, _, _, _, _, _, _, _, _, _, _, _, _, _, _, _, _, _, _, _, _, _, rfl, by rw [hask.out]; rfl, hb2⟩
      · go_wp2_with fail
        refine (HT.out _).mono ?_
        rintro e w3 ⟨rfl, rfl⟩
        cases bb
        · go_wp2_with fail
          refine (HG.out _).mono ?_
          rintro e w4 ⟨rfl, hb4⟩
          have g4 := hb2.trans (hb4.mono hb2.size)
          cases rt
          · go_wp2_with fail
            go_step3
            exact ⟨rfl, 12, _, _, _, _, _, _, _, _, _, _, _, _, _, _, _, _, _, _, _, _, _, _, _, _, _, _, _, _, _, _, _, _, _, _, _, _, _, _, _, _, _, _, _, _, _, _, rfl, by rw [hask.out]; simp; rw [HF.out]; rfl, g4⟩
          · go_wp2_with fail
            refine (HD.out _).mono ?_
            rintro e w5 ⟨rfl, rfl⟩
            by_cases hz : pe = 0
            · subst hz
              clear herr
              go_wp2_with fail
              try rw [jump_ret]
              go_ret3
              rw [hask.out, show (if (true && (true && !false)) = true then fb else ([], 0, 13)) = fb from rfl, HF.out]
              exact ⟨rfl, g4⟩
            · have hz' : ((pe : Int) != 0) = true := bne_iff_ne.2 (by omega)
              have he : fb = ([], 0, pe) := by rw [HF.out]; simp [hz]
              have HE := Lib.hid he
              clear he hz herr
              go_wp2_with fail
              go_step3
              exact ⟨rfl, pe, _, _, _, _, _, _, _, _, _, _, _, _, _, _, _, _, _, _, _, _, _, _, _, _, _, _, _, _, _, _, _, _, _, _, _, _, _, _, _, _, _, _, _, _, _, _, rfl, by rw [hask.out]; simp; exact HE.out, g4⟩
        · go_wp2_with fail
          go_step3
          exact ⟨rfl, 13, _, _, _, _, _, _, _, _, _, _, _, _, _, _, _, _, _, _, _, _, _, _, _, _, _, _, _, _, _, _, _, _, _, _, _, _, _, _, _, _, _, _, _, _, _, _, rfl, by rw [hask.out]; rfl, hb2⟩

def print (k : List UInt8) (n : Nat) : List UInt8 := if key.right k then verb ++ (k ++ 32 :: dig.digs n) else []

theorem asked (k : ByteArray) (l : List UInt8) : (ByteArray.mk #[67, 72, 69, 67, 75, 32] ++ k ++ ByteArray.mk #[32] ++ ByteArray.mk l.toArray) = ⟨(verb ++ (k.data.toList ++ 32 :: l)).toArray⟩ := by
  have h : ∀ x : List UInt8, (ByteArray.mk #[67, 72, 69, 67, 75, 32] ++ ⟨x.toArray⟩ ++ ByteArray.mk #[32] ++ ByteArray.mk l.toArray) = ⟨(verb ++ (x ++ 32 :: l)).toArray⟩ := fun x => by
    rw [show ByteArray.mk #[67, 72, 69, 67, 75, 32] = ⟨verb.toArray⟩ from rfl, show ByteArray.mk #[32] = ⟨[32].toArray⟩ from rfl, ByteArray.mk_append_mk, ByteArray.mk_append_mk, ByteArray.mk_append_mk]
    simp
  exact h k.data.toList
theorem asked_size (k : ByteArray) (l : List UInt8) : (ByteArray.mk #[67, 72, 69, 67, 75, 32] ++ k ++ ByteArray.mk #[32] ++ ByteArray.mk l.toArray).size = (verb ++ (k.data.toList ++ 32 :: l)).length := by
  rw [asked, dig.size_mk]

theorem lie_row {w : World} {b : Nat} {l : List UInt8} (h : Lie w b l) (hb : b < w.heap.size) : Row w w.heap.size (some ⟨b, 0, none⟩) (u8s l) := fun _ => ⟨b, 0, rfl, hb, fun j v hv => by
  rw [List.getElem?_map] at hv
  obtain ⟨c, hc, rfl⟩ := Option.map_eq_some_iff.1 hv
  obtain ⟨hj, rfl⟩ := List.getElem?_eq_some_iff.1 hc
  rw [Nat.zero_add]
  exact h j hj⟩

set_option maxHeartbeats 800000 in
theorem print_any (k : ByteArray) (n : Nat) (hk : k.size ≤ 140737488351232) (hn : (n : Int) ≤ 18446744073709551615) (w : World) :
    Calls Try.prog 12 #[.string k, .int .u64 n] w fun e w' => ∃ A c, e = .returned (.tuple #[.slice A (print k.data.toList n).length c, .int .u16 (if key.right k.data.toList then 0 else 12)]) ∧ (print k.data.toList n).length ≤ c ∧ Row w' w'.heap.size A (u8s (print k.data.toList n)) ∧ Below w.heap.size w w' := by
  have HG := Lib.hid (key.right_any k (by omega) w)
  have hl := dig.digs_len n
  have HP := Lib.hid (fun W => dig.print_any n hn W)
  have hp : Hid (print k.data.toList n = if key.right k.data.toList then verb ++ (k.data.toList ++ 32 :: dig.digs n) else []) := Lib.hid rfl
  generalize print k.data.toList n = out at *
  have hlen : k.data.toList.length = k.size := rfl
  generalize hr : key.right k.data.toList = rt at *
  clear hr
  go_enter Try.func12, Try.ntmps12
  go_wp2_with fail
  refine HG.out.mono ?_
  rintro e w1 ⟨rfl, hb1⟩
  cases rt
  · go_wp2_with fail
    go_ret2
    rw [hp.out]
    exact ⟨none, 0, rfl, Nat.le_refl _, Row.nil_, hb1⟩
  · go_wp2_with fail
    refine (HP.out _).mono ?_
    rintro e w2 ⟨rfl, hb2⟩
    have g2 := hb1.trans (hb2.mono hb1.size)
    obtain ⟨c, W3, hrun, hc, hlie, hb3, hsz, -⟩ := to_bytes w2 (ByteArray.mk #[67, 72, 69, 67, 75, 32] ++ k ++ ByteArray.mk #[32] ++ ByteArray.mk (dig.digs n).toArray)
    rw [asked_size] at hc
    rw [asked] at hlie
    have g3 := g2.trans (hb3.mono g2.size)
    have hC := Lib.hid hc
    have HL := Lib.hid (lie_row hlie (by omega))
    clear hc hlie
    go_wp2_with fail
    go_ret2
    rw [show out = verb ++ (k.data.toList ++ 32 :: dig.digs n) from hp.out]
    have hz : 6 + k.size + 1 + (dig.digs n).length = (verb ++ (k.data.toList ++ 32 :: dig.digs n)).length := by
      rw [List.length_append, List.length_append, List.length_cons, show verb.length = 6 from rfl, show k.data.toList.length = k.size from rfl]
      omega
    refine ⟨_, c, ?_, hC.out, HL.out, g3⟩
    rw [← hz]
    rfl
end Go.Proofs.Ytolohhjepjefiaa.ask
