/- the reference's Print; the laws' helpers, walked. -/
import Derived.Test.YtolohhjepjefiaaAskRef
import Derived.Lib.SlBytesConst
namespace Go.Proofs.Ytolohhjepjefiaa.ask
open Go.RowKit
open Go.Proofs.Ytolohhjepjefiaa.aid

set_option maxHeartbeats 800000 in
theorem refprint_any (k : ByteArray) (n : Nat) (hk : k.size ≤ 140737488351232) (hn : (n : Int) ≤ 18446744073709551615) (w : World) :
    Calls Try.prog 13 #[.string k, .int .u64 n] w fun e w' => ∃ A c, e = .returned (.tuple #[.slice A (print k.data.toList n).length c, .int .i64 (if key.right k.data.toList then 0 else 12 : Nat)]) ∧ (print k.data.toList n).length ≤ c ∧ Row w' w'.heap.size A (u8s (print k.data.toList n)) ∧ Below w.heap.size w w' := by
  have HG := Lib.hid (key.refright_any k (by omega) w)
  have hl := dig.digs_len n
  have HP := Lib.hid (fun W => dig.refprint_any n hn W)
  have hp : Hid (print k.data.toList n = if key.right k.data.toList then verb ++ (k.data.toList ++ 32 :: dig.digs n) else []) := Lib.hid rfl
  generalize print k.data.toList n = out at *
  have hlen : k.data.toList.length = k.size := rfl
  generalize hr : key.right k.data.toList = rt at *
  clear hr
  go_enter Try.func13, Try.ntmps13
  go_wp2_with fail
  refine HG.out.mono ?_
  rintro e w1 ⟨rfl, rfl⟩
  have hb1 := Below.refl w.heap.size w
  cases rt
  · go_wp2_with fail
    go_ret2
    rw [hp.out]
    exact ⟨none, 0, rfl, Nat.le_refl _, Row.nil_, hb1⟩
  · go_wp2_with fail
    refine (HP.out _).mono ?_
    rintro e w2 ⟨rfl, rfl⟩
    have g2 := hb1
    obtain ⟨c, W3, hrun, hc, hlie, hb3, hsz, -⟩ := to_bytes w (ByteArray.mk #[67, 72, 69, 67, 75, 32] ++ k ++ ByteArray.mk #[32] ++ ByteArray.mk (dig.digs n).toArray)
    rw [asked_size] at hc
    rw [asked] at hlie
    have g3 := g2.trans (hb3.mono g2.size)
    have hC := Lib.hid hc
    have HL := Lib.hid (lie_row hlie (by omega))
    clear hc hlie
    go_wp2_with fail
    go_ret2
    rw [show out = verb ++ (k.data.toList ++ 32 :: dig.digs n) from hp.out]
    have hz : 6 + k.size + 1 + (dig.digs n).length = (verb ++ (k.data.toList ++ 32 :: dig.digs n)).length := by
      rw [List.length_append, List.length_append, List.length_cons, show verb.length = 6 from rfl, show k.data.toList.length = k.size from rfl]
      omega
    refine ⟨_, c, ?_, hC.out, HL.out, g3⟩
    rw [← hz]
    rfl

theorem lie_row_below {w w' : World} {l : List UInt8} {b : Nat} (h : Lie w b l) (hb : b < w.heap.size) (hB : Below w.heap.size w w') : Row w' w'.heap.size (some ⟨b, 0, none⟩) (u8s l) := ((lie_row h hb).below hB).more hB.size

/-- what is asked, of a text -/
theorem ask_text (s : ByteArray) (hs : s.size ≤ 140737488351232) (w : World) : ∃ c w', (convert 9 22 (.string s)).run Try.prog w = .ok (.slice (some ⟨w.heap.size, 0, none⟩) s.size c) w' ∧
    Below w.heap.size w w' ∧ Calls Try.prog 10 #[.slice (some ⟨w.heap.size, 0, none⟩) s.size c] w' fun e w2 => e = .returned (.tuple #[str (ask s.data.toList).1, .int .u64 (ask s.data.toList).2.1, .int .u16 (ask s.data.toList).2.2]) ∧ Below w'.heap.size w' w2 := by
  obtain ⟨c, w1, hrun, hc, hlie, hb, hsz, -⟩ := to_bytes w s
  refine ⟨c, w1, hrun, hb, ?_⟩
  exact parse_any _ s.data.toList c hs w1 (lie_row hlie (by omega))
theorem refask_text (s : ByteArray) (hs : s.size ≤ 100000) (w : World) : ∃ c w', (convert 9 22 (.string s)).run Try.prog w = .ok (.slice (some ⟨w.heap.size, 0, none⟩) s.size c) w' ∧
    Below w.heap.size w w' ∧ Calls Try.prog 22 #[.slice (some ⟨w.heap.size, 0, none⟩) s.size c] w' fun e w2 => e = .returned (.tuple #[str (ask s.data.toList).1, .int .u64 (ask s.data.toList).2.1, .int .i64 (ask s.data.toList).2.2]) ∧ Below w'.heap.size w' w2 := by
  obtain ⟨c, w1, hrun, hc, hlie, hb, hsz, -⟩ := to_bytes w s
  refine ⟨c, w1, hrun, hb, ?_⟩
  exact refparse_any _ s.data.toList c hs w1 (lie_row hlie (by omega))

/-- a literal of bytes, turned into a slice -/
theorem const_row (w : World) (l : List UInt8) (C : Array Value) (m : Nat × Nat) (hC : C.toList = u8s l) : Row (w.alloc (.cells C 5 m)) (w.alloc (.cells C 5 m)).heap.size (some ⟨w.heap.size, 0, none⟩) (u8s l) := fun _ =>
  ⟨w.heap.size, 0, rfl, by simp, fun j v hv => by
    rw [Nat.zero_add]
    refine (World.cell?_alloc_mark w C 5 m j).trans ?_
    rw [← hv, ← hC]
    simp⟩
theorem ask_const (w : World) (l : List UInt8) (C : Array Value) (hC : C.toList = u8s l) (hl : l.length ≤ 1000) (n : Nat) (hn : n = l.length) : ∃ w', (convert 22 22 (.slice (some ⟨w.heap.size, 0, none⟩) n n)).run Try.prog (w.alloc (.cells C 5)) = .ok (.slice (some ⟨w.heap.size, 0, none⟩) n n) w' ∧
    Below w.heap.size w w' ∧ Calls Try.prog 10 #[.slice (some ⟨w.heap.size, 0, none⟩) n n] w' fun e w2 => e = .returned (.tuple #[str (ask l).1, .int .u64 (ask l).2.1, .int .u16 (ask l).2.2]) ∧ Below w'.heap.size w' w2 := by
  subst hn
  refine ⟨_, Lib.run_convert_bytes_const w 22 5 C _ _ rfl rfl, (Below.refl _ w).alloc (Nat.le_refl _) _, ?_⟩
  exact parse_any _ l _ (by omega) _ (const_row w l C _ hC)

set_option maxHeartbeats 800000 in
theorem known_any (w : World) :
    Calls Try.prog 11 #[] w fun e w' => e = .returned (.bool true) ∧ Below w.heap.size w w' := by
  obtain ⟨w1, hr1, hb1, hc1⟩ := ask_const w [67, 72, 69, 67, 75, 32, 97, 32, 55] #[.int .u8 67, .int .u8 72, .int .u8 69, .int .u8 67, .int .u8 75, .int .u8 32, .int .u8 97, .int .u8 32, .int .u8 55] rfl (by decide) 9 rfl
  have H1 := Lib.hid hc1
  clear hc1
  go_enter Try.func11, Try.ntmps11
  go_wp2_with fail
  refine H1.out.mono ?_
  rintro e w2 ⟨rfl, hb2⟩
  rw [show ask _ = ([97], 7, 0) from by decide +kernel]
  have g2 := hb1.trans (hb2.mono hb1.size)
  obtain ⟨w3, hr3, hb3, hc3⟩ := ask_const w2 [67, 72, 69, 67, 75, 32, 97] #[.int .u8 67, .int .u8 72, .int .u8 69, .int .u8 67, .int .u8 75, .int .u8 32, .int .u8 97] rfl (by decide) 7 rfl
  have H3 := Lib.hid hc3
  have g3 := g2.trans (hb3.mono g2.size)
  clear hc3
  go_wp2_with fail
  refine H3.out.mono ?_
  rintro e w4 ⟨rfl, hb4⟩
  rw [show ask _ = ([], 0, 13) from by decide +kernel]
  go_wp2_with fail
  go_ret
  exact ⟨rfl, g3.trans (hb4.mono g3.size)⟩

set_option maxHeartbeats 800000 in
theorem parses_any (s : ByteArray) (hs : s.size ≤ 100000) (w : World) :
    Calls Try.prog 14 #[.string s] w fun e w' => e = .returned (.bool true) ∧ Below w.heap.size w w' := by
  obtain ⟨c1, w1, hr1, hb1, hc1⟩ := ask_text s (by omega) w
  have H1 := Lib.hid hc1
  have hn := ask_le s.data.toList
  have he := ask_err s.data.toList
  have H2 := Lib.hid (fun W => refask_text s hs W)
  generalize ask s.data.toList = r at *
  obtain ⟨k, n, x⟩ := r
  simp only at hn he
  clear hc1
  go_enter Try.func14, Try.ntmps14
  go_wp2_with fail
  refine H1.out.mono ?_
  rintro e w2 ⟨rfl, hb2⟩
  have g2 := hb1.trans (hb2.mono hb1.size)
  obtain ⟨c3, w3, hr3, hb3, hc3⟩ := H2.out w2
  have H3 := Lib.hid hc3
  have g3 := g2.trans (hb3.mono g2.size)
  clear hc3
  go_wp2_with fail
  refine H3.out.mono ?_
  rintro e w4 ⟨rfl, hb4⟩
  go_wp2_with fail
  go_ret
  exact ⟨rfl, g3.trans (hb4.mono g3.size)⟩

/-- a text that is told to be read, with its answer -/
theorem ask_str (s : ByteArray) (l : List UInt8) (h : s.data.toList = l) (hs : l.length ≤ 140737488351232) {k : List UInt8} {n e : Nat} (hr : ask l = (k, n, e)) (w : World) : ∃ m c w', (convert 9 22 (.string s)).run Try.prog w = .ok (.slice (some ⟨w.heap.size, 0, none⟩) m c) w' ∧
    Below w.heap.size w w' ∧ Hid (Calls Try.prog 10 #[.slice (some ⟨w.heap.size, 0, none⟩) m c] w' fun x w2 => x = .returned (.tuple #[str k, .int .u64 n, .int .u16 e]) ∧ Below w'.heap.size w' w2) := by
  subst h
  obtain ⟨c, w1, hrun, hb, hc⟩ := ask_text s hs w
  rw [hr] at hc
  exact ⟨_, c, w1, hrun, hb, Lib.hid hc⟩
end Go.Proofs.Ytolohhjepjefiaa.ask
