/- words.Join, walked. -/
import Derived.Test.YtnfkeaplglknlaaBuild
import Derived.Test.YtnfkeaplglknlaaShelf
import Derived.Test.YtnfkeaplglknlaaWordsPlace
import Derived.Test.YtnfkeaplglknlaaWordsBackLaw
namespace Go.Proofs.Ytnfkeaplglknlaa.words
open Go.RowKit
open Go.Proofs.Ytnfkeaplglknlaa.aid

/-- lines of words, as strings, in memory -/
def Lns (w : World) (v : Value) (ls : List (List (List UInt8))) : Prop :=
  ∃ A c hs, v = .slice A ls.length c ∧ ls.length ≤ c ∧ Row w w.heap.size A hs ∧ hs.length = ls.length ∧ ∀ j (h : j < ls.length), ∃ A' c', hs[j]? = some (.slice A' ls[j].length c') ∧ ls[j].length ≤ c' ∧ Row w w.heap.size A' (ls[j].map fun x => .string ⟨x.toArray⟩)
theorem Lns.below {w w' : World} {v : Value} {ls : List (List (List UInt8))} (h : Lns w v ls) (hb : Below w.heap.size w w') : Lns w' v ls := by
  obtain ⟨A, c, hs, h1, h2, h3, h4, h5⟩ := h
  refine ⟨A, c, hs, h1, h2, (h3.below hb).more hb.size, h4, fun j hj => ?_⟩
  obtain ⟨A', c', p1, p2, p3⟩ := h5 j hj
  exact ⟨A', c', p1, p2, (p3.below hb).more hb.size⟩
theorem Lns.len {w : World} {v : Value} {ls : List (List (List UInt8))} (h : Lns w v ls) : ∃ A c, v = .slice A ls.length c ∧ ls.length ≤ c := by
  obtain ⟨A, c, hs, h1, h2, _⟩ := h
  exact ⟨A, c, h1, h2⟩
theorem Lns.at_ {w : World} {A : Option Addr} {n c : Nat} {ls : List (List (List UInt8))} (h : Lns w (.slice A n c) ls) {k : Nat} (hk : k < ls.length) {l : List (List UInt8)} (hl : ls[k] = l) : ∃ g o A' c', A = some ⟨g, o, none⟩ ∧ w.cell? ⟨g, o + k, none⟩ = some (.slice A' l.length c') ∧ l.length ≤ c' ∧ Row w w.heap.size A' (l.map fun x => .string ⟨x.toArray⟩) := by
  subst hl
  obtain ⟨A0, c0, hs, h1, h2, h3, h4, h5⟩ := h
  obtain ⟨g, o, e, hlt, hc⟩ := h3.at_ (k := k) (by omega)
  injection h1 with e1 e2 e3
  subst e1
  obtain ⟨A', c', p1, p2, p3⟩ := h5 k hk
  exact ⟨g, o, A', c', e, hc k _ p1, p2, p3⟩

theorem joinText_succ (ls : List (List (List UInt8))) (k : Nat) (h : k < ls.length) : joinText (ls.take (k + 1)) = joinText (ls.take k) ++ joinLine ls[k] := by
  unfold joinText
  rw [List.take_succ_eq_append_getElem h, List.flatMap_append]
  simp
theorem joinText_le (ls : List (List (List UInt8))) (k : Nat) : (joinText (ls.take k)).length ≤ (joinText ls).length := by
  conv => rhs; rw [← List.take_append_drop k ls]
  unfold joinText
  rw [List.flatMap_append, List.length_append]
  omega
theorem joinText_line (ls : List (List (List UInt8))) (k : Nat) (h : k < ls.length) : (joinText (ls.take k)).length + (joinLine ls[k]).length ≤ (joinText ls).length := by
  have h1 := joinText_le ls (k + 1)
  rw [joinText_succ ls k h, List.length_append] at h1
  exact h1

theorem sjoin_any (A : Option Addr) (c : Nat) (l : List (List UInt8)) (hc : l.length ≤ c) (hlen : (Lib.join l [32]).length ≤ 1000000) (hn : l.length ≤ 1000000) (w : World) (hr : Row w w.heap.size A (l.map fun x => .string ⟨x.toArray⟩)) :
    Calls Try.prog 25 #[.slice A l.length c, .string ⟨#[32]⟩] w fun e w' => e = .returned (.string ⟨(Lib.join l [32]).toArray⟩) ∧ Below w.heap.size w w' := by
  cases l with
  | nil =>
    refine (Try.strings_Join_none A c _ w).mono ?_
    rintro e w' ⟨rfl, rfl⟩
    exact ⟨rfl, Below.refl _ _⟩
  | cons x r =>
    obtain ⟨g, o, rfl, hlt, hcl⟩ := hr.at_ (k := 0) (by simp)
    have hm : ((x :: r).map fun y => (⟨y.toArray⟩ : ByteArray)).map (·.data.toList) = x :: r := by simp [Function.comp_def]
    have h := Try.strings_Join g o c ((x :: r).map fun y => (⟨y.toArray⟩ : ByteArray)) ⟨#[32]⟩ w (fun j y hy => hcl j _ (by
      rw [List.getElem?_map] at hy ⊢
      obtain ⟨z, hz, rfl⟩ := Option.map_eq_some_iff.1 hy
      rw [hz]
      rfl)) hlt (by rw [List.length_map]; omega) (by rw [List.length_map]; exact hc) (by rw [hm]; exact Nat.le_trans hlen (by decide))
    rw [hm, List.length_map] at h
    exact h

theorem page_below {B b : Nat} {p : Value} {l : List UInt8} {w w' : World} (h : Page B b p l w) (hb : Below w.heap.size w w') : Page B b p l w' := by
  obtain ⟨hB, v, hv, hown, hne⟩ := h
  refine ⟨hB, v, hv.below hb hv.lt, ⟨hown.1, ?_⟩, hne⟩
  rcases hown.2 with h | ⟨g, cap, cur, hv, hg, hblk, hr⟩
  · exact .inl h
  · have hlt : g < w.heap.size := (Array.getElem?_eq_some_iff.1 hblk).1
    exact .inr ⟨g, cap, cur, hv, hg, (hb.block g hlt).trans hblk, hr⟩
theorem page_base {B b : Nat} {p : Value} {l : List UInt8} {w : World} (h : Page B b p l w) : B ≤ w.heap.size := by
  obtain ⟨hB, v, hv, -⟩ := h
  have := hv.lt
  omega
theorem page_string (B b : Nat) (p : Value) (hp : p = .pointer none ∨ p = self b) (l : List UInt8) (w : World) (h : Page B b p l w) :
    Calls Try.prog 26 #[.pointer (some ⟨b, 0, none⟩)] w fun e w' => e = .returned (.string ⟨l.toArray⟩) ∧ Below B w w' := by
  have hB := page_base h
  refine Try.Builder_String_any B b l w ?_ hB
  obtain ⟨h1, v, h2, h3, h4⟩ := h
  have h5 : Lib.BuilderAt 54 5 B b p (Lib.byteCells l) w := ⟨h1, v, h2, by
    have e : Lib.byteCells l = u8s l := rfl
    rw [e, show (u8s l).length = l.length from by simp [u8s]]
    exact h3, h4⟩
  rcases hp with rfl | rfl
  · exact .inl h5
  · exact .inr h5
theorem page_write {B b : Nat} {p : Value} (hp : p = .pointer none ∨ p = self b) {acc s : List UInt8} {X : World} (hX : Page B b p acc X) (hlen : acc.length + s.length ≤ 1000000) (S : ByteArray) (hS : S = ⟨s.toArray⟩) :
    Calls Try.prog 24 #[.pointer (some ⟨b, 0, none⟩), .string S] X fun e w' => ∃ n : Int, e = .returned (.tuple #[.int .i64 n, .nilIface]) ∧ Page B b (self b) (acc ++ s) w' ∧ Below B X w' := by
  subst hS
  refine (write_any B b p hp acc s X hX (by omega) (page_base hX)).mono ?_
  rintro e w' ⟨n, rfl, hp, hb, -⟩
  exact ⟨n, rfl, hp, hb⟩

set_option maxHeartbeats 2000000 in
theorem join_any (ls : List (List (List UInt8))) (v : Value) (w : World) (h : Lns w v ls) (hlen : (joinText ls).length ≤ 100000) (hn : ls.length ≤ 100000) (hw : ∀ l ∈ ls, l.length ≤ 100000) :
    Calls Try.prog 14 #[v] w fun e w' => ∃ A c, e = .returned (.slice A (joinText ls).length c) ∧ (joinText ls).length ≤ c ∧ Row w' w'.heap.size A (u8s (joinText ls)) ∧ Below w.heap.size w w' := by
  obtain ⟨A, c, rfl, hc⟩ := h.len
  have HL := Lib.hid h
  have HLE := Lib.hid hlen
  have HW := Lib.hid hw
  have hcc : (ls.length : Int) ≤ c := by omega
  have HP0 : Hid (Page w.heap.size w.heap.size (.pointer none) [] (w.alloc (.cells #[.pointer none, .slice none 0 0] 54))) := Lib.hid ⟨Nat.le_refl _, .slice none 0 0, Blk.new w _ _, World.ownsRow_nil _ _ _ _, by simp [Value.ownBlock]⟩
  have HB0 := Lib.hid ((Below.refl w.heap.size w).alloc (Nat.le_refl _) (.cells #[.pointer none, .slice none 0 0] 54))
  clear h hlen hw
  go_enter Try.func14, Try.ntmps14
  go_wp2_with fail
  go_loopw [8] (fun i wr => ∃ k p, k ≤ ls.length ∧ i = .int .i64 (k : Nat) ∧ Hid (p = Value.pointer none ∨ p = self w.heap.size) ∧ Hid (Page w.heap.size w.heap.size p (joinText (ls.take k)) wr) ∧ Below w.heap.size w wr) (fun i _ => ls.length - (intOf i).toNat)
  case atStart => exact ⟨0, .pointer none, by omega, rfl, Lib.hid (.inl rfl), HP0, HB0.out⟩
  case round =>
    obtain ⟨k, p, hk, rfl, hp, hpg, hBk⟩ := hrel
    by_cases hlt : k < ls.length
    · have hlt' : (k : Int) < ls.length := by omega
      have HLT := Lib.hid (joinText_line ls k hlt)
      have hjs := joinText_succ ls k hlt
      have HJS := Lib.hid hjs
      obtain ⟨l, hl⟩ : ∃ l, ls[k] = l := ⟨_, rfl⟩
      have hlw := HW.out l (by rw [← hl]; exact List.getElem_mem hlt)
      obtain ⟨g, o, A', c', rfl, hcell, hc', hrow⟩ := (HL.out.below hBk).at_ hlt hl
      rw [hl] at HLT HJS
      obtain ⟨J, hJ⟩ : ∃ J, J = Lib.join l [32] := ⟨_, rfl⟩
      have hjl : joinLine l = J ++ [10] := by unfold joinLine; rw [hJ]
      rw [hjl] at HLT HJS
      have hJl : J.length ≤ 100000 := by have h1 := HLT.out; have := HLE.out; rw [List.length_append] at h1; omega
      have HSJ := Lib.hid (sjoin_any A' c' l hc' (by rw [← hJ]; omega) (by omega) wr hrow)
      rw [← hJ] at HSJ
      obtain ⟨S, hS⟩ : ∃ S : ByteArray, S = ⟨J.toArray⟩ := ⟨_, rfl⟩
      rw [← hS] at HSJ
      have HS := Lib.hid hS
      have hSz : S.size ≤ 100000 := by rw [hS]; simpa [ByteArray.size] using hJl
      have HBK := Lib.hid hBk
      clear hjs hl hJ hjl hrow hS hBk
      go_wp2_with fail
      refine HSJ.out.mono ?_
      rintro e w1 ⟨rfl, hb1⟩
      have HP1 := Lib.hid (page_below hpg.out hb1)
      have HB1 := Lib.hid (HBK.out.trans (hb1.mono HBK.out.size))
      clear hb1 hcell HSJ
      go_wp2_with fail
      refine (page_write (s := J ++ [10]) hp.out HP1.out (by have h1 := HLT.out; have := HLE.out; omega) _ ?hS).mono ?hK
      case hS =>
        have h2 : ByteArray.mk #[10] = ⟨[10].toArray⟩ := rfl
        rw [HS.out, h2, ByteArray.mk_append_mk]
      rintro e w2 ⟨m, rfl, hp2, hb2⟩
      have HP2 := Lib.hid hp2
      have HB2 := Lib.hid (HB1.out.trans hb2)
      clear hp2 hb2
      go_wp2_with fail
      go_roundw
      case rel => exact ⟨k + 1, self w.heap.size, by omega, by go_num, Lib.hid (.inr rfl), by rw [HJS.out]; exact HP2, HB2.out⟩
      case measure => simp [intOf]; omega
    · obtain rfl : k = ls.length := by omega
      rw [List.take_length] at hpg
      have HBK := Lib.hid hBk
      have HST := Lib.hid (page_string _ _ p hp.out _ wr hpg.out)
      obtain ⟨J, hJ⟩ : ∃ J, J = joinText ls := ⟨_, rfl⟩
      rw [← hJ] at HST
      have HJ := Lib.hid hJ
      obtain ⟨S, hS⟩ : ∃ S : ByteArray, S = ⟨J.toArray⟩ := ⟨_, rfl⟩
      rw [← hS] at HST
      have hSz : S.size = J.length := by rw [hS]; simp [ByteArray.size]
      have HS := Lib.hid hS
      have HSZ := Lib.hid hSz
      clear hBk hS hJ hSz
      go_wp2_with fail
      refine HST.out.mono ?_
      rintro e w1 ⟨rfl, hb1⟩
      have HB1 := Lib.hid (HBK.out.trans hb1)
      obtain ⟨c9, w9, hrun, hc9, hlie, hb9, hsz9, -⟩ := to_bytes w1 S
      have HB9 := Lib.hid (HB1.out.trans (hb9.mono HB1.out.size))
      have hlt9 : w1.heap.size < w9.heap.size := by omega
      have HR9 : Hid (Row w9 w9.heap.size (some ⟨w1.heap.size, 0, none⟩) (u8s J)) := Lib.hid (by
        have h := lie_row hlie hlt9
        rw [HS.out] at h
        simpa using h)
      clear hb1 hlie hb9 hsz9 hlt9
      go_wp2_with fail
      go_ret
      rw [HSZ.out] at hc9 ⊢
      rw [← HJ.out]
      exact ⟨_, c9, rfl, hc9, HR9.out, HB9.out⟩
end Go.Proofs.Ytnfkeaplglknlaa.words
