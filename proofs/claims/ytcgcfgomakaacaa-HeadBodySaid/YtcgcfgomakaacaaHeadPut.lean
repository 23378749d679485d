/- (*page).put, walked: lines are written, one behind the other. -/
import Derived.Test.YtcgcfgomakaacaaHeadPage
import Derived.Test.YtcgcfgomakaacaaHeadPlain
import Derived.Test.YtcgcfgomakaacaaDigPrint
import Derived.Outline
import Derived.Deep.RegionHeld3
import Derived.Deep.RegionWith
namespace Go.Proofs.Ytcgcfgomakaacaa.head
open Go.RowKit
open Go.Proofs.Ytcgcfgomakaacaa.aid

abbrev sv (l : List UInt8) : Value := .string ⟨l.toArray⟩
/-- lines as a slice's cells -/
def lineCells (ls : List (List UInt8 × Int)) : List Value := ls.flatMap fun x => [sv x.1, .int .u64 x.2]
def linesOf (ls : List (List UInt8 × Int)) : List UInt8 := ls.flatMap fun x => line x.1 x.2
theorem lineCells_at : ∀ (ls : List (List UInt8 × Int)) (k : Nat) (h : k < ls.length), (lineCells ls)[k * 2]? = some (sv ls[k].1) ∧ (lineCells ls)[k * 2 + 1]? = some (.int .u64 ls[k].2)
  | [], k, h => by simp at h
  | x :: r, 0, _ => ⟨rfl, rfl⟩
  | x :: r, k + 1, h => by
    have ih := lineCells_at r k (by simpa using h)
    have e : lineCells (x :: r) = sv x.1 :: .int .u64 x.2 :: lineCells r := rfl
    rw [e, show (k + 1) * 2 = k * 2 + 1 + 1 from by omega]
    simpa using ih
theorem linesOf_succ (ls : List (List UInt8 × Int)) (k : Nat) (h : k < ls.length) : linesOf (ls.take (k + 1)) = linesOf (ls.take k) ++ line ls[k].1 ls[k].2 := by
  unfold linesOf
  rw [List.take_succ_eq_append_getElem h, List.flatMap_append]
  simp only [List.flatMap_cons, List.flatMap_nil, List.append_nil]
theorem linesOf_take_len (ls : List (List UInt8 × Int)) (k : Nat) : (linesOf (ls.take k)).length ≤ (linesOf ls).length := by
  have h : linesOf ls = linesOf (ls.take k) ++ linesOf (ls.drop k) := by
    unfold linesOf
    rw [← List.flatMap_append, List.take_append_drop]
  rw [h]
  simp
theorem line_str (nm : List UInt8) (n : Int) : ByteArray.mk nm.toArray ++ ByteArray.mk #[58, 32] ++ ByteArray.mk (dig.digs n.toNat).toArray ++ ByteArray.mk #[13, 10] = ByteArray.mk (line nm n).toArray := by
  rw [show ByteArray.mk #[58, 32] = ⟨colon.toArray⟩ from rfl, show ByteArray.mk #[13, 10] = ⟨crlf.toArray⟩ from rfl, ByteArray.mk_append_mk, ByteArray.mk_append_mk, ByteArray.mk_append_mk]
  simp [line]
theorem page_below {B b : Nat} {p : Value} {l : List UInt8} {w w' : World} (h : Page B b p l w) (hb : Below w.heap.size w w') : Page B b p l w' := by
  obtain ⟨hB, v, hv, hown, hne⟩ := h
  refine ⟨hB, v, hv.below hb hv.lt, ⟨hown.1, ?_⟩, hne⟩
  rcases hown.2 with h | ⟨g, cap, cur, hv, hg, hblk, hr⟩
  · exact .inl h
  · have hlt : g < w.heap.size := (Array.getElem?_eq_some_iff.1 hblk).1
    exact .inr ⟨g, cap, cur, hv, hg, (hb.block g hlt).trans hblk, hr⟩
theorem page_base {B b : Nat} {p : Value} {l : List UInt8} {w : World} (h : Page B b p l w) : B ≤ w.heap.size := by
  obtain ⟨hB, v, hv, -⟩ := h
  have := hv.lt
  omega

theorem put_write {B b : Nat} {acc s : List UInt8} {w X x1 : World} (hX : Page B b (self b) acc X) (hbX : Below B w X) (hoX : PK b w X) (hlen : acc.length + s.length ≤ 1000000) (hb1 : Below X.heap.size X x1) (S : ByteArray) (hS : S = ⟨s.toArray⟩) :
    Calls Try.prog 21 #[.pointer (some ⟨b, 0, none⟩), .string S] x1 fun e w' => ∃ n : Int, e = .returned (.tuple #[.int .i64 n, .nilIface]) ∧ Page B b (self b) (acc ++ s) w' ∧ Below B w w' ∧ PK b w w' ∧ PK b X w' := by
  subst hS
  have hB := page_base hX
  have h1 := page_below hX hb1
  refine (write_any B b (self b) (.inr rfl) acc s x1 h1 (by omega) (page_base h1)).mono ?_
  rintro e w' ⟨n, rfl, hp, hb, hk⟩
  exact ⟨n, rfl, hp, (hbX.trans (hb1.mono hB)).trans hb, (hoX.trans (PK.below hb1 hX.lt)).trans hk, (PK.below hb1 hX.lt).trans hk⟩

set_option maxHeartbeats 1000000 in
theorem put_any (B b g : Nat) (l : List UInt8) (ls : List (List UInt8 × Int)) (w : World) (hp : Page B b (self b) l w) (hS : Blk w g 52 (lineCells ls).toArray) (hA : Apart b g w) (hf : ∀ x ∈ ls, 0 ≤ x.2 ∧ x.2 ≤ 18446744073709551615)
    (hn : ls.length ≤ 5) (hlen : l.length + (linesOf ls).length ≤ 1000000) (hBw : B ≤ w.heap.size) :
    Calls Try.prog 22 #[self b, .slice (some ⟨g, 0, none⟩) ls.length ls.length] w fun e w' => e = .returned (.tuple #[]) ∧ Page B b (self b) (l ++ linesOf ls) w' ∧ Below B w w' ∧ PK b w w' := by
  have HP := Lib.hid hp
  have HS := Lib.hid hS
  have HA := Lib.hid hA
  clear hp hS hA
  go_enter Try.func22, Try.ntmps22
  go_wp2
  go_loopw [8] (fun i wr => ∃ k : Nat, k ≤ ls.length ∧ i = .int .i64 k ∧ Page B b (self b) (l ++ linesOf (ls.take k)) wr ∧ Blk wr g 52 (lineCells ls).toArray ∧ Apart b g wr ∧ Below B w wr ∧ PK b w wr) (fun i _ => ls.length - (intOf i).toNat)
  case atStart => exact ⟨0, Nat.zero_le _, rfl, by simpa [linesOf] using HP.out, HS.out, HA.out, Below.refl _ _, PK.refl _ _⟩
  case round =>
    obtain ⟨k, hk, rfl, hpk, hSk, hAk, hbk, hok⟩ := hrel
    by_cases hlt : k < ls.length
    · have hx := hf ls[k] (List.getElem_mem hlt)
      have hsn := linesOf_succ ls k hlt
      have hll := linesOf_take_len ls (k + 1)
      rw [hsn] at hll
      have hll' : (l ++ linesOf (ls.take k)).length + (line ls[k].1 ls[k].2).length ≤ 1000000 := by
        rw [List.length_append] at hll ⊢
        omega
      have hc0 : wr.cell? ⟨g, k * 2, none⟩ = some (sv ls[k].1) := by
        rw [hSk.cell]
        simpa using (lineCells_at ls k hlt).1
      have hc1 : wr.cell? ⟨g, k * 2 + 1, none⟩ = some (.int .u64 ls[k].2) := by
        rw [hSk.cell]
        simpa using (lineCells_at ls k hlt).2
      have HSN := Lib.hid hsn
      have HLL := Lib.hid hll'
      have HPK := Lib.hid hpk
      have HSK := Lib.hid hSk
      have HBK := Lib.hid hbk
      have HOK := Lib.hid hok
      generalize ls[k] = y at *
      obtain ⟨nm, n⟩ := y
      simp only at hx hc0 hc1
      obtain ⟨hx0, hx1⟩ := hx
      have hnm : nm.length ≤ 1000000 := by
        have h := HLL.out
        simp [line] at h
        omega
      have hdl := dig.digs_len n.toNat
      have hq1 : ¬ 9223372036854775807 < nm.length + 2 := by omega
      have hq2 : ¬ 9223372036854775807 < nm.length + 2 + (dig.digs n.toNat).length := by omega
      have hq3 : ¬ 9223372036854775807 < nm.length + 2 + (dig.digs n.toNat).length + 2 := by omega
      have HX1 := Lib.hid (page_below hpk (((Below.refl wr.heap.size wr).alloc (Nat.le_refl _) (.cells #[.string ⟨nm.toArray⟩, .int .u64 n] 52)).drew))
      have HX2 := Lib.hid ((hbk.alloc (page_base hpk) (.cells #[.string ⟨nm.toArray⟩, .int .u64 n] 52)).drew)
      have HW0 := (((Below.refl wr.heap.size wr).alloc (Nat.le_refl _) (.cells #[.string ⟨nm.toArray⟩, .int .u64 n] 52)).drew)
      have HX3 := Lib.hid (hok.trans (PK.below HW0 hpk.lt))
      have HX4 : Hid (Apart b wr.heap.size (wr.alloc (.cells #[.string ⟨nm.toArray⟩, .int .u64 n] 52)).drew) := Lib.hid (Apart.new hpk _)
      have HX5 := Lib.hid (hAk.below HW0 hpk.lt)
      clear HW0
      have HE := Lib.hid (line_str nm n)
      clear hf hll hll' hsn hpk hSk hbk hok hAk HP HS HA
      unfold self
      go_wp2
      go_region_held3 (fun w' => w'.cell? ⟨wr.heap.size, 0, none⟩ = some (.string ⟨nm.toArray⟩) ∧ w'.cell? ⟨wr.heap.size, 1, none⟩ = some (.int .u64 n)) (go_keep)
        (first
          | ((with_reducible refine (put_write HX1.out HX2.out HX3.out HLL.out hb1 _ HE.out).mono ?_); rintro e x2 ⟨n', rfl, hp2, hb2, hk2, hk3⟩; have hbb := HX4.out.blk hk3 (Blk.new wr 52 #[.string ⟨nm.toArray⟩, .int .u64 n]).drew; have HP2 := Lib.hid hp2; have HB2 := Lib.hid hb2; have HK2 := Lib.hid hk2; have HK3 := Lib.hid hk3; have hq6 := hbb.cell 0; have hq7 := hbb.cell 1; clear hp2 hb2 hk2 hk3 hbb)
          | ((with_reducible refine (dig.print_int n hx0 hx1 _).mono ?_); rintro e x1 ⟨rfl, hb1⟩; have hq4 := (hb1.cell (p := ⟨wr.heap.size, 0, none⟩) (by simp)); have hq5 := (hb1.cell (p := ⟨wr.heap.size, 1, none⟩) (by simp))))
      clear hq4 hq5 hq6 hq7 hb1 hq1 hq2 hq3
      go_wp2
      go_roundw
      case rel => exact ⟨k + 1, by omega, by go_num, by rw [HSN.out, ← List.append_assoc]; exact HP2.out, HX5.out.blk HK3.out ((HSK.out.alloc _).drew), (HK3.out g HX5.out).1, HB2.out, HK2.out⟩
      case measure => simp [intOf]; omega
    · have e : ls.take k = ls := List.take_of_length_le (by omega)
      rw [e] at hpk
      have H1 := Lib.hid hpk
      have H2 := Lib.hid hbk
      have H3 := Lib.hid hok
      clear hpk hbk hok hSk hAk e
      go_wp2
      go_end0
      exact ⟨rfl, H1.out, H2.out, H3.out⟩
end Go.Proofs.Ytcgcfgomakaacaa.head
