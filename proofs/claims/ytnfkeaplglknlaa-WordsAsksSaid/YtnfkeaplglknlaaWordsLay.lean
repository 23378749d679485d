/- words.Split: its second closure, walked. -/
import Derived.Test.YtnfkeaplglknlaaWordsKeep
import Derived.Test.YtnfkeaplglknlaaAppend
import Derived.Laws.OwnMore
namespace Go.Proofs.Ytnfkeaplglknlaa.words
open Go.RowKit
open Go.Proofs.Ytnfkeaplglknlaa.aid

abbrev LayPost (b : Nat) (T F K P S : Value) (row : List Wd) (told_ : List (List Wd)) (W : World) (e : Ending) (W' : World) : Prop :=
  e = .returned (.tuple #[]) ∧ ∃ O' Br' hs', Bx b T O' (.slice none 0 0) F K P S W' ∧ Own b Br' hs' (.slice none 0 0) O' [] (told_ ++ ly row) W' ∧ Below b W W'

set_option maxHeartbeats 1000000 in
theorem lay_nil (b Br : Nat) (hs : List Value) (T O R F K P S : Value) (told_ : List (List Wd)) (W : World) (hbx : Bx b T O R F K P S W) (how : Own b Br hs R O [] told_ W) :
    Calls Try.prog 20 #[ptr (b + 3), ptr (b + 2)] W (LayPost b T F K P S [] told_ W) := by
  obtain ⟨A, c, rfl⟩ := own_slice how.r
  have c3 : W.cell? ⟨b + 3, 0, none⟩ = some (.slice A 0 c) := hbx.r.cell 0
  have p3 : W.frozen? ⟨b + 3, 0, none⟩ = false := hbx.r.frozen 0
  have HBX := Lib.hid hbx
  have HOW := Lib.hid how
  have HL := Lib.hid hbx.lt
  clear hbx how
  go_enter Try.func20, Try.ntmps20
  go_wp2
  go_end0
  refine ⟨rfl, O, Br, hs, HBX.out.setR, ?_, ?_⟩
  · rw [ly_not rfl, List.append_nil]
    exact (HOW.out.none_).set_ 3 (by omega) _
  · exact Below.setCell ((Below.refl W.heap.size W).mono (by have := HL.out; omega)) (by simp) _

set_option maxHeartbeats 1000000 in
theorem lay_hash (b Br : Nat) (hs : List Value) (T O R F K P S : Value) (x : Wd) (r : List Wd) (t : List UInt8) (hx : x.text = 35 :: t) (hrl : r.length ≤ 2097152) (told_ : List (List Wd)) (W : World) (hbx : Bx b T O R F K P S W) (how : Own b Br hs R O (x :: r) told_ W) :
    Calls Try.prog 20 #[ptr (b + 3), ptr (b + 2)] W (LayPost b T F K P S (x :: r) told_ W) := by
  obtain ⟨g, c, rfl, hg0, hg1⟩ := how.r.form (by simp)
  have c3 : W.cell? ⟨b + 3, 0, none⟩ = some (.slice (some ⟨g, 0, none⟩) (x :: r).length c) := hbx.r.cell 0
  have p3 : W.frozen? ⟨b + 3, 0, none⟩ = false := hbx.r.frozen 0
  obtain ⟨s, hs0⟩ : ∃ s : ByteArray, s = ⟨(35 :: t).toArray⟩ := ⟨_, rfl⟩
  have e0 : W.cell? ⟨g, 0, none⟩ = some (.string s) := by
    rw [how.r.cellAt 0 (by simp), hs0, ← hx]
    rfl
  have hsz : 0 < s.size := by rw [hs0]; simp [ByteArray.size]
  have hsz' : (0 : Int) < s.size := by omega
  have h35 : ((s[0].toNat : Int) == 35) = true := by
    subst hs0
    rfl
  have HBX := Lib.hid hbx
  have HOW := Lib.hid how
  have HL := Lib.hid hbx.lt
  have HX := Lib.hid hx
  obtain ⟨n, hn⟩ : ∃ n, n = (x :: r).length := ⟨_, rfl⟩
  have hn1 : 0 < n := by rw [hn]; simp
  have hn1' : (0 : Int) < n := by omega
  have hn2 : n ≤ 2097153 := by rw [hn]; simp; omega
  rw [← hn] at c3
  clear hbx how hs0 hx hn hrl hg0 hg1
  go_enter Try.func20, Try.ntmps20
  go_wp2
  go_end0
  refine ⟨rfl, O, Br, hs, HBX.out.setR, ?_, ?_⟩
  · rw [ly_not (by simp [told, HX.out]), List.append_nil]
    exact (HOW.out.none_).set_ 3 (by omega) _
  · exact Below.setCell ((Below.refl W.heap.size W).mono (by have := HL.out; omega)) (by simp) _

set_option maxHeartbeats 2000000 in
theorem lay_told (b Br : Nat) (hs : List Value) (T O R F K P S : Value) (x : Wd) (r : List Wd) (y : UInt8) (t : List UInt8) (hx : x.text = y :: t) (hy : y ≠ 35) (hrl : r.length ≤ 2097152) (told_ : List (List Wd)) (htl : told_.length ≤ 2097152) (W : World) (hbx : Bx b T O R F K P S W) (how : Own b Br hs R O (x :: r) told_ W) :
    Calls Try.prog 20 #[ptr (b + 3), ptr (b + 2)] W (LayPost b T F K P S (x :: r) told_ W) := by
  obtain ⟨g, c, rfl, hg0, hg1⟩ := how.r.form (by simp)
  have c3 : W.cell? ⟨b + 3, 0, none⟩ = some (.slice (some ⟨g, 0, none⟩) (x :: r).length c) := hbx.r.cell 0
  have c2 : W.cell? ⟨b + 2, 0, none⟩ = some O := hbx.o.cell 0
  obtain ⟨s, hs0⟩ : ∃ s : ByteArray, s = ⟨(y :: t).toArray⟩ := ⟨_, rfl⟩
  have e0 : W.cell? ⟨g, 0, none⟩ = some (.string s) := by
    rw [how.r.cellAt 0 (by simp), hs0, ← hx]
    rfl
  have hsz : 0 < s.size := by rw [hs0]; simp [ByteArray.size]
  have hsz' : (0 : Int) < s.size := by omega
  have h35 : ((s[0].toNat : Int) != 35) = true := by
    subst hs0
    show ((y.toNat : Int) != 35) = true
    rw [bne_iff_ne]
    intro h
    exact hy (UInt8.toNat_inj.1 (by show y.toNat = 35; omega))
  have HBX := Lib.hid hbx
  have HOW := Lib.hid how
  have HL := Lib.hid hbx.lt
  have HX := Lib.hid hx
  have HY := Lib.hid hy
  obtain ⟨n, hn⟩ : ∃ n, n = (x :: r).length := ⟨_, rfl⟩
  have hn1 : 0 < n := by rw [hn]; simp
  have hn1' : (0 : Int) < n := by omega
  have hn2 : n ≤ 2097153 := by rw [hn]; simp; omega
  have HN := Lib.hid hn
  rw [← hn] at c3
  obtain ⟨i0, hi0, hz0, hz1, hz2⟩ := info_parts words_info
  have HTL := Lib.hid htl
  clear hbx how hs0 hx hn hrl hg0 hg1 hy htl
  have hba : Below W.heap.size W (W.alloc (.cells #[.slice (some ⟨g, 0, none⟩) n c] 37)) := (Below.refl _ _).alloc (Nat.le_refl _) _
  have HBA := Lib.hid hba
  have HOA := Lib.hid (HOW.out.below hba)
  have HBXA := Lib.hid (HBX.out.below hba)
  clear hba
  go_enter Try.func20, Try.ntmps20
  go_wp2_with (at_builtin; refine wpList_append_row _ rfl (.tmp 13) (.tmp 15) 27 rfl (b + 8) 37 i0 _ 24 rfl hi0 hz0 hz1 hz2 rfl O told_.length hs rfl HOA.out.o _ (some ⟨W.heap.size, 0, none⟩) 1 1 [.slice (some ⟨g, 0, none⟩) n c] rfl rfl (Row.new W 37 #[.slice (some ⟨g, 0, none⟩) n c]) (by simp [Value.oneCell']) (by have := HTL.out; unfold maxLen; omega) (by have := HTL.out; omega) (by have := HL.out; have := HBA.out.size; omega) ?_; intro v1 w3 hown3 hg3 hat3; obtain ⟨gv, cv, rfl, -, -⟩ := hown3.form (by omega); have hbx3 := HBXA.out.grow hg3 (fun k hk => (own_lt HOA.out.o hk).1); have d2 : w3.cell? ⟨b + 2, 0, none⟩ = some O := hbx3.o.cell 0; have p2 : w3.frozen? ⟨b + 2, 0, none⟩ = false := hbx3.o.frozen 0; have d3 : w3.cell? ⟨b + 3, 0, none⟩ = some (.slice (some ⟨g, 0, none⟩) n c) := (by rw [HN.out]; exact hbx3.r.cell 0); have p3 : w3.frozen? ⟨b + 3, 0, none⟩ = false := hbx3.r.frozen 0; have HBX3 := Lib.hid hbx3; have HG3 := Lib.hid hg3; have HW3 := Lib.hid hown3; clear hown3 hg3 hat3 hbx3)
  go_end0
  have hg3 := HG3.out
  have hown3 := HW3.out
  have hl := HOA.out.lay (W' := w3) hg3 (by simp) (O' := .slice (some ⟨gv, 0, none⟩) (told_.length + 1) cv) (by rw [← HN.out]; exact hown3)
  refine ⟨rfl, .slice (some ⟨gv, 0, none⟩) (told_.length + 1) cv, w3.heap.size, hs ++ [.slice (some ⟨g, 0, none⟩) (x :: r).length c], HBX3.out.setO.setR, ?_, ?_⟩
  · rw [ly_told (by simp [told, HX.out, HY.out])]
    exact (hl.set_ 2 (by omega) _).set_ 3 (by omega) _
  · have hb3 : Below b W w3 := (HBA.out.mono (by have := HL.out; omega)).grown hg3 (by have := HL.out; have := HBA.out.size; omega) (fun k hk => by have := (own_lt HOA.out.o hk).1; omega)
    exact Below.setCell (hb3.setCell (p := ⟨b + 2, 0, none⟩) (by simp) _) (by simp) _
theorem lay_any (b Br : Nat) (hs : List Value) (T O R F K P S : Value) (row : List Wd) (hne : ∀ w ∈ row, w.text ≠ []) (hrl : row.length ≤ 2097152) (told_ : List (List Wd)) (htl : told_.length ≤ 2097152) (W : World) (hbx : Bx b T O R F K P S W) (how : Own b Br hs R O row told_ W) :
    Calls Try.prog 20 #[ptr (b + 3), ptr (b + 2)] W (LayPost b T F K P S row told_ W) := by
  match row, hne, hrl, how with
  | [], _, _, how => exact lay_nil b Br hs T O R F K P S told_ W hbx how
  | x :: r, hne, hrl, how =>
    have hx := hne x (List.mem_cons_self ..)
    cases hc : x.text with
    | nil => exact absurd hc hx
    | cons y t =>
      by_cases hy : y = 35
      · subst hy
        exact lay_hash b Br hs T O R F K P S x r t hc (by simp at hrl; omega) told_ W hbx how
      · exact lay_told b Br hs T O R F K P S x r y t hc hy (by simp at hrl; omega) told_ htl W hbx how
end Go.Proofs.Ytnfkeaplglknlaa.words
