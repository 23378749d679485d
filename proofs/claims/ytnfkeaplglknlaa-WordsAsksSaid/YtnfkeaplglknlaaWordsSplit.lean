/- words.Split, walked. -/
import Derived.Test.YtnfkeaplglknlaaWordsLay
import Derived.Test.YtnfkeaplglknlaaScopeTwo
import Derived.Laws.Entries
namespace Go.Proofs.Ytnfkeaplglknlaa.words
open Go.RowKit
open Go.Proofs.Ytnfkeaplglknlaa.aid

/-- what words.Split's variables are, at byte k -/
structure SS (b : Nat) (l : List UInt8) (T : Value) (k n m f s : Nat) (cur : List UInt8) (row : List Wd) (told_ : List (List Wd)) (O R : Value) (Br : Nat) (hs : List Value) (W : World) : Prop where
  bx : Bx b T O R (.int .i64 f) (.int .i64 k) (.complex .f64 (fl n) (fl m)) (.int .i64 s) W
  own : Own b Br hs R O row told_ W
  vis : cur ≠ [] → s = 0 ∧ f < k ∧ cur = (l.drop f).take (k - f) ∧ k - f < m
  no : cur = [] → s ≠ 0
  ne : ∀ w ∈ row, w.text ≠ []
  hk : k ≤ l.length
  hn : 1 ≤ n ∧ n ≤ k + 1
  hm : 1 ≤ m ∧ m ≤ k + 1
  hf : f ≤ k
  few : told_.length + row.length + cur.length ≤ k
theorem kp_nes {cur : List UInt8} {row : List Wd} (h : ∀ w ∈ row, w.text ≠ []) (n m : Nat) : ∀ w ∈ kp cur row n m, w.text ≠ [] := by
  by_cases hc : cur = []
  · rw [hc, kp_nil]; exact h
  · rw [kp_ne hc]
    intro w hw
    rcases List.mem_append.1 hw with hw | hw
    · exact h w hw
    · rw [List.mem_singleton] at hw
      subst hw
      exact hc
theorem kp_len (cur : List UInt8) (row : List Wd) (n m : Nat) : (kp cur row n m).length ≤ row.length + cur.length := by
  by_cases hc : cur = []
  · rw [hc, kp_nil]; omega
  · rw [kp_ne hc, List.length_append]
    have := List.length_pos_iff.2 hc
    simp
    omega
theorem ly_len (row : List Wd) : (ly row).length ≤ row.length := by
  cases h : told row with
  | true =>
    rw [ly_told h]
    have := List.length_pos_iff.2 (told_ne h)
    simp
    omega
  | false => rw [ly_not h]; simp

theorem keep_any {b : Nat} {l : List UInt8} {A : Option Addr} {c k n m f s : Nat} {cur : List UInt8} {row : List Wd} {told_ : List (List Wd)} {O R : Value} {Br : Nat} {hs : List Value} {W : World} (h : SS b l (.slice A l.length c) k n m f s cur row told_ O R Br hs W) (hr : Row W b A (u8s l)) (hc : l.length ≤ c) (hl : l.length ≤ 1048576) :
    Calls Try.prog 18 #[ptr (b + 7), ptr (b + 6), ptr (b + 5), ptr (b + 4), ptr (b + 3), ptr b] W fun e W' => e = .returned (.tuple #[]) ∧
      ∃ R', Bx b (.slice A l.length c) O R' (.int .i64 f) (.int .i64 k) (.complex .f64 (fl n) (fl m)) (.int .i64 s) W' ∧ Own b Br hs R' O (kp cur row n m) told_ W' ∧ Below b W W' := by
  have hk := h.hk
  have hn := h.hn
  have hm := h.hm
  have hw := h.few
  by_cases hcur : cur = []
  · refine (keep_no b _ O R _ _ _ s (h.no hcur) W h.bx).mono ?_
    rintro e W' ⟨rfl, rfl⟩
    refine ⟨rfl, R, h.bx, ?_, (Below.refl W'.heap.size W').mono (by have := h.bx.lt; omega)⟩
    rw [hcur, kp_nil]
    exact h.own
  · obtain ⟨rfl, hf, hcc, hmm⟩ := h.vis hcur
    refine (keep_yes b Br hs l A c O R f k n m row told_ W h.bx h.own hr hc hl hf hk hmm (by omega) (by omega) (by omega)).mono ?_
    rintro e W' ⟨rfl, R', h1, h2, h3⟩
    refine ⟨rfl, R', h1, ?_, h3⟩
    have hlen : cur.length = k - f := by rw [hcc, List.length_take, List.length_drop]; omega
    rw [kp_ne hcur, hlen, hcc]
    exact h2

/-- rows of words in memory -/
def Rws (w : World) (v : Value) (rows : List (List Wd)) : Prop :=
  ∃ A c hs, v = .slice A rows.length c ∧ Row w w.heap.size A hs ∧ hs.length = rows.length ∧ ∀ j (h : j < rows.length), ∃ g c', hs[j]? = some (.slice (some ⟨g, 0, none⟩) rows[j].length c') ∧ rows[j].length ≤ c' ∧ Row w w.heap.size (some ⟨g, 0, none⟩) (wcells rows[j])
theorem of_own {w : World} {base : Nat} {e : TypeId} {size n c : Nat} {A : Option Addr} {vs : List Value} (h : w.ownsRow base e size (.slice A n c) n vs) : Row w w.heap.size A vs := fun hn => by
  have hlen := h.1
  rcases h.2 with ⟨hv, h0⟩ | ⟨g, cap, cur, hv, hbase, hblk, hn1, hcap, hsz, htake⟩
  · exact absurd (List.eq_nil_of_length_eq_zero (by rw [hlen, h0]; simp)) hn
  · have hA : A = some ⟨g, 0, none⟩ := by injection hv
    subst hA
    have hlt : g < w.heap.size := (Array.getElem?_eq_some_iff.1 hblk).1
    refine ⟨g, 0, rfl, hlt, fun j u hu => ?_⟩
    have hj : j < n * size := by
      have := (List.getElem?_eq_some_iff.1 hu).1
      omega
    rw [Nat.zero_add, cell_of_row w g j cur e (0, 0) hblk]
    rw [← htake, List.getElem?_take, if_pos hj] at hu
    simpa using hu
theorem Own.rws {b Br : Nat} {hs : List Value} {R O : Value} {row : List Wd} {told_ : List (List Wd)} {W : World} (h : Own b Br hs R O row told_ W) : Rws W O told_ := by
  obtain ⟨A, c, rfl⟩ := own_slice h.o
  refine ⟨A, c, hs, rfl, of_own h.o, h.t.1, fun j hj => ?_⟩
  obtain ⟨g, c', cur, h1, h2, h3, h4, h5, h6⟩ := h.t.2 j hj
  refine ⟨g, c', h1, h2, fun hn => ⟨g, 0, rfl, h5.lt, fun i v hv => ?_⟩⟩
  rw [Nat.zero_add, h5.cell i]
  rw [← h6, List.getElem?_take] at hv
  split at hv
  · simpa using hv
  · cases hv
theorem Rws.below {w w' : World} {v : Value} {rows : List (List Wd)} (h : Rws w v rows) (hb : Below w.heap.size w w') : Rws w' v rows := by
  obtain ⟨A, c, hs, h1, h2, h3, h4⟩ := h
  refine ⟨A, c, hs, h1, (h2.below hb).more hb.size, h3, fun j hj => ?_⟩
  obtain ⟨g, c', p1, p2, p3⟩ := h4 j hj
  exact ⟨g, c', p1, p2, (p3.below hb).more hb.size⟩
theorem Rws.nil_ (w : World) : Rws w (.slice none 0 0) [] := ⟨none, 0, [], rfl, Row.nil_, rfl, fun j h => by simp at h⟩

abbrev SplitPost (l : List UInt8) (w : World) (e : Ending) (w' : World) : Prop := ∃ v, e = .returned (.tuple #[v, .int .u16 ((split l).err : Nat), .agg #[.int .i64 ((split l).line : Nat), .int .i64 ((split l).col : Nat)]]) ∧ Rws w' v (split l).out ∧ Below w.heap.size w w'

def kAt (b : Nat) (W : World) : Nat :=
  match W.cell? ⟨b + 5, 0, none⟩ with
  | some (.int _ z) => z.toNat
  | _ => 0
theorem SS.kAt {b : Nat} {l : List UInt8} {T : Value} {k n m f s : Nat} {cur : List UInt8} {row : List Wd} {told_ : List (List Wd)} {O R : Value} {Br : Nat} {hs : List Value} {W : World} (h : SS b l T k n m f s cur row told_ O R Br hs W) : kAt b W = k := by
  have := h.bx.k.cell 0
  simp only [words.kAt, this]
  simp

/-- at the label: a byte further -/
def Next (l : List UInt8) (A : Option Addr) (c : Nat) (w : World) (a : Act) (W : World) : Prop := ∃ (u8 u14 u15 u16 u17 u18 u19 u20 u21 u22 u23 u24 u25 u26 u27 u28 u29 u30 u31 u32 u33 u34 u35 u36 u37 u38 u39 u40 u41 u42 u43 u44 u45 u46 u47 u48 u49 u50 u51 u52 u53 u54 u55 u56 u57 u58 u59 u60 u61 u62 u63 u64 : Value) (k n m f s : Nat) (cur : List UInt8) (row : List Wd) (told_ : List (List Wd)) (O R : Value) (Br : Nat) (hs : List Value), a = ⟨List.toArray ((.slice A l.length c) :: (ptr w.heap.size) :: (.slice none 0 0) :: (.int .u16 0) :: (ptr (w.heap.size + 1)) :: (ptr (w.heap.size + 2)) :: (ptr (w.heap.size + 3)) :: (ptr (w.heap.size + 4)) :: u8 :: (ptr (w.heap.size + 5)) :: (ptr (w.heap.size + 6)) :: (ptr (w.heap.size + 7)) :: (.func (.func 18) #[] #[ptr (w.heap.size + 7), ptr (w.heap.size + 6), ptr (w.heap.size + 5), ptr (w.heap.size + 4), ptr (w.heap.size + 3), ptr w.heap.size]) :: (.func (.func 20) #[] #[ptr (w.heap.size + 3), ptr (w.heap.size + 2)]) :: u14 :: u15 :: u16 :: u17 :: u18 :: u19 :: u20 :: u21 :: u22 :: u23 :: u24 :: u25 :: u26 :: u27 :: u28 :: u29 :: u30 :: u31 :: u32 :: u33 :: u34 :: u35 :: u36 :: u37 :: u38 :: u39 :: u40 :: u41 :: u42 :: u43 :: u44 :: u45 :: u46 :: u47 :: u48 :: u49 :: u50 :: u51 :: u52 :: u53 :: u54 :: u55 :: u56 :: u57 :: u58 :: u59 :: u60 :: u61 :: u62 :: u63 :: u64 :: []), []⟩ ∧
  SS w.heap.size l (.slice A l.length c) k n m f s cur row told_ O R Br hs W ∧ scan l 1 1 [] [] [] = scan (l.drop k) n m cur row told_ ∧ Below w.heap.size w W
/-- at the label: no byte more -/
def Done (l : List UInt8) (A : Option Addr) (c : Nat) (w : World) (a : Act) (W : World) : Prop := ∃ (u8 u14 u15 u16 u17 u18 u19 u20 u21 u22 u23 u24 u25 u26 u27 u28 u29 u30 u31 u32 u33 u34 u35 u36 u37 u38 u39 u40 u41 u42 u43 u44 u45 u46 u47 u48 u49 u50 u51 u52 u53 u54 u55 u56 u57 u58 u59 u60 u61 u62 u63 u64 : Value) (k n m f s : Nat) (cur : List UInt8) (row : List Wd) (told_ : List (List Wd)) (O R : Value) (Br : Nat) (hs : List Value), a = ⟨List.toArray ((.slice A l.length c) :: (ptr w.heap.size) :: (.slice none 0 0) :: (.int .u16 0) :: (ptr (w.heap.size + 1)) :: (ptr (w.heap.size + 2)) :: (ptr (w.heap.size + 3)) :: (ptr (w.heap.size + 4)) :: u8 :: (ptr (w.heap.size + 5)) :: (ptr (w.heap.size + 6)) :: (ptr (w.heap.size + 7)) :: (.func (.func 18) #[] #[ptr (w.heap.size + 7), ptr (w.heap.size + 6), ptr (w.heap.size + 5), ptr (w.heap.size + 4), ptr (w.heap.size + 3), ptr w.heap.size]) :: (.func (.func 20) #[] #[ptr (w.heap.size + 3), ptr (w.heap.size + 2)]) :: u14 :: u15 :: u16 :: u17 :: u18 :: u19 :: u20 :: u21 :: u22 :: u23 :: u24 :: u25 :: u26 :: u27 :: u28 :: u29 :: u30 :: u31 :: u32 :: u33 :: u34 :: u35 :: u36 :: u37 :: u38 :: u39 :: u40 :: u41 :: u42 :: u43 :: u44 :: u45 :: u46 :: u47 :: u48 :: u49 :: u50 :: u51 :: u52 :: u53 :: u54 :: u55 :: u56 :: u57 :: u58 :: u59 :: u60 :: u61 :: u62 :: u63 :: u64 :: []), []⟩ ∧
  SS w.heap.size l (.slice A l.length c) k n m f s cur row told_ O R Br hs W ∧ scan l 1 1 [] [] [] = ⟨told_ ++ ly (kp cur row n m), 0, 0, 0⟩ ∧ Below w.heap.size w W
theorem next_of {l : List UInt8} {A : Option Addr} {c : Nat} {w W W' : World} {u8 u14 u15 u16 u17 u18 u19 u20 u21 u22 u23 u24 u25 u26 u27 u28 u29 u30 u31 u32 u33 u34 u35 u36 u37 u38 u39 u40 u41 u42 u43 u44 u45 u46 u47 u48 u49 u50 u51 u52 u53 u54 u55 u56 u57 u58 u59 u60 u61 u62 u63 u64 : Value} {k n m f s : Nat} {cur : List UInt8} {row : List Wd} {told_ : List (List Wd)} {O R : Value} {Br : Nat} {hs : List Value}
    (h : SS w.heap.size l (.slice A l.length c) (k + 1) n m f s cur row told_ O R Br hs W') (h1 : scan l 1 1 [] [] [] = scan (l.drop (k + 1)) n m cur row told_) (h2 : Below w.heap.size w W') (hk : k < l.length) (hka : kAt w.heap.size W = k) :
    Next l A c w ⟨List.toArray ((.slice A l.length c) :: (ptr w.heap.size) :: (.slice none 0 0) :: (.int .u16 0) :: (ptr (w.heap.size + 1)) :: (ptr (w.heap.size + 2)) :: (ptr (w.heap.size + 3)) :: (ptr (w.heap.size + 4)) :: u8 :: (ptr (w.heap.size + 5)) :: (ptr (w.heap.size + 6)) :: (ptr (w.heap.size + 7)) :: (.func (.func 18) #[] #[ptr (w.heap.size + 7), ptr (w.heap.size + 6), ptr (w.heap.size + 5), ptr (w.heap.size + 4), ptr (w.heap.size + 3), ptr w.heap.size]) :: (.func (.func 20) #[] #[ptr (w.heap.size + 3), ptr (w.heap.size + 2)]) :: u14 :: u15 :: u16 :: u17 :: u18 :: u19 :: u20 :: u21 :: u22 :: u23 :: u24 :: u25 :: u26 :: u27 :: u28 :: u29 :: u30 :: u31 :: u32 :: u33 :: u34 :: u35 :: u36 :: u37 :: u38 :: u39 :: u40 :: u41 :: u42 :: u43 :: u44 :: u45 :: u46 :: u47 :: u48 :: u49 :: u50 :: u51 :: u52 :: u53 :: u54 :: u55 :: u56 :: u57 :: u58 :: u59 :: u60 :: u61 :: u62 :: u63 :: u64 :: []), []⟩ W' ∧ l.length - kAt w.heap.size W' < l.length - kAt w.heap.size W := by
  refine ⟨⟨u8, u14, u15, u16, u17, u18, u19, u20, u21, u22, u23, u24, u25, u26, u27, u28, u29, u30, u31, u32, u33, u34, u35, u36, u37, u38, u39, u40, u41, u42, u43, u44, u45, u46, u47, u48, u49, u50, u51, u52, u53, u54, u55, u56, u57, u58, u59, u60, u61, u62, u63, u64, k + 1, n, m, f, s, cur, row, told_, O, R, Br, hs, rfl, h, h1, h2⟩, ?_⟩
  rw [h.kAt, hka]
  omega

theorem store_cx (W : World) (a : Addr) (m : Mode) (x y : Nat) : (store a (.complex .f64 x y) m).run Try.prog W = stored Try.prog W a (.complex .f64 x y) m := run_store Try.prog W a _ m rfl
theorem scan_end {x : UInt8} (h : isEnd x = true) (r : List UInt8) (n c : Nat) (cur : List UInt8) (row : List Wd) (out : List (List Wd)) : scan (x :: r) n c cur row out = scan r (n + 1) 1 [] [] (out ++ ly (kp cur row n c)) := by
  conv => lhs; unfold scan
  rw [if_pos h]
theorem scan_blank {x : UInt8} (h0 : isEnd x = false) (h : isBlank x = true) (r : List UInt8) (n c : Nat) (cur : List UInt8) (row : List Wd) (out : List (List Wd)) : scan (x :: r) n c cur row out = scan r n (c + 1) [] (kp cur row n c) out := by
  conv => lhs; unfold scan
  rw [if_neg (by simp [h0]), if_pos h]
theorem scan_vis {x : UInt8} (h0 : isEnd x = false) (h1 : isBlank x = false) (h : isVis x = true) (r : List UInt8) (n c : Nat) (cur : List UInt8) (row : List Wd) (out : List (List Wd)) : scan (x :: r) n c cur row out = scan r n (c + 1) (cur ++ [x]) row out := by
  conv => lhs; unfold scan
  rw [if_neg (by simp [h0]), if_neg (by simp [h1]), if_pos h]
theorem scan_other {x : UInt8} (h0 : isEnd x = false) (h1 : isBlank x = false) (h : isVis x = false) (r : List UInt8) (n c : Nat) (cur : List UInt8) (row : List Wd) (out : List (List Wd)) : scan (x :: r) n c cur row out = ⟨[], 20, n, c⟩ := by
  conv => lhs; unfold scan
  rw [if_neg (by simp [h0]), if_neg (by simp [h1]), if_neg (by simp [h])]
theorem kind_end {x : UInt8} (h : isEnd x = true) : kindOf x = 2 := by simp [kindOf, h]
theorem kind_blank {x : UInt8} (h0 : isEnd x = false) (h : isBlank x = true) : kindOf x = 1 := by simp [kindOf, h0, h]
theorem kind_vis {x : UInt8} (h0 : isEnd x = false) (h1 : isBlank x = false) (h : isVis x = true) : kindOf x = 0 := by simp [kindOf, h0, h1, h]
theorem kind_bad {x : UInt8} (h0 : isEnd x = false) (h1 : isBlank x = false) (h : isVis x = false) : kindOf x = 3 := by simp [kindOf, h0, h1, h]
theorem drop_at {l : List UInt8} {k : Nat} (h : k < l.length) : l.drop k = l[k] :: l.drop (k + 1) := List.drop_eq_getElem_cons h
theorem cur_more {l : List UInt8} {f k : Nat} (hf : f ≤ k) (hk : k < l.length) : (l.drop f).take (k + 1 - f) = (l.drop f).take (k - f) ++ [l[k]] := by
  rw [show k + 1 - f = k - f + 1 by omega, List.take_succ_eq_append_getElem (by rw [List.length_drop]; omega)]
  congr 2
  rw [List.getElem_drop]
  congr 1
  omega

theorem bx_start (w : World) (T : Value) : Bx w.heap.size T (.slice none 0 0) (.slice none 0 0) (.int .i64 (0 : Nat)) (.int .i64 (0 : Nat)) (.complex .f64 (fl 1) (fl 1)) (.int .i64 (1 : Nat))
    ((((((((w.alloc (.cells #[T] 22)).alloc (.cells #[.int .i64 0, .int .i64 0] 31)).alloc (.cells #[.slice none 0 0] 27)).alloc (.cells #[.slice none 0 0] 37)).alloc (.cells #[.int .i64 0] 3)).alloc (.cells #[.int .i64 0] 3)).alloc (.cells #[.complex .f64 4607182418800017408 4607182418800017408] 45)).alloc (.cells #[.int .i64 1] 3)) := by
  have e1 : fl 1 = 4607182418800017408 := fl_one
  rw [e1]
  refine ⟨?_, ?_, ?_, ?_, ?_, ?_, ?_, ?_⟩
  · exact (((((((Blk.new w _ _).alloc _).alloc _).alloc _).alloc _).alloc _).alloc _).alloc _
  all_goals
    unfold Blk
    simp only [World.alloc, Array.push_eq_push, Array.getElem?_push, Array.size_push]
    simp

set_option maxHeartbeats 16000000 in
set_option maxRecDepth 100000 in
theorem split_short (l : List UInt8) (A : Option Addr) (c : Nat) (hc : l.length ≤ c) (hl : l.length ≤ 1048576) (w : World) (hr : Row w w.heap.size A (u8s l)) :
    Calls Try.prog 12 #[.slice A l.length c] w (SplitPost l w) := by
  have HR := Lib.hid hr
  have HL := Lib.hid hl
  have HC := Lib.hid hc
  have hl' : (l.length : Int) ≤ 1048576 := by omega
  have hsp : Hid (split l = scan l 1 1 [] [] []) := Lib.hid (by unfold split; rw [if_neg (by omega)])
  clear hr hc
  go_enter Try.func12, Try.ntmps12
  go_wp2_with fail
  apply wp_scope_two (J0 := Done l A c w) (J1 := Next l A c w) (m := fun _ W => l.length - kAt w.heap.size W)
  case h0 => rfl
  case h1 => rfl
  case p0 =>
    rintro a W ⟨u8, u14, u15, u16, u17, u18, u19, u20, u21, u22, u23, u24, u25, u26, u27, u28, u29, u30, u31, u32, u33, u34, u35, u36, u37, u38, u39, u40, u41, u42, u43, u44, u45, u46, u47, u48, u49, u50, u51, u52, u53, u54, u55, u56, u57, u58, u59, u60, u61, u62, u63, u64, k, n, m, f, s, cur, row, told_, O, R, Br, hs, rfl, hss, hsc, hB⟩
    have HK := Lib.hid (keep_any hss (HR.out.below hB) HC.out HL.out)
    have HSC := Lib.hid hsc
    have HSS := Lib.hid hss
    have HB := Lib.hid hB
    clear hss hsc hB
    go_wp2_with fail
    refine HK.out.mono ?_
    rintro e W1 ⟨rfl, R1, hbx1, how1, hb1⟩
    have hnes := kp_nes (cur := cur) HSS.out.ne n m
    have hkl := kp_len cur row n m
    have hfew := HSS.out.few
    have hkk := HSS.out.hk
    have HLY := Lib.hid (lay_any w.heap.size Br hs (.slice A l.length c) O R1 _ _ _ _ (kp cur row n m) hnes (by have := HL.out; omega) told_ (by have := HL.out; omega) W1 hbx1 how1)
    have HB1 := Lib.hid (HB.out.trans (hb1.mono (Nat.le_refl _)))
    clear hbx1 how1 hb1 hnes hkl hfew hkk HK HSS HB
    go_wp2_with fail
    refine HLY.out.mono ?_
    rintro e W2 ⟨rfl, O2, Br2, hs2, hbx2, how2, hb2⟩
    have HB2 := Lib.hid (HB1.out.trans hb2)
    have HRW := Lib.hid how2.rws
    have c2 : W2.cell? ⟨w.heap.size + 2, 0, none⟩ = some O2 := hbx2.o.cell 0
    have c10 : W2.cell? ⟨w.heap.size + 1, 0, none⟩ = some (.int .i64 0) := hbx2.p.cell 0
    have c11 : W2.cell? ⟨w.heap.size + 1, 1, none⟩ = some (.int .i64 0) := hbx2.p.cell 1
    have p10 : W2.frozen? ⟨w.heap.size + 1, 0, none⟩ = false := hbx2.p.frozen 0
    have p11 : W2.frozen? ⟨w.heap.size + 1, 1, none⟩ = false := hbx2.p.frozen 1
    have HBX2 := Lib.hid hbx2
    have HOW2 := Lib.hid how2
    clear hbx2 how2 hb2 HLY HB1
    go_wp2_with fail
    rw [jumps_ret]
    have q0 : ((W2.setCell ⟨w.heap.size + 1, 0, none⟩ (.int .i64 0)).setCell ⟨w.heap.size + 1, 1, none⟩ (.int .i64 0)).cell? ⟨w.heap.size + 1, 0, none⟩ = some (.int .i64 0) := ((HBX2.out.p.set_ 0 _).set_ 1 _).cell 0
    have q1 : ((W2.setCell ⟨w.heap.size + 1, 0, none⟩ (.int .i64 0)).setCell ⟨w.heap.size + 1, 1, none⟩ (.int .i64 0)).cell? ⟨w.heap.size + 1, 1, none⟩ = some (.int .i64 0) := ((HBX2.out.p.set_ 0 _).set_ 1 _).cell 1
    refine bodyPost_ret (v := .tuple #[O2, .int .u16 0, .agg #[.int .i64 0, .int .i64 0]]) (by simp [results, Try.results12, go_sem, q0, q1]) rfl ?_
    have how := ((HOW2.out.box (grown_set W2 (w.heap.size + 1) 0 (.int .i64 0)) (by omega)).box (grown_set _ (w.heap.size + 1) 1 (.int .i64 0)) (by omega)).rws
    refine ⟨O2, ?_, ?_, ?_⟩
    · rw [hsp.out, HSC.out]
      rfl
    · rw [hsp.out, HSC.out]
      exact how
    · exact (HB2.out.setCell (p := ⟨w.heap.size + 1, 0, none⟩) (by simp) _).setCell (by simp) _
  case p1 =>
    rintro a W ⟨u8, u14, u15, u16, u17, u18, u19, u20, u21, u22, u23, u24, u25, u26, u27, u28, u29, u30, u31, u32, u33, u34, u35, u36, u37, u38, u39, u40, u41, u42, u43, u44, u45, u46, u47, u48, u49, u50, u51, u52, u53, u54, u55, u56, u57, u58, u59, u60, u61, u62, u63, u64, k, n, m, f, s, cur, row, told_, O, R, Br, hs, rfl, hss, hsc, hB⟩
    have c0 : W.cell? ⟨w.heap.size, 0, none⟩ = some (.slice A l.length c) := hss.bx.t.cell 0
    have c10 : W.cell? ⟨w.heap.size + 1, 0, none⟩ = some (.int .i64 0) := hss.bx.p.cell 0
    have c11 : W.cell? ⟨w.heap.size + 1, 1, none⟩ = some (.int .i64 0) := hss.bx.p.cell 1
    have p10 : W.frozen? ⟨w.heap.size + 1, 0, none⟩ = false := hss.bx.p.frozen 0
    have p11 : W.frozen? ⟨w.heap.size + 1, 1, none⟩ = false := hss.bx.p.frozen 1
    have c4 : W.cell? ⟨w.heap.size + 4, 0, none⟩ = some (.int .i64 f) := hss.bx.f.cell 0
    have p4 : W.frozen? ⟨w.heap.size + 4, 0, none⟩ = false := hss.bx.f.frozen 0
    have c5 : W.cell? ⟨w.heap.size + 5, 0, none⟩ = some (.int .i64 k) := hss.bx.k.cell 0
    have p5 : W.frozen? ⟨w.heap.size + 5, 0, none⟩ = false := hss.bx.k.frozen 0
    have c6 : W.cell? ⟨w.heap.size + 6, 0, none⟩ = some (.complex .f64 (fl n) (fl m)) := hss.bx.a.cell 0
    have p6 : W.frozen? ⟨w.heap.size + 6, 0, none⟩ = false := hss.bx.a.frozen 0
    have c7 : W.cell? ⟨w.heap.size + 7, 0, none⟩ = some (.int .i64 s) := hss.bx.s.cell 0
    have p7 : W.frozen? ⟨w.heap.size + 7, 0, none⟩ = false := hss.bx.s.frozen 0
    have hk := hss.hk
    have hn := hss.hn
    have hm := hss.hm
    have hf := hss.hf
    have hkat := hss.kAt
    have HSS := Lib.hid hss
    have HB := Lib.hid hB
    have HKA := Lib.hid hkat
    clear hkat
    by_cases hlt : k < l.length
    · have hlt' : (k : Int) < l.length := by omega
      have hne : ((k : Int) == (l.length : Int)) = false := beq_eq_false_iff_ne.2 (by omega)
      obtain ⟨g, o, rfl, hgb, hcl⟩ := (HR.out.below hB).at_ (k := k) (by rw [List.length_map]; exact hlt)
      obtain ⟨x, hx⟩ : ∃ x, x = l[k] := ⟨_, rfl⟩
      have cx : W.cell? ⟨g, o + k, none⟩ = some (.int .u8 (x.toNat : Int)) := by
        refine hcl k _ ?_
        rw [List.getElem?_map, List.getElem?_eq_getElem hlt, hx]
        rfl
      have HK := Lib.hid (keep_any hss (HR.out.below hB) HC.out HL.out)
      have hKK := kind_any x W
      rw [drop_at hlt, ← hx] at hsc
      have HSC := Lib.hid hsc
      have HX := Lib.hid hx
      have hcx := store_cx
      have hadd := add_at (n := n) (m := m) (by omega) (by omega)
      clear hsc hss hB hcl hx
      cases he : isEnd x with
      | true =>
        rw [kind_end he] at hKK
        have hsc := HSC.out
        rw [scan_end he] at hsc
        have HSC := Lib.hid hsc
        clear hsc
        go_wp2_with fail
        refine hKK.mono ?_
        rintro e w1 ⟨rfl, rfl⟩
        clear hKK
        go_wp2_with fail
        refine HK.out.mono ?_
        rintro e w1 ⟨rfl, R1, hbx1, how1, hb1⟩
        have d5 : w1.cell? ⟨w.heap.size + 5, 0, none⟩ = some (.int .i64 k) := hbx1.k.cell 0
        have g5 : w1.frozen? ⟨w.heap.size + 5, 0, none⟩ = false := hbx1.k.frozen 0
        have d6 : w1.cell? ⟨w.heap.size + 6, 0, none⟩ = some (.complex .f64 (fl n) (fl m)) := hbx1.a.cell 0
        have g6 : w1.frozen? ⟨w.heap.size + 6, 0, none⟩ = false := hbx1.a.frozen 0
        have d7 : w1.cell? ⟨w.heap.size + 7, 0, none⟩ = some (.int .i64 s) := hbx1.s.cell 0
        have g7 : w1.frozen? ⟨w.heap.size + 7, 0, none⟩ = false := hbx1.s.frozen 0
        have hkl := kp_len cur row n m
        have hfew := HSS.out.few
        have HLY := Lib.hid (lay_any w.heap.size Br hs (.slice (some ⟨g, o, none⟩) l.length c) O R1 _ _ _ _ (kp cur row n m) (kp_nes (cur := cur) HSS.out.ne n m) (by have := HL.out; omega) told_ (by have := HL.out; omega) (w1.setCell ⟨w.heap.size + 6, 0, none⟩ (.complex .f64 (fl n) (fl (m + 1)))) hbx1.setA (how1.set_ 6 (by omega) _))
        have HB1 := Lib.hid ((HB.out.trans (hb1.mono (Nat.le_refl _))).setCell (p := ⟨w.heap.size + 6, 0, none⟩) (by simp) (.complex .f64 (fl n) (fl (m + 1))))
        have hinc := inc_fl (n := n) (by omega)
        clear hbx1 how1 hb1 HK hkl hfew
        go_wp2_with fail
        refine HLY.out.mono ?_
        rintro e w3 ⟨rfl, O3, Br3, hs3, hbx3, how3, hb3⟩
        have q5 : w3.cell? ⟨w.heap.size + 5, 0, none⟩ = some (.int .i64 k) := hbx3.k.cell 0
        have r5 : w3.frozen? ⟨w.heap.size + 5, 0, none⟩ = false := hbx3.k.frozen 0
        have q6 : w3.cell? ⟨w.heap.size + 6, 0, none⟩ = some (.complex .f64 (fl n) (fl (m + 1))) := hbx3.a.cell 0
        have r6 : w3.frozen? ⟨w.heap.size + 6, 0, none⟩ = false := hbx3.a.frozen 0
        have q7 : w3.cell? ⟨w.heap.size + 7, 0, none⟩ = some (.int .i64 s) := hbx3.s.cell 0
        have r7 : w3.frozen? ⟨w.heap.size + 7, 0, none⟩ = false := hbx3.s.frozen 0
        have HBX3 := Lib.hid hbx3
        have HOW3 := Lib.hid how3
        have HB3 := Lib.hid (HB1.out.trans hb3)
        clear hbx3 how3 hb3 HLY HB1
        go_wp2_with fail
        go_step3
        refine .inr ⟨rfl, next_of (n := n + 1) (m := 1) (f := f) (s := 2) (cur := []) (row := []) (told_ := told_ ++ ly (kp cur row n m)) (O := O3) (R := .slice none 0 0) (Br := Br3) (hs := hs3) ?_ ?_ ?_ hlt HKA.out⟩
        · refine ⟨?_, ?_, fun h => absurd rfl h, fun _ => by omega, fun w h => by simp at h, by omega, by omega, by omega, by omega, by have := HSS.out.few; have := kp_len cur row n m; have := ly_len (kp cur row n m); simp; omega⟩
          · rw [fl_one]
            exact HBX3.out.setA.setS.setK
          · exact ((HOW3.out.set_ 6 (by omega) _).set_ 7 (by omega) _).set_ 5 (by omega) _
        · exact HSC.out
        · exact ((HB3.out.setCell (p := ⟨w.heap.size + 6, 0, none⟩) (by simp) _).setCell (p := ⟨w.heap.size + 7, 0, none⟩) (by simp) _).setCell (by simp) _
      | false =>
        cases hbl : isBlank x with
        | true =>
          rw [kind_blank he hbl] at hKK
          have hsc := HSC.out
          rw [scan_blank he hbl] at hsc
          have HSC := Lib.hid hsc
          clear hsc
          go_wp2_with fail
          refine hKK.mono ?_
          rintro e w1 ⟨rfl, rfl⟩
          clear hKK
          go_wp2_with fail
          refine HK.out.mono ?_
          rintro e w1 ⟨rfl, R1, hbx1, how1, hb1⟩
          have d5 : w1.cell? ⟨w.heap.size + 5, 0, none⟩ = some (.int .i64 k) := hbx1.k.cell 0
          have g5 : w1.frozen? ⟨w.heap.size + 5, 0, none⟩ = false := hbx1.k.frozen 0
          have d6 : w1.cell? ⟨w.heap.size + 6, 0, none⟩ = some (.complex .f64 (fl n) (fl m)) := hbx1.a.cell 0
          have g6 : w1.frozen? ⟨w.heap.size + 6, 0, none⟩ = false := hbx1.a.frozen 0
          have d7 : w1.cell? ⟨w.heap.size + 7, 0, none⟩ = some (.int .i64 s) := hbx1.s.cell 0
          have g7 : w1.frozen? ⟨w.heap.size + 7, 0, none⟩ = false := hbx1.s.frozen 0
          have HBX1 := Lib.hid hbx1
          have HOW1 := Lib.hid how1
          have HB1 := Lib.hid (HB.out.trans (hb1.mono (Nat.le_refl _)))
          clear hbx1 how1 hb1 HK
          go_wp2_with fail
          go_step3
          refine .inr ⟨rfl, next_of (n := n) (m := m + 1) (f := f) (s := 1) (cur := []) (row := kp cur row n m) (told_ := told_) (O := O) (R := R1) (Br := Br) (hs := hs) ?_ ?_ ?_ hlt HKA.out⟩
          · refine ⟨?_, ?_, fun h => absurd rfl h, fun _ => by omega, kp_nes (cur := cur) HSS.out.ne n m, by omega, by omega, by omega, by omega, by have := HSS.out.few; have := kp_len cur row n m; simp; omega⟩
            · exact HBX1.out.setA.setS.setK
            · exact ((HOW1.out.set_ 6 (by omega) _).set_ 7 (by omega) _).set_ 5 (by omega) _
          · exact HSC.out
          · exact ((HB1.out.setCell (p := ⟨w.heap.size + 6, 0, none⟩) (by simp) _).setCell (p := ⟨w.heap.size + 7, 0, none⟩) (by simp) _).setCell (by simp) _
        | false =>
          cases hv : isVis x with
          | false =>
            rw [kind_bad he hbl hv] at hKK
            have HPL := Lib.hid (place_any n m (by omega) (by omega) W)
            go_wp2_with fail
            refine hKK.mono ?_
            rintro e w1 ⟨rfl, rfl⟩
            clear hKK
            go_wp2_with fail
            refine HPL.out.mono ?_
            rintro e w1 ⟨rfl, hb1⟩
            have hbx1 := HSS.out.bx.below hb1
            have how1 := HSS.out.own.below hb1
            have c10 : w1.cell? ⟨w.heap.size + 1, 0, none⟩ = some (.int .i64 0) := hbx1.p.cell 0
            have c11 : w1.cell? ⟨w.heap.size + 1, 1, none⟩ = some (.int .i64 0) := hbx1.p.cell 1
            have p10 : w1.frozen? ⟨w.heap.size + 1, 0, none⟩ = false := hbx1.p.frozen 0
            have p11 : w1.frozen? ⟨w.heap.size + 1, 1, none⟩ = false := hbx1.p.frozen 1
            have HB1 := Lib.hid (HB.out.trans (hb1.mono HB.out.size))
            have HBX1 := Lib.hid hbx1
            clear hbx1 how1 hb1 HPL HK
            go_wp2_with fail
            rw [jumps_ret]
            have q0 : ((w1.setCell ⟨w.heap.size + 1, 0, none⟩ (.int .i64 n)).setCell ⟨w.heap.size + 1, 1, none⟩ (.int .i64 m)).cell? ⟨w.heap.size + 1, 0, none⟩ = some (.int .i64 n) := ((HBX1.out.p.set_ 0 _).set_ 1 _).cell 0
            have q1 : ((w1.setCell ⟨w.heap.size + 1, 0, none⟩ (.int .i64 n)).setCell ⟨w.heap.size + 1, 1, none⟩ (.int .i64 m)).cell? ⟨w.heap.size + 1, 1, none⟩ = some (.int .i64 m) := ((HBX1.out.p.set_ 0 _).set_ 1 _).cell 1
            refine bodyPost_ret (v := .tuple #[.slice none 0 0, .int .u16 20, .agg #[.int .i64 n, .int .i64 m]]) (by simp [results, Try.results12, go_sem, q0, q1]) rfl ?_
            have hsc := HSC.out
            rw [scan_other he hbl hv] at hsc
            refine ⟨.slice none 0 0, ?_, ?_, ?_⟩
            · rw [hsp.out, hsc]
              rfl
            · rw [hsp.out, hsc]
              exact Rws.nil_ _
            · exact (HB1.out.setCell (p := ⟨w.heap.size + 1, 0, none⟩) (by simp) _).setCell (by simp) _
          | true =>
            rw [kind_vis he hbl hv] at hKK
            have hsc := HSC.out
            rw [scan_vis he hbl hv] at hsc
            have HSC := Lib.hid hsc
            clear hsc HK
            by_cases hcur : cur = []
            · have hs0 : ((s : Int) == 0) = false := beq_eq_false_iff_ne.2 (by have := HSS.out.no hcur; omega)
              have hs1 : ((s : Int) != 0) = true := by simp [bne, hs0]
              go_wp2_with fail
              refine hKK.mono ?_
              rintro e w1 ⟨rfl, rfl⟩
              clear hKK
              go_wp2_with fail
              go_step3
              refine .inr ⟨rfl, next_of (n := n) (m := m + 1) (f := k) (s := 0) (cur := [x]) (row := row) (told_ := told_) (O := O) (R := R) (Br := Br) (hs := hs) ?_ ?_ ?_ hlt HKA.out⟩
              · refine ⟨?_, ?_, fun _ => ⟨rfl, by omega, ?_, by omega⟩, fun h => by simp at h, HSS.out.ne, by omega, by omega, by omega, by omega, by have := HSS.out.few; rw [hcur] at this; simp at this ⊢; omega⟩
                · exact HSS.out.bx.setF.setA.setS.setK
                · exact (((HSS.out.own.set_ 4 (by omega) _).set_ 6 (by omega) _).set_ 7 (by omega) _).set_ 5 (by omega) _
                · rw [cur_more (Nat.le_refl k) hlt, Nat.sub_self, HX.out]
                  rfl
              · rw [HSC.out, hcur]
                rfl
              · exact (((HB.out.setCell (p := ⟨w.heap.size + 4, 0, none⟩) (by simp) _).setCell (p := ⟨w.heap.size + 6, 0, none⟩) (by simp) _).setCell (p := ⟨w.heap.size + 7, 0, none⟩) (by simp) _).setCell (by simp) _
            · obtain ⟨rfl, hf1, hcc, hmm⟩ := HSS.out.vis hcur
              have c7' : W.cell? ⟨w.heap.size + 7, 0, none⟩ = some (.int .i64 0) := c7
              clear c7
              have HCC := Lib.hid hcc
              clear hcc
              go_wp2_with fail
              refine hKK.mono ?_
              rintro e w1 ⟨rfl, rfl⟩
              clear hKK
              go_wp2_with fail
              go_step3
              refine .inr ⟨rfl, next_of (n := n) (m := m + 1) (f := f) (s := 0) (cur := cur ++ [x]) (row := row) (told_ := told_) (O := O) (R := R) (Br := Br) (hs := hs) ?_ ?_ ?_ hlt HKA.out⟩
              · refine ⟨?_, ?_, fun _ => ⟨rfl, by omega, ?_, by omega⟩, fun h => by simp at h, HSS.out.ne, by omega, by omega, by omega, by omega, by have := HSS.out.few; simp; omega⟩
                · exact HSS.out.bx.setA.setS.setK
                · exact ((HSS.out.own.set_ 6 (by omega) _).set_ 7 (by omega) _).set_ 5 (by omega) _
                · rw [cur_more hf hlt, HX.out, ← HCC.out]
              · exact HSC.out
              · exact ((HB.out.setCell (p := ⟨w.heap.size + 6, 0, none⟩) (by simp) _).setCell (p := ⟨w.heap.size + 7, 0, none⟩) (by simp) _).setCell (by simp) _
    · obtain rfl : k = l.length := by omega
      rw [List.drop_length] at hsc
      have HSC := Lib.hid hsc
      clear hsc hss hB
      go_wp2_with fail
      go_step3
      exact .inl ⟨rfl, _, _, _, _, _, _, _, _, _, _, _, _, _, _, _, _, _, _, _, _, _, _, _, _, _, _, _, _, _, _, _, _, _, _, _, _, _, _, _, _, _, _, _, _, _, _, _, _, _, _, _, _, l.length, n, m, f, s, cur, row, told_, O, R, Br, hs, rfl, HSS.out, HSC.out, HB.out⟩
  case first =>
    intro HP
    have hcx := store_cx
    have c0 : ((w.alloc (.cells #[.slice A l.length c] 22)).alloc (.cells #[.int .i64 0, .int .i64 0] 31)).cell? ⟨w.heap.size, 0, none⟩ = some (.slice A l.length c) := ((Blk.new w _ _).alloc _).cell 0
    go_wp2_with fail
    rename_i K1 hK1
    go_step3
    refine hK1 _ _ (HP.out _ _ ?_)
    refine ⟨_, _, _, _, _, _, _, _, _, _, _, _, _, _, _, _, _, _, _, _, _, _, _, _, _, _, _, _, _, _, _, _, _, _, _, _, _, _, _, _, _, _, _, _, _, _, _, _, _, _, _, _, 0, 1, 1, 0, 1, [], [], [], .slice none 0 0, .slice none 0 0, w.heap.size + 8, [], rfl, ?_, ?_, ?_⟩
    · have hbx := bx_start w (.slice A l.length c)
      exact ⟨hbx, ⟨Nat.le_refl _, hbx.lt, World.ownsRow_nil _ _ _ _, World.ownsRow_nil _ _ _ _, TR.nil _ _ _⟩, fun h => absurd rfl h, fun _ => by omega, fun w h => by simp at h, by omega, by omega, by omega, by omega, by simp⟩
    · rfl
    · exact (((((((((Below.refl w.heap.size w).alloc (Nat.le_refl _) _).alloc (by simp) _).alloc (by simp; omega) _).alloc (by simp; omega) _).alloc (by simp; omega) _).alloc (by simp; omega) _).alloc (by simp; omega) _).alloc (by simp; omega) _)

end Go.Proofs.Ytnfkeaplglknlaa.words
