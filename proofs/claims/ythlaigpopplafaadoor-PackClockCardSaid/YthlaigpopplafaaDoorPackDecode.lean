/- pack.Decode, walked. -/
import Derived.Test.YthlaigpopplafaaDoorPackEntry
import Derived.Deep.RegionLaw
import Derived.Deep.AppendLies
import Derived.Outline
namespace Go.Proofs.YthlaigpopplafaaDoor.pack
open Go.RowKit
open Go.Proofs.YthlaigpopplafaaDoor.aid
open Go.Proofs.YthlaigpopplafaaDoor.key (right less)

/-- at the label: what goes wrong -/
def Wrong (l : List UInt8) (w : World) (a : Act) (W : World) : Prop := ∃ (err : Nat) (u0 u1 u3 u4 u5 u6 u7 u9 u10 u11 u12 u13 u14 u15 u16 u17 u18 u19 u20 u21 u22 u23 u24 u25 u26 u27 u28 u29 u30 u31 u32 u33 u34 u35 u36 u37 u38 u39 u40 u41 u42 u43 u44 u45 u46 u47 u48 u49 u50 u51 u52 u53 u54 : Value), a = ⟨#[u0, u1, .pointer (some ⟨w.heap.size, 0, none⟩), u3, u4, u5, u6, u7, .int .u16 (err : Nat), u9, u10, u11, u12, u13, u14, u15, u16, u17, u18, u19, u20, u21, u22, u23, u24, u25, u26, u27, u28, u29, u30, u31, u32, u33, u34, u35, u36, u37, u38, u39, u40, u41, u42, u43, u44, u45, u46, u47, u48, u49, u50, u51, u52, u53, u54], []⟩ ∧ err ≤ 65535 ∧ decode l = (nosnap, err) ∧ Blk W w.heap.size 25 #[.int .u64 0, .slice none 0 0] ∧ Below w.heap.size w W
def ecells (es : List Ent) : List Value := es.flatMap fun e => [.string ⟨e.key.toArray⟩, .int .u64 (e.till : Nat)]
theorem ecells_snoc (es : List Ent) (e : Ent) : ecells (es ++ [e]) = ecells es ++ [.string ⟨e.key.toArray⟩, .int .u64 (e.till : Nat)] := by simp [ecells]
def DecPost (l : List UInt8) (w : World) (e : Ending) (w' : World) : Prop := ∃ v, e = .returned (.tuple #[.agg #[.int .u64 ((decode l).1.clock : Nat), v], .int .u16 ((decode l).2 : Nat)]) ∧ w'.ownsRow w.heap.size 31 2 v (decode l).1.es.length (ecells (decode l).1.es) ∧ Below w.heap.size w w'

structure St (w : World) (cs : Array Value) (W : World) : Prop where
  res : Blk W w.heap.size 25 #[.int .u64 0, .slice none 0 0]
  s : Blk W (w.heap.size + 1) 25 cs
  bel : Below w.heap.size w W
  siz : w.heap.size + 1 + 1 < W.heap.size
section
variable {w W W' : World} {cs : Array Value}
theorem St.grown (h : St w cs W) (hg : W.grownBy W' (some (w.heap.size + 1 + 1))) : St w cs W' :=
  ⟨h.res.grown hg (by simp; omega), h.s.grown hg (by simp), h.bel.grown hg (by have := h.siz; omega) (fun k hk => by cases hk; omega), by have := h.siz; have := hg.size; omega⟩
theorem St.grow {row : Option Nat} (h : St w cs W) (hg : W.grownBy W' row) (hr : ∀ k, row = some k → w.heap.size ≤ k ∧ k ≠ w.heap.size ∧ k ≠ w.heap.size + 1) : St w cs W' :=
  ⟨h.res.grown hg (fun e => (hr _ e.symm).2.1 rfl), h.s.grown hg (fun e => (hr _ e.symm).2.2 rfl), h.bel.grown hg (by have := h.siz; omega) (fun k hk => (hr k hk).1), by have := h.siz; have := hg.size; omega⟩
theorem St.alloc (h : St w cs W) (o : Obj) : St w cs (W.alloc o) := h.grown (World.grownBy_alloc _ _ _)
theorem St.drew (h : St w cs W) : St w cs W.drew := ⟨h.res, h.s, h.bel.drew, h.siz⟩
theorem St.set_ (h : St w cs W) (i : Nat) (v : Value) : St w (cs.setIfInBounds i v) (W.setCell ⟨w.heap.size + 1, i, none⟩ v) :=
  ⟨h.res.far (by simp) v, h.s.set_ i v, h.bel.setCell (by simp) v, by simpa [World.setCell] using h.siz⟩
theorem St.far (h : St w cs W) (p : Addr) (hp : w.heap.size + 1 < p.block) (v : Value) : St w cs (W.setCell p v) :=
  ⟨h.res.far (by omega) v, h.s.far (by omega) v, h.bel.setCell (by omega) v, by simpa [World.setCell] using h.siz⟩
end
theorem Rd.grow {w w' : World} {b B : Nat} {l : List UInt8} {lk : Bool} {row : Option Nat} (h : Rd w b B l lk) (hg : w.grownBy w' row) (hr : ∀ k, row = some k → B ≤ k ∧ k ≠ b) : Rd w' b B l lk := by
  obtain ⟨A, c, h1, h2, h3, h4⟩ := h
  refine ⟨A, c, h1.grown hg (fun e => (hr _ e.symm).2 rfl), h2, fun hn => ?_, h4⟩
  obtain ⟨g, off, e, hlt, hc⟩ := h3 hn
  exact ⟨g, off, e, hlt, fun j u hu => hg.cell (hc j u hu) (fun e => by have := (hr _ e.symm).1; simp at this; omega)⟩
theorem dec_lack {k : Nat} {l last : List UInt8} {acc : List Ent} (h : ∀ x r, l = x :: r → r.length < x.toNat + 8) : dec (k + 1) l last acc = ([], [], 41) := by
  cases l with
  | nil => rfl
  | cons x r => rw [dec, if_pos (h x r rfl)]
theorem decode_err {l : List UInt8} {es : List Ent} {t : List UInt8} {e : Nat} (h4 : l.take 4 = magic) (h16 : 16 ≤ l.length) (h : dec (num ((l.drop 12).take 4)) (l.drop 16) [] [] = (es, t, e)) (he : e ≠ 0) : decode l = (nosnap, e) := by
  unfold decode
  rw [h, if_neg (by simp [h4]), if_neg (by omega), if_pos he]
theorem decode_tail {l : List UInt8} {es : List Ent} {t : List UInt8} (h4 : l.take 4 = magic) (h16 : 16 ≤ l.length) (h : dec (num ((l.drop 12).take 4)) (l.drop 16) [] [] = (es, t, 0)) (ht : t ≠ []) : decode l = (nosnap, 43) := by
  unfold decode
  rw [h, if_neg (by simp [h4]), if_neg (by omega), if_neg (by simp), if_pos ht]
theorem decode_fine {l : List UInt8} {es : List Ent} (h4 : l.take 4 = magic) (h16 : 16 ≤ l.length) (h : dec (num ((l.drop 12).take 4)) (l.drop 16) [] [] = (es, [], 0)) : decode l = (⟨num ((l.drop 4).take 8), es⟩, 0) := by
  unfold decode
  rw [h, if_neg (by simp [h4]), if_neg (by omega), if_neg (by simp), if_neg (by simp)]
theorem decode_mag {l : List UInt8} (h : ¬ l.take 4 = magic) : decode l = (nosnap, 40) := by
  unfold decode
  rw [if_pos h]
theorem decode_16 {l : List UInt8} (h4 : l.take 4 = magic) (h : l.length < 16) : decode l = (nosnap, 41) := by
  unfold decode
  rw [if_neg (by simp [h4]), if_pos h]
def DLoop (l : List UInt8) (w : World) (u6 u7 : Value) (wr : World) : Prop := ∃ (last : List UInt8) (many : Nat) (rest : List UInt8) (acc : List Ent) (v : Value), u6 = .string ⟨last.toArray⟩ ∧ u7 = .int .u64 (many : Nat) ∧
  St w #[.int .u64 (num ((l.drop 4).take 8) : Nat), v] wr ∧ wr.ownsRow w.heap.size 31 2 v acc.length (ecells acc) ∧ Rd wr (w.heap.size + 1 + 1) w.heap.size rest false ∧ last.length ≤ 128 ∧ acc.length + rest.length ≤ l.length ∧ many ≤ 4294967295 ∧
  dec (num ((l.drop 12).take 4)) (l.drop 16) [] [] = dec many rest last acc
theorem own_slice {w : World} {base : Nat} {e : TypeId} {size : Nat} {v : Value} {n : Nat} {xs : List Value} (h : w.ownsRow base e size v n xs) : ∃ A c, v = .slice A n c := by
  rcases h.2 with ⟨rfl, rfl⟩ | ⟨g, cap, cur, rfl, _⟩
  · exact ⟨none, 0, rfl⟩
  · exact ⟨_, _, rfl⟩
theorem ent_info : (Tryd.prog.info? 31).map (fun i => (i.zero, i.size, i.bytes)) = some (some (.agg #[.string ⟨#[]⟩, .int .u64 0]), 2, 24) := by kernel_rfl

set_option maxRecDepth 100000 in
set_option maxHeartbeats 2000000 in
theorem decode_x (l : List UInt8) (A : Option Addr) (c : Nat) (w : World) (hc : l.length ≤ c) (hlt : l.length ≤ 100000) (hr : Row w w.heap.size A (u8s l)) :
    Calls Tryd.prog 17 #[.slice A l.length c] w (DecPost l w) := by
  have hl : l.length ≤ 9223372036854775807 := by omega
  go_enter Tryd.func17, Tryd.ntmps17
  go_wp2_with fail
  refine wp_scope_once 0 (fun a' w' => Wrong l w a' w') (fun _ _ => 0) rfl ?_ ?_
  · rintro a' w' ⟨err, u0, u1, u3, u4, u5, u6, u7, u9, u10, u11, u12, u13, u14, u15, u16, u17, u18, u19, u20, u21, u22, u23, u24, u25, u26, u27, u28, u29, u30, u31, u32, u33, u34, u35, u36, u37, u38, u39, u40, u41, u42, u43, u44, u45, u46, u47, u48, u49, u50, u51, u52, u53, u54, rfl, he, hd, hb, hB⟩
    have c0 : w'.cell? ⟨w.heap.size, 0, none⟩ = some (.int .u64 0) := hb.cell 0
    have c1 : w'.cell? ⟨w.heap.size, 1, none⟩ = some (.slice none 0 0) := hb.cell 1
    have f0 := hb.frozen 0
    have f1 := hb.frozen 1
    have HD := Lib.hid hd
    have HB := Lib.hid hb
    clear hb hd
    go_wp2
    rw [jump_ret]
    refine bodyPost_ret (v := .tuple #[.agg #[.int .u64 0, .slice none 0 0], .int .u16 (err : Nat)]) (by simp [results, Tryd.results17, go_sem, c0, c1, f0, f1]) rfl ?_
    have h2 := HD.out
    refine ⟨.slice none 0 0, by rw [h2]; rfl, ?_, (hB.setCell (p := ⟨w.heap.size, 0, none⟩) (Nat.le_refl _) _).setCell (p := ⟨w.heap.size, 1, none⟩) (Nat.le_refl _) _⟩
    rw [h2]
    exact World.ownsRow_nil _ _ _ _
  · intro HR
    go_wp2_with fail
    have hrd0 := Lib.hid (show Rd (((w.alloc (.cells #[.int .u64 0, .slice none 0 0] 25)).alloc (.cells #[.int .u64 0, .slice none 0 0] 25)).alloc (.cells #[.slice A l.length c, .bool false] 75)) (w.heap.size + 1 + 1) w.heap.size l false from
      ⟨A, c, by have := Blk.new ((w.alloc (.cells #[.int .u64 0, .slice none 0 0] 25)).alloc (.cells #[.int .u64 0, .slice none 0 0] 25)) 75 #[.slice A l.length c, .bool false]; simpa using this, hc, hr.below ((((Below.refl _ _).alloc (Nat.le_refl _) _).alloc (by simp) _).alloc (by simp; omega) _), by omega⟩)
    have hst0 := Lib.hid (show St w #[.int .u64 0, .slice none 0 0] (((w.alloc (.cells #[.int .u64 0, .slice none 0 0] 25)).alloc (.cells #[.int .u64 0, .slice none 0 0] 25)).alloc (.cells #[.slice A l.length c, .bool false] 75)) from
      ⟨((Blk.new w 25 _).alloc _).alloc _, by have := (Blk.new (w.alloc (.cells #[.int .u64 0, .slice none 0 0] 25)) 25 #[.int .u64 0, .slice none 0 0]).alloc (.cells #[.slice A l.length c, .bool false] 75); simpa using this, (((Below.refl _ _).alloc (Nat.le_refl _) _).alloc (by simp) _).alloc (by simp; omega) _, by simp⟩)
    have hlen := Lib.hid hlt
    clear hlt hr
    by_cases hmag : l.take 4 = magic
    · have h4 : 4 ≤ l.length := by
        have := congrArg List.length hmag
        rw [List.length_take] at this
        simp [magic] at this
        omega
      refine (take_yes hrd0.out 4 h4).mono ?_
      rintro e w1 ⟨A1, rfl, hrow, hrd, hg⟩
      rw [hmag] at hrow
      have hcv : (convert 26 9 (.slice A1 4 4)).run Tryd.prog w1 = .ok (.string ⟨#[84, 76, 82, 49]⟩) w1 := row_string (l := magic) (c := 4) hrow
      have HR1 := Lib.hid hrd
      have HS1 := Lib.hid (hst0.out.grown hg)
      have HM := Lib.hid hmag
      clear hrow hrd hg hrd0 hmag hst0
      by_cases h16 : l.length < 16
      · go_wp2_with fail
        refine (number_any HR1.out 8 (by rw [List.length_drop]; omega) (.inr (.inr rfl))).mono ?_
        rintro e w2 ⟨n1, l2, lk2, rfl, hn1, hrd, hg, hf2, hl2⟩
        have HR2 := Lib.hid hrd
        have HS2 := Lib.hid (HS1.out.grown hg)
        have HF2 := Lib.hid hf2
        have HL2 := Lib.hid hl2
        have hn1' : (n1 : Int) ≤ 18446744073709551615 := by simp only [Nat.reducePow] at hn1; omega
        clear hrd hg hf2 hl2 HR1 HS1 hn1 hcv
        go_wp2_with fail
        refine (number_any HR2.out 4 (by have := HL2.out; rw [List.length_drop] at this; omega) (.inr (.inl rfl))).mono ?_
        rintro e w3 ⟨n2, l3, lk3, rfl, hn2, hrd, hg, hf3, -⟩
        have hlk : lk3 = true := by
          cases lk3 with
          | true => rfl
          | false =>
            exfalso
            obtain ⟨h1, h2, -⟩ := hf3 rfl
            obtain ⟨-, h5, h6, -⟩ := HF2.out h1
            subst h6
            simp only [List.length_drop] at h2 h5
            omega
        subst hlk
        have HR3 := Lib.hid hrd
        have HS3 := Lib.hid (HS2.out.grown hg)
        have hn2' : (n2 : Int) ≤ 4294967295 := by simp only [Nat.reducePow] at hn2; omega
        clear hrd hg hf3 HR2 HS2 hn2 HF2 HL2
        have cl := HR3.out.lacks
        have c0 : w3.cell? ⟨w.heap.size + 1, 0, none⟩ = some (.int .u64 0) := HS3.out.s.cell 0
        have f0 := HS3.out.s.frozen 0
        go_wp2_with fail
        go_step3
        refine ⟨rfl, 41, _, _, _, _, _, _, _, _, _, _, _, _, _, _, _, _, _, _, _, _, _, _, _, _, _, _, _, _, _, _, _, _, _, _, _, _, _, _, _, _, _, _, _, _, _, _, _, _, _, _, _, _, _, rfl, by omega, decode_16 HM.out h16, (HS3.out.set_ 0 (.int .u64 n1)).res, (HS3.out.set_ 0 (.int .u64 n1)).bel⟩
      · have h16' : 16 ≤ l.length := by omega
        clear h16
        go_wp2_with fail
        refine (number_yes HR1.out 8 (by omega) (by rw [List.length_drop]; omega)).mono ?_
        rintro e w2 ⟨rfl, hrd, hg⟩
        have HR2 := Lib.hid hrd
        have HS2 := Lib.hid (HS1.out.grown hg)
        have hn1 := num_take_lt (l.drop 4) 8 (by omega)
        obtain ⟨n1, hn1e⟩ : ∃ n1, n1 = num ((l.drop 4).take 8) := ⟨_, rfl⟩
        have HN1 := Lib.hid hn1e
        rw [← hn1e] at hn1 ⊢
        clear hrd hg HR1 HS1 hcv hn1e
        go_wp2_with fail
        refine (number_yes HR2.out 4 (by omega) (by rw [List.length_drop, List.length_drop]; omega)).mono ?_
        rintro e w3 ⟨rfl, hrd, hg⟩
        rw [show ((l.drop 4).drop 8).drop 4 = l.drop 16 from by rw [List.drop_drop, List.drop_drop]] at hrd
        rw [show (l.drop 4).drop 8 = l.drop 12 from by rw [List.drop_drop]]
        have HR3 := Lib.hid hrd
        have HS3 := Lib.hid (HS2.out.grown hg)
        have hn2 := num_lt ((l.drop 12).take 4)
        rw [show ((l.drop 12).take 4).length = 4 from by rw [List.length_take, List.length_drop]; omega] at hn2
        obtain ⟨n2, hn2e⟩ : ∃ n2, n2 = num ((l.drop 12).take 4) := ⟨_, rfl⟩
        have HN2 := Lib.hid hn2e
        rw [← hn2e] at hn2 ⊢
        have hn2' : (n2 : Int) ≤ 4294967295 := by simp only [Nat.reducePow] at hn2; omega
        clear hrd hg HR2 HS2 hn2e hn2
        have cl := HR3.out.lacks
        have c0 : w3.cell? ⟨w.heap.size + 1, 0, none⟩ = some (.int .u64 0) := HS3.out.s.cell 0
        have f0 := HS3.out.s.frozen 0
        go_wp2_with fail
        go_loopw [6, 7] (fun u6 u7 wr => DLoop l w u6 u7 wr) (fun _ m _ => (intOf m).toNat)
        case atStart => exact ⟨[], n2, l.drop 16, [], .slice none 0 0, rfl, rfl, by rw [← HN1.out]; exact HS3.out.set_ 0 (.int .u64 n1), World.ownsRow_nil _ _ _ _, HR3.out.far _ (by simp) (by simp) _, by simp, by rw [List.length_drop]; simp, by omega, by rw [← HN2.out]⟩
        case round =>
          obtain ⟨last, many, rest, acc, v, rfl, rfl, hst, hown, hrd, hlast, hlen2, hmany, hdec⟩ := hrel
          obtain ⟨Av, cv, rfl⟩ := own_slice hown
          have HDEC := Lib.hid hdec
          have HST := Lib.hid hst
          have HOW := Lib.hid hown
          have HRD := Lib.hid hrd
          have hlr := Lib.hid hlen2
          clear hdec hst hown hrd HN1 HN2 HR3 HS3 cl c0 f0 hlen2
          cases many with
          | zero =>
            obtain ⟨A', c', hrb, -⟩ := id HRD.out
            have c1 : wr.cell? ⟨w.heap.size + 1 + 1, 0, none⟩ = some (.slice A' rest.length c') := hrb.cell 0
            have c2 : wr.cell? ⟨w.heap.size + 1, 0, none⟩ = some (.int .u64 (num ((l.drop 4).take 8) : Nat)) := HST.out.s.cell 0
            have c3 : wr.cell? ⟨w.heap.size + 1, 1, none⟩ = some (.slice Av acc.length cv) := HST.out.s.cell 1
            have c4 : wr.cell? ⟨w.heap.size, 0, none⟩ = some (.int .u64 0) := HST.out.res.cell 0
            have c5 : wr.cell? ⟨w.heap.size, 1, none⟩ = some (.slice none 0 0) := HST.out.res.cell 1
            have f4 := HST.out.res.frozen 0
            have f5 := HST.out.res.frozen 1
            clear hrb
            cases rest with
            | nil =>
              have hfin := Lib.hid (decode_fine HM.out h16' HDEC.out)
              obtain ⟨n3, hn3⟩ : ∃ n3, n3 = num ((l.drop 4).take 8) := ⟨_, rfl⟩
              rw [← hn3] at c2 hfin
              clear hn3
              go_wp2
              rw [jump_ret]
              refine bodyPost_ret (v := .tuple #[.agg #[.int .u64 (n3 : Nat), .slice Av acc.length cv], .int .u16 0]) (by simp [results, Tryd.results17, go_sem, c4, c5, f4, f5]) rfl ?_
              refine ⟨.slice Av acc.length cv, by rw [hfin.out]; rfl, ?_, (HST.out.bel.setCell (p := ⟨w.heap.size, 0, none⟩) (Nat.le_refl _) _).setCell (p := ⟨w.heap.size, 1, none⟩) (Nat.le_refl _) _⟩
              rw [hfin.out]
              have hne := own_blk_ne HOW.out HST.out.res (by decide)
              exact own_kept (own_kept HOW.out (grown_set _ _ 0 _) hne) (grown_set _ _ 1 _) hne
            | cons x r =>
              go_wp2_with fail
              go_step3
              refine ⟨rfl, 43, _, _, _, _, _, _, _, _, _, _, _, _, _, _, _, _, _, _, _, _, _, _, _, _, _, _, _, _, _, _, _, _, _, _, _, _, _, _, _, _, _, _, _, _, _, _, _, _, _, _, _, _, _, rfl, by omega, decode_tail HM.out h16' HDEC.out (List.cons_ne_nil _ _), HST.out.res, HST.out.bel⟩
          | succ k =>
            by_cases hsh : ∀ x r, rest = x :: r → r.length < x.toNat + 8
            · have HE := Lib.hid (entry_short (last := last) (HRD.out.alloc (.cells ent0 31)) (by have := hlr.out; have := hlen.out; omega) hsh)
              have HW := Lib.hid (decode_err HM.out h16' (HDEC.out.trans (dec_lack hsh)) (by omega))
              have hst := Lib.hid (HST.out.alloc (.cells ent0 31))
              have hx := Lib.hid (Blk.new wr 31 ent0)
              have hsz := Lib.hid HST.out.siz
              clear hsh HDEC HRD HOW hlr HST
              go_wp2_with fail
              refine HE.out.mono ?_
              rintro e w5 ⟨key, u, rfl, hg⟩
              have hs5 := Lib.hid (hst.out.grown hg)
              have hx5 := Lib.hid (hx.out.grown hg (by have := hsz.out; simp; omega))
              have e0 : w5.cell? ⟨wr.heap.size, 0, none⟩ = some (.string ⟨#[]⟩) := hx5.out.cell 0
              have e1 : w5.cell? ⟨wr.heap.size, 1, none⟩ = some (.int .u64 0) := hx5.out.cell 1
              have f0 := hx5.out.frozen 0
              have f1 := hx5.out.frozen 1
              clear hg hx hst
              go_wp2_with fail
              go_step3
              refine ⟨rfl, 41, _, _, _, _, _, _, _, _, _, _, _, _, _, _, _, _, _, _, _, _, _, _, _, _, _, _, _, _, _, _, _, _, _, _, _, _, _, _, _, _, _, _, _, _, _, _, _, _, _, _, _, _, _, rfl, by omega, HW.out, ((hs5.out.far ⟨wr.heap.size, 0, none⟩ (by have := hsz.out; show _ < wr.heap.size; omega) (.string ⟨key.toArray⟩)).far ⟨wr.heap.size, 1, none⟩ (by have := hsz.out; show _ < wr.heap.size; omega) (.int .u64 u)).res, ((hs5.out.far ⟨wr.heap.size, 0, none⟩ (by have := hsz.out; show _ < wr.heap.size; omega) (.string ⟨key.toArray⟩)).far ⟨wr.heap.size, 1, none⟩ (by have := hsz.out; show _ < wr.heap.size; omega) (.int .u64 u)).bel⟩
            · obtain ⟨x, r, rfl, hxr⟩ : ∃ x r, rest = x :: r ∧ x.toNat + 8 ≤ r.length := by
                cases rest with
                | nil => exact absurd (fun x r h => by cases h) hsh
                | cons x r =>
                  refine ⟨x, r, rfl, ?_⟩
                  rcases Nat.lt_or_ge r.length (x.toNat + 8) with h | h
                  · exact absurd (fun x' r' e => by cases e; exact h) hsh
                  · exact h
              have HE := Lib.hid (entry_there (last := last) (HRD.out.alloc (.cells ent0 31)) (by have q1 := hlr.out; have q2 := hlen.out; rw [List.length_cons] at q1; omega) hlast hxr)
              have hstep : dec (k + 1) (x :: r) last acc = if right (r.take x.toNat) = false then ([], [], 12) else if less last (r.take x.toNat) = false then ([], [], 42) else
                  dec k (r.drop (x.toNat + 8)) (r.take x.toNat) (acc ++ [⟨r.take x.toNat, num ((r.drop x.toNat).take 8)⟩]) := by rw [dec, if_neg (by omega)]
              have hkl : right (r.take x.toNat) = true → (r.take x.toNat).length ≤ 128 := fun hk => (right_len hk).2
              have hul := num_take_lt (r.drop x.toNat) 8 (by omega)
              have hdn := Lib.hid (HDEC.out.trans hstep)
              have hdl2 := Lib.hid (show (acc ++ [(⟨r.take x.toNat, num ((r.drop x.toNat).take 8)⟩ : Ent)]).length + (r.drop (x.toNat + 8)).length ≤ l.length by
                have := hlr.out
                rw [List.length_cons] at this
                rw [List.length_append, List.length_singleton, List.length_drop]
                omega)
              have hkl2 := Lib.hid hkl
              have hst := Lib.hid (HST.out.alloc (.cells ent0 31))
              have hx := Lib.hid (Blk.new wr 31 ent0)
              have hsz := Lib.hid HST.out.siz
              have how := Lib.hid (HOW.out.alloc (.cells ent0 31))
              have hvn := Lib.hid (own_new HOW.out)
              have hvr : Hid ((Value.slice Av acc.length cv).ownBlock ≠ some (w.heap.size + 1 + 1)) := Lib.hid (by
                obtain ⟨A', c', hrb, -⟩ := id HRD.out
                exact own_blk_ne HOW.out hrb (by decide))
              have hvs := Lib.hid (own_blk_ne HOW.out HST.out.s (by decide))
              have hacc := Lib.hid (show acc.length ≤ 100000 by have := hlr.out; have := hlen.out; omega)
              clear hsh HDEC HRD hlr hxr hstep hkl HOW hlast
              generalize num ((r.drop x.toNat).take 8) = u at *
              generalize r.take x.toNat = key at *
              generalize r.drop (x.toNat + 8) = rest2 at *
              generalize hrk : right key = rk at *
              generalize less last key = lk at *
              clear x r HST
              have HRK := Lib.hid hrk
              clear hrk
              go_wp2_with fail
              refine HE.out.mono ?_
              rintro e w5 ⟨rfl, hrd, hg⟩
              have hs5 := Lib.hid (hst.out.grown hg)
              have hx5 := Lib.hid (hx.out.grown hg (by have := hsz.out; simp; omega))
              have hr5 := Lib.hid hrd
              have ho5 := Lib.hid (own_kept how.out hg hvr.out)
              have hz5 := Lib.hid hg.size
              clear hg hrd hst hx how HE
              have e0 : w5.cell? ⟨wr.heap.size, 0, none⟩ = some (.string ⟨#[]⟩) := hx5.out.cell 0
              have e1 : w5.cell? ⟨wr.heap.size, 1, none⟩ = some (.int .u64 0) := hx5.out.cell 1
              have f0 := hx5.out.frozen 0
              have f1 := hx5.out.frozen 1
              have hs6 := Lib.hid ((hs5.out.far ⟨wr.heap.size, 0, none⟩ (by have := hsz.out; show _ < wr.heap.size; omega) (.string ⟨key.toArray⟩)).far ⟨wr.heap.size, 1, none⟩ (by have := hsz.out; show _ < wr.heap.size; omega) (.int .u64 u))
              have hx6 := Lib.hid ((hx5.out.set_ 0 (.string ⟨key.toArray⟩)).set_ 1 (.int .u64 u))
              have hr6 := Lib.hid ((hr5.out.far ⟨wr.heap.size, 0, none⟩ (by have := hsz.out; show wr.heap.size ≠ _; omega) (by have := hsz.out; show _ ≤ wr.heap.size; omega) (.string ⟨key.toArray⟩)).far ⟨wr.heap.size, 1, none⟩ (by have := hsz.out; show wr.heap.size ≠ _; omega) (by have := hsz.out; show _ ≤ wr.heap.size; omega) (.int .u64 u))
              have ho6 := Lib.hid (own_kept (own_kept ho5.out (grown_set _ wr.heap.size 0 (.string ⟨key.toArray⟩)) hvn.out) (grown_set _ wr.heap.size 1 (.int .u64 u)) hvn.out)
              clear hs5 hx5 hr5 ho5
              cases rk with
              | false =>
                have HW := Lib.hid (decode_err HM.out h16' (hdn.out.trans (if_pos rfl)) (by omega))
                go_wp2_with fail
                go_step3
                refine ⟨rfl, 12, _, _, _, _, _, _, _, _, _, _, _, _, _, _, _, _, _, _, _, _, _, _, _, _, _, _, _, _, _, _, _, _, _, _, _, _, _, _, _, _, _, _, _, _, _, _, _, _, _, _, _, _, _, rfl, by omega, HW.out, hs6.out.res, hs6.out.bel⟩
              | true =>
                cases lk with
                | false =>
                  have HW := Lib.hid (decode_err HM.out h16' (hdn.out.trans ((if_neg (by simp)).trans (if_pos rfl))) (by omega))
                  go_wp2_with fail
                  go_step3
                  refine ⟨rfl, 42, _, _, _, _, _, _, _, _, _, _, _, _, _, _, _, _, _, _, _, _, _, _, _, _, _, _, _, _, _, _, _, _, _, _, _, _, _, _, _, _, _, _, _, _, _, _, _, _, _, _, _, _, _, rfl, by omega, HW.out, hs6.out.res, hs6.out.bel⟩
                | true =>
                  have HDN := Lib.hid (hdn.out.trans ((if_neg (by simp)).trans (if_neg (by simp))))
                  clear hdn
                  obtain ⟨W6, hW6⟩ : ∃ W6, W6 = (w5.setCell ⟨wr.heap.size, 0, none⟩ (.string ⟨key.toArray⟩)).setCell ⟨wr.heap.size, 1, none⟩ (.int .u64 u) := ⟨_, rfl⟩
                  rw [← hW6] at hs6 hx6 hr6 ho6
                  have HW6 := Lib.hid hW6
                  have hz6 := Lib.hid hx6.out.lt
                  clear hW6
                  go_wp2_with fail
                  rw [← HW6.out]
                  clear e0 e1 f0 f1 HW6
                  have e0 : W6.cell? ⟨wr.heap.size, 0, none⟩ = some (.string ⟨key.toArray⟩) := hx6.out.cell 0
                  have e1 : W6.cell? ⟨wr.heap.size, 1, none⟩ = some (.int .u64 u) := hx6.out.cell 1
                  have c1 : W6.cell? ⟨w.heap.size + 1, 1, none⟩ = some (.slice Av acc.length cv) := hs6.out.s.cell 1
                  have p1 := hs6.out.s.frozen 1
                  have hne1 : wr.heap.size ≠ w.heap.size + 1 := by have := hsz.out; omega
                  have hne2 : w.heap.size + 1 ≠ wr.heap.size := by have := hsz.out; omega
                  have hlt1 : wr.heap.size < W6.heap.size := hz6.out
                  have hlt2 : w.heap.size + 1 < W6.heap.size := by have := hsz.out; omega
                  obtain ⟨i0, hi0, hq0, hq1, hq2⟩ := info_parts ent_info
                  have HI := Lib.hid (And.intro hi0 (And.intro hq0 (And.intro hq1 hq2)))
                  clear hi0 hq0 hq1 hq2
                  have hown1 : ∀ k, (Value.slice Av acc.length cv).ownBlock = some k → w.heap.size ≤ k ∧ k ≠ w.heap.size ∧ k ≠ w.heap.size + 1 := fun k hk => ⟨(own_lt ho6.out hk).1, fun e => own_blk_ne ho6.out hs6.out.res (by decide) (by rw [hk, e]), fun e => hvs.out (by rw [hk, e])⟩
                  have HO1 := Lib.hid hown1
                  clear hown1
                  have HG7 : Hid (∀ W7 : World, ((W6.alloc (.cells #[.string ⟨key.toArray⟩, .int .u64 u] 31)).drew).grownBy W7 (Value.slice Av acc.length cv).ownBlock →
                      St w #[.int .u64 (num ((l.drop 4).take 8) : Nat), .slice Av acc.length cv] W7 ∧ Rd W7 (w.heap.size + 1 + 1) w.heap.size rest2 false ∧
                      W7.cell? ⟨wr.heap.size, 0, none⟩ = some (.string ⟨key.toArray⟩) ∧ W7.cell? ⟨w.heap.size + 1, 1, none⟩ = some (.slice Av acc.length cv) ∧ W7.frozen? ⟨w.heap.size + 1, 1, none⟩ = false) := Lib.hid fun W7 hgrow => by
                    have hs7 := St.grow ((hs6.out.alloc (.cells #[.string ⟨key.toArray⟩, .int .u64 u] 31)).drew) hgrow HO1.out
                    have hr7 : Rd W7 (w.heap.size + 1 + 1) w.heap.size rest2 false := Rd.grow (w := (W6.alloc (.cells #[.string ⟨key.toArray⟩, .int .u64 u] 31)).drew) (hr6.out.alloc (.cells #[.string ⟨key.toArray⟩, .int .u64 u] 31)) hgrow (fun k hk => ⟨(HO1.out k hk).1, fun e => hvr.out (by rw [hk, e])⟩)
                    have e7 : W7.cell? ⟨wr.heap.size, 0, none⟩ = some (.string ⟨key.toArray⟩) := hgrow.cell (a := ⟨wr.heap.size, 0, none⟩) ((hx6.out.alloc (.cells #[.string ⟨key.toArray⟩, .int .u64 u] 31)).cell 0) (fun e => hvn.out e.symm)
                    exact ⟨hs7, hr7, e7, hs7.s.cell 1, hs7.s.frozen 1⟩
                  clear e0 e1
                  have e0 : W6.cell? ⟨wr.heap.size, 0, none⟩ = some (.string ⟨key.toArray⟩) := hx6.out.cell 0
                  have e1 : W6.cell? ⟨wr.heap.size, 1, none⟩ = some (.int .u64 u) := hx6.out.cell 1
                  go_region_law ((refine step_append_lies _ (by rfl) _ _ _ (by rfl) w.heap.size 31 i0 _ 2 24 Tryd.underlying23 HI.out.1 HI.out.2.1 HI.out.2.2.1 HI.out.2.2.2 rfl (by omega) (.slice Av acc.length cv) acc.length (ecells acc) (by rfl) ((ho6.out.alloc _).drew) ⟨W6.heap.size, 0, none⟩ 1 1 [.string ⟨key.toArray⟩, .int .u64 u] (by rfl) (by rfl) (World.news_of_block (cs := #[.string ⟨key.toArray⟩, .int .u64 u]) (t := 31) (fr := (0, 0)) (heap_alloc_new W6 _)) (by simp [Value.oneCell']) (by omega) (by have := hacc.out; simp only [maxLen]; omega) (by have := hacc.out; omega) (by have := hsz.out; simp; omega) (W6.heap.size + 1) (by simp) ?_; intro gg cap w7 hown7 hgrow hat hlt7; have h7 := HG7.out w7 hgrow; have hs7 := Lib.hid h7.1; have hr7 := Lib.hid h7.2.1; have e7 := h7.2.2.1; have c7 := h7.2.2.2.1; have p7 := h7.2.2.2.2; have ho7 := Lib.hid hown7; clear hown7 hgrow h7))
                  all_goals
                    go_wp2
                    refine ⟨⟨key, k, rest2, acc ++ [⟨key, u⟩], .slice (some ⟨gg, 0, none⟩) (acc.length + 1) cap, rfl, rfl, hs7.out.set_ 1 _, ?_, hr7.out.far ⟨w.heap.size + 1, 1, none⟩ (by simp) (by simp) _, hkl2.out (by trivial), hdl2.out, by omega, HDN.out⟩, by simp only [intOf]; omega⟩
                    have hoo := own_kept ho7.out (grown_set _ (w.heap.size + 1) 1 (.slice (some ⟨gg, 0, none⟩) (acc.length + 1) cap)) (own_blk_ne ho7.out hs7.out.s (by decide))
                    rw [List.length_append, List.length_singleton, ecells_snoc]
                    exact hoo
    · by_cases h4 : l.length < 4
      · refine (take_no hrd0.out 4 hl (by omega) (.inr h4)).mono ?_
        rintro e w1 ⟨rfl, hrd, hg⟩
        have hcv := nil_string w1
        have HS1 := Lib.hid (hst0.out.grown hg)
        have HM := Lib.hid hmag
        clear hrd hrd0 hmag hg
        go_wp2_with fail
        go_step3
        refine ⟨rfl, 40, _, _, _, _, _, _, _, _, _, _, _, _, _, _, _, _, _, _, _, _, _, _, _, _, _, _, _, _, _, _, _, _, _, _, _, _, _, _, _, _, _, _, _, _, _, _, _, _, _, _, _, _, _, rfl, by omega, decode_mag HM.out, HS1.out.res, HS1.out.bel⟩
      · refine (take_yes hrd0.out 4 (by omega)).mono ?_
        rintro e w1 ⟨A1, rfl, hrow, hrd, hg⟩
        have hk4 : (l.take 4).length = 4 := by rw [List.length_take]; omega
        have hcv := row_string (c := 4) hrow
        rw [hk4] at hcv
        have HM := Lib.hid hmag
        have HS1 := Lib.hid (hst0.out.grown hg)
        have hq : (l.take 4 == [84, 76, 82, 49]) = false := beq_eq_false_iff_ne.2 hmag
        obtain ⟨k, hk⟩ : ∃ k, k = l.take 4 := ⟨_, rfl⟩
        rw [← hk] at hcv hq
        clear hrd hrd0 hmag hrow hk4 hk hg
        go_wp2_with fail
        go_step3
        refine ⟨rfl, 40, _, _, _, _, _, _, _, _, _, _, _, _, _, _, _, _, _, _, _, _, _, _, _, _, _, _, _, _, _, _, _, _, _, _, _, _, _, _, _, _, _, _, _, _, _, _, _, _, _, _, _, _, _, rfl, by omega, decode_mag HM.out, HS1.out.res, HS1.out.bel⟩
end Go.Proofs.YthlaigpopplafaaDoor.pack
