/- the laws' Snap, walked. -/
import Derived.Test.YthlaigpopplafaaDoorPackLaw
import Derived.Test.YthlaigpopplafaaDoorPackRefE
import Derived.Test.YthlaigpopplafaaDoorAppendN
namespace Go.Proofs.YthlaigpopplafaaDoor.pack
open Go.RowKit
open Go.Proofs.YthlaigpopplafaaDoor.aid
open Go.Proofs.YthlaigpopplafaaDoor.key (right less refless_q keyOf key_any)

abbrev u16s (l : List Nat) : List Value := l.map fun (n : Nat) => Value.int .u16 ((n : Nat) : Int)
theorem St2.far {w W : World} {cs : Array Value} (h : St2 w cs W) (p : Addr) (hp : w.heap.size + 1 < p.block) (v : Value) : St2 w cs (W.setCell p v) :=
  ⟨h.res.far (by omega) v, h.s.far (by omega) v, h.bel.setCell (by omega) v⟩
theorem ecells_take : ∀ (es : List Ent) (a : Nat), ecells (es.take a) = (ecells es).take (a * 2)
  | [], a => by simp [ecells]
  | e :: r, 0 => by simp [ecells]
  | e :: r, a + 1 => by
    have h := ecells_take r a
    have e1 : ∀ l, ecells (e :: l) = .string ⟨e.key.toArray⟩ :: .int .u64 (e.till : Nat) :: ecells l := fun _ => rfl
    rw [List.take_succ_cons, e1, e1, h, show (a + 1) * 2 = a * 2 + 1 + 1 from by omega, List.take_succ_cons, List.take_succ_cons]
theorem ecells_drop : ∀ (es : List Ent) (a : Nat), ecells (es.drop a) = (ecells es).drop (a * 2)
  | [], a => by simp [ecells]
  | e :: r, 0 => by simp [ecells]
  | e :: r, a + 1 => by
    have h := ecells_drop r a
    have e1 : ∀ l, ecells (e :: l) = .string ⟨e.key.toArray⟩ :: .int .u64 (e.till : Nat) :: ecells l := fun _ => rfl
    rw [List.drop_succ_cons, e1, h, show (a + 1) * 2 = a * 2 + 1 + 1 from by omega, List.drop_succ_cons, List.drop_succ_cons]
theorem ecells_one (es : List Ent) : ∀ u ∈ ecells es, u.oneCell' = true := by
  intro u hu
  obtain ⟨e, _, hu⟩ := List.mem_flatMap.1 hu
  simp only [List.mem_cons, List.not_mem_nil, or_false] at hu
  rcases hu with rfl | rfl <;> rfl
theorem own_formN {w : World} {base : Nat} {e : TypeId} {size : Nat} {v : Value} {n : Nat} {xs : List Value} (h : w.ownsRow base e size v n xs) : ∃ A c, v = .slice A n c ∧ n ≤ c := by
  rcases h.2 with ⟨rfl, rfl⟩ | ⟨g, cap, cur, rfl, _, _, hnc, _⟩
  · exact ⟨none, 0, rfl, Nat.le_refl _⟩
  · exact ⟨_, _, rfl, hnc⟩
theorem own_belowN {w w' : World} {B : Nat} {e : TypeId} {size : Nat} {v : Value} {n : Nat} {xs : List Value} (hown : w.ownsRow B e size v n xs) (hB : B ≤ w.heap.size) (hg : w.grownBy w' v.ownBlock) : Below B w w' :=
  (Below.refl B w).grown hg hB (fun k hk => (own_lt hown hk).1)
theorem of_ownN {w : World} {base : Nat} {e : TypeId} {size n c : Nat} {A : Option Addr} {vs : List Value} (h : w.ownsRow base e size (.slice A n c) n vs) : Row w w.heap.size A vs := fun hn => by
  have hlen := h.1
  rcases h.2 with ⟨hv, h0⟩ | ⟨g, cap, cur, hv, hbase, hblk, hn1, hcap, hsz, htake⟩
  · exact absurd (List.eq_nil_of_length_eq_zero (by rw [hlen, h0]; simp)) hn
  · have hA : A = some ⟨g, 0, none⟩ := by injection hv
    subst hA
    have hlt : g < w.heap.size := (Array.getElem?_eq_some_iff.1 hblk).1
    refine ⟨g, 0, rfl, hlt, fun j v hj => ?_⟩
    rw [Nat.zero_add, cell_of_row w g j cur e (0, 0) hblk]
    rw [← htake, List.getElem?_take] at hj
    split at hj
    · simpa using hj
    · cases hj
theorem u64_wrap (n : Nat) : IntKind.u64.wrap (n : Int) = ((n % 18446744073709551616 : Nat) : Int) := by
  unfold IntKind.wrap
  simp [IntKind.signed, IntKind.bits]
/-- so far -/
def SLoop (clock : Nat) (c : List (List UInt8)) (far : List Nat) (w : World) (u8 : Value) (wr : World) : Prop := ∃ (k : Nat) (Av : Option Addr) (cv : Nat), k ≤ c.length ∧ k ≤ 10 ∧ u8 = .int .i64 k ∧ (made clock c far k).length ≤ cv ∧
  St2 w #[.int .u64 clock, .slice Av (made clock c far k).length cv] wr ∧ wr.ownsRow w.heap.size 31 2 (.slice Av (made clock c far k).length cv) (made clock c far k).length (ecells (made clock c far k))
theorem own_less {w : World} {base base' : Nat} {e : TypeId} {size : Nat} {v : Value} {n : Nat} {xs : List Value} (h : w.ownsRow base e size v n xs) (hb : base' ≤ base) : w.ownsRow base' e size v n xs := by
  refine ⟨h.1, ?_⟩
  rcases h.2 with h2 | ⟨g, cap, cur, h1, h2, h3⟩
  · exact .inl h2
  · exact .inr ⟨g, cap, cur, h1, by omega, h3⟩
theorem own_old {w w' : World} {base : Nat} {e : TypeId} {size : Nat} {v : Value} {n : Nat} {xs : List Value} (h : w.ownsRow base e size v n xs) (hb : Below w.heap.size w w') : w'.ownsRow base e size v n xs :=
  h.kept (grown_none hb none) (by cases hv : v.ownBlock <;> simp)
set_option maxHeartbeats 8000000 in
set_option maxRecDepth 100000 in
theorem snap_any (clock : Nat) (hck : clock < 18446744073709551616) (c : List (List UInt8)) (A : Option Addr) (cap : Nat) (far : List Nat) (A2 : Option Addr) (cap2 : Nat) (hc : c.length ≤ 140737488351232) (hf : far.length ≤ 140737488351232) (hfar : ∀ n ∈ far, n < 65536) (w : World) (hr : frame.Rows w w.heap.size A c) (hr2 : Row w w.heap.size A2 (u16s far)) :
    Calls Tryd.prog 11 #[.int .u64 clock, .slice A c.length cap, .slice A2 far.length cap2] w fun e w' => ∃ (A' : Option Addr) (c' : Nat), e = .returned (.agg #[.int .u64 clock, .slice A' (snapOf clock c far).es.length c']) ∧ (snapOf clock c far).es.length ≤ c' ∧ Row w' w'.heap.size A' (ecells (snapOf clock c far).es) ∧ Below w.heap.size w w' := by
  have HR := Lib.hid hr
  have HR2 := Lib.hid hr2
  have HF := Lib.hid hfar
  have hst0 := Lib.hid (show St2 w #[.int .u64 clock, .slice none 0 0] ((w.alloc (.cells #[.int .u64 0, .slice none 0 0] 25)).alloc (.cells #[.int .u64 clock, .slice none 0 0] 25)) from by
    have h1 := Blk.new (w.alloc (.cells #[.int .u64 0, .slice none 0 0] 25)) 25 #[.int .u64 clock, .slice none 0 0]
    exact ⟨(Blk.new w _ _).alloc _, by simpa using h1, ((Below.refl _ _).alloc (Nat.le_refl _) _).alloc (by simp) _⟩)
  clear hr hr2 hfar
  go_enter Tryd.func11, Tryd.ntmps11
  go_wp2_with fail
  go_loopw [8] (fun u8 wr => SLoop clock c far w u8 wr) (fun i _ => 10 - (intOf i).toNat)
  case atStart => exact ⟨0, none, 0, by omega, by omega, rfl, by simp [made], hst0.out, World.ownsRow_nil _ _ _ _⟩
  case round =>
    obtain ⟨k, Av, cv, hk, hk10, rfl, hcv, hst, hown⟩ := hrel
    have hrow := of_ownN hown
    have HOW := Lib.hid hown
    have HST := Lib.hid hst
    have HRW := Lib.hid hrow
    have hB := Lib.hid hst.bel
    clear hst hrow hst0 hown
    by_cases hend : k < c.length ∧ k < 10
    · obtain ⟨hkc, hk1⟩ := hend
      obtain ⟨b, off, Aj, cj, rfl, hb, hc0, hlen, hrj⟩ := HR.out.at_ hB.out hkc
      have HKY := Lib.hid (key_any c[k] Aj cj hlen wr (hrj.more hB.out.size))
      clear hrj
      go_wp2_with fail
      refine HKY.out.mono ?_
      rintro e w2 ⟨rfl, hb2⟩
      have HST2 := Lib.hid (HST.out.below hb2)
      have HRW2 := Lib.hid ((HRW.out.below hb2).more hb2.size)
      have HOW2 := Lib.hid (own_old HOW.out hb2)
      clear hb2 HST HRW HKY hc0 HOW
      have hw1 : IntKind.u64.wrap ((clock : Int) + 1) = (((clock + 1) % 18446744073709551616 : Nat) : Int) := by
        have := u64_wrap (clock + 1)
        rwa [show (((clock + 1 : Nat)) : Int) = (clock : Int) + 1 from by omega] at this
      obtain ⟨t1, ht1⟩ : ∃ t1, t1 = (clock + 1) % 18446744073709551616 := ⟨_, rfl⟩
      rw [← ht1] at hw1
      obtain ⟨es, hes⟩ : ∃ es, es = made clock c far k := ⟨_, rfl⟩
      rw [← hes] at hcv HST2 HRW2 HOW2
      have HES := Lib.hid hes
      have hfits : Hid (∀ e ∈ es, Fits e ∧ e.key.length ≤ 12) := Lib.hid (by rw [hes]; exact made_fits clock c far k)
      have hel : es.length ≤ 10 := by rw [hes]; have := made_len clock c far k; omega
      obtain ⟨ky, hkey⟩ : ∃ ky, ky = Go.Proofs.YthlaigpopplafaaDoor.key.keyOf c[k] := ⟨_, rfl⟩
      have hkl : ky.length ≤ 12 := by rw [hkey]; exact (Go.Proofs.YthlaigpopplafaaDoor.key.keyOf_right c[k]).2.1
      have HMK : Hid (∀ T, T = till clock far k → made clock c far (k + 1) = lay ⟨ky, T⟩ es) := Lib.hid (by
        rintro T rfl
        rw [hes, hkey]
        show lay (entAt clock c far k) _ = _
        unfold entAt
        rw [List.getD_eq_getElem?_getD, List.getElem?_eq_getElem hkc]
        rfl)
      have hz := Lib.hid HST2.out.siz
      rw [← hkey]
      clear hes hkey HES
      rcases Nat.lt_or_ge k far.length with hfk | hfk
      have hfk' : (k : Int) < far.length := by omega
      obtain ⟨b2, off2, rfl, hb2, hcx⟩ := (HR2.out.below HST2.out.bel).at_ (k := k) (by simp; omega)
      have hfc := hcx k (.int .u16 (far[k] : Nat)) (by simp [hfk])
      have hb3 : b2 < w2.heap.size := by have := HST2.out.bel.size; omega
      have hfl := HF.out far[k] (List.getElem_mem hfk)
      have hw2 : IntKind.u64.wrap ((clock : Int) + (far[k] : Nat)) = (((clock + far[k]) % 18446744073709551616 : Nat) : Int) := by
        have := u64_wrap (clock + far[k])
        rwa [show (((clock + far[k] : Nat)) : Int) = (clock : Int) + (far[k] : Nat) from by omega] at this
      obtain ⟨T, hT⟩ : ∃ T, T = (clock + far[k]) % 18446744073709551616 := ⟨_, rfl⟩
      have HTT := Lib.hid (HMK.out T (by unfold till; rw [if_pos hfk, hT, List.getD_eq_getElem?_getD, List.getElem?_eq_getElem hfk]; rfl))
      rw [← hT] at hw2
      have HE := Lib.hid (Blk.new w2 31 #[.string ⟨ky.toArray⟩, .int .u64 (T : Nat)])
      clear hcx hT
      obtain ⟨W3, hW3⟩ : ∃ W3, W3 = w2.alloc (.cells #[.string ⟨ky.toArray⟩, .int .u64 (T : Nat)] 31) := ⟨_, rfl⟩
      rw [← hW3] at HE
      have HST3 := Lib.hid (show St2 w _ W3 from by rw [hW3]; exact HST2.out.alloc _)
      have HB3 := Lib.hid (show Below w2.heap.size w2 W3 from by rw [hW3]; exact (Below.refl _ _).alloc (Nat.le_refl _) _)
      have HW3 := Lib.hid hW3
      clear hW3
      go_wp2_with fail
      rw [← HW3.out]
      clear HW3 hw2 hfc hfl hb3
      rotate_left
      have hfk' : (far.length : Int) ≤ k := by omega
      obtain ⟨T, hT⟩ : ∃ T, T = t1 := ⟨_, rfl⟩
      have HTT := Lib.hid (HMK.out T (by unfold till; rw [if_neg (by omega), hT, ht1]))
      have hTi : ((clock : Int) + 1) % 18446744073709551616 = (T : Int) := by omega
      have HE := Lib.hid (Blk.new w2 31 #[.string ⟨ky.toArray⟩, .int .u64 (T : Nat)])
      rw [← hTi] at HE
      obtain ⟨W3, hW3⟩ : ∃ W3, W3 = w2.alloc (.cells #[.string ⟨ky.toArray⟩, .int .u64 (((clock : Int) + 1) % 18446744073709551616)] 31) := ⟨_, rfl⟩
      rw [← hW3, hTi] at HE
      have HST3 := Lib.hid (show St2 w _ W3 from by rw [hW3]; exact HST2.out.alloc _)
      have HB3 := Lib.hid (show Below w2.heap.size w2 W3 from by rw [hW3]; exact (Below.refl _ _).alloc (Nat.le_refl _) _)
      have HW3 := Lib.hid hW3
      clear hW3 hT ht1 hTi
      go_wp2_with fail
      rw [← HW3.out]
      clear HW3
      all_goals
        have HRW3 := Lib.hid ((HRW2.out.below HB3.out).more HB3.out.size)
        have HOW3 := Lib.hid (own_old HOW2.out HB3.out)
        have HLZ := Lib.hid HE.out.lt
        clear HRW2 HST2 HMK HOW2
        have d1 : W3.cell? ⟨w.heap.size + 1, 1, none⟩ = some (.slice Av es.length cv) := HST3.out.s.cell 1
        have e0 : W3.cell? ⟨w2.heap.size, 0, none⟩ = some (.string ⟨ky.toArray⟩) := HE.out.cell 0
        obtain ⟨z, hzz⟩ : ∃ z, z = w2.heap.size := ⟨_, rfl⟩
        rw [← hzz] at e0 HE HLZ hz HB3 ⊢
        clear hzz
        go_loopw [10] (fun i wr => ∃ (a nd : Nat), a ≤ es.length ∧ i = .int .i64 a ∧ (∀ j (_ : j < a) (hl : j < es.length), less es[j].key ky = true) ∧ wr = W3.drewN nd) (fun i _ => es.length - (intOf i).toNat)
        case atStart => exact ⟨0, 0, by omega, rfl, (fun j h => by omega), rfl⟩
        case round =>
          obtain ⟨a, nd, ha, rfl, hless, rfl⟩ := hrel
          have HLS := Lib.hid hless
          clear hless
          have hst4 : ∀ n, St2 w #[.int .u64 clock, .slice Av es.length cv] (W3.drewN n) := fun n => ⟨HST3.out.res, HST3.out.s, below_drewN HST3.out.bel n⟩
          have HS4 := Lib.hid hst4
          clear hst4
          have hfour : (∃ haL : a < es.length, less es[a].key ky = true) ∨ (∃ haL : a < es.length, less es[a].key ky = false ∧ es[a].key = ky) ∨ (∃ haL : a < es.length, less es[a].key ky = false ∧ ¬ es[a].key = ky) ∨ a = es.length := by
            by_cases haL : a < es.length
            · rcases Bool.eq_false_or_eq_true (less es[a].key ky) with hls | hls
              · exact .inl ⟨haL, hls⟩
              · by_cases hq : es[a].key = ky
                · exact .inr (.inl ⟨haL, hls, hq⟩)
                · exact .inr (.inr (.inl ⟨haL, hls, hq⟩))
            · exact .inr (.inr (.inr (by omega)))
          rcases hfour with ⟨haL, hls⟩ | ⟨haL, hls, hq⟩ | ⟨haL, hls, hq⟩ | hae
          · have hd : decide ((a : Int) < es.length) = true := by simp; omega
            obtain ⟨b3, off3, rfl, hb3, hx0, hx1⟩ := ent_at HRW3.out haL
            have hkl3 := (hfits.out es[a] (List.getElem_mem haL)).2
            have HG := Lib.hid (fun W => refless_q ⟨es[a].key.toArray⟩ ⟨ky.toArray⟩ (by simp [ByteArray.size]; omega) (by simp [ByteArray.size]; omega) W)
            change Hid (∀ W, Calls Tryd.prog 22 #[.string ⟨es[a].key.toArray⟩, .string ⟨ky.toArray⟩] W fun e w' => e = .returned (.bool (less es[a].key ky)) ∧ ∃ n, w' = W.drewN n) at HG
            have HN : Hid (∀ j (_ : j < a + 1) (hl : j < es.length), less es[j].key ky = true) := Lib.hid fun j hj hl => by
              by_cases e : j = a
              · subst e; exact hls
              · exact HLS.out j (by omega) hl
            rw [hls] at HG
            clear hls
            obtain ⟨k1, hk1⟩ : ∃ k1, k1 = es[a].key := ⟨_, rfl⟩
            rw [← hk1] at hx0 HG
            clear hk1 hx1
            go_wp2
            go_quiet ((refine quiet_two (HG.out _)))
            go_wp2
            go_roundw
            case rel => exact ⟨a + 1, _, by omega, by go_num, HN.out, rfl⟩
            case measure => simp [intOf]; omega
          · have hd : decide ((a : Int) < es.length) = true := by simp; omega
            obtain ⟨b3, off3, rfl, hb3, hx0, hx1⟩ := ent_at HRW3.out haL
            have hkl3 := (hfits.out es[a] (List.getElem_mem haL)).2
            have hsp := spot_is (k := ky) (es := es) (n := a) ha HLS.out (fun _ => hls)
            have HN : Hid (made clock c far (k + 1) = es) := Lib.hid (by
              rw [HTT.out]
              exact lay_there _ es (by rw [hsp]; exact haL) (by simp only [hsp]; exact hq))
            have HG := Lib.hid (fun W => refless_q ⟨es[a].key.toArray⟩ ⟨ky.toArray⟩ (by simp [ByteArray.size]; omega) (by simp [ByteArray.size]; omega) W)
            change Hid (∀ W, Calls Tryd.prog 22 #[.string ⟨es[a].key.toArray⟩, .string ⟨ky.toArray⟩] W fun e w' => e = .returned (.bool (less es[a].key ky)) ∧ ∃ n, w' = W.drewN n) at HG
            rw [hls] at HG
            clear hls hsp
            obtain ⟨k1, hk1⟩ : ∃ k1, k1 = es[a].key := ⟨_, rfl⟩
            rw [← hk1] at hx0 HG hq
            have hqq : (k1 == ky) = true := by simp [hq]
            clear hk1 hx1 hq
            go_wp2
            go_quiet ((refine quiet_two (HG.out _)))
            go_wp2
            go_quiet (fail)
            go_wp2
            go_roundw
            case rel => exact ⟨k + 1, _, cv, by omega, by omega, by go_num, by rw [HN.out]; exact hcv, by rw [HN.out]; exact HS4.out _, by rw [HN.out]; exact HOW3.out⟩
            case measure => simp [intOf]; omega
          have hd : decide ((a : Int) < es.length) = true := by simp; omega
          obtain ⟨b3, off3, hAv, hb3, hx0, hx1⟩ := ent_at HRW3.out haL
          have hkl3 := (hfits.out es[a] (List.getElem_mem haL)).2
          have hsp := spot_is (k := ky) (es := es) (n := a) ha HLS.out (fun _ => hls)
          have HN : Hid (made clock c far (k + 1) = es.take a ++ ⟨ky, T⟩ :: es.drop a) := Lib.hid (by
            rw [HTT.out]
            have := lay_new ⟨ky, T⟩ es (by simp only [hsp]; exact fun _ => hq)
            simp only [hsp] at this
            exact this)
          have HG := Lib.hid (fun W => refless_q ⟨es[a].key.toArray⟩ ⟨ky.toArray⟩ (by simp [ByteArray.size]; omega) (by simp [ByteArray.size]; omega) W)
          change Hid (∀ W, Calls Tryd.prog 22 #[.string ⟨es[a].key.toArray⟩, .string ⟨ky.toArray⟩] W fun e w' => e = .returned (.bool (less es[a].key ky)) ∧ ∃ n, w' = W.drewN n) at HG
          rw [hls] at HG
          clear hls hsp
          obtain ⟨k1, hk1⟩ : ∃ k1, k1 = es[a].key := ⟨_, rfl⟩
          rw [← hk1] at hx0 HG hq
          have hqq : (k1 == ky) = false := by simp [hq]
          clear hk1 hx1 hq
          obtain ⟨AA, hAA⟩ : ∃ AA, AA = Av := ⟨_, rfl⟩
          have HAA := Lib.hid hAA
          rw [hAv] at d1
          go_wp2
          go_quiet ((refine quiet_two (HG.out _)))
          go_wp2
          go_quiet (fail)
          rw [← hAv]
          clear hd hx0 HG hqq hkl3 hb3 hAA d1 HAA hAv
          refine Hid.out ?_
          rotate_left
          have haL : es.length ≤ a := by omega
          have hd : decide ((a : Int) < es.length) = false := by simp; omega
          have hsp := spot_is (k := ky) (es := es) (n := a) ha HLS.out (fun h => by omega)
          have HN : Hid (made clock c far (k + 1) = es.take a ++ ⟨ky, T⟩ :: es.drop a) := Lib.hid (by
            rw [HTT.out]
            have := lay_new ⟨ky, T⟩ es (by simp only [hsp]; exact fun h => by omega)
            simp only [hsp] at this
            exact this)
          clear hsp
          go_wp2
          go_quiet (fail)
          go_wp2
          go_quiet (fail)
          rw [← hae]
          clear hd d1 hae haL
          refine Hid.out ?_
          all_goals
            refine Lib.hid ?_
            generalize hW4 : ((W3.drewN _).drewN _).drewN _ = W4
            have HST4 := Lib.hid (show St2 w #[.int .u64 clock, .slice Av es.length cv] W4 from by rw [← hW4]; exact ⟨(HS4.out nd).res, (HS4.out nd).s, below_drewN (below_drewN (HS4.out nd).bel _) _⟩)
            have HRW4 := Lib.hid (show Row W4 W4.heap.size Av (ecells es) from by rw [← hW4]; exact HRW3.out)
            have HE4 := Lib.hid (show Blk W4 z 31 #[.string ⟨ky.toArray⟩, .int .u64 (T : Nat)] from by rw [← hW4]; exact HE.out)
            clear hW4 HS4 HRW3 HE HLS HST3 HB3 HLZ e0
            have HB5 : Hid (∀ W5, Below W4.heap.size W4 W5 → St2 w #[.int .u64 clock, .slice Av es.length cv] W5 ∧ Row W5 W4.heap.size Av (ecells es) ∧ W5.cell? ⟨z, 0, none⟩ = some (.string ⟨ky.toArray⟩) ∧ W5.cell? ⟨z, 1, none⟩ = some (.int .u64 (T : Nat)) ∧ W5.cell? ⟨w.heap.size + 1, 1, none⟩ = some (.slice Av es.length cv) ∧ W5.frozen? ⟨w.heap.size + 1, 1, none⟩ = false) := Lib.hid fun W5 hb => by
              have h1 := HST4.out.below hb
              have h2 := HE4.out.below hb HE4.out.lt
              exact ⟨h1, HRW4.out.below hb, h2.cell 0, h2.cell 1, h1.s.cell 1, h1.s.frozen 1⟩
            obtain ⟨i0, hi0, hq0, hq1, hq2⟩ := info_parts ent_info
            have d1 : W4.cell? ⟨w.heap.size + 1, 1, none⟩ = some (.slice Av es.length cv) := HST4.out.s.cell 1
            by_cases hca : cv = a
            · have hca' := hca.symm
              subst hca'
              try (exfalso; omega)
              all_goals
                have haa : (a : Int) ≤ a := by omega
                have hnaa : (es.length : Int) ≤ a := by omega
                have HTK := Lib.hid (show Row W4 W4.heap.size Av (ecells (es.take a)) from by rw [ecells_take]; exact HRW4.out.take _)
                have hel2 : (ecells (es.take a)).length = a * 2 := by rw [ecells_len, List.length_take]; omega
                have hel3 : (ecells (es.drop a)).length = (es.length - a) * 2 := by rw [ecells_len, List.length_drop]; omega
                have HL2 := Lib.hid hel2
                have HL3 := Lib.hid hel3
                have HQ := Lib.hid (And.intro hi0 (And.intro hq0 (And.intro hq1 hq2)))
                clear hel2 hel3 hi0 hq0 hq1 hq2
                go_wp2_with (first
                  | (at_builtin; refine wpList_append_rowN _ rfl (.tmp 78) (.tmp 82) 23 rfl W4.heap.size 31 i0 _ 2 24 (by omega) rfl HQ.out.1 HQ.out.2.1 HQ.out.2.2.1 HQ.out.2.2.2 rfl (.slice none 0 0) 0 [] rfl (World.ownsRow_nil _ _ _ _) W4.heap.size Av a a (ecells (es.take a)) rfl HL2.out HTK.out (ecells_one _) (by unfold maxLen; omega) (by omega) (Nat.le_refl _) ?_; intro v1 w5 hown1 hg1 hat1; have hb5 := own_belowN (World.ownsRow_nil W4 W4.heap.size 31 2) (Nat.le_refl _) hg1; have q5 := HB5.out w5 hb5; have z0 := q5.2.2.1; have z1 := q5.2.2.2.1; have HO1 := Lib.hid (hown1.alloc (.cells #[.string ⟨ky.toArray⟩, .int .u64 (T : Nat)] 31)); have HB6 := Lib.hid (hb5.alloc hb5.size (.cells #[.string ⟨ky.toArray⟩, .int .u64 (T : Nat)] 31)); clear hown1 hg1 hat1 q5)
                  | (at_builtin; refine wpList_append_rowN _ rfl (.tmp 84) (.tmp 86) 23 rfl W4.heap.size 31 i0 _ 2 24 (by omega) rfl HQ.out.1 HQ.out.2.1 HQ.out.2.2.1 HQ.out.2.2.2 rfl v1 _ _ rfl HO1.out _ (some ⟨w5.heap.size, 0, none⟩) 1 1 [.string ⟨ky.toArray⟩, .int .u64 (T : Nat)] rfl rfl (Row.new w5 31 #[.string ⟨ky.toArray⟩, .int .u64 (T : Nat)]) (by simp [Value.oneCell']) (by unfold maxLen; omega) (by omega) HB6.out.size ?_; intro v2 w6 hown2 hg2 hat2; have hb6 := HB6.out.trans (own_belowN HO1.out HB6.out.size hg2); have q6 := HB5.out w6 hb6; have d6 := q6.2.2.2.2.1; have HO2 := Lib.hid hown2; have HB7 := Lib.hid hb6; clear hown2 hg2 hat2 q6 hb6)
                  | (at_builtin; refine wpList_append_rowN _ rfl (.tmp 88) (.tmp 92) 23 rfl W4.heap.size 31 i0 _ 2 24 (by omega) rfl HQ.out.1 HQ.out.2.1 HQ.out.2.2.1 HQ.out.2.2.2 rfl v2 _ _ rfl HO2.out 0 Av 0 0 [] (by rfl) rfl Row.nil_ (by simp) (by unfold maxLen; omega) (by omega) HB7.out.size ?_; intro v3 w7 hown3 hg3 hat3; have hb7 := HB7.out.trans (own_belowN HO2.out HB7.out.size hg3); have q7 := HB5.out w7 hb7; have d7 := q7.2.2.2.2.1; have p7 := q7.2.2.2.2.2; obtain ⟨N, hN⟩ : ∃ N, N = 0 + a + 1 + 0 := ⟨_, rfl⟩; rw [← hN] at hown3; have HNN := Lib.hid hN; have HO3 := Lib.hid hown3; have HB8 := Lib.hid hb7; have HS8 := Lib.hid q7.1; obtain ⟨A7, c7, rfl, hc7⟩ := own_formN HO3.out; clear hown3 hg3 hat3 q7 hb7 hN))
                have hL : (es.take a ++ (⟨ky, T⟩ : Ent) :: es.drop a).length = N := by
                  rw [HNN.out]
                  simp
                  omega
                have hE : ecells (es.take a ++ (⟨ky, T⟩ : Ent) :: es.drop a) = [] ++ ecells (es.take a) ++ [.string ⟨ky.toArray⟩, .int .u64 (T : Nat)] ++ [] := by
                  rw [List.drop_eq_nil_of_le hcv]
                  simp [ecells]
                have hoo := own_kept HO3.out (grown_set _ (w.heap.size + 1) 1 (.slice A7 N c7)) (own_blk_ne HO3.out HS8.out.s (by decide))
                have HRR := Lib.hid (own_less hoo (base' := w.heap.size) HST4.out.bel.size)
                clear hoo
                go_roundw
                case rel => exact ⟨k + 1, A7, c7, by omega, by omega, by go_num, by rw [HN.out, hL]; exact hc7, by rw [HN.out, hL]; exact HS8.out.set_ 1 _, by rw [HN.out, hL, hE]; exact HRR.out⟩
                case measure => simp [intOf]; omega
            · skip
              have hacv : (a : Int) ≤ cv := by omega
              have hnacv : (es.length : Int) ≤ cv := by omega
              have HTK := Lib.hid (show Row W4 W4.heap.size Av (ecells (es.take a)) from by rw [ecells_take]; exact HRW4.out.take _)
              have HDR := Lib.hid (fun (W5 : World) (hb : Below W4.heap.size W4 W5) => show Row W5 W4.heap.size (Av.map (fun x => x.add (a * 2))) (ecells (es.drop a)) from by
                rw [ecells_drop]
                have h := ((HB5.out W5 hb).2.1).drop_n (k := a) (size := 2) (n := es.length) (by rw [ecells_len]; omega) hcv (by omega)
                rw [if_neg hca] at h
                exact h)
              have hel2 : (ecells (es.take a)).length = a * 2 := by rw [ecells_len, List.length_take]; omega
              have hel3 : (ecells (es.drop a)).length = (es.length - a) * 2 := by rw [ecells_len, List.length_drop]; omega
              have HL2 := Lib.hid hel2
              have HL3 := Lib.hid hel3
              have HQ := Lib.hid (And.intro hi0 (And.intro hq0 (And.intro hq1 hq2)))
              clear hel2 hel3 hi0 hq0 hq1 hq2
              go_wp2_with (first
                | (at_builtin; refine wpList_append_rowN _ rfl (.tmp 78) (.tmp 82) 23 rfl W4.heap.size 31 i0 _ 2 24 (by omega) rfl HQ.out.1 HQ.out.2.1 HQ.out.2.2.1 HQ.out.2.2.2 rfl (.slice none 0 0) 0 [] rfl (World.ownsRow_nil _ _ _ _) W4.heap.size Av a cv (ecells (es.take a)) rfl HL2.out HTK.out (ecells_one _) (by unfold maxLen; omega) (by omega) (Nat.le_refl _) ?_; intro v1 w5 hown1 hg1 hat1; have hb5 := own_belowN (World.ownsRow_nil W4 W4.heap.size 31 2) (Nat.le_refl _) hg1; have q5 := HB5.out w5 hb5; have z0 := q5.2.2.1; have z1 := q5.2.2.2.1; have HO1 := Lib.hid (hown1.alloc (.cells #[.string ⟨ky.toArray⟩, .int .u64 (T : Nat)] 31)); have HB6 := Lib.hid (hb5.alloc hb5.size (.cells #[.string ⟨ky.toArray⟩, .int .u64 (T : Nat)] 31)); clear hown1 hg1 hat1 q5)
                | (at_builtin; refine wpList_append_rowN _ rfl (.tmp 84) (.tmp 86) 23 rfl W4.heap.size 31 i0 _ 2 24 (by omega) rfl HQ.out.1 HQ.out.2.1 HQ.out.2.2.1 HQ.out.2.2.2 rfl v1 _ _ rfl HO1.out _ (some ⟨w5.heap.size, 0, none⟩) 1 1 [.string ⟨ky.toArray⟩, .int .u64 (T : Nat)] rfl rfl (Row.new w5 31 #[.string ⟨ky.toArray⟩, .int .u64 (T : Nat)]) (by simp [Value.oneCell']) (by unfold maxLen; omega) (by omega) HB6.out.size ?_; intro v2 w6 hown2 hg2 hat2; have hb6 := HB6.out.trans (own_belowN HO1.out HB6.out.size hg2); have q6 := HB5.out w6 hb6; have d6 := q6.2.2.2.2.1; have HO2 := Lib.hid hown2; have HB7 := Lib.hid hb6; clear hown2 hg2 hat2 q6 hb6)
                | (at_builtin; refine wpList_append_rowN _ rfl (.tmp 88) (.tmp 92) 23 rfl W4.heap.size 31 i0 _ 2 24 (by omega) rfl HQ.out.1 HQ.out.2.1 HQ.out.2.2.1 HQ.out.2.2.2 rfl v2 _ _ rfl HO2.out _ (Av.map (fun x => x.add (a * 2))) (es.length - a) (cv - a) (ecells (es.drop a)) (by rfl) HL3.out (HDR.out w6 HB7.out) (ecells_one _) (by unfold maxLen; omega) (by omega) HB7.out.size ?_; intro v3 w7 hown3 hg3 hat3; have hb7 := HB7.out.trans (own_belowN HO2.out HB7.out.size hg3); have q7 := HB5.out w7 hb7; have d7 := q7.2.2.2.2.1; have p7 := q7.2.2.2.2.2; obtain ⟨N, hN⟩ : ∃ N, N = 0 + a + 1 + (es.length - a) := ⟨_, rfl⟩; rw [← hN] at hown3; have HNN := Lib.hid hN; have HO3 := Lib.hid hown3; have HB8 := Lib.hid hb7; have HS8 := Lib.hid q7.1; obtain ⟨A7, c7, rfl, hc7⟩ := own_formN HO3.out; clear hown3 hg3 hat3 q7 hb7 hN))
              have hL : (es.take a ++ (⟨ky, T⟩ : Ent) :: es.drop a).length = N := by
                rw [HNN.out]
                simp
                omega
              have hE : ecells (es.take a ++ (⟨ky, T⟩ : Ent) :: es.drop a) = [] ++ ecells (es.take a) ++ [.string ⟨ky.toArray⟩, .int .u64 (T : Nat)] ++ ecells (es.drop a) := by
                simp [ecells]
              have hoo := own_kept HO3.out (grown_set _ (w.heap.size + 1) 1 (.slice A7 N c7)) (own_blk_ne HO3.out HS8.out.s (by decide))
              have HRR := Lib.hid (own_less hoo (base' := w.heap.size) HST4.out.bel.size)
              clear hoo
              go_roundw
              case rel => exact ⟨k + 1, A7, c7, by omega, by omega, by go_num, by rw [HN.out, hL]; exact hc7, by rw [HN.out, hL]; exact HS8.out.set_ 1 _, by rw [HN.out, hL, hE]; exact HRR.out⟩
              case measure => simp [intOf]; omega
    · have hmin : k = min c.length 10 := by omega
      have HMI : Hid ((snapOf clock c far).es = made clock c far k) := Lib.hid (by unfold snapOf; rw [← hmin])
      have c0 : wr.cell? ⟨w.heap.size, 0, none⟩ = some (.int .u64 0) := HST.out.res.cell 0
      have c1 : wr.cell? ⟨w.heap.size, 1, none⟩ = some (.slice none 0 0) := HST.out.res.cell 1
      have f0 := HST.out.res.frozen 0
      have f1 := HST.out.res.frozen 1
      have d0 : wr.cell? ⟨w.heap.size + 1, 0, none⟩ = some (.int .u64 clock) := HST.out.s.cell 0
      have d1 : wr.cell? ⟨w.heap.size + 1, 1, none⟩ = some (.slice Av (made clock c far k).length cv) := HST.out.s.cell 1
      have hne := own_blk_ne HOW.out HST.out.res (by decide)
      have hoo := own_kept (own_kept HOW.out (grown_set _ (w.heap.size) 0 (.int .u64 clock)) hne) (grown_set _ (w.heap.size) 1 (.slice Av (made clock c far k).length cv)) hne
      have HRR := Lib.hid (of_ownN hoo)
      clear hoo hne hmin
      by_cases hkc : k < c.length
      · have hk10' : (10 : Int) ≤ k := by omega
        go_wp2
        refine bodyPost_ret (v := .agg #[.int .u64 clock, .slice Av (made clock c far k).length cv]) (by simp [results, Tryd.results11, go_sem, c0, c1, f0, f1]) rfl ?_
        rw [HMI.out]
        exact ⟨Av, cv, rfl, hcv, HRR.out, (HST.out.bel.setCell (p := ⟨w.heap.size, 0, none⟩) (Nat.le_refl _) _).setCell (p := ⟨w.heap.size, 1, none⟩) (Nat.le_refl _) _⟩
      · go_wp2
        refine bodyPost_ret (v := .agg #[.int .u64 clock, .slice Av (made clock c far k).length cv]) (by simp [results, Tryd.results11, go_sem, c0, c1, f0, f1]) rfl ?_
        rw [HMI.out]
        exact ⟨Av, cv, rfl, hcv, HRR.out, (HST.out.bel.setCell (p := ⟨w.heap.size, 0, none⟩) (Nat.le_refl _) _).setCell (p := ⟨w.heap.size, 1, none⟩) (Nat.le_refl _) _⟩
end Go.Proofs.YthlaigpopplafaaDoor.pack
