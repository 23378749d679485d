/- the reference's Decode, walked. -/
import Derived.Test.YthlaigpopplafaaDoorPackRefW
import Derived.Test.YthlaigpopplafaaDoorKeyRefRight
import Derived.Test.YthlaigpopplafaaDoorKeyRL
namespace Go.Proofs.YthlaigpopplafaaDoor.pack
open Go.RowKit
open Go.Proofs.YthlaigpopplafaaDoor.aid
open Go.Proofs.YthlaigpopplafaaDoor.key (right less refright_any refless_any)

theorem run_enter {P : Program} {f : FuncId} {fn : Func} {c : Code} (hf : P.funcs[f]? = some fn) (hname : (fn.name == "runtime.NumGoroutine") = false) (hb : fn.body = some c) (args : Array Value) (w : World) :
    (callFunc f args).run P w = .ok (.enter f args) w := by
  have h1 : fn.name ≠ "runtime.NumGoroutine" := by simpa using hname
  simp [callFunc, hf, h1, hb]
/-- a call that leaves the world as it is, as one step of a region that draws -/
theorem step_call1 {P : Program} {ops : Array Oper} {o : Oper} {a : Act} {w : World} {K : Act → World → Prop} {Q : Exit → Act → World → Prop} {E : Prop}
    (d : Nat) (hd : o.dst = some d) (hg : o.guard = none) (f : FuncId) (x : Operand) (t : TypeId) (hop : o.op = Op.call { callee := Callee.value (.func f), args := #[x], argTypes := #[t] })
    (hin : ∀ args w, (callFunc f args).run P w = .ok (.enter f args) w)
    (u : Value) (hx : a.eval x = u) (v : Value) (hC : Calls P f #[u] w fun e w' => e = .returned v ∧ w = w') (hK : K (a.put o.dst v) w) :
    if Region.wanted o (yielded ops a.tmps) = true then Oper.wp P o a w K Q else E := by
  subst hx
  rw [if_pos (by simp [Region.wanted, hg])]
  unfold Oper.wp
  simp only [execOp, hop, resolve, invoke, go_sem, Sem.run_bind, Sem.run_pure, Result.andThen_ok, List.map_toArray, List.map_cons, List.map_nil]
  rw [hin]
  show Calls P f (#[] ++ #[a.eval x] ++ #[]) w _
  rw [Array.append_empty, Array.empty_append]
  refine hC.mono ?_
  rintro e w' ⟨rfl, rfl⟩
  exact hK
def RDecPost (l : List UInt8) (w : World) (e : Ending) (w' : World) : Prop := ∃ v, e = .returned (.tuple #[.agg #[.int .u64 ((decode l).1.clock : Nat), v], .int .i64 ((decode l).2 : Nat)]) ∧ w'.ownsRow w.heap.size 31 2 v (decode l).1.es.length (ecells (decode l).1.es) ∧ Below w.heap.size w w'
/-- the two boxes -/
structure St2 (w : World) (cs : Array Value) (W : World) : Prop where
  res : Blk W w.heap.size 25 #[.int .u64 0, .slice none 0 0]
  s : Blk W (w.heap.size + 1) 25 cs
  bel : Below w.heap.size w W
section
variable {w W W' : World} {cs : Array Value}
theorem St2.siz (h : St2 w cs W) : w.heap.size + 1 < W.heap.size := h.s.lt
theorem St2.grow {row : Option Nat} (h : St2 w cs W) (hg : W.grownBy W' row) (hr : ∀ k, row = some k → w.heap.size ≤ k ∧ k ≠ w.heap.size ∧ k ≠ w.heap.size + 1) : St2 w cs W' :=
  ⟨h.res.grown hg (fun e => (hr _ e.symm).2.1 rfl), h.s.grown hg (fun e => (hr _ e.symm).2.2 rfl), h.bel.grown hg (by have := h.siz; omega) (fun k hk => (hr k hk).1)⟩
theorem St2.alloc (h : St2 w cs W) (o : Obj) : St2 w cs (W.alloc o) := h.grow (World.grownBy_alloc _ _ none) (by simp)
theorem St2.drew (h : St2 w cs W) : St2 w cs W.drew := ⟨h.res, h.s, h.bel.drew⟩
theorem St2.below (h : St2 w cs W) (hb : Below W.heap.size W W') : St2 w cs W' := h.grow (grown_none hb none) (by simp)
theorem St2.set_ (h : St2 w cs W) (i : Nat) (v : Value) : St2 w (cs.setIfInBounds i v) (W.setCell ⟨w.heap.size + 1, i, none⟩ v) :=
  ⟨h.res.far (by simp) v, h.s.set_ i v, h.bel.setCell (by simp) v⟩
end
theorem row_sub {W : World} {B g off : Nat} {l : List UInt8} (h : Row W B (some ⟨g, off, none⟩) (u8s l)) (i m : Nat) : Row W B (some ⟨g, off + i, none⟩) (u8s ((l.drop i).take m)) := by
  rw [← u8s_take, ← u8s_drop]
  exact (h.from_ i).take m
theorem get_sub {W : World} {B g off : Nat} {l : List UInt8} (h : Row W B (some ⟨g, off, none⟩) (u8s l)) (hB : B ≤ W.heap.size) (i m c : Nat) (hm : m ≤ 8) (hl : i + m ≤ l.length) :
    Calls Tryd.prog 39 #[.slice (some ⟨g, off + i, none⟩) m c] W fun e w' => e = .returned (.int .u64 (num ((l.drop i).take m) : Nat)) ∧ W = w' := by
  have hk : ((l.drop i).take m).length = m := by rw [List.length_take, List.length_drop]; omega
  have := refget_any ((l.drop i).take m) (some ⟨g, off + i, none⟩) c (by omega) W ((row_sub h i m).more hB)
  rwa [hk] at this
theorem str_sub {W : World} {B g off : Nat} {l : List UInt8} (h : Row W B (some ⟨g, off, none⟩) (u8s l)) (i m c : Nat) (hl : i + m ≤ l.length) :
    (convert 26 9 (.slice (some ⟨g, off + i, none⟩) m c)).run Tryd.prog W = .ok (.string ⟨((l.drop i).take m).toArray⟩) W := by
  have hk : ((l.drop i).take m).length = m := by rw [List.length_take, List.length_drop]; omega
  have := row_string (c := c) (row_sub h i m)
  rwa [hk] at this
def RLoop (l : List UInt8) (w : World) (n3 : Nat) (u5 u6 u7 : Value) (wr : World) : Prop := ∃ (at_ k : Nat) (last : List UInt8) (acc : List Ent) (v : Value), u5 = .int .i64 at_ ∧ u6 = .string ⟨last.toArray⟩ ∧ u7 = .int .u64 k ∧ at_ ≤ l.length ∧ k ≤ n3 ∧ acc.length ≤ at_ ∧ last.length ≤ 128 ∧
  St2 w #[.int .u64 (num ((l.drop 4).take 8) : Nat), v] wr ∧ wr.ownsRow w.heap.size 31 2 v acc.length (ecells acc) ∧
  dec n3 (l.drop 16) [] [] = dec (n3 - k) (l.drop at_) last acc

set_option maxRecDepth 100000 in
set_option maxHeartbeats 20000000 in
theorem refdec_x (l : List UInt8) (A : Option Addr) (c : Nat) (w : World) (hc : l.length ≤ c) (hlt : l.length ≤ 100000) (hr : Row w w.heap.size A (u8s l)) :
    Calls Tryd.prog 26 #[.slice A l.length c] w (RDecPost l w) := by
  have hst0 := Lib.hid (show Blk (w.alloc (.cells #[.int .u64 0, .slice none 0 0] 25)) w.heap.size 25 #[.int .u64 0, .slice none 0 0] ∧ Below w.heap.size w (w.alloc (.cells #[.int .u64 0, .slice none 0 0] 25)) from ⟨Blk.new w _ _, (Below.refl _ _).alloc (Nat.le_refl _) _⟩)
  obtain ⟨W0, hW0⟩ : ∃ W0, W0 = w.alloc (.cells #[.int .u64 0, .slice none 0 0] 25) := ⟨_, rfl⟩
  rw [← hW0] at hst0
  have hfin : Hid (∀ W, Blk W w.heap.size 25 #[.int .u64 0, .slice none 0 0] → Below w.heap.size w W → ∀ err, decode l = (nosnap, err) → ∀ e, e = .returned (.tuple #[.agg #[.int .u64 0, .slice none 0 0], .int .i64 (err : Nat)]) → RDecPost l w e W) := Lib.hid fun W h1 h2 err h3 e he => by
    refine ⟨.slice none 0 0, by rw [h3]; exact he, ?_, h2⟩
    rw [h3]
    exact World.ownsRow_nil _ _ _ _
  have c0 : W0.cell? ⟨w.heap.size, 0, none⟩ = some (.int .u64 0) := hst0.out.1.cell 0
  have c1 : W0.cell? ⟨w.heap.size, 1, none⟩ = some (.slice none 0 0) := hst0.out.1.cell 1
  have f0 := hst0.out.1.frozen 0
  have f1 := hst0.out.1.frozen 1
  have HR0 := Lib.hid (hr.below hst0.out.2)
  have HR00 := Lib.hid hr
  have HW0 := Lib.hid hW0
  clear hr hW0
  by_cases h4 : l.length < 4
  · have HM := Lib.hid (decode_mag (l := l) (by
      intro e
      have := congrArg List.length e
      rw [List.length_take] at this
      simp [magic] at this
      omega))
    go_enter Tryd.func26, Tryd.ntmps26
    go_wp2_with fail
    rw [← HW0.out]
    go_wp2
    refine bodyPost_ret (v := .tuple #[.agg #[.int .u64 0, .slice none 0 0], .int .i64 40]) (by simp [results, Tryd.results26, go_sem, c0, c1, f0, f1]) rfl ?_
    exact hfin.out _ hst0.out.1 hst0.out.2 40 HM.out _ rfl
  · obtain ⟨g, off, rfl, hg, -⟩ := HR0.out.at_ (k := 0) (by simp [u8s]; omega)
    have h4' : (4 : Int) ≤ l.length := by omega
    have hcv := str_sub HR0.out 0 4 c (by omega)
    rw [List.drop_zero, Nat.add_zero, HW0.out] at hcv
    by_cases hmag : l.take 4 = magic
    · rw [hmag, show magic = [84, 76, 82, 49] from rfl] at hcv
      have HM := Lib.hid hmag
      by_cases h16 : l.length < 16
      · have H16 := Lib.hid (decode_16 hmag h16)
        clear hmag
        go_enter Tryd.func26, Tryd.ntmps26
        go_wp2
        rw [← HW0.out]
        refine bodyPost_ret (v := .tuple #[.agg #[.int .u64 0, .slice none 0 0], .int .i64 41]) (by simp [results, Tryd.results26, go_sem, c0, c1, f0, f1]) rfl ?_
        exact hfin.out _ hst0.out.1 hst0.out.2 41 H16.out _ rfl
      · have h16' : (16 : Int) ≤ l.length := by omega
        clear hmag
        go_enter Tryd.func26, Tryd.ntmps26
        go_wp2_with fail
        rw [← HW0.out]
        refine (get_sub HR0.out hst0.out.2.size 4 8 _ (by omega) (by omega)).mono ?_
        rintro e w1 ⟨rfl, hw1⟩
        rw [← hw1]
        obtain ⟨n1, hn1⟩ : ∃ n1, n1 = num ((l.drop 4).take 8) := ⟨_, rfl⟩
        rw [← hn1]
        have HN1 := Lib.hid hn1
        have hst1 := Lib.hid (show St2 w #[.int .u64 (n1 : Nat), .slice none 0 0] (W0.alloc (.cells #[.int .u64 (n1 : Nat), .slice none 0 0] 25)) from by
          have hs : W0.heap.size = w.heap.size + 1 := by rw [HW0.out]; simp
          have h1 := Blk.new W0 25 #[.int .u64 (n1 : Nat), .slice none 0 0]
          rw [hs] at h1
          exact ⟨hst0.out.1.alloc _, h1, hst0.out.2.alloc hst0.out.2.size _⟩)
        obtain ⟨n3, hn3⟩ : ∃ n3, n3 = num ((l.drop 12).take 4) := ⟨_, rfl⟩
        have HN3 := Lib.hid hn3
        have hn3' : n3 < 4294967296 := by
          have := num_lt ((l.drop 12).take 4)
          rw [show ((l.drop 12).take 4).length = 4 from by rw [List.length_take, List.length_drop]; omega] at this
          rw [hn3]
          simpa using this
        have HRW : Hid (∀ W, Below w.heap.size w W → Row W w.heap.size (some ⟨g, off, none⟩) (u8s l)) := Lib.hid fun W hb => by
          have : Row w w.heap.size (some ⟨g, off, none⟩) (u8s l) := HR00.out
          exact this.below hb
        have hs0 : W0.heap.size = w.heap.size + 1 := by rw [HW0.out]; simp
        clear hw1 hn1 hn3 hcv c0 c1 f0 f1 HR0 hst0
        go_wp2_with fail
        clear hs0
        go_loopw [5, 6, 7] (fun u5 u6 u7 wr => RLoop l w n3 u5 u6 u7 wr) (fun u5 _ _ _ => l.length - (intOf u5).toNat)
        case atStart => exact ⟨16, 0, [], [], .slice none 0 0, rfl, rfl, rfl, by omega, by omega, by simp, by simp, by rw [← HN1.out]; exact hst1.out, World.ownsRow_nil _ _ _ _, rfl⟩
        case round =>
          obtain ⟨at_, k, last, acc, v, rfl, rfl, rfl, hat, hk, hal, hla, hst, hown, hdec⟩ := hrel
          obtain ⟨Av, cv, rfl⟩ := own_slice hown
          have HST := Lib.hid hst
          have HOW := Lib.hid hown
          have hdec2 : dec (num ((l.drop 12).take 4)) (l.drop 16) [] [] = dec (n3 - k) (l.drop at_) last acc := by rw [← HN3.out]; exact hdec
          have HDEC := Lib.hid hdec2
          have HRr := Lib.hid (HRW.out wr hst.bel)
          have HG := get_sub HRr.out hst.bel.size 12 4 (c - 12) (by omega) (by omega)
          rw [← HN3.out] at HG
          have HG := Lib.hid HG
          have c0 : wr.cell? ⟨w.heap.size, 0, none⟩ = some (.int .u64 0) := hst.res.cell 0
          have c1 : wr.cell? ⟨w.heap.size, 1, none⟩ = some (.slice none 0 0) := hst.res.cell 1
          have f0 := hst.res.frozen 0
          have f1 := hst.res.frozen 1
          have hend2 : Hid (∀ W, Blk W w.heap.size 25 #[.int .u64 0, .slice none 0 0] → Below w.heap.size w W → ∀ err, decode l = (nosnap, err) → RDecPost l w (.returned (.tuple #[.agg #[.int .u64 0, .slice none 0 0], .int .i64 (err : Nat)])) ((W.setCell ⟨w.heap.size, 0, none⟩ (.int .u64 0)).setCell ⟨w.heap.size, 1, none⟩ (.slice none 0 0))) := Lib.hid fun W h1 h2 err h =>
            hfin.out _ ((h1.set_ 0 (.int .u64 0)).set_ 1 (.slice none 0 0)) ((h2.setCell (p := ⟨w.heap.size, 0, none⟩) (Nat.le_refl _) _).setCell (p := ⟨w.heap.size, 1, none⟩) (Nat.le_refl _) _) err h _ rfl
          have hend : Hid (∀ err, decode l = (nosnap, err) → RDecPost l w (.returned (.tuple #[.agg #[.int .u64 0, .slice none 0 0], .int .i64 (err : Nat)])) ((wr.setCell ⟨w.heap.size, 0, none⟩ (.int .u64 0)).setCell ⟨w.heap.size, 1, none⟩ (.slice none 0 0))) := Lib.hid fun err h =>
            hfin.out _ ((HST.out.res.set_ 0 (.int .u64 0)).set_ 1 (.slice none 0 0)) ((HST.out.bel.setCell (p := ⟨w.heap.size, 0, none⟩) (Nat.le_refl _) _).setCell (p := ⟨w.heap.size, 1, none⟩) (Nat.le_refl _) _) err h _ rfl
          clear hst hown hdec hdec2 hst1 HRW
          have hat' : (at_ : Int) ≤ l.length := by omega
          by_cases hkn : k < n3
          · have hkn' : (k : Int) < n3 := by omega
            by_cases haL : at_ < l.length
            · have haL' : (at_ : Int) < l.length := by omega
              obtain ⟨g', off', he, -, hcx⟩ := HRr.out.at_ (k := at_) (by simp [u8s]; omega)
              injection he with he
              injection he with he1 he2
              subst he1 he2
              have hx := hcx at_ _ (u8s_at l at_ haL)
              have hdr : l.drop at_ = l[at_] :: l.drop (at_ + 1) := List.drop_eq_getElem_cons haL
              have hxl := l[at_].toNat_lt
              obtain ⟨m, hm⟩ : ∃ m, n3 - k = m + 1 := ⟨n3 - k - 1, by omega⟩
              clear hcx
              by_cases hfit : at_ + 9 + l[at_].toNat ≤ l.length
              · have hfit' : (at_ : Int) + 9 + l[at_].toNat ≤ l.length := by omega
                have hks := str_sub HRr.out (at_ + 1) l[at_].toNat (c - (at_ + 1)) (by omega)
                go_wp2_with fail
                refine HG.out.mono ?_
                rintro e w2 ⟨rfl, rfl⟩
                have hstep : dec (m + 1) (l[at_] :: l.drop (at_ + 1)) last acc = if right ((l.drop (at_ + 1)).take l[at_].toNat) = false then ([], [], 12) else if less last ((l.drop (at_ + 1)).take l[at_].toNat) = false then ([], [], 42) else
                    dec m ((l.drop (at_ + 1)).drop (l[at_].toNat + 8)) ((l.drop (at_ + 1)).take l[at_].toNat) (acc ++ [⟨(l.drop (at_ + 1)).take l[at_].toNat, num (((l.drop (at_ + 1)).drop l[at_].toNat).take 8)⟩]) := by rw [dec, if_neg (by rw [List.length_drop]; omega)]
                rw [List.drop_drop, List.drop_drop, ← hdr, ← hm] at hstep
                have HST8 := Lib.hid (HDEC.out.trans hstep)
                have HMM : Hid (m = n3 - (k + 1)) := Lib.hid (by omega)
                have HG8 : Hid (∀ W', Below w.heap.size w W' → Calls Tryd.prog 39 #[.slice (some ⟨g, off + (at_ + 1 + l[at_].toNat), none⟩) 8 (c - (at_ + 1 + l[at_].toNat))] W' fun e w' => e = .returned (.int .u64 (num ((l.drop (at_ + 1 + l[at_].toNat)).take 8) : Nat)) ∧ W' = w') := Lib.hid fun W' hb =>
                  get_sub (l := l) (B := w.heap.size) (by have : Row w w.heap.size (some ⟨g, off, none⟩) (u8s l) := HR00.out; exact this.below hb) hb.size (at_ + 1 + l[at_].toNat) 8 _ (by omega) (by omega)
                have hul := num_take_lt (l.drop (at_ + 1 + l[at_].toNat)) 8 (by omega)
                obtain ⟨u, hu⟩ : ∃ u, u = num ((l.drop (at_ + 1 + l[at_].toNat)).take 8) := ⟨_, rfl⟩
                have hkl : ((l.drop (at_ + 1)).take l[at_].toNat).length ≤ 255 := by rw [List.length_take]; omega
                obtain ⟨key, hkey⟩ : ∃ key, key = (l.drop (at_ + 1)).take l[at_].toNat := ⟨_, rfl⟩
                rw [← hu] at hul HG8 HST8
                rw [← hkey] at hkl HST8 hks
                have HRI := Lib.hid (fun W => refright_any ⟨key.toArray⟩ (by simp [ByteArray.size]; omega) W)
                have HLE := Lib.hid (fun W => refless_any ⟨last.toArray⟩ ⟨key.toArray⟩ (by simp [ByteArray.size]; omega) (by simp [ByteArray.size]; omega) W)
                change Hid (∀ W, Calls _ _ _ W fun e w' => e = .returned (.bool (right key)) ∧ W = w') at HRI
                change Hid (∀ W, Calls _ _ _ W fun e w' => e = .returned (.bool (less last key)) ∧ Below W.heap.size W w') at HLE
                have hk128 : right key = true → key.length ≤ 128 := fun h => (right_len h).2
                obtain ⟨x, hxx⟩ : ∃ x, x = l[at_].toNat := ⟨_, rfl⟩
                rw [← hxx] at hx hxl hfit hfit' HG8 HST8 hks
                clear hstep hdr hm HG hu hkey hxx HDEC hkl
                have hnx : at_ + 1 + (x + 8) = at_ + (9 + x) := by omega
                rw [hnx] at HST8
                clear hnx
                go_wp2_with fail
                refine (HRI.out _).mono ?_
                rintro e w2 ⟨rfl, rfl⟩
                rcases Bool.eq_false_or_eq_true (right key) with hrt | hrt
                · have hkl := hk128 hrt
                  rw [hrt, if_neg (by simp)] at HST8
                  rw [hrt]
                  clear hrt hk128 HRI
                  go_wp2_with fail
                  refine (HLE.out _).mono ?_
                  rintro e w3 ⟨rfl, hb3⟩
                  have HS3 := Lib.hid (HST.out.below hb3)
                  have HO3 := Lib.hid (HOW.out.kept (grown_none hb3 none) (by cases h : (Value.slice Av acc.length cv).ownBlock <;> simp))
                  clear hb3 c0 c1 f0 f1 HLE hx HST HOW HRr hend
                  rcases Bool.eq_false_or_eq_true (less last key) with hls | hls
                  · rw [hls, if_neg (by simp)] at HST8
                    rw [hls]
                    clear hls hend2
                    obtain ⟨i0, hi0, hq0, hq1, hq2⟩ := info_parts ent_info
                    have HI := Lib.hid (And.intro hi0 (And.intro hq0 (And.intro hq1 hq2)))
                    have HIN := Lib.hid (run_enter Tryd.func39 (by kernel_rfl) rfl)
                    have hown1 : ∀ k, (Value.slice Av acc.length cv).ownBlock = some k → w.heap.size ≤ k ∧ k ≠ w.heap.size ∧ k ≠ w.heap.size + 1 := fun k hk => ⟨(own_lt HO3.out hk).1, fun e => own_blk_ne HO3.out HS3.out.res (by decide) (by rw [hk, e]), fun e => own_blk_ne HO3.out HS3.out.s (by decide) (by rw [hk, e])⟩
                    have HO1 := Lib.hid hown1
                    have hacc : Hid (acc.length ≤ 100000) := Lib.hid (by omega)
                    have hw3 := Lib.hid HS3.out.siz
                    have HGD := Lib.hid (HG8.out w3.drew HS3.out.bel.drew)
                    have HG7 : Hid (∀ W7 : World, ((w3.alloc (.cells #[.string ⟨key.toArray⟩, .int .u64 u] 31)).drew).grownBy W7 (Value.slice Av acc.length cv).ownBlock →
                        St2 w #[.int .u64 (num ((l.drop 4).take 8) : Nat), .slice Av acc.length cv] W7 ∧ W7.cell? ⟨w.heap.size + 1, 1, none⟩ = some (.slice Av acc.length cv) ∧ W7.frozen? ⟨w.heap.size + 1, 1, none⟩ = false) := Lib.hid fun W7 hgrow => by
                      have hs7 := St2.grow ((HS3.out.alloc (.cells #[.string ⟨key.toArray⟩, .int .u64 u] 31)).drew) hgrow HO1.out
                      exact ⟨hs7, hs7.s.cell 1, hs7.s.frozen 1⟩
                    have c1 : w3.cell? ⟨w.heap.size + 1, 1, none⟩ = some (.slice Av acc.length cv) := HS3.out.s.cell 1
                    have p1 := HS3.out.s.frozen 1
                    have hlt3 : w.heap.size + 1 < w3.heap.size := HS3.out.siz
                    clear hi0 hq0 hq1 hq2 hown1 HG8
                    have e1 : IntKind.i64.wrap ((at_ : Int) + 1) = (at_ : Int) + 1 := wrap_small _ (by omega) (by omega)
                    have e2 : IntKind.i64.wrap ((at_ : Int) + 1 + x) = (at_ : Int) + 1 + x := wrap_small _ (by omega) (by omega)
                    have e3 : IntKind.i64.wrap ((at_ : Int) + 9) = (at_ : Int) + 9 := wrap_small _ (by omega) (by omega)
                    have e4 : IntKind.i64.wrap ((at_ : Int) + 9 + x) = (at_ : Int) + 9 + x := wrap_small _ (by omega) (by omega)
                    have b1 : (0 : Int) ≤ (at_ : Int) + 9 + x := by omega
                    have b2 : (at_ : Int) + 9 + x ≤ c := by omega
                    have b3 : (0 : Int) ≤ (at_ : Int) + 1 + x := by omega
                    have b4 : max ((at_ : Int) + 9 + x) 0 = (at_ : Int) + 9 + x := by omega
                    have b5 : (at_ : Int) + 1 + x ≤ (at_ : Int) + 9 + x := by omega
                    have t1 : ((at_ : Int) + 1 + x).toNat = at_ + 1 + x := by omega
                    have t2 : ((at_ : Int) + 9 + x).toNat = at_ + 9 + x := by omega
                    have t3 : ¬ c = at_ + 1 + x := by omega
                    have t4 : at_ + 9 + x - (at_ + 1 + x) = 8 := by omega
                    go_wp2_with fail
                    rename_i KA hKA QQ sp KB hKB hh KC hKC
                    have HKA := Lib.hid hKA
                    have HKB := Lib.hid hKB
                    have HKC := Lib.hid hKC
                    clear hKA hKB hKC HG hks
                    go_region_law ((first
                      | (refine step_call1 89 ?_ ?_ 39 (.tmp 88) 26 ?_ HIN.out (.slice (some ⟨g, off + (at_ + 1 + x), none⟩) 8 (c - (at_ + 1 + x))) ?_ (.int .u64 (u : Nat)) ?_ ?_; rfl; rfl; rfl; kernel_rfl; exact HGD.out)
                      | (refine step_append_lies _ (by rfl) _ _ _ (by rfl) w.heap.size 31 i0 _ 2 24 Tryd.underlying23 HI.out.1 HI.out.2.1 HI.out.2.2.1 HI.out.2.2.2 rfl (by omega) (.slice Av acc.length cv) acc.length (ecells acc) (by rfl) ((HO3.out.alloc _).drew) ⟨w3.heap.size, 0, none⟩ 1 1 [.string ⟨key.toArray⟩, .int .u64 u] (by rfl) (by rfl) (World.news_of_block (cs := #[.string ⟨key.toArray⟩, .int .u64 u]) (t := 31) (fr := (0, 0)) (heap_alloc_new w3 _)) (by simp [Value.oneCell']) (by omega) (by have := hacc.out; simp only [maxLen]; omega) (by have := hacc.out; omega) (by have := hw3.out; simp; omega) (w3.heap.size + 1) (by simp) ?_; intro gg cap w7 hown7 hgrow hat7 hlt7; have h7 := HG7.out w7 hgrow; have hs7 := Lib.hid h7.1; have c7 := h7.2.1; have p7 := h7.2.2; have ho7 := Lib.hid hown7; clear hown7 hgrow h7)))
                    all_goals
                      change KC _ _
                      refine HKC.out _ _ ?_
                      go_wp2
                      refine HKB.out _ _ ?_
                      go_wp2
                      refine ⟨⟨at_ + (9 + x), k + 1, key, acc ++ [⟨key, u⟩], .slice (some ⟨gg, 0, none⟩) (acc.length + 1) cap, by go_num, rfl, by go_num, by omega, by omega, by simp; omega, hkl, hs7.out.set_ 1 _, ?_, ?_⟩, by simp [intOf]; omega⟩
                      · have hoo := own_kept ho7.out (grown_set _ (w.heap.size + 1) 1 (.slice (some ⟨gg, 0, none⟩) (acc.length + 1) cap)) (own_blk_ne ho7.out hs7.out.s (by decide))
                        rw [List.length_append, List.length_singleton, ecells_snoc]
                        exact hoo
                      · have h := HST8.out
                        rw [← HN3.out, HMM.out] at h
                        exact h
                  · rw [hls, if_pos rfl] at HST8
                    rw [hls]
                    have HE := Lib.hid (hend2.out w3 HS3.out.res HS3.out.bel 42 (decode_err HM.out (by omega) HST8.out (by omega)))
                    have c0 : w3.cell? ⟨w.heap.size, 0, none⟩ = some (.int .u64 0) := HS3.out.res.cell 0
                    have c1 : w3.cell? ⟨w.heap.size, 1, none⟩ = some (.slice none 0 0) := HS3.out.res.cell 1
                    have f0 := HS3.out.res.frozen 0
                    have f1 := HS3.out.res.frozen 1
                    clear hls
                    go_wp2
                    refine bodyPost_ret (v := .tuple #[.agg #[.int .u64 0, .slice none 0 0], .int .i64 42]) (by simp [results, Tryd.results26, go_sem, c0, c1, f0, f1]) rfl HE.out
                · rw [hrt, if_pos rfl] at HST8
                  rw [hrt]
                  have HE := Lib.hid (hend.out 12 (decode_err HM.out (by omega) HST8.out (by omega)))
                  clear hrt hk128 HRI
                  go_wp2
                  refine bodyPost_ret (v := .tuple #[.agg #[.int .u64 0, .slice none 0 0], .int .i64 12]) (by simp [results, Tryd.results26, go_sem, c0, c1, f0, f1]) rfl HE.out
              · have hfit' : (l.length : Int) < at_ + 9 + l[at_].toNat := by omega
                have HE := Lib.hid (hend.out 41 (decode_err HM.out (by omega) (HDEC.out.trans (by
                  rw [hm]
                  exact dec_lack (by
                    intro x r h
                    rw [hdr] at h
                    injection h with h1 h2
                    subst h1 h2
                    rw [List.length_drop]
                    omega))) (by omega)))
                generalize l[at_].toNat = x at *
                go_wp2_with fail
                refine HG.out.mono ?_
                rintro e w2 ⟨rfl, rfl⟩
                go_wp2
                refine bodyPost_ret (v := .tuple #[.agg #[.int .u64 0, .slice none 0 0], .int .i64 41]) (by simp [results, Tryd.results26, go_sem, c0, c1, f0, f1]) rfl HE.out
            · have haL' : (l.length : Int) ≤ at_ := by omega
              obtain ⟨m, hm⟩ : ∃ m, n3 - k = m + 1 := ⟨n3 - k - 1, by omega⟩
              have HE := Lib.hid (hend.out 41 (decode_err HM.out (by omega) (HDEC.out.trans (by
                rw [hm]
                exact dec_lack (by
                  intro x r h
                  rw [List.drop_eq_nil_of_le (by omega)] at h
                  cases h))) (by omega)))
              go_wp2_with fail
              refine HG.out.mono ?_
              rintro e w2 ⟨rfl, rfl⟩
              go_wp2
              refine bodyPost_ret (v := .tuple #[.agg #[.int .u64 0, .slice none 0 0], .int .i64 41]) (by simp [results, Tryd.results26, go_sem, c0, c1, f0, f1]) rfl HE.out
          · obtain rfl : k = n3 := by omega
            rw [Nat.sub_self] at HDEC
            have hd0 : dec 0 (l.drop at_) last acc = (acc, l.drop at_, 0) := rfl
            by_cases haL : at_ < l.length
            · have haL' : (at_ : Int) < l.length := by omega
              have HE := Lib.hid (hend.out 43 (decode_tail HM.out (by omega) (HDEC.out.trans hd0) (by
                intro e
                have := congrArg List.length e
                rw [List.length_drop] at this
                simp at this
                omega)))
              go_wp2_with fail
              refine HG.out.mono ?_
              rintro e w2 ⟨rfl, rfl⟩
              go_wp2
              refine bodyPost_ret (v := .tuple #[.agg #[.int .u64 0, .slice none 0 0], .int .i64 43]) (by simp [results, Tryd.results26, go_sem, c0, c1, f0, f1]) rfl HE.out
            · obtain rfl : at_ = l.length := by omega
              have HF := Lib.hid (decode_fine HM.out (by omega) (HDEC.out.trans (hd0.trans (by rw [List.drop_length]))))
              have d0 : wr.cell? ⟨w.heap.size + 1, 0, none⟩ = some (.int .u64 (num ((l.drop 4).take 8) : Nat)) := HST.out.s.cell 0
              have d1 : wr.cell? ⟨w.heap.size + 1, 1, none⟩ = some (.slice Av acc.length cv) := HST.out.s.cell 1
              obtain ⟨q, hq⟩ : ∃ q, q = num ((l.drop 4).take 8) := ⟨_, rfl⟩
              rw [← hq] at d0 HF
              clear hq
              go_wp2_with fail
              refine HG.out.mono ?_
              rintro e w2 ⟨rfl, rfl⟩
              go_wp2
              refine bodyPost_ret (v := .tuple #[.agg #[.int .u64 (q : Nat), .slice Av acc.length cv], .int .i64 0]) (by simp [results, Tryd.results26, go_sem, c0, c1, f0, f1]) rfl ?_
              refine ⟨.slice Av acc.length cv, by rw [HF.out]; rfl, ?_, (HST.out.bel.setCell (p := ⟨w.heap.size, 0, none⟩) (Nat.le_refl _) _).setCell (p := ⟨w.heap.size, 1, none⟩) (Nat.le_refl _) _⟩
              rw [HF.out]
              have hne := own_blk_ne HOW.out HST.out.res (by decide)
              exact own_kept (own_kept HOW.out (grown_set _ _ 0 _) hne) (grown_set _ _ 1 _) hne
    · have HM := Lib.hid (decode_mag hmag)
      have hq : (l.take 4 == [84, 76, 82, 49]) = false := beq_eq_false_iff_ne.2 hmag
      obtain ⟨k, hk⟩ : ∃ k, k = l.take 4 := ⟨_, rfl⟩
      rw [← hk] at hcv hq
      clear hmag hk
      go_enter Tryd.func26, Tryd.ntmps26
      go_wp2
      rw [← HW0.out]
      refine bodyPost_ret (v := .tuple #[.agg #[.int .u64 0, .slice none 0 0], .int .i64 40]) (by simp [results, Tryd.results26, go_sem, c0, c1, f0, f1]) rfl ?_
      exact hfin.out _ hst0.out.1 hst0.out.2 40 HM.out _ rfl
end Go.Proofs.YthlaigpopplafaaDoor.pack
