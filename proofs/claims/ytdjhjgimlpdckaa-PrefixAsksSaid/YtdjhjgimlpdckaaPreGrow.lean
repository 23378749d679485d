/- prefix.grow, walked. -/
import Derived.Test.YtdjhjgimlpdckaaPreSplit
import Derived.Test.YtdjhjgimlpdckaaPreCommon
namespace Go.Proofs.Ytdjhjgimlpdckaa.pre
open Go.RowKit
open Go.Proofs.Ytdjhjgimlpdckaa.aid

def strLen : Value → Nat
  | .string s => s.size
  | _ => 0

theorem common_split : ∀ a b : List UInt8, ∃ p a' b', a = p ++ a' ∧ b = p ++ b' ∧ key.common a b = p.length
  | [], b => ⟨[], [], b, rfl, rfl, by simp [key.common]⟩
  | x :: a, [] => ⟨[], x :: a, [], rfl, rfl, by simp [key.common]⟩
  | x :: a, y :: b => by
    by_cases h : x = y
    · subst h
      obtain ⟨p, a', b', e1, e2, e3⟩ := common_split a b
      exact ⟨x :: p, a', b', by rw [e1]; rfl, by rw [e2]; rfl, by simp [key.common, e3]⟩
    · exact ⟨[], x :: a, y :: b, rfl, rfl, by simp [key.common, h]⟩

theorem split_k (w : World) (base root : Nat) (G : Gr) (T : TreeW w base root G) (hbase : base ≤ w.heap.size) (b : Nat) (r : Rec) (c : UInt8) (ob : Nat) (ro : Rec) (p1 p2 : List UInt8) (d : UInt8) (k : Nat) (ek : k = p1.length + 1) (hb : G b = some r) (hk : r.kid c = some ob) (ho : G ob = some ro)
    (hp : ro.part = (c :: p1) ++ (d :: p2)) :
    Calls Try.prog 21 #[.pointer (some ⟨b, 0, none⟩), .pointer (some ⟨ob, 0, none⟩), .int .i64 (k : Int)] w fun e w' =>
      e = .returned (.pointer (some ⟨w.heap.size + 1, 0, none⟩)) ∧ TreeW w' base root (split G b r c ob ro (c :: p1) (d :: p2) d (w.heap.size + 1) w.heap.size) ∧
        Step w root G w' (split G b r c ob ro (c :: p1) (d :: p2) d (w.heap.size + 1) w.heap.size) := by
  rw [ek]
  exact split_any w base root G T hbase b r c ob ro p1 p2 d hb hk ho hp

/-- what a round of grow finds: the node that the bytes so far lead to, and the bytes that are left -/
def GrowRel (w : World) (base root : Nat) (G : Gr) (s : List UInt8) (n v : Value) (wr : World) : Prop :=
  ∃ (b : Nat) (r : Rec) (G' : Gr) (S : ByteArray) (u : List UInt8), n = .pointer (some ⟨b, 0, none⟩) ∧ v = .string S ∧ Hid (S = ⟨u.toArray⟩) ∧ Hid (TreeW wr base root G') ∧ Hid (Step w root G wr G') ∧ Hid (G' b = some r) ∧ Hid (r.path ++ u = s)

set_option maxHeartbeats 1600000 in
theorem grow_any (w : World) (base root : Nat) (G : Gr) (T : TreeW w base root G) (hbase : base ≤ w.heap.size) (s : List UInt8) (hs : s.length ≤ big) :
    Calls Try.prog 17 #[.pointer (some ⟨root, 0, none⟩), .string ⟨s.toArray⟩] w fun e w' =>
      ∃ b r G', e = .returned (.pointer (some ⟨b, 0, none⟩)) ∧ TreeW w' base root G' ∧ Step w root G w' G' ∧ G' b = some r ∧ r.path = s := by
  obtain ⟨r0, t0, t1, t2⟩ := T.shape.top
  have HT0 := Lib.hid T
  have H0 := Lib.hid (show r0.path ++ s = s by rw [t1]; rfl)
  have H00 := Lib.hid t0
  clear T t0 t1 t2
  go_enter Try.func17, Try.ntmps17
  go_wp2
  go_loopw [0, 1] (fun n v wr => GrowRel w base root G s n v wr) (fun _ v _ => strLen v)
  case atStart => exact ⟨root, r0, G, _, s, rfl, rfl, Lib.hid rfl, HT0, Lib.hid (Step.refl _ _ _), H00, H0⟩
  case round =>
    obtain ⟨b, r, G', S, u, rfl, rfl, HS, HT, HX, HB, HP⟩ := hrel
    cases u with
    | nil =>
      have hS := HS.out
      subst hS
      go_wp2
      go_ret
      exact ⟨b, rfl, r, G', HT.out, HX.out, HB.out, by simpa using HP.out⟩
    | cons c t =>
      have hSn : S.size = t.length + 1 := by rw [HS.out]; simp [ByteArray.size]
      have hne : S.toList.isEmpty = false := by rw [HS.out, ByteArray.toList_eq]; simp
      have h0S : 0 < S.size := by omega
      have h0S' : (0 : Int) < S.size := by omega
      have eS0 : S[0] = c := by
        have h1 : S.data[0]? = some c := by rw [HS.out]; simp
        have h2 : S.data[0]? = some S[0] := Array.getElem?_eq_getElem h0S
        rw [h1] at h2
        exact (Option.some.inj h2).symm
      obtain ⟨m0, m1, m2⟩ := (HT.out.node b r HB.out).cells
      have hlook := KidW.look (w := wr.drew) ((HT.out.kids b r HB.out).same rfl) S[0]
      have hmk := run_makeMap (P := Try.prog) 51 wr.drew
      have E0 := Lib.hid eS0
      clear hSn
      cases hk : r.kid c with
      | none =>
        have hl : ptr (r.kid S[0]) = .pointer none := by rw [eS0, hk]; rfl
        rw [hl] at hlook
        clear eS0 hl
        go_wp2
        rename_i KC hKC
        have HKC := Lib.hid hKC
        clear hKC
        go_region
        change KC _ _
        refine HKC.out _ _ ?_
        go_wp2
        rename_i KD hKD
        have HKD := Lib.hid hKD
        clear hKD
        generalize hW2 : ((wr.alloc (.map #[] 0)).alloc (.cells #[.string S, .pointer none, .map (some wr.heap.size)] 54)).drew = W2
        have zW2 : W2.heap.size = wr.heap.size + 2 := by rw [← hW2]; simp [World.drew]
        have hbl := (HT.out.node b r HB.out).lt
        have hml := (HT.out.kids b r HB.out).lt
        have blk : ∀ i, i < wr.heap.size → W2.heap[i]? = wr.heap[i]? := fun i hi => by
          rw [← hW2]
          exact (Below.heap_alloc _ _ i (by simp; omega)).trans (Below.heap_alloc _ _ i hi)
        have d2 : W2.cell? ⟨b, 2, none⟩ = some (.map (some r.map)) := (World.cell?_of_block (a := ⟨b, 2, none⟩) (blk b hbl)).trans m2
        have hnewB : Blk W2 (wr.heap.size + 1) 54 #[.string S, .pointer none, .map (some wr.heap.size)] := by
          rw [← hW2]
          have := (Blk.new (wr.alloc (.map #[] 0)) 54 #[.string S, .pointer none, .map (some wr.heap.size)]).drew
          simp only [World.size_alloc] at this
          exact this
        have hnewM : KidW W2 wr.heap.size (fun _ => none) := by
          rw [← hW2]
          exact (KidW.new wr).same (Below.heap_alloc _ _ _ (by simp))
        obtain ⟨W3, hrun3, K3, g3, z3⟩ := KidW.put (w := W2.drew) ((HT.out.kids b r HB.out).same (blk _ hml)) S[0] (wr.heap.size + 1)
        have z3' : W3.heap.size = wr.heap.size + 2 := by rw [z3]; exact zW2
        have keep3 : ∀ i, i < wr.heap.size + 2 → i ≠ r.map → W3.heap[i]? = W2.heap[i]? := fun i hi hir => g3.block i (by show i < W2.heap.size; omega) (by intro e; injection e with e; exact hir e)
        have hnB3 : Blk W3 (wr.heap.size + 1) 54 #[.string S, .pointer none, .map (some wr.heap.size)] := (keep3 _ (by omega) (by omega)).trans hnewB
        have hcom : key.common S.data.toList S.data.toList = S.size := by
          rw [key.alike_all_common _ _ (by intro p hp; have := List.mem_iff_getElem.1 hp; obtain ⟨i, hi, rfl⟩ := this; simp [key.pairs])]
          simp
        have hle : (r.path ++ c :: t).length ≤ big := by rw [HP.out]; exact hs
        have hSb : S.size ≤ 9223372036854775807 := by
          have : S.size = t.length + 1 := by rw [HS.out]; simp [ByteArray.size]
          simp [big] at hle
          omega
        have hres : TreeW W3 base root (leaf G' b r c (c :: t) (wr.heap.size + 1) wr.heap.size) ∧ Step wr root G' W3 (leaf G' b r c (c :: t) (wr.heap.size + 1) wr.heap.size) := by
          refine tree_leaf HT.out HB.out hk hle (by have := HX.out.size; omega) (by omega) (by omega) (g3.os.trans ?_) (g3.tape.trans ?_) (g3.output.trans ?_) (by omega) ?_ ?_ ?_ ?_
          · rw [← hW2]; rfl
          · rw [← hW2]; rfl
          · rw [← hW2]; rfl
          · intro i hi hir
            exact (keep3 i (by omega) hir).trans (blk i hi)
          · exact ⟨_, _, hnB3, by decide, by simp [HS.out], rfl, rfl⟩
          · exact hnewM.same (keep3 _ (by omega) (by omega))
          · have := K3
            rw [E0.out] at this
            exact this
        have cP := hnB3.cell 0
        have lt3 : wr.heap.size + 1 < W3.heap.size := by omega
        have HR := Lib.hid hres
        have HC := Lib.hid hcom
        have HL := Lib.hid hnB3
        clear hres hcom hnB3 keep3 K3 g3 z3 hnewM hnewB blk hW2
        have cP' : W3.cell? ⟨wr.heap.size + 1, 0, none⟩ = some (.string S) := cP
        clear cP
        go_region
        change KD _ _
        refine HKD.out _ _ ?_
        clear HKD HKC
        go_wp2_with fail
        refine (key.common_any S S hSb hSb _).mono ?_
        rintro e w4 ⟨rfl, hb4⟩
        rw [HC.out]
        have cQ : w4.cell? ⟨wr.heap.size + 1, 0, none⟩ = some (.string S) := (hb4.cell (p := ⟨wr.heap.size + 1, 0, none⟩) lt3).trans cP'
        have hb1 : (0 : Int) ≤ S.size := by omega
        go_wp2
        go_region
        go_wp2
        go_roundw
        case rel =>
          have h := HR.out
          refine ⟨wr.heap.size + 1, _, leaf G' b r c (c :: t) (wr.heap.size + 1) wr.heap.size, _, [], rfl, rfl, Lib.hid ?_, Lib.hid (h.1.below hb4.drew), Lib.hid ((HX.out.trans h.2).trans (Step.below hb4.drew)), Lib.hid (by unfold leaf; rw [if_pos rfl]), Lib.hid (by rw [← HP.out]; simp)⟩
          rfl
        case measure =>
          simp [strLen]
          exact h0S
      | some ob =>
        have hl : ptr (r.kid S[0]) = .pointer (some ⟨ob, 0, none⟩) := by rw [eS0, hk]; rfl
        rw [hl] at hlook
        clear eS0 hl hmk
        obtain ⟨ro, t', g1, g2, g3⟩ := HT.out.shape.kid b r c ob HB.out hk
        obtain ⟨p1, a', b', ea, eb, en⟩ := common_split t' t
        obtain ⟨P, hP⟩ : ∃ P : ByteArray, P = ⟨ro.part.toArray⟩ := ⟨_, rfl⟩
        obtain ⟨o0, o1, o2⟩ := (HT.out.node ob ro g1).cells
        rw [← hP] at o0
        have hol := (HT.out.node ob ro g1).lt
        have hcom : key.common P.data.toList S.data.toList = p1.length + 1 := by
          rw [hP, HS.out, g2]
          simp [key.common, en]
        obtain ⟨k, ek⟩ : ∃ k, k = p1.length + 1 := ⟨_, rfl⟩
        rw [← ek] at hcom
        have hSn : S.size = t.length + 1 := by rw [HS.out]; simp [ByteArray.size]
        have hPn : P.size = t'.length + 1 := by rw [hP, g2]; simp [ByteArray.size]
        have hfit := HT.out.shape.fit ob ro g1
        have hPb : P.size ≤ 9223372036854775807 := by
          obtain ⟨⟨q, hq⟩, hlen⟩ := hfit
          rw [hq, g2] at hlen
          simp [big] at hlen
          omega
        have hSb : S.size ≤ 9223372036854775807 := by
          have hle : (r.path ++ c :: t).length ≤ big := by rw [HP.out]; exact hs
          simp [big] at hle
          omega
        have hkS : (k : Int) ≤ S.size := by rw [hSn, ek, eb]; simp; omega
        have hk0 : 0 < k := by omega
        have hext : S.extract k S.size = ⟨b'.toArray⟩ := by
          rw [HS.out, extract_mk, ek, eb]
          congr 2
          simp [ByteArray.size]
          rw [List.take_of_length_le (by simp), List.drop_left]
        have hkP := show (k : Int) ≤ P.size by rw [hPn, ek, ea]; simp; omega
        have hpa : r.path ++ (c :: p1) ++ b' = s := by rw [← HP.out, eb]; simp
        have HC := Lib.hid hcom
        have HE := Lib.hid hext
        have HK := Lib.hid hk
        have HG1 := Lib.hid g1
        have HPP := Lib.hid hP
        have HPA := Lib.hid hpa
        have HSN := Lib.hid hSn
        have HKZ := Lib.hid hk0
        have HEK := Lib.hid ek
        clear hcom hext hk g1 hP hpa hfit en
        cases a' with
        | nil =>
          have hkn : k = P.size := by rw [hPn, ek, ea]; simp
          have hnl' : decide ((k : Int) < P.size) = false := by simp; omega
          have hnl : decide (k < P.size) = false := by simp; omega
          have hnn : P.size ≤ k := by omega
          have hni : (P.size : Int) ≤ k := by omega
          clear hkn hSn hPn hk0 ek
          go_wp2
          rename_i KC hKC
          have HKC := Lib.hid hKC
          clear hKC
          go_region
          change KC _ _
          refine HKC.out _ _ ?_
          clear HKC
          go_wp2_with fail
          refine (key.common_any P S hPb hSb _).mono ?_
          rintro e w4 ⟨rfl, hb4⟩
          rw [HC.out]
          have cQ : w4.cell? ⟨ob, 0, none⟩ = some (.string P) := (hb4.cell (p := ⟨ob, 0, none⟩) hol).trans o0
          go_wp2
          go_region
          go_wp2
          go_roundw
          case rel =>
            refine ⟨ob, ro, G', _, b', rfl, rfl, HE, Lib.hid (HT.out.below ((Below.refl _ wr).drew.trans hb4).drew), Lib.hid (HX.out.trans (Step.below ((Below.refl _ wr).drew.trans hb4).drew)), HG1, Lib.hid ?_⟩
            rw [g3, g2, ea]
            simpa using HPA.out
          case measure =>
            simp [strLen]
            have := HKZ.out
            omega
        | cons d p2 =>
          have hpart : ro.part = (c :: p1) ++ (d :: p2) := by rw [g2, ea]; simp
          have hlt : (k : Int) < P.size := by rw [hPn, ek, ea]; simp; omega
          have HPT := Lib.hid hpart
          clear hpart hSn hPn hk0 ek
          go_wp2
          rename_i KC hKC
          have HKC := Lib.hid hKC
          clear hKC
          go_region
          change KC _ _
          refine HKC.out _ _ ?_
          clear HKC
          go_wp2_with fail
          refine (key.common_any P S hPb hSb _).mono ?_
          rintro e w4 ⟨rfl, hb4⟩
          rw [HC.out]
          have cQ : w4.cell? ⟨ob, 0, none⟩ = some (.string P) := (hb4.cell (p := ⟨ob, 0, none⟩) hol).trans o0
          have hb4' : Below wr.heap.size wr w4 := (Below.refl _ wr).drew.trans hb4
          have hbase4 : base ≤ w4.heap.size := by have := HX.out.size; have := hb4'.size; omega
          go_wp2_with fail
          refine (split_k w4 base root G' (HT.out.below hb4') hbase4 b r c ob ro p1 p2 d k HEK.out HB.out HK.out HG1.out HPT.out).mono ?_
          rintro e w5 ⟨rfl, hT5, hX5⟩
          have HT5 := Lib.hid hT5
          have HX5 := Lib.hid hX5
          clear hT5 hX5
          go_wp2
          go_region
          go_wp2
          go_roundw
          case rel =>
            refine ⟨w4.heap.size + 1, _, _, _, b', rfl, rfl, HE, Lib.hid (HT5.out.below (Below.refl _ _).drew), Lib.hid (((HX.out.trans (Step.below hb4')).trans HX5.out).trans (Step.below (Below.refl _ _).drew)), Lib.hid (by unfold split; rw [if_pos rfl]), HPA⟩
          case measure =>
            simp [strLen]
            have := HKZ.out
            omega
end Go.Proofs.Ytdjhjgimlpdckaa.pre
