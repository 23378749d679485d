/- prefix.way: the iterator, walked. -/
import Derived.RangeFuncBox
import Derived.Shelf.Abstract
import Derived.Shelf.RegionOpen
import Derived.WalkKit
import Derived.OwnWalkIn
import Derived.TacticsInMore
import Derived.LoopNIn
import Derived.LoopIn
import Derived.Stop.RegionWithIn
import Derived.Test.YtdjhjgimlpdckaaPreWay
import Derived.Test.YtdjhjgimlpdckaaPreRange
namespace Go.Proofs.Ytdjhjgimlpdckaa.pre
open Go.RowKit Go.Shelf
open Go.Proofs.Ytdjhjgimlpdckaa.aid

attribute [local go_sem] Oper.semAt_some

/-- what a round of the caller's keeps -/
def KpT (s B : Nat) (W W' : World) : Prop := (∀ i, i < s → W'.heap[i]? = W.heap[i]?) ∧ W'.heap[B]? = W.heap[B]? ∧ W'.heap[B + 1]? = W.heap[B + 1]?

def wayLeft (root B : Nat) (W : World) : Nat :=
  2 * strLen ((W.cell? ⟨B + 1, 0, none⟩).getD undef) + match W.cell? ⟨B, 0, none⟩ with | some (.pointer (some a)) => if a.block = root then 1 else 0 | _ => 0

def WayRel (root s B : Nat) (w0 : World) (G : Gr) (J : List Nat → World → Prop) (all : List Nat) (wr : World) : Prop :=
  ∃ (pre : List Nat) (o : Option Nat) (K : List UInt8) (S : ByteArray) (vs : List Nat), Hid (S = ⟨K.toArray⟩) ∧ Hid (Boxed wr B 57 (ptr o)) ∧ Hid (Boxed wr (B + 1) 9 (.string S)) ∧ Hid (J pre wr) ∧ Hid (Way G o K vs) ∧ Hid (all = pre ++ vs) ∧
    Hid (∀ i, i < s → wr.heap[i]? = w0.heap[i]?) ∧ Hid (∀ b r, o = some b → G b = some r → r.part = [] → b = root) ∧ Hid (K.length ≤ big)

theorem way_less {root B : Nat} {G : Gr} (H : Shape root G) {b : Nat} {r : Rec} {c : UInt8} {t : List UInt8} {W W' : World} {S S1 : ByteArray} {av : Option Addr} (hb : G b = some r) (hav : ptr (r.kid c) = .pointer av)
    (m1 : W'.cell? ⟨B + 1, 0, none⟩ = some (.string S1)) (m2 : W'.cell? ⟨B, 0, none⟩ = some (.pointer av)) (ck : W.cell? ⟨B + 1, 0, none⟩ = some (.string S)) (cn : W.cell? ⟨B, 0, none⟩ = some (.pointer (some ⟨b, 0, none⟩)))
    (z1 : S1.size = t.length + 1) (z2 : S.size = r.part.length + (t.length + 1)) (he : r.part = [] → b = root) : wayLeft root B W' < wayLeft root B W := by
  have hz : (match (some (Value.pointer av) : Option Value) with | some (.pointer (some a)) => if a.block = root then 1 else 0 | _ => 0) = 0 := by
    cases hk : r.kid c with
    | none =>
      rw [hk] at hav
      simp [ptr] at hav
      subst hav
      rfl
    | some b' =>
      rw [hk] at hav
      simp [ptr] at hav
      subst hav
      obtain ⟨r', t', g1, g2, _⟩ := H.kid _ _ _ _ hb hk
      obtain ⟨r0, h0, _, p0⟩ := H.top
      have : b' ≠ root := by
        rintro rfl
        rw [g1] at h0
        cases h0
        rw [g2] at p0
        cases p0
      simp [this]
  unfold wayLeft
  rw [m1, m2, ck, cn]
  simp only [Option.getD_some, strLen, hz]
  by_cases hp : r.part = []
  · rw [if_pos (he hp), z1, z2, hp]
    simp
  · have := List.length_pos_iff.2 hp
    omega

set_option maxRecDepth 100000 in
set_option maxHeartbeats 2000000 in
theorem way1_in (n : Nat) (hn : 1 ≤ n) (l s B : Nat) (hB : s ≤ B) (w0 : World) (base root : Nat) (G : Gr) (T : TreeW w0 base root G) (hs : w0.heap.size ≤ s) (k : List UInt8) (hk : k.length ≤ big) (all : List Nat) (hall : Way G (some root) k all) (J : List Nat → World → Prop)
    (hJ : ∀ pre W W' b, J pre W → (b = B ∨ b = B + 1) → W.grownBy W' (some b) → J pre W') (hD : ∀ pre W, J pre W → J pre W.drew)
    (hY : ∀ pre x W, (∃ r, G x = some r) → J pre W → YieldAt Fence.wide (n - 1) Try.prog l #[.pointer (some ⟨x, 0, none⟩)] W fun e W' => e = .returned (.bool true) ∧ J (pre ++ [x]) W' ∧ KpT s B W W')
    (W : World) (hO : ∀ i, i < s → W.heap[i]? = w0.heap[i]?) (bn : Boxed W B 57 (ptr (some root))) (bk : Boxed W (B + 1) 9 (.string ⟨k.toArray⟩)) (h0 : J [] W) :
    CallsIn Fence.wide n Try.prog 22 #[.func (.yield l) #[] #[], .pointer (some ⟨B, 0, none⟩), .pointer (some ⟨B + 1, 0, none⟩)] W fun e W' => (∃ v, e = .returned v) ∧ J all W' := by
  refine callsIn_of_wp Try.func22 rfl trivial ?_ rfl
  simp only [Try.ntmps22, List.size_toArray, List.length_cons, List.length_nil, Nat.reduceAdd, Nat.reduceSub, Array.replicate_succ, Array.replicate_zero, List.push_toArray, List.append_toArray, List.nil_append, List.cons_append]
  have HY := Lib.hid hY
  have HD := Lib.hid hD
  have HJJ := Lib.hid hJ
  have HT := Lib.hid T
  have start : WayRel root s B w0 G J all W := ⟨[], some root, k, _, all, Lib.hid rfl, Lib.hid bn, Lib.hid bk, Lib.hid h0, Lib.hid hall, Lib.hid rfl, Lib.hid hO, Lib.hid (fun b r e _ _ => by cases e; rfl), Lib.hid hk⟩
  clear hY hD hJ T bn bk h0 hall hO
  gi_wp2
  gi_loopw [4] (fun _ wr => WayRel root s B w0 G J all wr) (fun _ wr => wayLeft root B wr)
  case atStart => exact start
  case round =>
    obtain ⟨pre, o, K, S, vs, HS, HN, HK, HJ, HW, HA, HO, HE, HL⟩ := hrel
    have cn := HN.out.cell
    have ck := HK.out.cell
    have fn_ := HN.out.frozen
    have fk := HK.out.frozen
    have hW := HW.out
    cases hW with
    | none =>
      have cn' : wr.cell? ⟨B, 0, none⟩ = some (.pointer none) := cn
      clear cn
      gi_wp2
      first
        | gi_region_with (first | (refine ⟨trivial, ?_⟩) | (refine ⟨fun _ h => (by cases h), ?_⟩))
        | fail
      all_goals
        gi_wp2
        go_end0
        refine ⟨⟨_, rfl⟩, HD.out _ _ ?_⟩
        rw [HA.out, List.append_nil]
        exact HJ.out
    | off b r _ hb hh =>
      have hbl := (HT.out.node b r hb).lt
      have hnode := (HT.out.node b r hb).same (HO.out b (by omega))
      obtain ⟨P, hP⟩ : ∃ P : ByteArray, P = ⟨r.part.toArray⟩ := ⟨_, rfl⟩
      have p0 := hnode.cells.1
      rw [← hP] at p0
      have hS : S.size ≤ 9223372036854775807 := by rw [HS.out]; simpa [ByteArray.size, big] using HL.out
      have hPs : P.size ≤ 9223372036854775807 := by
        obtain ⟨⟨q, hq⟩, hl⟩ := HT.out.shape.fit b r hb
        rw [hP]
        rw [hq] at hl
        simp [ByteArray.size, big] at hl ⊢
        omega
      have hhas : key.has S.data.toList P.data.toList = false := by rw [HS.out, hP]; exact hh
      have HH := Lib.hid hhas
      have HPP := Lib.hid hP
      have HB := Lib.hid hb
      clear hhas hP hh hnode hb
      have cn' : wr.cell? ⟨B, 0, none⟩ = some (.pointer (some ⟨b, 0, none⟩)) := cn
      clear cn
      gi_wp2
      first
        | gi_region_with (first | (refine ⟨trivial, ?_⟩; gi_at_call 23; refine (callsIn_wide.2 (key.has_any S P hS hPs _)).mono ?_; rintro e w' ⟨rfl, rfl⟩; rw [HH.out]) | (refine ⟨fun _ h => (by cases h), ?_⟩))
        | fail
      all_goals
        gi_wp2
        go_end0
        refine ⟨⟨_, rfl⟩, HD.out _ _ ?_⟩
        rw [HA.out, List.append_nil]
        exact HJ.out
    | last b r hb =>
      have hbl := (HT.out.node b r hb).lt
      have hnode := (HT.out.node b r hb).same (HO.out b (by omega))
      obtain ⟨P, hP⟩ : ∃ P : ByteArray, P = ⟨r.part.toArray⟩ := ⟨_, rfl⟩
      have p0 := hnode.cells.1
      rw [← hP] at p0
      have hS : S.size ≤ 9223372036854775807 := by rw [HS.out]; simpa [ByteArray.size, big] using HL.out
      have hSn : S.size = r.part.length := by rw [HS.out]; simp [ByteArray.size]
      have hPn : P.size = r.part.length := by rw [hP]; simp [ByteArray.size]
      have hle : P.size ≤ S.size := by rw [hSn, hPn]; simp
      have hle' : (P.size : Int) ≤ S.size := by omega
      have hPs : P.size ≤ 9223372036854775807 := by omega
      have hhas : key.has S.data.toList P.data.toList = true := by
        rw [HS.out, hP]
        exact List.isPrefixOf_iff_prefix.2 (List.prefix_refl _)
      have hext : S.extract P.size S.size = ⟨([] : List UInt8).toArray⟩ := by
        rw [hSn, hPn, HS.out, extract_mk]
        congr 2
        simp
      have HH := Lib.hid hhas
      have HPP := Lib.hid hP
      have HB := Lib.hid hb
      have HEX := Lib.hid hext
      have HN' := Lib.hid hnode
      have HSN := Lib.hid hSn
      have HPN := Lib.hid hPn
      clear hhas hP hnode hext hSn hPn
      have cn' : wr.cell? ⟨B, 0, none⟩ = some (.pointer (some ⟨b, 0, none⟩)) := cn
      clear cn
      obtain ⟨fn, tmps, assign, body, hy, hR⟩ := HY.out pre b wr.drew ⟨r, hb⟩ (HD.out _ _ HJ.out)
      have hR' := hR.mono (R' := fun e W3 => e = .returned (.bool true) ∧ J (pre ++ [b]) W3 ∧ (Boxed W3 B 57 (ptr (some b)) ∧ Boxed W3 (B + 1) 9 (.string S)) ∧ NodeW W3 b r ∧ ∀ i, i < s → W3.heap[i]? = w0.heap[i]?) (by
        rintro e W3 ⟨rfl, hJ3, hk3⟩
        exact ⟨rfl, hJ3, ⟨hk3.2.1.trans HN.out, hk3.2.2.trans HK.out⟩, HN'.out.same (hk3.1 b (by omega)), fun i hi => (hk3.1 i hi).trans (HO.out i hi)⟩)
      clear hR
      have HR := Lib.hid hR'
      clear hR'
      gi_wp2
      first
        | gi_region_with (first | (refine ⟨trivial, ?_⟩; gi_at_call 23; refine (callsIn_wide.2 (key.has_any S P hS hPs _)).mono ?_; rintro e w' ⟨rfl, rfl⟩; rw [HH.out]) | ((with_reducible refine HR.out.mono ?_); rintro e W3 ⟨rfl, hJ3, ⟨hbn3, hbk3⟩, hn3, ho3⟩))
        | fail
      all_goals
        have q0 := hn3.cells.1
        rw [← HPP.out] at q0
        have q2 := hn3.cells.2.2
        have cn3 := hbn3.cell
        have cn3' : W3.cell? ⟨B, 0, none⟩ = some (.pointer (some ⟨b, 0, none⟩)) := cn3
        have ck3 := hbk3.cell
        have fk3 := hbk3.frozen
        have fn3 := hbn3.frozen
        have J3 := Lib.hid hJ3
        have N3 := Lib.hid hn3
        have O3 := Lib.hid ho3
        have BN3 := Lib.hid hbn3
        have BK3 := Lib.hid hbk3
        clear hJ3 hn3 ho3 hbn3 hbk3 cn3
        have hem : (S.extract P.size S.size).toList.isEmpty = true := by rw [HEX.out, ByteArray.toList_eq]; rfl
        gi_wp2
        gi_region
        all_goals
          gi_wp2
          refine bodyPost_ret (results_none rfl _ _ _) rfl ?_
          refine ⟨⟨_, rfl⟩, HD.out _ _ ?_⟩
          rw [HA.out]
          exact HJJ.out _ _ _ _ J3.out (.inr rfl) (grownBy_setCell' W3 (B + 1) _)
    | on b r c t vs hb hw =>
      have hbl := (HT.out.node b r hb).lt
      have hnode := (HT.out.node b r hb).same (HO.out b (by omega))
      obtain ⟨P, hP⟩ : ∃ P : ByteArray, P = ⟨r.part.toArray⟩ := ⟨_, rfl⟩
      have p0 := hnode.cells.1
      rw [← hP] at p0
      have hS : S.size ≤ 9223372036854775807 := by rw [HS.out]; simpa [ByteArray.size, big] using HL.out
      have hSn : S.size = (r.part ++ c :: t).length := by rw [HS.out]; simp [ByteArray.size]
      have hPn : P.size = r.part.length := by rw [hP]; simp [ByteArray.size]
      have hle : P.size ≤ S.size := by rw [hSn, hPn]; simp
      have hle' : (P.size : Int) ≤ S.size := by omega
      have hPs : P.size ≤ 9223372036854775807 := by omega
      have hhas : key.has S.data.toList P.data.toList = true := by
        rw [HS.out, hP]
        exact List.isPrefixOf_iff_prefix.2 ⟨_, rfl⟩
      have hext : S.extract P.size S.size = ⟨(c :: t : List UInt8).toArray⟩ := by
        rw [hSn, hPn, HS.out, extract_mk]
        congr 2
        rw [List.take_of_length_le (by simp), List.drop_left]
      have HH := Lib.hid hhas
      have HPP := Lib.hid hP
      have HB := Lib.hid hb
      have HEX := Lib.hid hext
      have HN' := Lib.hid hnode
      have HSN := Lib.hid hSn
      have HPN := Lib.hid hPn
      clear hhas hP hnode hext hSn hPn
      have cn' : wr.cell? ⟨B, 0, none⟩ = some (.pointer (some ⟨b, 0, none⟩)) := cn
      clear cn
      obtain ⟨fn, tmps, assign, body, hy, hR⟩ := HY.out pre b wr.drew ⟨r, hb⟩ (HD.out _ _ HJ.out)
      have hR' := hR.mono (R' := fun e W3 => e = .returned (.bool true) ∧ J (pre ++ [b]) W3 ∧ (Boxed W3 B 57 (ptr (some b)) ∧ Boxed W3 (B + 1) 9 (.string S)) ∧ NodeW W3 b r ∧ ∀ i, i < s → W3.heap[i]? = w0.heap[i]?) (by
        rintro e W3 ⟨rfl, hJ3, hk3⟩
        exact ⟨rfl, hJ3, ⟨hk3.2.1.trans HN.out, hk3.2.2.trans HK.out⟩, HN'.out.same (hk3.1 b (by omega)), fun i hi => (hk3.1 i hi).trans (HO.out i hi)⟩)
      clear hR
      have HR := Lib.hid hR'
      clear hR'
      gi_wp2
      first
        | gi_region_with (first | (refine ⟨trivial, ?_⟩; gi_at_call 23; refine (callsIn_wide.2 (key.has_any S P hS hPs _)).mono ?_; rintro e w' ⟨rfl, rfl⟩; rw [HH.out]) | ((with_reducible refine HR.out.mono ?_); rintro e W3 ⟨rfl, hJ3, ⟨hbn3, hbk3⟩, hn3, ho3⟩))
        | fail
      all_goals
        have q0 := hn3.cells.1
        rw [← HPP.out] at q0
        have q2 := hn3.cells.2.2
        have cn3 := hbn3.cell
        have cn3' : W3.cell? ⟨B, 0, none⟩ = some (.pointer (some ⟨b, 0, none⟩)) := cn3
        have ck3 := hbk3.cell
        have fk3 := hbk3.frozen
        have fn3 := hbn3.frozen
        have J3 := Lib.hid hJ3
        have N3 := Lib.hid hn3
        have O3 := Lib.hid ho3
        have BN3 := Lib.hid hbn3
        have BK3 := Lib.hid hbk3
        clear hJ3 hn3 ho3 hbn3 hbk3 cn3
        have hem0 : (S.extract P.size S.size).toList.isEmpty = false := by rw [HEX.out, ByteArray.toList_eq]; rfl
        gi_wp2
        gi_region
        all_goals
          generalize hS1 : S.extract P.size S.size = S1
          have e1 : S1 = ⟨(c :: t).toArray⟩ := hS1.symm.trans HEX.out
          rw [hS1] at hem0
          have h01 : 0 < S1.size := by rw [e1]; simp [ByteArray.size]
          have h01' : (0 : Int) < S1.size := by omega
          have eS0 : S1[0] = c := by
            have h1 : S1.data[0]? = some c := by rw [e1]; simp
            have h2 : S1.data[0]? = some S1[0] := Array.getElem?_eq_getElem h01
            rw [h1] at h2
            exact (Option.some.inj h2).symm
          have E1 := Lib.hid e1
          have ES0 := Lib.hid eS0
          clear e1 eS0
          gi_wp2
          have hmlt : r.map < s := Nat.lt_of_lt_of_le (HT.out.kids b r hb).lt hs
          have gN : Boxed (W3.setCell ⟨B + 1, 0, none⟩ (.string S1)).drew B 57 (ptr (some b)) := BN3.out.other (by omega) _
          have gK : Boxed (W3.setCell ⟨B + 1, 0, none⟩ (.string S1)).drew (B + 1) 9 (.string S1) := BK3.out.set _
          have gO : ∀ i, i < s → (W3.setCell ⟨B + 1, 0, none⟩ (.string S1)).drew.heap[i]? = w0.heap[i]? := fun i hi => (Below.heap_setCell W3 ⟨B + 1, 0, none⟩ _ i (show i ≠ B + 1 by omega)).trans (O3.out i hi)
          have gJ : J (pre ++ [b]) (W3.setCell ⟨B + 1, 0, none⟩ (.string S1)).drew := HD.out _ _ (HJJ.out _ _ _ _ J3.out (.inr rfl) (grownBy_setCell' W3 (B + 1) _))
          have gT : NodeW (W3.setCell ⟨B + 1, 0, none⟩ (.string S1)).drew b r := (HT.out.node b r hb).same (gO b (by omega))
          generalize (W3.setCell ⟨B + 1, 0, none⟩ (.string S1)).drew = W4 at gN gK gO gJ gT ⊢
          have r2 := gT.cells.2.2
          have cn4 : W4.cell? ⟨B, 0, none⟩ = some (.pointer (some ⟨b, 0, none⟩)) := gN.cell
          have ck4 := gK.cell
          have fn4 := gN.frozen
          have hlook := KidW.look (w := W4.drew) ((HT.out.kids b r hb).same (gO r.map hmlt)) S1[0]
          obtain ⟨av, hav⟩ : ∃ av, ptr (r.kid c) = .pointer av := ⟨_, rfl⟩
          rw [show ptr (r.kid S1[0]) = .pointer av from by rw [ES0.out, hav]] at hlook
          have GN := Lib.hid gN
          have GK := Lib.hid gK
          have GO := Lib.hid gO
          have GJ := Lib.hid gJ
          have HAV := Lib.hid hav
          clear gN gK gO gJ gT hS1 hav q0 q2 cn3' ck3 fk3 fn3
          gi_region
          all_goals
            gi_wp2
            go_roundw
            case rel =>
              have hkid : ∀ b' r', r.kid c = some b' → G b' = some r' → r'.part ≠ [] := fun b' r' h1 h2 e => by
                obtain ⟨r1, t1, k1, k2, _⟩ := HT.out.shape.kid _ _ _ _ hb h1
                rw [h2] at k1
                cases k1
                rw [e] at k2
                cases k2
              refine ⟨pre ++ [b], r.kid c, c :: t, S1, vs, E1, Lib.hid ?_, Lib.hid ?_, Lib.hid (HD.out _ _ (HJJ.out _ _ _ _ GJ.out (.inl rfl) (grownBy_setCell' W4 B _))), Lib.hid hw, Lib.hid (by rw [HA.out]; simp), Lib.hid (fun i hi => ?_), Lib.hid (fun b' r' h1 h2 h3 => absurd h3 (hkid b' r' h1 h2)), Lib.hid ?_⟩
              · rw [HAV.out]
                exact GN.out.set _
              · exact GK.out.other (by omega) _
              · exact (Below.heap_setCell W4 ⟨B, 0, none⟩ _ i (show i ≠ B by omega)).trans (GO.out i hi)
              · have := HL.out
                simp at this ⊢
                omega
            case measure =>
              have m1 : (W4.setCell ⟨B, 0, none⟩ (.pointer av)).drew.cell? ⟨B + 1, 0, none⟩ = some (.string S1) := (GK.out.other (by omega) _).cell
              have m2 : (W4.setCell ⟨B, 0, none⟩ (.pointer av)).drew.cell? ⟨B, 0, none⟩ = some (.pointer av) := (GN.out.set _).cell
              have z1 : S1.size = t.length + 1 := by rw [E1.out]; simp [ByteArray.size]
              have z2 : S.size = r.part.length + (t.length + 1) := by rw [HSN.out]; simp
              exact way_less HT.out.shape hb HAV.out m1 m2 ck cn' z1 z2 (fun h => HE.out b r rfl hb h)
end Go.Proofs.Ytdjhjgimlpdckaa.pre
