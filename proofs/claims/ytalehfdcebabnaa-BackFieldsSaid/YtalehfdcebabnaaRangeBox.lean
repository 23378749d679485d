/- A range over a function whose iterator writes boxes of its own: the law, for a body that minds none of these boxes. -/
import Derived.RangeFuncNested
import Derived.RangeFuncBound
import Derived.RangeFuncCalls
import Derived.RangeFuncLeaves
import Derived.RangeFuncFrom
import Derived.RangeFuncBox
import Derived.RangeFuncWrites
import Derived.Shelf.Abstract
import Derived.Shelf.RegionOpen
import Derived.WalkKit
import Derived.OwnWalkIn
import Derived.TacticsInMore
import Derived.LoopNIn
import Derived.LoopIn
import Derived.Stop.RegionWithIn
import Derived.Test.YtalehfdcebabnaaAid
namespace Go.Proofs.Ytalehfdcebabnaa.aid
open Go.RowKit Go.Shelf

/-- what is said minds no store into a box of Bs -/
def Blind {β : Type} (Bs : Nat → Prop) (J : β → World → Prop) : Prop := ∀ s W b u, Bs b → J s W → J s (W.setCell ⟨b, 0, none⟩ u)

/-- an iterator's contract, where it may write the boxes of Bs between two rounds -/
def SeqBox {α : Type} (F : Fence) (n : Nat) (P : Program) (g : Nat) (lb : Array Value) (encs : α → Array Value) (Bs : Nat → Prop) (Kp : World → World → Prop) (S Sp : List α → Prop) (w : World) : Prop :=
  ∀ (l : Nat) (J Jx : List α → World → Prop) (W : World), Below w.heap.size w W → AbidesFrom W.heap.size J → AbidesFrom W.heap.size Jx → Blind Bs J → Blind Bs Jx →
    (∀ pre x W1, Sp (pre ++ [x]) → J pre W1 → YieldAt F (n - 1) P l (encs x) W1 fun e W' => (e = .returned (.bool true) ∧ J (pre ++ [x]) W' ∧ Kp W1 W') ∨ (e = .returned (.bool false) ∧ Jx (pre ++ [x]) W')) →
    J [] W → CallsIn F n P g (#[.func (.yield l) #[] #[]] ++ lb) W fun e W' => (∃ v, e = .returned v) ∧ ((∃ xs, S xs ∧ J xs W') ∨ (∃ pre, Sp pre ∧ Jx pre W'))

section
variable {P : Program} {F : Fence} {n : Nat}

/-- the two blocks that a loop over a function lays: the rounds' deferred calls, the loop's record -/
def Laid2 (D : Nat) (o : Loop) (W : World) : Prop := W.heap[D + 1]? = some (.loop o) ∧ W.heap[D]? = some (.deferred (some []))
theorem Laid2.lt {D : Nat} {o : Loop} {W : World} (h : Laid2 D o W) : D + 1 < W.heap.size := (Array.getElem?_eq_some_iff.1 h.1).1
theorem Laid2.kept {D : Nat} {o : Loop} {A B : World} {row : Option Nat} (h : Laid2 D o A) (hg : A.grownBy B row) (hr : ∀ r, row = some r → ∃ o : Obj, A.heap[r]? = some o ∧ o.isWalk = true) : Laid2 D o B :=
  ⟨(grownBy_keeps hg hr h.1 rfl).trans h.1, (grownBy_keeps hg hr h.2 rfl).trans h.2⟩
theorem Laid2.set_ {D : Nat} {o : Loop} {W : World} (h : Laid2 D o W) {b : Nat} (hb : b < D) (u : Value) : Laid2 D o (W.setCell ⟨b, 0, none⟩ u) :=
  ⟨(Below.heap_setCell _ _ _ _ (by show D + 1 ≠ b; omega)).trans h.1, (Below.heap_setCell _ _ _ _ (by show D ≠ b; omega)).trans h.2⟩
theorem Laid2.put {D : Nat} {o : Loop} {W : World} (h : Laid2 D o W) (o' : Loop) : Laid2 D o' (W.putObj (D + 1) (.loop o')) :=
  ⟨World.putObj_heap_same h.lt, (World.putObj_heap_other (by omega)).trans h.2⟩

theorem wpIn_rangeFunc_box {α : Type} {g : Operand} {ps : Array Tmp} {assign body : Code} {Q : Exit → Act → World → Prop} {a : Act} {w : World}
    (hro : F.round = none) (h1 : 1 ≤ n) {gf : Nat} {lb : Array Value} (hg : a.eval g = .func (.func gf) #[] lb) (hFg : F.fn gf) (eg : ∀ args w, (callFunc gf args).run P w = .ok (.enter gf args) w)
    {encs : α → Array Value} {Bs : Nat → Prop} {Kp : World → World → Prop} {S Sp : List α → Prop} {w0 : World} (hseq : SeqBox F (n - 1) P gf lb encs Bs Kp S Sp w0)
    (hKt : ∀ {A B C : World}, Kp A B → Kp B C → Kp A C) (hKb : ∀ (W : World) (l : Nat) (o o' : Obj), w.heap.size ≤ l → W.heap[l]? = some o → o.isCells = false → o.isWalk = false → Kp W (W.putObj l o')) (hb0 : Below w0.heap.size w0 w) (hps : ∀ x, (encs x).size = ps.size)
    (hBs : ∀ b, Bs b → b < w.heap.size)
    (I : List α → World → Prop) (Ix : Code → List α → World → Prop) (hI : OwnFrom w.heap.size I) (hIx : ∀ c, OwnFrom w.heap.size (Ix c)) (bI : Blind Bs I) (bIx : ∀ c, Blind Bs (Ix c)) (h0 : I [] w) (a₁ : α → Act)
    (hassign : ∀ (l : Nat) (x : α) (W : World) (K : Act → World → Prop), K (a₁ x) W →
      assign.wpIn (F.inRound l) (n - 1 - 1) P (Exit.then K (fun _ _ _ => False)) { tmps := (ps.zip (encs x)).foldl (fun t (p, v) => t.setIfInBounds p v) a.tmps, defers := [] } W)
    (hbody : ∀ (l : Nat) (pre : List α) (x : α) (W : World), Sp (pre ++ [x]) → I pre W → body.wpIn (F.inRound l) (n - 1 - 1) P (ownPostG w.heap.size Kp I Ix (pre ++ [x]) W) (a₁ x) W)
    (hdone : ∀ (D : Nat) (xs : List α) (W : World), w.heap.size ≤ D → S xs → I xs W → W.heap[D]? = some (.deferred (some [])) → Q .normal { a with defers := { target := .collected D, args := #[] } :: a.defers } W)
    (hstop : ∀ (D : Nat) (c : Code) (pre : List α) (W : World), w.heap.size ≤ D → Sp pre → Ix c pre W → W.heap[D]? = some (.deferred (some [])) → c.wpIn F n P Q { a with defers := { target := .collected D, args := #[] } :: a.defers } W) :
    (Code.rangeFunc g ps assign body).wpIn F n P Q a w := by
  refine wpIn_rangeFunc ?_
  intro fn hfn
  rw [hro]
  obtain ⟨D, hD⟩ : ∃ D, D = w.heap.size := ⟨_, rfl⟩
  obtain ⟨rec, hrec⟩ : ∃ rec : LoopState → Option Code → Loop, rec = fun st pe => { state := st, pending := pe, fn, tmps := a.tmps, params := ps, assign, body, defers := D } := ⟨_, rfl⟩
  obtain ⟨W1, hW1⟩ : ∃ W1, W1 = (w.alloc (.deferred (some []))).alloc (.loop (rec .ready none)) := ⟨_, rfl⟩
  have hs1 : W1.heap.size = D + 2 := by rw [hW1, hD]; simp
  have hL : Laid2 D (rec .ready none) W1 := by
    rw [hW1, hD]
    refine ⟨?_, (Below.heap_alloc _ _ _ (by simp)).trans (World.alloc_heap_new w _)⟩
    have h := World.alloc_heap_new (w.alloc (.deferred (some []))) (.loop (rec .ready none))
    rwa [World.size_alloc] at h
  have hB1 : Below w0.heap.size w0 W1 := by
    rw [hW1]
    exact hb0.trans ((((Below.refl _ w).alloc (Nat.le_refl _) _).alloc (by simp) _).mono hb0.size)
  have hI1 : I [] W1 := by rw [hW1]; exact hI.alloc _ (hI.alloc _ h0)
  have busy : ∀ (jump : Option Code) (W3 : World), Laid2 D { rec .ready none with state := .busy } W3 → (Instr.endRound (D + 1) jump).run P W3 = .ok (.bool jump.isNone) (W3.putObj (D + 1) (.loop (rec (if jump.isNone then .ready else .done) jump))) := fun jump W3 h3 => by
    have := run_endRound (P := P) jump h3.1
    rw [hrec] at this ⊢
    exact this
  refine ⟨D + 1, [{ target := .collected D, args := #[] }], W1, { target := .fn (.func gf) lb, args := #[.func (.yield (D + 1)) #[] #[]] }, W1, gf, #[.func (.yield (D + 1)) #[] #[]] ++ lb, W1, ?_, ?_, ?_, ?_, fun _ => h1, ?_⟩
  · rw [hW1, hrec, hD]
    exact run_enterLoop_outer _ _ _ _ _
  · simp only [resolve, hg]
    simp [go_sem]
  · intro f' hf'
    simp [Target.leads] at hf'
    subst hf'
    exact hFg
  · simp [invoke, go_sem, eg]
  have far : ∀ {A : World} {row : Option Nat}, (∀ r, row = some r → W1.heap.size ≤ r ∧ ∃ o : Obj, A.heap[r]? = some o ∧ o.isWalk = true) → ∀ r, row = some r → w.heap.size ≤ r ∧ ∃ o : Obj, A.heap[r]? = some o ∧ o.isCells = false := fun hr r e => by
    obtain ⟨hB, o, ho, hw⟩ := hr r e
    exact ⟨by omega, o, ho, Obj.not_cells_of_walk hw⟩
  refine (hseq (D + 1) (fun pre W => I pre W ∧ Laid2 D (rec .ready none) W) (fun pre W => ∃ c, Ix c pre W ∧ Laid2 D (rec .done (some c)) W) W1 hB1
    (fun s A B row hs hg' hr => ⟨hI s A B row hs.1 hg' (far hr), hs.2.kept hg' (fun r e => (hr r e).2)⟩)
    (fun s A B row ⟨c, hc, hl⟩ hg' hr => ⟨c, hIx c s A B row hc hg' (far hr), hl.kept hg' (fun r e => (hr r e).2)⟩)
    (fun s W b u hb hs => ⟨bI s W b u hb hs.1, hs.2.set_ (by have := hBs b hb; omega) u⟩)
    (fun s W b u hb ⟨c, hc, hl⟩ => ⟨c, bIx c s W b u hb hc, hl.set_ (by have := hBs b hb; omega) u⟩) ?_ ⟨hI1, hL⟩).mono ?_
  · rintro pre x W hsp ⟨hi, hl⟩
    have hy := run_yield (P := P) (args := encs x) hl.1 (by rw [hrec]; exact hps x)
    rw [hrec] at hy
    refine ⟨fn, _, assign, body, hy, roundIn_of_wpIn hfn (hassign _ x W _ ⟨_, run_beginRound hl.1 (by rw [hrec]), ?_⟩)⟩
    have hl2 := hl.put { rec .ready none with state := .busy }
    refine wpIn_mono (hbody _ pre x _ hsp (hI.putObj _ hi (by omega) hl.1 rfl)) ?_
    have still : ∀ W3, KeepsFrom w.heap.size (W.putObj (D + 1) (.loop { rec .ready none with state := .busy })) W3 → Laid2 D { rec .ready none with state := .busy } W3 := fun W3 h3 =>
      ⟨h3.same _ _ (by omega) hl2.1 rfl, h3.same _ _ (by omega) hl2.2 rfl⟩
    rintro e a3 W3 hp
    cases e with
    | normal =>
      obtain ⟨hk3, hkp3, hi3⟩ := hp
      have hl3 := still W3 hk3
      exact ⟨_, _, busy none W3 hl3, .inl ⟨rfl, ⟨hI.putObj _ hi3 (by omega) hl3.1 rfl, hl3.put _⟩, hKt (hKt (hKb _ _ _ _ (by omega) hl.1 rfl rfl) hkp3) (hKb _ _ _ _ (by omega) hl3.1 rfl rfl)⟩⟩
    | ret =>
      obtain ⟨hk3, hi3⟩ := hp
      have hl3 := still W3 hk3
      exact ⟨_, _, busy (some .ret) W3 hl3, .inr ⟨rfl, .ret, (hIx _).putObj _ hi3 (by omega) hl3.1 rfl, hl3.put _⟩⟩
    | exit id =>
      obtain ⟨hk3, hi3⟩ := hp
      have hl3 := still W3 hk3
      exact ⟨_, _, busy (some (.exit id)) W3 hl3, .inr ⟨rfl, .exit id, (hIx _).putObj _ hi3 (by omega) hl3.1 rfl, hl3.put _⟩⟩
    | goto t =>
      obtain ⟨hk3, hi3⟩ := hp
      have hl3 := still W3 hk3
      exact ⟨_, _, busy (some (.goto t)) W3 hl3, .inr ⟨rfl, .goto t, (hIx _).putObj _ hi3 (by omega) hl3.1 rfl, hl3.put _⟩⟩
    | panic ch => exact hp.elim
    | outgrown => exact hp.elim
  · rintro e W2 ⟨⟨v, rfl⟩, (⟨xs, hS, hi, hl⟩ | ⟨pre, hSp, c, hi, hl⟩)⟩
    · have hr := run_endLoop (P := P) hl.1 (by rw [hrec]; simp)
      rw [hrec] at hr
      exact ⟨none, _, hr, hdone _ xs _ (by omega) hS (hI.putObj _ hi (by omega) hl.1 rfl) ((World.putObj_heap_other (by omega)).trans hl.2)⟩
    · have hr := run_endLoop (P := P) hl.1 (by rw [hrec]; simp)
      rw [hrec] at hr
      exact ⟨some c, _, hr, hstop _ c pre _ (by omega) hSp ((hIx c).putObj _ hi (by omega) hl.1 rfl) ((World.putObj_heap_other (by omega)).trans hl.2)⟩
end
end Go.Proofs.Ytalehfdcebabnaa.aid
