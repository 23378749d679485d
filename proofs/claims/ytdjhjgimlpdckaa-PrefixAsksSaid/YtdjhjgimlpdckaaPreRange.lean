/- a range over a function whose iterator writes variables that it has captured: the law, for bodies that end. -/
import Derived.RangeFuncNested
import Derived.RangeFuncBound
import Derived.RangeFuncCalls
import Derived.RangeFuncLeaves
import Derived.RangeFuncWrites
import Derived.Test.YtdjhjgimlpdckaaAid
namespace Go.Proofs.Ytdjhjgimlpdckaa.pre
open Go.RowKit
variable {F : Fence} {n : Nat} {P : Program}

theorem range_box {α : Type} {g : Operand} {ps : Array Tmp} {assign body : Code} {Q : Exit → Act → World → Prop} {a : Act} {w : World} (hro : F.round = none) (h1 : 1 ≤ n)
    {gf : Nat} {lb : Array Value} (hg : a.eval g = .func (.func gf) #[] lb) (hFg : F.fn gf) (eg : ∀ args w, (callFunc gf args).run P w = .ok (.enter gf args) w)
    (encs : α → Array Value) (hps : ∀ x, (encs x).size = ps.size) (I : List α → World → Prop) (Kp : World → World → Prop) (S : List α → Prop) (own : Nat → Prop) (ok : α → Prop)
    (hKt : ∀ {A B C : World}, Kp A B → Kp B C → Kp A C) (hKb : ∀ (W : World) (l : Nat) (o o' : Obj), w.heap.size ≤ l → W.heap[l]? = some o → o.isCells = false → Kp W (W.putObj l o'))
    (hIa : ∀ pre W o, I pre W → I pre (W.alloc o)) (hIp : ∀ pre W l o o', I pre W → w.heap.size ≤ l → W.heap[l]? = some o → o.isCells = false → I pre (W.putObj l o'))
    (hown : ∀ b, own b → b < w.heap.size) (hIo : ∀ pre W W' b, I pre W → own b → W.grownBy W' (some b) → I pre W') (hId : ∀ pre W, I pre W → I pre W.drew)
    (hseq : ∀ (l : Nat) (J : List α → World → Prop) (W : World), Below w.heap.size w W → (∀ pre W W' b, J pre W → own b → W.grownBy W' (some b) → J pre W') → (∀ pre W, J pre W → J pre W.drew) →
      (∀ pre x W1, ok x → J pre W1 → YieldAt F (n - 1 - 1) P l (encs x) W1 fun e W' => e = .returned (.bool true) ∧ J (pre ++ [x]) W' ∧ Kp W1 W') → J [] W →
      CallsIn F (n - 1) P gf (#[.func (.yield l) #[] #[]] ++ lb) W fun e W' => (∃ v, e = .returned v) ∧ ∃ xs, S xs ∧ J xs W')
    (h0 : I [] w) (a₁ : α → Act)
    (hassign : ∀ (l : Nat) (x : α) (W : World) (K : Act → World → Prop), K (a₁ x) W →
      assign.wpIn (F.inRound l) (n - 1 - 1) P (Exit.then K (fun _ _ _ => False)) { tmps := (ps.zip (encs x)).foldl (fun t (p, v) => t.setIfInBounds p v) a.tmps, defers := [] } W)
    (hbody : ∀ (l : Nat) (pre : List α) (x : α) (W : World), ok x → I pre W → body.wpIn (F.inRound l) (n - 1 - 1) P (ownPostG w.heap.size Kp I (fun _ _ _ => False) (pre ++ [x]) W) (a₁ x) W)
    (hdone : ∀ (D : Nat) (xs : List α) (W : World), w.heap.size ≤ D → S xs → I xs W → W.heap[D]? = some (.deferred (some [])) → Q .normal { a with defers := { target := .collected D, args := #[] } :: a.defers } W) :
    (Code.rangeFunc g ps assign body).wpIn F n P Q a w := by
  refine wpIn_rangeFunc fun fn hfn => ?_
  rw [hro]
  -- the record at its three states, and the two blocks ahead of the iterator's call
  let rec_ : LoopState → Option Code → Loop := fun st pe => { state := st, pending := pe, fn, tmps := a.tmps, params := ps, assign, body, defers := w.heap.size }
  let two : World := (w.alloc (.deferred (some []))).alloc (.loop (rec_ .ready none))
  let R : Nat := w.heap.size + 1
  have atR : two.heap[R]? = some (.loop (rec_ .ready none)) := by
    have := World.alloc_heap_new (w.alloc (.deferred (some []))) (.loop (rec_ .ready none))
    rwa [World.size_alloc] at this
  have atD : two.heap[w.heap.size]? = some (.deferred (some [])) := (Below.heap_alloc _ _ _ (by simp)).trans (World.alloc_heap_new w _)
  refine ⟨R, [{ target := .collected w.heap.size, args := #[] }], two, { target := .fn (.func gf) lb, args := #[.func (.yield R) #[] #[]] }, two, gf, #[.func (.yield R) #[] #[]] ++ lb, two,
    run_enterLoop_outer _ _ _ _ _, by simp only [resolve, hg]; simp [go_sem], fun f' hf' => by simp [Target.leads] at hf'; subst hf'; exact hFg, by simp [invoke, go_sem, eg], fun _ => h1, ?_⟩
  let J : List α → World → Prop := fun pre W => I pre W ∧ W.heap[R]? = some (.loop (rec_ .ready none)) ∧ W.heap[w.heap.size]? = some (.deferred (some []))
  have hlate : ∀ b, own b → b ≠ R ∧ b ≠ w.heap.size := fun b hb => by
    have h := hown b hb
    exact ⟨by show b ≠ w.heap.size + 1; omega, by omega⟩
  refine (hseq R J two (((Below.refl _ w).alloc (Nat.le_refl _) _).alloc (by simp) _) ?_ (fun pre W h => ⟨hId _ _ h.1, h.2⟩) ?_ ⟨hIa _ _ _ (hIa _ _ _ h0), atR, atD⟩).mono ?_
  · rintro pre W W' b ⟨hi, hr, hd⟩ ho hgr
    obtain ⟨n1, n2⟩ := hlate b ho
    exact ⟨hIo _ _ _ _ hi ho hgr, (hgr.block R (Array.getElem?_eq_some_iff.1 hr).1 (fun e => n1 (by cases e; rfl))).trans hr, (hgr.block w.heap.size (Array.getElem?_eq_some_iff.1 hd).1 (fun e => n2 (by cases e; rfl))).trans hd⟩
  · -- a round
    rintro pre x W hok ⟨hi, hr, hd⟩
    have hlt : R < W.heap.size := (Array.getElem?_eq_some_iff.1 hr).1
    refine ⟨fn, _, assign, body, run_yield (P := P) (args := encs x) hr (hps x), roundIn_of_wpIn hfn (hassign R x W _ ⟨_, run_beginRound hr rfl, ?_⟩)⟩
    have busy : (W.putObj R (.loop { rec_ .ready none with state := .busy })).heap[R]? = some (.loop { rec_ .ready none with state := .busy }) := World.putObj_heap_same hlt
    have hd2 : (W.putObj R (.loop { rec_ .ready none with state := .busy })).heap[w.heap.size]? = some (.deferred (some [])) := (World.putObj_heap_other (by show w.heap.size ≠ w.heap.size + 1; omega)).trans hd
    refine wpIn_mono (hbody R pre x _ hok (hIp _ _ _ _ _ hi (by show w.heap.size ≤ w.heap.size + 1; omega) hr rfl)) ?_
    rintro e a3 W3 hp
    cases e with
    | normal =>
      obtain ⟨hk, hkp, hi3⟩ := hp
      have hr3 := hk.same R _ (by show w.heap.size ≤ w.heap.size + 1; omega) busy rfl
      have hd3 := hk.same w.heap.size _ (Nat.le_refl _) hd2 rfl
      exact ⟨_, _, run_endRound (P := P) none hr3, rfl, ⟨hIp _ _ _ _ _ hi3 (by show w.heap.size ≤ w.heap.size + 1; omega) hr3 rfl, World.putObj_heap_same (Array.getElem?_eq_some_iff.1 hr3).1,
        (World.putObj_heap_other (by show w.heap.size ≠ w.heap.size + 1; omega)).trans hd3⟩,
        hKt (hKt (hKb _ _ _ _ (by show w.heap.size ≤ w.heap.size + 1; omega) hr rfl) hkp) (hKb _ _ _ _ (by show w.heap.size ≤ w.heap.size + 1; omega) hr3 rfl)⟩
    | ret => exact hp.2.elim
    | exit id => exact hp.2.elim
    | goto t => exact hp.2.elim
    | panic ch => exact hp.elim
    | outgrown => exact hp.elim
  · rintro e W2 ⟨⟨v, rfl⟩, xs, hS, hi, hr, hd⟩
    exact ⟨none, _, run_endLoop (P := P) hr (by simp [rec_]), hdone _ xs _ (Nat.le_refl _) hS (hIp _ _ _ _ _ hi (by show w.heap.size ≤ w.heap.size + 1; omega) hr rfl) ((World.putObj_heap_other (by show w.heap.size ≠ w.heap.size + 1; omega)).trans hd)⟩
end Go.Proofs.Ytdjhjgimlpdckaa.pre
