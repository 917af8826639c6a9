/- A loop over an iterator that keeps its state in one cell of its own: each round goes on; the iterator may store into that cell between the rounds. -/
import Derived.RangeFuncNested
import Derived.RangeFuncBound
import Derived.RangeFuncCalls
import Derived.RangeFuncLeaves
import Derived.Below
import Derived.Shelf.Abstract
import Derived.WalkKit
import Derived.OwnWalkIn
import Derived.Test.YtaonkbfekadalaaGreatDoorM03
namespace Go.Proofs.YtaonkbfekadalaaGreatDoor
open Go.RowKit Go.Shelf
set_option linter.unusedVariables false

/-- What may be said between two rounds: it abides the growth of the heap and what the iterator stores in its block. -/
structure Fit {β : Type} (B bs : Nat) (J : β → World → Prop) : Prop where
  grown : AbidesFrom B J
  cell : ∀ s W v, J s W → J s (W.setCell ⟨bs, 0, none⟩ v)
/-- What the iterator owes: N rounds, the k-th one with the k-th value. -/
def CellSeq (n : Nat) (P : Program) (g : Nat) (lb : Array Value) (bs : Nat) (enc : Nat → Value) (N : Nat) (w : World) : Prop :=
  ∀ (l : Nat) (J : Nat → World → Prop) (W : World), Below w.heap.size w W → Fit W.heap.size bs J →
    (∀ k A, J k A → k < N → YieldAt Fence.wide (n - 1) P l #[enc k] A fun e B => e = .returned (.bool true) ∧ J (k + 1) B ∧ B.heap[bs]? = A.heap[bs]?) → J 0 W →
    CallsIn Fence.wide n P g (#[.func (.yield l) #[] #[]] ++ lb) W fun e B => (∃ v, e = .returned v) ∧ J N B
theorem set_other {W : World} {bs k : Nat} (v : Value) (h : k ≠ bs) (hk : k < W.heap.size) : (W.setCell ⟨bs, 0, none⟩ v).heap[k]? = W.heap[k]? := (grownBy_setCell' W bs v).block k hk (fun e => h (by cases e; rfl))
theorem range_cell {n : Nat} {P : Program} {g : Operand} {ps : Array Tmp} {assign body : Code} {Q : Exit → Act → World → Prop} {a : Act} {w : World} (h1 : 1 ≤ n) {gf : Nat} {lb : Array Value} (hg : a.eval g = .func (.func gf) #[] lb)
    (eg : ∀ args w, (callFunc gf args).run P w = .ok (.enter gf args) w) {bs : Nat} {enc : Nat → Value} {N : Nat} (hseq : CellSeq (n - 1) P gf lb bs enc N w) (hbs : bs < w.heap.size) (hps : ps.size = 1)
    (I : Nat → World → Prop) (hI : OwnFrom w.heap.size I) (hIc : ∀ k W v, I k W → I k (W.setCell ⟨bs, 0, none⟩ v)) (h0 : I 0 w) (a₁ : Nat → Act)
    (hassign : ∀ (l k : Nat) (W : World) (K : Act → World → Prop), K (a₁ k) W →
      assign.wpIn (Fence.wide.inRound l) (n - 1 - 1) P (Exit.then K (fun _ _ _ => False)) { tmps := (ps.zip #[enc k]).foldl (fun t (p, v) => t.setIfInBounds p v) a.tmps, defers := [] } W)
    (hbody : ∀ (l k : Nat) (W : World), I k W → k < N → body.wpIn (Fence.wide.inRound l) (n - 1 - 1) P (fun e _ W' => e = .normal ∧ KeepsOthers W W' ∧ W'.heap[bs]? = W.heap[bs]? ∧ I (k + 1) W') (a₁ k) W)
    (hdone : ∀ (D : Nat) (W : World), w.heap.size ≤ D → I N W → W.heap[D]? = some (.deferred (some [])) → Q .normal { a with defers := { target := .collected D, args := #[] } :: a.defers } W) :
    (Code.rangeFunc g ps assign body).wpIn Fence.wide n P Q a w := by
  obtain ⟨D, hD⟩ : ∃ D, D = w.heap.size := ⟨_, rfl⟩
  refine wpIn_rangeFunc fun fn hfn => ?_
  obtain ⟨R, hR⟩ : ∃ R : LoopState → Loop, R = fun st => { state := st, pending := none, fn, tmps := a.tmps, params := ps, assign, body, defers := D } := ⟨_, rfl⟩
  obtain ⟨V, hV⟩ : ∃ V, V = (w.alloc (.deferred (some []))).alloc (.loop (R .ready)) := ⟨_, rfl⟩
  have vs : V.heap.size = D + 2 := by rw [hV, hD]; simp
  have vd : V.heap[D]? = some (.deferred (some [])) := by
    rw [hV, hD]; exact (Below.heap_alloc _ _ _ (by simp)).trans (World.alloc_heap_new w _)
  have vl : V.heap[D + 1]? = some (.loop (R .ready)) := by
    rw [hV, hD]; have := World.alloc_heap_new (w.alloc (.deferred (some []))) (.loop (R .ready)); rwa [World.size_alloc] at this
  have vi : I 0 V := by rw [hV]; exact hI.alloc _ (hI.alloc _ h0)
  have vb : Below w.heap.size w V := by rw [hV]; exact ((Below.refl _ w).alloc (Nat.le_refl _) _).alloc (by simp) _
  have hen : (Instr.enterLoop fn a.tmps ps assign body none).run P w = .ok (D + 1, [{ target := .collected D, args := #[] }]) V := by rw [hV, hR, hD]; exact run_enterLoop_outer _ _ _ _ _
  refine ⟨D + 1, _, V, { target := .fn (.func gf) lb, args := #[.func (.yield (D + 1)) #[] #[]] }, V, gf, #[.func (.yield (D + 1)) #[] #[]] ++ lb, V, hen, ?_, ?_, ?_, fun _ => h1, ?_⟩
  · simp only [resolve, hg]
    simp [go_sem]
  · intro f hf
    simp [Target.leads] at hf
    subst hf
    trivial
  · simp [invoke, go_sem, eg]
  refine (hseq (D + 1) (fun k W => I k W ∧ (W.heap[D]? = some (.deferred (some [])) ∧ W.heap[D + 1]? = some (.loop (R .ready)))) V vb ⟨?_, ?_⟩ ?_ ⟨vi, vd, vl⟩).mono ?_
  · rintro s A B row ⟨hi, hd, hl⟩ hgr hr
    have nc : ∀ r, row = some r → ∃ o : Obj, A.heap[r]? = some o ∧ o.isWalk = true := fun r e => (hr r e).2
    exact ⟨hI s A B row hi hgr fun r e => by obtain ⟨p, o, ho, hw⟩ := hr r e; exact ⟨by omega, o, ho, Obj.not_cells_of_walk hw⟩,
      (grownBy_keeps hgr nc hd rfl).trans hd, (grownBy_keeps hgr nc hl rfl).trans hl⟩
  · rintro s A v ⟨hi, hd, hl⟩
    exact ⟨hIc s A v hi, (set_other v (by omega) (Array.getElem?_eq_some_iff.1 hd).1).trans hd, (set_other v (by omega) (Array.getElem?_eq_some_iff.1 hl).1).trans hl⟩
  · rintro k A ⟨hi, hd, hl⟩ hk
    have hlt : D + 1 < A.heap.size := (Array.getElem?_eq_some_iff.1 hl).1
    have hy := run_yield (P := P) (args := #[enc k]) hl (by rw [hR, hps]; rfl)
    rw [hR] at hy
    refine ⟨fn, _, assign, body, hy, roundIn_of_wpIn hfn (hassign _ k A _ ⟨_, run_beginRound hl (by rw [hR]), ?_⟩)⟩
    obtain ⟨L2, hL2⟩ : ∃ L2 : Loop, L2 = { R .ready with state := .busy } := ⟨_, rfl⟩
    rw [← hL2]
    have m1 : (A.putObj (D + 1) (.loop L2)).heap[D + 1]? = some (.loop L2) := World.putObj_heap_same hlt
    have m2 : (A.putObj (D + 1) (.loop L2)).heap[D]? = some (.deferred (some [])) := (World.putObj_heap_other (by omega)).trans hd
    refine wpIn_mono (hbody _ k _ (hI.putObj _ hi (by omega) hl rfl) hk) ?_
    rintro e a3 B ⟨rfl, hko, hcb, hi'⟩
    have q1 := hko.same _ _ m1 rfl
    have q2 := hko.same _ _ m2 rfl
    have hend := run_endRound (P := P) none q1
    refine ⟨_, _, hend, rfl, ⟨hI.putObj _ hi' (by omega) q1 rfl, (World.putObj_heap_other (by omega)).trans q2, ?_⟩, ?_⟩
    · have := World.putObj_heap_same (o := .loop { L2 with state := .ready, pending := none }) (Array.getElem?_eq_some_iff.1 q1).1
      rw [hL2, hR] at this ⊢
      exact this
    · rw [World.putObj_heap_other (by omega), hcb, World.putObj_heap_other (by omega)]
  · rintro e B ⟨⟨v, rfl⟩, hi, hd, hl⟩
    have := run_endLoop (P := P) hl (by rw [hR]; simp)
    refine ⟨none, _, by rw [hR] at this; exact this, hdone D _ (by omega) (hI.putObj _ hi (by omega) hl rfl) ((World.putObj_heap_other (by omega)).trans hd)⟩
end Go.Proofs.YtaonkbfekadalaaGreatDoor
