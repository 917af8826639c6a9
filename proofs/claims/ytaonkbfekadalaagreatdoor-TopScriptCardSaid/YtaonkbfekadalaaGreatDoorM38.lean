/- How many keys of a set lie in a span. -/
import Derived.Test.YtaonkbfekadalaaGreatDoorM35
namespace Go.Proofs.YtaonkbfekadalaaGreatDoor
open Go.RowKit Go.Shelf
attribute [local go_sem] Oper.semAt_some
set_option linter.unusedVariables false

section
theorem Only.putObj {X : Nat → Prop} (w : World) (l : Nat) (o : Obj) (hl : X l) : Only X w (w.putObj l o) := Only.of_grown (grownBy_putObj' w l o) (fun r e => by injection e with e; exact e ▸ hl)
/-- A range over a function of one number whose rounds all go on, and turn no block but those of X. -/
theorem wpIn_range_word {P : Program} {gf n : Nat} {lb : Array Value} {g : Operand} {ps : Array Tmp} {assign body : Code} {Q : Exit → Act → World → Prop} {a : Act} {w : World}
    (h1 : 1 ≤ n) (hg : a.eval g = .func (.func gf) #[] lb) (eg : ∀ args w, (callFunc gf args).run P w = .ok (.enter gf args) w) (hps : ps.size = 1)
    (X : Nat → Prop) (I : World → Prop) (hX : ∀ i, X i → i < w.heap.size)
    (hIn : ∀ A B, I A → Only (fun i => w.heap.size ≤ i) A B → I B)
    (hIc : ∀ A, I A → w.heap.size ≤ A.heap.size ∧ ∀ i, X i → ∃ o : Obj, A.heap[i]? = some o ∧ o.isCells = true) (h0 : I w)
    (hseq : ∀ (l : Nat) (J : World → Prop) (Y : Nat → Prop) (W : World), Below w.heap.size w W → W.heap.size = w.heap.size + 2 →
      (∀ A B, J A → Only (fun i => W.heap.size ≤ i) A B → W.heap.size ≤ A.heap.size → J B) → (∀ A B, J A → J B → Only Y A B → KeepsOthers A B) →
      (∀ i, Y i → X i ∨ (w.heap.size ≤ i ∧ i < W.heap.size)) → (∀ x A, J A → YieldAt Fence.wide 5 P l #[.int .i64 x] A fun e B => e = .returned (.bool true) ∧ J B ∧ Only Y A B) → J W →
      Calls P gf (#[.func (.yield l) #[] #[]] ++ lb) W fun e W' => (∃ v, e = .returned v) ∧ J W')
    (a₁ : Int → Act)
    (hassign : ∀ (l : Nat) (x : Int) (W : World) (K : Act → World → Prop), K (a₁ x) W → assign.wpIn (Fence.wide.inRound l) 5 P (Exit.then K (fun _ _ _ => False)) { tmps := (ps.zip #[.int .i64 x]).foldl (fun t (p, v) => t.setIfInBounds p v) a.tmps, defers := [] } W)
    (hbody : ∀ (l : Nat) (x : Int) (W : World), I W → body.wpIn (Fence.wide.inRound l) 5 P (fun e _ W' => e = .normal ∧ I W' ∧ Only X W W') (a₁ x) W)
    (hdone : ∀ (D : Nat) (W : World), w.heap.size ≤ D → I W → W.heap[D]? = some (.deferred (some [])) → Q .normal { a with defers := { target := .collected D, args := #[] } :: a.defers } W) :
    (Code.rangeFunc g ps assign body).wpIn Fence.wide n P Q a w := by
  refine wpIn_rangeFunc ?_
  intro fn hfn
  obtain ⟨rec, hrec⟩ : ∃ rec : LoopState → Option Code → Loop, rec = fun st pe => { state := st, pending := pe, fn, tmps := a.tmps, params := ps, assign, body, defers := w.heap.size } := ⟨_, rfl⟩
  obtain ⟨W1, hW1⟩ : ∃ W1, (w.alloc (.deferred (some []))).alloc (.loop (rec .ready none)) = W1 := ⟨_, rfl⟩
  have hL1 : W1.heap[w.heap.size + 1]? = some (.loop (rec .ready none)) := by
    rw [← hW1]; have := World.alloc_heap_new (w.alloc (.deferred (some []))) (.loop (rec .ready none)); rwa [World.size_alloc] at this
  have hK1 : W1.heap[w.heap.size]? = some (.deferred (some [])) := by
    rw [← hW1]; exact (Below.heap_alloc _ _ _ (by simp)).trans (World.alloc_heap_new w _)
  have hb1 : Below w.heap.size w W1 := by
    rw [← hW1]; exact ((Below.refl _ w).alloc (Nat.le_refl _) _).alloc (by simp) _
  have hz1 : W1.heap.size = w.heap.size + 2 := by rw [← hW1]; simp
  have hI1 : I W1 := hIn w W1 h0 (Only.of_below hb1)
  refine ⟨w.heap.size + 1, [{ target := .collected w.heap.size, args := #[] }], W1, { target := .fn (.func gf) lb, args := #[.func (.yield (w.heap.size + 1)) #[] #[]] }, W1, gf,
    #[.func (.yield (w.heap.size + 1)) #[] #[]] ++ lb, W1, ?_, ?_, ?_, ?_, fun _ => h1, ?_⟩
  · rw [← hW1, hrec]; exact run_enterLoop_outer _ _ _ _ _
  · simp only [resolve, hg]
    simp [go_sem]
  · intro f' hf'; trivial
  · simp [invoke, go_sem, eg]
  refine callsIn_wide.2 ?_
  have hin : ∀ (A B : World), Only (fun i => W1.heap.size ≤ i) A B → W1.heap.size ≤ A.heap.size → ∀ i, i < W1.heap.size → B.heap[i]? = A.heap[i]? := fun A B ho hz i hi => ho.block i (by omega) (by omega)
  refine (hseq (w.heap.size + 1) (fun A => I A ∧ A.heap[w.heap.size + 1]? = some (.loop (rec .ready none)) ∧ A.heap[w.heap.size]? = some (.deferred (some []))) (fun i => X i ∨ i = w.heap.size + 1) W1 hb1 hz1
    (fun A B hs ho hz => ⟨hIn A B hs.1 (ho.mono fun i _ q => by omega), by rw [hin A B ho hz _ (by omega)]; exact hs.2.1, by rw [hin A B ho hz _ (by omega)]; exact hs.2.2⟩)
    (fun A B ha hb ho => ⟨ho.size, fun k o hk hc => ?_⟩) (fun i q => q.imp id fun q => by omega) ?_ ⟨hI1, hL1, hK1⟩).mono ?_
  · by_cases hx : X k
    · obtain ⟨o', e1, e2⟩ := (hIc A ha.1).2 k hx
      rw [hk] at e1; injection e1 with e1; subst e1; rw [hc] at e2; cases e2
    · by_cases hl : k = w.heap.size + 1
      · subst hl; rw [ha.2.1] at hk; injection hk with hk; subst hk; exact hb.2.1
      · rw [ho.block k (Array.getElem?_eq_some_iff.1 hk).1 (fun q => q.elim hx hl)]; exact hk
  · rintro x W ⟨hi, hl, hk⟩
    have hlt : w.heap.size + 1 < W.heap.size := (Array.getElem?_eq_some_iff.1 hl).1
    have hnl : ¬ X (w.heap.size + 1) := fun q => by have := hX _ q; omega
    have hnd : ¬ X w.heap.size := fun q => by have := hX _ q; omega
    have hy := run_yield (P := P) (args := #[.int .i64 x]) hl (by rw [hrec]; exact hps.symm)
    rw [hrec] at hy
    refine ⟨fn, _, assign, body, hy, roundIn_of_wpIn hfn (hassign _ x W _ ⟨_, run_beginRound hl (by rw [hrec]), ?_⟩)⟩
    have hl2 : (W.putObj (w.heap.size + 1) (.loop { rec .ready none with state := .busy })).heap[w.heap.size + 1]? = some (.loop { rec .ready none with state := .busy }) := World.putObj_heap_same hlt
    have hk2 : (W.putObj (w.heap.size + 1) (.loop { rec .ready none with state := .busy })).heap[w.heap.size]? = some (.deferred (some [])) := (World.putObj_heap_other (by omega)).trans hk
    have ho2 : Only (fun i => X i ∨ i = w.heap.size + 1) W (W.putObj (w.heap.size + 1) (.loop { rec .ready none with state := .busy })) := Only.putObj _ _ _ (.inr rfl)
    have hi2 := hIn _ _ hi (Only.putObj W (w.heap.size + 1) (.loop { rec .ready none with state := .busy }) (Nat.le_succ _))
    refine wpIn_mono (hbody _ x _ hi2) ?_
    rintro e a3 W3 ⟨rfl, hi3, ho3⟩
    have hl3 := (ho3.block (w.heap.size + 1) (by simpa using hlt) hnl).trans hl2
    have hk3 := (ho3.block w.heap.size (by simp; omega) hnd).trans hk2
    have hre := run_endRound (P := P) none hl3
    refine ⟨_, _, hre, rfl, ⟨hIn _ _ hi3 (Only.putObj _ _ _ (Nat.le_succ _)), ?_, ?_⟩, (ho2.trans (ho3.mono fun i _ q => .inl q)).trans (Only.putObj _ _ _ (.inr rfl))⟩
    · rw [World.putObj_heap_same (by have := ho3.size; simp at this; omega)]; rw [hrec]; rfl
    · exact (World.putObj_heap_other (by omega)).trans hk3
  · rintro e W2 ⟨⟨v, rfl⟩, hi, hl, hk⟩
    refine ⟨none, _, by have := run_endLoop (P := P) hl (by rw [hrec]; simp); rw [hrec] at this; exact this, ?_⟩
    exact hdone _ _ (Nat.le_refl _) (hIn _ _ hi (Only.putObj _ _ _ (Nat.le_succ _))) ((World.putObj_heap_other (by omega)).trans hk)
variable {w : World} {P : PB} {h s : Nat} {r : List Bool} {xs K : List Int}
set_option maxRecDepth 100000 in
set_option maxHeartbeats 8000000 in
theorem Count_ok (hm : SetM w s P h r xs K) (lo hi : Int) : Calls Tryz.prog 106 #[.pointer (some ⟨s, 0, none⟩), .int .i64 lo, .int .i64 hi] w fun e w' => (∃ v : Int, e = .returned (.int .i64 v)) ∧ Below w.heap.size w w' := by
  have hmf : ∀ (fn : Fn) (first cap : Array Value) (w : World), (Instr.makeFunc fn first cap).run Tryz.prog w = .ok (.func fn first cap) w := fun _ _ _ _ => rfl
  have nb0 := Blk.made w 3 #[.int .i64 0]
  have hB0 : Below w.heap.size w (w.alloc (.cells #[.int .i64 0] 3)) := (Below.refl _ w).alloc (Nat.le_refl _) _
  have hz0 : (w.alloc (.cells #[.int .i64 0] 3)).heap.size = w.heap.size + 1 := by simp
  have hm0 := hm.below hB0
  have hr := Range_ok s lo hi (w.alloc (.cells #[.int .i64 0] 3))
  refine (callsIn_wide (n := 8)).1 ?_
  refine callsIn_of_wp_marks Tryz.func106 rfl trivial ?_ rfl
  refine wpIn_wide.2 ?_
  simp only [Tryz.ntmps106, List.size_toArray, List.length_cons, List.length_nil, Nat.reduceAdd, Nat.reduceSub, Array.replicate_succ, Array.replicate_zero, List.push_toArray, List.append_toArray, List.nil_append, List.cons_append]
  go_wp2_with fail
  refine hr.mono ?_
  rintro e w1 ⟨rfl, hw1⟩
  go_wp2_with fail
  refine (wpIn_wide (n := 8)).1 ?_
  generalize w.alloc (.cells #[.int .i64 0] 3) = w0 at *
  have x0 := ((Blk.made w0 38 #[.pointer (some ⟨s, 0, none⟩)]).alloc (.cells #[.int .i64 lo] 3)).alloc (.cells #[.int .i64 hi] 3)
  have x1 := ((Blk.made (w0.alloc (.cells #[.pointer (some ⟨s, 0, none⟩)] 38)) 3 #[.int .i64 lo])).alloc (.cells #[.int .i64 hi] 3)
  have x2 := (Blk.made ((w0.alloc (.cells #[.pointer (some ⟨s, 0, none⟩)] 38)).alloc (.cells #[.int .i64 lo] 3)) 3 #[.int .i64 hi])
  simp only [World.size_alloc, hz0] at x0 x1 x2
  have hB1 : Below w0.heap.size w0 w1 := by rw [← hw1]; exact (((Below.refl _ w0).alloc (Nat.le_refl _) _).alloc (by simp) _).alloc (by simp; omega) _
  have hz1 : w1.heap.size = w.heap.size + 4 := by rw [← hw1]; simp [hz0]
  rw [hw1] at x0 x1 x2
  have hm1 := hm0.below hB1
  have nb1 := nb0.below hB1 nb0.lt
  have hBw := hB0.trans (hB1.mono hB0.size)
  clear hw1 hr
  have h2 := hm.rp.hT.pos
  refine wpIn_range_word (gf := 203) (lb := #[.pointer (some ⟨w.heap.size + 1, 0, none⟩), .pointer (some ⟨w.heap.size + 1 + 1, 0, none⟩), .pointer (some ⟨w.heap.size + 1 + 2, 0, none⟩)]) (by decide) rfl (enters_of Tryz.func203 (by kernel_rfl) rfl) rfl
    (fun i => i = w.heap.size) (fun A => (∃ c, Blk A w.heap.size 3 #[.int .i64 c]) ∧ Below w.heap.size w A ∧ w1.heap.size ≤ A.heap.size) (fun i q => by omega)
    (fun A B ha ho => ⟨ha.1.imp fun c q => q.only ho (by omega), Only.below ha.2.1 ho ha.2.1.size (fun i q => by omega), Nat.le_trans ha.2.2 ho.size⟩)
    (fun A ha => ⟨ha.2.2, fun i q => by obtain ⟨c, hc⟩ := ha.1; subst q; exact ⟨_, hc, rfl⟩⟩) ⟨⟨_, nb1⟩, hBw, Nat.le_refl _⟩
    (fun l J Y W hB hz hJn hJK hYl hY h0 => range1_ok (hm1.below hB) (x0.below hB x0.lt) (x1.below hB x1.lt) (x2.below hB x2.lt) hJn hJK (fun i q => by have := hYl i q; omega) hY h0)
    (fun x => { tmps := #[.pointer (some ⟨s, 0, none⟩), .int .i64 lo, .int .i64 hi, undef, undef, undef, .int .i64 0, .pointer (some ⟨w.heap.size, 0, none⟩), .pointer (some ⟨s, 0, none⟩), .int .i64 lo, .int .i64 hi, .func (.func 203) #[] #[.pointer (some ⟨w.heap.size + 1, 0, none⟩), .pointer (some ⟨w.heap.size + 1 + 1, 0, none⟩), .pointer (some ⟨w.heap.size + 1 + 2, 0, none⟩)], .int .i64 x, undef, undef, undef], defers := [] }) ?_ ?_ ?_
  · intro l x W K hK
    gi_wp2
    simpa using hK
  · rintro l x W ⟨⟨c, hc⟩, hB, hsz⟩
    have hcc : W.cell? ⟨w.heap.size, 0, none⟩ = some (.int .i64 c) := by rw [hc.cell]; rfl
    have hf := hc.frozen 0
    gi_wp2_with fail
    exact ⟨⟨⟨_, hc.put 0 _⟩, hB.setCell (p := ⟨w.heap.size, 0, none⟩) (Nat.le_refl _) _, by omega⟩, (Only.refl (fun i => i = w.heap.size) W).put (p := ⟨w.heap.size, 0, none⟩) (.inl rfl) _⟩
  · rintro D W hD ⟨⟨c, hc⟩, hB, hsz⟩ hK
    have hcc : W.cell? ⟨w.heap.size, 0, none⟩ = some (.int .i64 c) := by rw [hc.cell]; rfl
    go_wp2_with fail
    refine ⟨by simp, .inl ⟨_, _, rfl, run_takeDeferred hK, ?_⟩⟩
    exact ⟨_, results_tmp rfl _ _ _, ⟨_, rfl⟩, hB.grown (grownBy_putObj' W D (.deferred none)) hB.size (row_some (by omega))⟩
end
section
variable {w w' : World} {Z : Nat → Prop} {m : Nat} {K L t : List Int}
set_option maxRecDepth 100000 in
theorem mCount (hM : MacM Z w m K L t) (c : ByteArray) {A B : Int} :
    Calls Tryz.prog 58 #[.pointer (some ⟨m, 0, none⟩), cmdV c A B] w fun e w' => (∃ x : An, e = .returned (.agg x.cs) ∧ x.code = 0) ∧ Below w.heap.size w w' := by
  obtain ⟨W0, hW0, a0, a1, hB0, hz0⟩ := boxed c A B w
  have hM0 := hM.below hB0
  obtain ⟨s, P, h1, r, xs, b, Q, h2', r2, xs2, e1, e2, e3, e4, e5, e6⟩ := hM0
  have c0 : W0.cell? ⟨m, 0, none⟩ = some (.pointer (some ⟨s, 0, none⟩)) := by rw [e1.cell]; rfl
  have c1 : W0.cell? ⟨w.heap.size, 1, none⟩ = some (.int .i64 A) := by rw [a0.cell]; rfl
  have c2 : W0.cell? ⟨w.heap.size, 2, none⟩ = some (.int .i64 B) := by rw [a0.cell]; rfl
  have d0 : W0.drew.cell? ⟨m, 0, none⟩ = some (.pointer (some ⟨s, 0, none⟩)) := c0
  have d1 : W0.drew.cell? ⟨w.heap.size, 1, none⟩ = some (.int .i64 A) := c1
  have d2 : W0.drew.cell? ⟨w.heap.size, 2, none⟩ = some (.int .i64 B) := c2
  have hBd : Below W0.heap.size W0 W0.drew := below_drewN (Below.refl _ _) 1
  have a0d := a0.below hBd a0.lt
  have a1d := a1.below hBd a1.lt
  have e1d := e1.below hBd e1.lt
  have hBw : Below w.heap.size w W0.drew := hB0.trans (hBd.mono hB0.size)
  unfold cmdV
  unfold an0 anE An.cs at hW0 a1 a1d
  dsimp only at hW0 a1 a1d
  have n1 : w.heap.size ≠ w.heap.size + 1 := by omega
  have n2 : m ≠ w.heap.size + 1 := fun q => by have := hM.mlt; omega
  have hc : Calls Tryz.prog 106 #[.pointer (some ⟨s, 0, none⟩), .int .i64 A, .int .i64 B] W0.drew _ := Count_ok (e2.below hBd) A B
  clear e2 e3 e4 e5 e6 hM
  go_enter Tryz.func58, Tryz.ntmps58
  go_wp2_with fail
  go_region_held3 (fun W => W.cell? ⟨m, 0, none⟩ = some (.pointer (some ⟨s, 0, none⟩)) ∧ W.cell? ⟨w.heap.size, 1, none⟩ = some (.int .i64 A) ∧ W.cell? ⟨w.heap.size, 2, none⟩ = some (.int .i64 B))
    (with_reducible first | exact ⟨d0, d1, d2⟩ | exact ⟨g0, g1, g2⟩ | exact ⟨e1'.cell8 n2 rfl _ _ _ _ _ _ _ _, a0'.cell8 n1 rfl _ _ _ _ _ _ _ _, a0'.cell8 n1 rfl _ _ _ _ _ _ _ _⟩)
    ((go_at_call 106; refine hc.mono ?_; rintro e w1 ⟨⟨z, rfl⟩, hB1⟩; have e1' := e1d.below hB1 e1d.lt; have a0' := a0d.below hB1 a0d.lt; have b1 := a1d.below hB1 a1d.lt; have g0 : w1.cell? ⟨m, 0, none⟩ = some (.pointer (some ⟨s, 0, none⟩)) := (by rw [e1'.cell]; rfl); have g1 : w1.cell? ⟨w.heap.size, 1, none⟩ = some (.int .i64 A) := (by rw [a0'.cell]; rfl); have g2 : w1.cell? ⟨w.heap.size, 2, none⟩ = some (.int .i64 B) := (by rw [a0'.cell]; rfl); obtain ⟨y0, y1, y2, y3, y4, y5, y6, y7⟩ := b1.eight; obtain ⟨f0, f1, f2, f3, f4, f5, f6, f7⟩ := b1.frozen8))
  go_wp2_with fail
  refine bodyPost_ret (results_c rfl _ rfl (b1.put8 _ _ _ _ _ _ _ _) Tryz.underlying33 (by kernel_rfl)) rfl ?_
  exact ⟨⟨⟨0, z, false, 0, 0, 0, 0, none, 0, 0⟩, rfl, rfl⟩, below_put8 (hBw.trans (hB1.mono hBw.size)) (by omega) _ _ _ _ _ _ _ _⟩
end
end Go.Proofs.YtaonkbfekadalaaGreatDoor
