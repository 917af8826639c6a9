/- What Clone comes to, and what a call does. -/
import Derived.Test.YtggnboieenknfaaHd
namespace Go.Proofs.Ytggnboieenknfaa
open Go.RowKit Go.Maps
set_option linter.unusedVariables false

theorem clone_map {w : World} {b : Nat} {r : List Int} (h : MM w b r) :
    Calls Try.prog 30 #[.map (some b)] w fun e w' => e = .returned (.map (some w.heap.size)) ∧ MM w' w.heap.size r ∧ Below w.heap.size w w' ∧ w'.heap.size = w.heap.size + 1 := by
  obtain ⟨D, ⟨es, clock, h1, h2⟩, h3⟩ := h
  refine (AnyW.maps_Clone cloneA b es clock w h1).mono ?_
  rintro e w' ⟨rfl, rfl⟩
  exact ⟨rfl, ⟨D, ⟨es, clock, heap_alloc_new w _, h2⟩, h3⟩, (Below.refl _ w).alloc (Nat.le_refl _) _, by simp⟩

set_option maxRecDepth 100000 in
theorem HClone_ok {w : World} {p b : Nat} {r : List Int} (h : TM w p b r) :
    Calls Try.prog 19 #[.pointer (some ⟨p, 0, none⟩)] w fun e w' => e = .returned (.pointer (some ⟨w.heap.size + 1, 0, none⟩)) ∧ TM w' (w.heap.size + 1) w.heap.size r ∧ Below w.heap.size w w' := by
  have c0 := h.c0
  have c1 := h.c1
  have hd := h.drewN 1
  have d0 := hd.c0
  have d1 := hd.c1
  have hm := hd.hm
  go_enter Try.func19, Try.ntmps19
  go_wp2_with fail
  go_region_held3 (fun W => W.cell? ⟨p, 0, none⟩ = some (.map (some b)) ∧ W.cell? ⟨p, 1, none⟩ = some (.int .i64 (r.length : Int)))
    (first | exact ⟨c0, c1⟩ | exact ⟨d0, d1⟩ | assumption)
    (first | (go_at_call 30; refine (clone_map hm).mono ?_; rintro e w1 ⟨rfl, hm1, hb1, hsz1⟩; have hT1 := hd.below hb1; have hq1 := And.intro hT1.c0 hT1.c1; have hT2 := hT1.alloc (.cells #[.map (some w.heap.size), .int .i64 (r.length : Int)] 51); have hq2 := And.intro hT2.c0 hT2.c1))
  all_goals go_wp2_with fail
  all_goals go_ret
  have hbw : Below w.heap.size w w1 := (below_of ⟨1, rfl⟩).trans hb1
  have hs1 : w1.heap.size = w.heap.size + 1 := hsz1
  refine ⟨rfl, ⟨?_, hm1.below ((Below.refl _ w1).alloc (Nat.le_refl _) _) hm1.lt⟩, hbw.alloc hbw.size _⟩
  have := Blk.made w1 51 #[.map (some w.heap.size), .int .i64 (r.length : Int)]
  rwa [hs1] at this

/-- What a call does: the list then, what it tells, and its code. -/
def actH (r : List Int) (o y s : Int) : List Int × Int × Int :=
  if o = 0 then takeV r s else if o = 1 then ((moveV r y s).1, 0, (moveV r y s).2) else if o = 2 then ((freeV r y).1, 0, (freeV r y).2) else (r, askV r y)

theorem does_any {w : World} {p b : Nat} {r : List Int} (h : TM w p b r) (hr : r.length ≤ 1000000) (o : Int) {y : Int} (hy : inB y) (s : Int) :
    Calls Try.prog 10 #[.pointer (some ⟨p, 0, none⟩), .agg #[.int .i64 o, .int .i64 y, .int .i64 s]] w fun e w' =>
      e = .returned (.tuple #[.int .i64 (actH r o y s).2.1, .int .i64 (actH r o y s).2.2]) ∧ TM w' p b (actH r o y s).1 ∧ Turn p b w w' := by
  have h1 := h.alloc (.cells #[.int .i64 o, .int .i64 y, .int .i64 s] 34)
  have q1 := Blk.made w 34 #[.int .i64 o, .int .i64 y, .int .i64 s]
  have e0 := q1.cell 0
  have e1 := q1.cell 1
  have e2 := q1.cell 2
  simp at e0 e1 e2
  have hT := HTake_any h1 hr s
  have hM := HMove_any h1 hr hy s
  have hF := HFree_any h1 hy
  have hS := HSlot_any h1 hy
  unfold actH
  by_cases o0 : o = 0
  · subst o0
    simp only [if_true]
    go_enter Try.func10, Try.ntmps10
    go_wp2_with fail
    refine hT.mono ?_
    rintro e w' ⟨rfl, ht', hk⟩
    go_wp2_with fail
    go_ret2
    exact ⟨rfl, ht', hk.box⟩
  · rw [if_neg o0]
    have t0 : (o == 0) = false := by simpa using o0
    by_cases o1 : o = 1
    · subst o1
      simp only [if_true]
      clear t0 o0
      go_enter Try.func10, Try.ntmps10
      go_wp2_with fail
      refine hM.mono ?_
      rintro e w' ⟨rfl, ht', hk⟩
      go_wp2_with fail
      go_ret2
      exact ⟨rfl, ht', hk.box⟩
    · rw [if_neg o1]
      have t1 : (o == 1) = false := by simpa using o1
      by_cases o2 : o = 2
      · subst o2
        simp only [if_true]
        clear t0 o0 t1 o1
        go_enter Try.func10, Try.ntmps10
        go_wp2_with fail
        refine hF.mono ?_
        rintro e w' ⟨rfl, ht', hk⟩
        go_wp2_with fail
        go_ret2
        exact ⟨rfl, ht', hk.box⟩
      · rw [if_neg o2]
        have t2 : (o == 2) = false := by simpa using o2
        clear o0 o1 o2
        go_enter Try.func10, Try.ntmps10
        go_wp2_with fail
        refine hS.mono ?_
        rintro e w' ⟨rfl, rfl⟩
        go_wp2_with fail
        go_ret2
        exact ⟨rfl, h1, (Turn.refl _ _ _).box⟩
end Go.Proofs.Ytggnboieenknfaa
