/- What Place comes to. -/
import Derived.Test.YtahmhnbjpgkbbaaRi
namespace Go.Proofs.Ytahmhnbjpgkbbaa
open Go.RowKit Go.Shelf
attribute [local go_sem] Oper.semAt_some
set_option linter.unusedVariables false

theorem results_place (tmps : Array Value) (w : World) (a b : Value) (g g' : Nat) (hp : tmps.getD 8 undef = .pointer (some ⟨g, 0, none⟩)) (hq : tmps.getD 9 undef = .pointer (some ⟨g', 0, none⟩))
    (h1 : Blk w g 3 #[a]) (h2 : Blk w g' 23 #[b]) : (results Try.f19 tmps).run Try.prog w = .ok (.tuple #[a, b]) w := by
  have e1 := h1.cell 0
  have e2 := h2.cell 0
  simp at e1 e2
  simp only [Array.getD_eq_getD_getElem?] at hp hq
  simp [results, Try.f19, go_sem, hp, hq, e1, e2]

set_option maxRecDepth 100000 in
theorem Place_arg (n first segs i : Int) (w : World) (h : okB n segs = false) :
    Calls Try.prog 19 #[.int .i64 n, .int .i64 first, .int .i64 segs, .int .i64 i] w fun e w' => e = .returned (.tuple #[.int .i64 0, .int .i64 1]) ∧ Below w.heap.size w w' := by
  go_enter Try.func19, Try.ntmps19
  go_wp2_with (go_at_call 24; refine (check_arg _ _ _ _ h).mono ?_; rintro e w' ⟨rfl, rfl⟩)
  try simp only [Exit.inBlock, Exit.then]
  have k1 := (Blk.made (w.alloc (.cells #[.int .i64 i] 3)) 3 #[.int .i64 0]).alloc (.cells #[.int .i64 1] 23)
  have k2 := Blk.made ((w.alloc (.cells #[.int .i64 i] 3)).alloc (.cells #[.int .i64 0] 3)) 23 #[.int .i64 1]
  simp only [World.size_alloc] at k1 k2
  refine bodyPost_ret (results_place _ _ _ _ _ _ rfl rfl k1 k2) rfl ?_
  exact ⟨rfl, (((Below.refl _ _).alloc (Nat.le_refl _) _).alloc (by simp) _).alloc (by simp; omega) _⟩

set_option maxRecDepth 100000 in
theorem Place_range (n first segs i : Int) (w : World) (h : okB n segs = true) (hr : ¬ ((0 ≤ first ∧ first ≤ 512 - segs) ∧ (0 ≤ i ∧ i ≤ n - 1))) :
    Calls Try.prog 19 #[.int .i64 n, .int .i64 first, .int .i64 segs, .int .i64 i] w fun e w' => e = .returned (.tuple #[.int .i64 0, .int .i64 10]) ∧ Below w.heap.size w w' := by
  obtain ⟨p1, p2, p3, p4⟩ := okB_true h
  have HR := Lib.hid hr
  clear hr
  have k1 := (Blk.made (w.alloc (.cells #[.int .i64 i] 3)) 3 #[.int .i64 0]).alloc (.cells #[.int .i64 10] 23)
  have k2 := Blk.made ((w.alloc (.cells #[.int .i64 i] 3)).alloc (.cells #[.int .i64 0] 3)) 23 #[.int .i64 10]
  simp only [World.size_alloc] at k1 k2
  by_cases hf : 0 ≤ first ∧ first ≤ 512 - segs
  · have b1 := inB_false (fun h => HR.out ⟨hf, h⟩)
    have HF := Lib.hid hf
    clear hf
    go_enter Try.func19, Try.ntmps19
    go_wp2_with (first
      | (go_at_call 24; refine (check_ok _ _ _ _ h HF.out).mono ?_; rintro e w' ⟨rfl, rfl⟩)
      | (go_at_call 27; refine (between_any _ _ _ _).mono ?_; rintro e w' ⟨rfl, rfl⟩))
    try simp only [Exit.inBlock, Exit.then]
    refine bodyPost_ret (results_place _ _ _ _ _ _ rfl rfl k1 k2) rfl ?_
    exact ⟨rfl, (((Below.refl _ _).alloc (Nat.le_refl _) _).alloc (by simp) _).alloc (by simp; omega) _⟩
  · go_enter Try.func19, Try.ntmps19
    have HF := Lib.hid hf
    clear hf
    go_wp2_with (go_at_call 24; refine (check_range _ _ _ _ h HF.out).mono ?_; rintro e w' ⟨rfl, rfl⟩)
    try simp only [Exit.inBlock, Exit.then]
    refine bodyPost_ret (results_place _ _ _ _ _ _ rfl rfl k1 k2) rfl ?_
    exact ⟨rfl, (((Below.refl _ _).alloc (Nat.le_refl _) _).alloc (by simp) _).alloc (by simp; omega) _⟩

set_option maxRecDepth 100000 in
set_option maxHeartbeats 2000000 in
theorem Place_ok (N : Nat) (first segs : Int) (I : Nat) (w : World) (h : okB (N : Int) segs = true) (hr : 0 ≤ first ∧ first ≤ 512 - segs) (hI : I < N) :
    Calls Try.prog 19 #[.int .i64 N, .int .i64 first, .int .i64 segs, .int .i64 I] w fun e w' => e = .returned (.tuple #[.int .i64 (nth (pl N first segs) I), .int .i64 0]) ∧ Below w.heap.size w w' := by
  obtain ⟨p1, p2, p3, p4⟩ := okB_true h
  have b1 := inB_true (n := (I : Int)) (lo := 0) (hi := (N : Int) - 1) (by omega)
  refine (callsIn_wide (n := 3)).1 ?_
  refine callsIn_of_wp_marks Try.func19 rfl trivial ?_ rfl
  simp only [Try.ntmps19, List.size_toArray, List.length_cons, List.length_nil, Nat.reduceAdd, Nat.reduceSub, Array.replicate_succ, Array.replicate_zero, List.push_toArray, List.append_toArray, List.nil_append, List.cons_append]
  gi_wp2_with fail
  refine ⟨trivial, ?_⟩
  refine (callsIn_wide.2 (check_ok N first segs _ h hr)).mono ?_
  rintro e w' ⟨rfl, rfl⟩
  gi_wp2_with fail
  refine ⟨trivial, ?_⟩
  refine (callsIn_wide.2 (between_any _ _ _ _)).mono ?_
  rintro e w' ⟨rfl, rfl⟩
  gi_wp2_with fail
  refine ⟨trivial, ?_⟩
  refine (callsIn_wide.2 (places_any N first segs _)).mono ?_
  rintro e w' ⟨rfl, rfl⟩
  gi_wp2_with fail
  have hl : (pl (N : Int) first segs).length = N := by have := pl_length (first := first) h; omega
  have HL := Lib.hid hl
  clear hl
  have q0 := Blk.made w 3 #[.int .i64 (I : Int)]
  have q1 := Blk.made (w.alloc (.cells #[.int .i64 (I : Int)] 3)) 3 #[.int .i64 0]
  have q2 := Blk.made ((w.alloc (.cells #[.int .i64 (I : Int)] 3)).alloc (.cells #[.int .i64 0] 3)) 23 #[.int .i64 0]
  have q3 := Blk.made (((w.alloc (.cells #[.int .i64 (I : Int)] 3)).alloc (.cells #[.int .i64 0] 3)).alloc (.cells #[.int .i64 0] 23)) 3 #[.int .i64 (N : Int)]
  have q4 := Blk.made ((((w.alloc (.cells #[.int .i64 (I : Int)] 3)).alloc (.cells #[.int .i64 0] 3)).alloc (.cells #[.int .i64 0] 23)).alloc (.cells #[.int .i64 (N : Int)] 3)) 3 #[.int .i64 first]
  have q5 := Blk.made (((((w.alloc (.cells #[.int .i64 (I : Int)] 3)).alloc (.cells #[.int .i64 0] 3)).alloc (.cells #[.int .i64 0] 23)).alloc (.cells #[.int .i64 (N : Int)] 3)).alloc (.cells #[.int .i64 first] 3)) 3 #[.int .i64 segs]
  simp only [World.size_alloc] at q1 q2 q3 q4 q5
  replace q0 := ((((q0.alloc (.cells #[.int .i64 0] 3)).alloc (.cells #[.int .i64 0] 23)).alloc (.cells #[.int .i64 (N : Int)] 3)).alloc (.cells #[.int .i64 first] 3)).alloc (.cells #[.int .i64 segs] 3)
  replace q1 := (((q1.alloc (.cells #[.int .i64 0] 23)).alloc (.cells #[.int .i64 (N : Int)] 3)).alloc (.cells #[.int .i64 first] 3)).alloc (.cells #[.int .i64 segs] 3)
  replace q2 := ((q2.alloc (.cells #[.int .i64 (N : Int)] 3)).alloc (.cells #[.int .i64 first] 3)).alloc (.cells #[.int .i64 segs] 3)
  replace q3 := (q3.alloc (.cells #[.int .i64 first] 3)).alloc (.cells #[.int .i64 segs] 3)
  replace q4 := q4.alloc (.cells #[.int .i64 segs] 3)
  have hB0 : Below w.heap.size w ((((((w.alloc (.cells #[.int .i64 (I : Int)] 3)).alloc (.cells #[.int .i64 0] 3)).alloc (.cells #[.int .i64 0] 23)).alloc (.cells #[.int .i64 (N : Int)] 3)).alloc (.cells #[.int .i64 first] 3)).alloc (.cells #[.int .i64 segs] 3)) :=
    ((((((Below.refl w.heap.size w).alloc (Nat.le_refl _) _).alloc (by simp) _).alloc (by simp; omega) _).alloc (by simp; omega) _).alloc (by simp; omega) _).alloc (by simp; omega) _
  have hsz : ((((((w.alloc (.cells #[.int .i64 (I : Int)] 3)).alloc (.cells #[.int .i64 0] 3)).alloc (.cells #[.int .i64 0] 23)).alloc (.cells #[.int .i64 (N : Int)] 3)).alloc (.cells #[.int .i64 first] 3)).alloc (.cells #[.int .i64 segs] 3)).heap.size = w.heap.size + 6 := by simp
  generalize ((((((w.alloc (.cells #[.int .i64 (I : Int)] 3)).alloc (.cells #[.int .i64 0] 3)).alloc (.cells #[.int .i64 0] 23)).alloc (.cells #[.int .i64 (N : Int)] 3)).alloc (.cells #[.int .i64 first] 3)).alloc (.cells #[.int .i64 segs] 3)) = W0 at q0 q1 q2 q3 q4 q5 hB0 hsz ⊢
  refine wpIn_rangeFunc_ownF rfl (by decide) (gf := 31) (lb := #[.pointer (some ⟨w.heap.size + 1 + 1 + 1, 0, none⟩), .pointer (some ⟨w.heap.size + 1 + 1 + 1 + 2, 0, none⟩), .pointer (some ⟨w.heap.size + 1 + 1 + 1 + 1, 0, none⟩)]) rfl trivial (enters_of Try.func31 (by kernel_rfl) rfl)
    (places_stops N first segs h ⟨hr.1, by omega⟩ _ (w.heap.size + 1 + 1 + 1) (w.heap.size + 1 + 1 + 1 + 2) (w.heap.size + 1 + 1 + 1 + 1) (fun g => g = w.heap.size) W0 q3 q5 q4 (by omega) (by omega) (by omega) (by intro g hg; omega))
    Kx.trans (fun W l o o' _ hl ho _ => Kx.putObj W l o o' hl ho) (Below.refl _ _) (fun _ => rfl)
    (fun pre W => (pre.length ≤ I ∧ Blk W w.heap.size 3 #[.int .i64 ((I : Int) - (pre.length : Int))] ∧ Blk W (w.heap.size + 1) 3 #[.int .i64 0] ∧ Blk W (w.heap.size + 1 + 1) 23 #[.int .i64 0]) ∧ Below w.heap.size w W)
    (fun c pre W => (c = .ret ∧ pre.length = I + 1 ∧ Blk W (w.heap.size + 1) 3 #[.int .i64 (nth pre I)] ∧ Blk W (w.heap.size + 1 + 1) 23 #[.int .i64 0]) ∧ Below w.heap.size w W)
    (OwnFrom.and (Own.from (fun s A B row hs hg hrw => ⟨hs.1, hs.2.1.grown hg (blk_ne hs.2.1 hrw), hs.2.2.1.grown hg (blk_ne hs.2.2.1 hrw), hs.2.2.2.grown hg (blk_ne hs.2.2.2 hrw)⟩) _) (ownFrom_below (Nat.le_refl _) (by omega)))
    (fun c => OwnFrom.and (Own.from (fun s A B row hs hg hrw => ⟨hs.1, hs.2.1, hs.2.2.1.grown hg (blk_ne hs.2.2.1 hrw), hs.2.2.2.grown hg (blk_ne hs.2.2.2 hrw)⟩) _) (ownFrom_below (Nat.le_refl _) (by omega)))
    ⟨⟨Nat.zero_le _, by simpa using q0, q1, q2⟩, hB0⟩
    (fun x => { tmps := #[.int .i64 N, .int .i64 first, .int .i64 segs, .int .i64 I, undef, undef, undef, .pointer (some ⟨w.heap.size, 0, none⟩), .pointer (some ⟨w.heap.size + 1, 0, none⟩), .pointer (some ⟨w.heap.size + 1 + 1, 0, none⟩), .int .i64 0, .int .i64 x,
      .int .i64 N, .int .i64 first, .int .i64 segs, .int .i64 0, .int .i64 0, .bool false, undef, .int .i64 I, .int .i64 N, .int .i64 ((N : Int) - 1), .bool true, .bool false, .int .i64 N, .int .i64 first, .int .i64 segs,
      .func (.func 31) #[] #[.pointer (some ⟨w.heap.size + 1 + 1 + 1, 0, none⟩), .pointer (some ⟨w.heap.size + 1 + 1 + 1 + 2, 0, none⟩), .pointer (some ⟨w.heap.size + 1 + 1 + 1 + 1, 0, none⟩)], .int .i64 x, undef, undef, undef, undef, undef], defers := [] }) ?assign ?body ?done ?stop
  case assign =>
    intro l x W K hK
    gi_wp2
    exact hK
  case body =>
    rintro l pre x W ⟨⟨hp, k0, k1, k2⟩, hB⟩ hlt
    have c0 : W.cell? ⟨w.heap.size, 0, none⟩ = some (.int .i64 ((I : Int) - (pre.length : Int))) := by rw [k0.cell]; rfl
    have c1 : W.cell? ⟨w.heap.size + 1, 0, none⟩ = some (.int .i64 0) := by rw [k1.cell]; rfl
    have c2 : W.cell? ⟨w.heap.size + 1 + 1, 0, none⟩ = some (.int .i64 0) := by rw [k2.cell]; rfl
    have f0 := k0.frozen 0
    have f1 := k1.frozen 0
    have f2 := k2.frozen 0
    have hWz := k2.lt
    by_cases he : pre.length = I
    · have t : ((I : Int) - (pre.length : Int) == 0) = true := by simp; omega
      gi_wp2
      refine ⟨?_, ⟨rfl, ?_, ?_, ?_⟩, ?_⟩
      · exact (KeepsOthers.setCell _ _ _).trans (KeepsOthers.setCell _ _ _)
      · simp [he]
      · have : nth (pre ++ [x]) I = x := by rw [← he]; exact nth_right pre [x] 0
        rw [this]
        simpa using (k1.put 0 (.int .i64 x)).far (p := ⟨w.heap.size + 1 + 1, 0, none⟩) (by simp) (.int .i64 0)
      · simpa using ((k2.far (p := ⟨w.heap.size + 1, 0, none⟩) (by simp) (.int .i64 x)).put 0 (.int .i64 0))
      · exact (hB.setCell (p := ⟨w.heap.size + 1, 0, none⟩) (by simp) _).setCell (p := ⟨w.heap.size + 1 + 1, 0, none⟩) (by simp; omega) _
    · have t : ((I : Int) - (pre.length : Int) == 0) = false := by simp; omega
      gi_wp2
      refine ⟨KeepsOthers.setCell _ _ _, ?_, ⟨?_, ?_, ?_, ?_⟩, ?_⟩
      · refine Kx.of_grown (grown_put W w.heap.size 0 _) ?_
        intro r e; injection e with e; exact e.symm
      · simp; omega
      · have := k0.put 0 (.int .i64 ((I : Int) - (pre.length : Int) - 1))
        rw [List.length_append, List.length_singleton, show ((I : Int) - ((pre.length + 1 : Nat) : Int)) = (I : Int) - (pre.length : Int) - 1 by omega]
        simpa using this
      · exact k1.far (p := ⟨w.heap.size, 0, none⟩) (by simp) _
      · exact k2.far (p := ⟨w.heap.size, 0, none⟩) (by simp; omega) _
      · exact hB.setCell (p := ⟨w.heap.size, 0, none⟩) (by simp) _
  case done =>
    rintro D ys W hD rfl ⟨⟨hp, _⟩, hB⟩ hK
    rw [HL.out] at hp
    omega
  case stop =>
    rintro D c pre W hD hpre ⟨⟨rfl, hlen, k1, k2⟩, hB⟩ hK
    gi_wp2
    refine ⟨by simp, .inl ⟨_, _, rfl, run_takeDeferred hK, ?_⟩⟩
    have hg := grownBy_putObj' W D (.deferred none)
    refine ⟨_, results_place _ _ _ _ _ _ rfl rfl (k1.grown hg (blk_ne k1 (fun r e => by cases e; exact ⟨_, hK, rfl⟩))) (k2.grown hg (blk_ne k2 (fun r e => by cases e; exact ⟨_, hK, rfl⟩))), ?_, ?_⟩
    · rw [nth_prefix hpre (by omega)]
    · exact hB.grown hg hB.size (row_some (by omega))
end Go.Proofs.Ytahmhnbjpgkbbaa
