/- What All comes to. -/
import Derived.Test.YtggnboieenknfaaHc
namespace Go.Proofs.Ytggnboieenknfaa
open Go.RowKit Go.Maps Go.Sort Go.Shelf
attribute [local go_sem] Oper.semAt_some
set_option linter.unusedVariables false

theorem keys_any (m : Nat) (mb : Option Nat) (W : World) : CallsIn Fence.wide m Try.prog 28 #[.map mb] W fun e w' => e = .returned (.func (.func 34) #[] #[.pointer (some ⟨W.heap.size, 0, none⟩)]) ∧ w' = W.alloc (.cells #[.map mb] 49) :=
  AnyZI.keys_in keysA Fence.wide m trivial rfl mb W

set_option maxRecDepth 100000 in
set_option maxHeartbeats 4000000 in
theorem HAll_ok {w : World} {p b : Nat} {r : List Int} (h : TM w p b r) (hr : r.length ≤ 1000000) :
    Calls Try.prog 18 #[.pointer (some ⟨p, 0, none⟩)] w fun e w' => (∃ v, e = .returned v ∧ OL w' w.heap.size v (liveL r)) ∧ Below w.heap.size w w' := by
  have c0 := h.c0
  obtain ⟨D, hown, hD⟩ := h.hm
  have hsz := hD.size
  have hN := cntL_le r
  have hlt := h.hm.lt
  have hmk := make_room (cntL r) (by omega)
  have h2 := (h.alloc (.cells (cells (zeros (cntL r))) 3)).alloc (.cells #[.slice (some ⟨w.heap.size, 0, none⟩) 0 (cntL r)] 27)
  have c2 := h2.c0
  refine (callsIn_wide (n := 3)).1 ?_
  refine callsIn_of_wp_marks Try.func18 rfl trivial ?_ rfl
  simp only [Try.ntmps18, List.size_toArray, List.length_cons, List.length_nil, Nat.reduceAdd, Nat.reduceSub, Array.replicate_succ, Array.replicate_zero, List.push_toArray, List.append_toArray, List.nil_append, List.cons_append]
  gi_wp2_with (gi_at_len; refine wpListIn_len_own _ rfl _ 49 rfl 3 3 Try.underlying49 _ b _ D rfl hown ?_; rw [hsz])
  refine ⟨trivial, ?_⟩
  refine (keys_any _ _ _).mono ?_
  rintro e w' ⟨rfl, rfl⟩
  gi_wp2_with fail
  obtain ⟨i0, hi, hz0, hz1, hz2⟩ := info_parts Try.infoI
  have q0 := Blk.made w 3 (cells (zeros (cntL r)))
  have q1 := Boxed.new (w.alloc (.cells (cells (zeros (cntL r))) 3)) 27 (.slice (some ⟨w.heap.size, 0, none⟩) 0 (cntL r))
  have q2 := Boxed.new ((w.alloc (.cells (cells (zeros (cntL r))) 3)).alloc (.cells #[.slice (some ⟨w.heap.size, 0, none⟩) 0 (cntL r)] 27)) 49 (.map (some b))
  simp only [World.size_alloc] at q1 q2
  replace q0 := (q0.alloc (.cells #[.slice (some ⟨w.heap.size, 0, none⟩) 0 (cntL r)] 27)).alloc (.cells #[.map (some b)] 49)
  replace q1 := q1.alloc (.cells #[.map (some b)] 49)
  have hB0 : Below w.heap.size w (((w.alloc (.cells (cells (zeros (cntL r))) 3)).alloc (.cells #[.slice (some ⟨w.heap.size, 0, none⟩) 0 (cntL r)] 27)).alloc (.cells #[.map (some b)] 49)) :=
    (((Below.refl w.heap.size w).alloc (Nat.le_refl _) _).alloc (by simp) _).alloc (by simp; omega) _
  have hsz0 : (((w.alloc (.cells (cells (zeros (cntL r))) 3)).alloc (.cells #[.slice (some ⟨w.heap.size, 0, none⟩) 0 (cntL r)] 27)).alloc (.cells #[.map (some b)] 49)).heap.size = w.heap.size + 3 := by simp
  have hown0 : (((w.alloc (.cells (cells (zeros (cntL r))) 3)).alloc (.cells #[.slice (some ⟨w.heap.size, 0, none⟩) 0 (cntL r)] 27)).alloc (.cells #[.map (some b)] 49)).ownsMap Try.prog 3 (plainElem Try.prog 3) b (cntL r) D := by
    obtain ⟨es, clock, hb, Ft, hs, hDD⟩ := hown
    exact ⟨es, clock, (hB0.block b hlt).trans hb, Ft, hs, hDD⟩
  generalize (((w.alloc (.cells (cells (zeros (cntL r))) 3)).alloc (.cells #[.slice (some ⟨w.heap.size, 0, none⟩) 0 (cntL r)] 27)).alloc (.cells #[.map (some b)] 49)) = W0 at q0 q1 q2 hB0 hsz0 hown0 ⊢
  clear c2 h2 hmk
  have hrow0 : W0.ownsRow w.heap.size 3 1 (.slice (some ⟨w.heap.size, 0, none⟩) 0 (cntL r)) 0 [] := ⟨by simp, .inr ⟨w.heap.size, cntL r, cells (zeros (cntL r)), rfl, Nat.le_refl _, q0, Nat.zero_le _, by unfold maxLen; omega, by simp [cells, zeros], by simp⟩⟩
  refine wpIn_rangeFunc_ownF rfl (by decide) (gf := 34) (lb := #[.pointer (some ⟨w.heap.size + 1 + 1, 0, none⟩)]) rfl trivial (enters_of Try.func34 (by kernel_rfl) rfl)
    (AnyZI.keys_stops (ρ := keysA_ren) { keysA with } Fence.wide _ trivial rfl (by decide) (w.heap.size + 1 + 1) b (cntL r) D W0 (by omega) q2.cell hown0)
    walksK_t walksK_b (Below.refl _ _) (fun _ => rfl)
    (fun pre W => (∃ v, Boxed W (w.heap.size + 1) 27 v ∧ W.ownsRow w.heap.size 3 1 v pre.length (pre.map encZ) ∧ ∃ g c, v = .slice (some ⟨g, 0, none⟩) pre.length c) ∧ Below w.heap.size w W)
    (fun _ _ _ => False)
    (OwnFrom.and (Own.from (holdsRow_own w.heap.size (w.heap.size + 1) 27 3 1 (fun pre : List Int => pre.length) (fun pre => pre.map encZ) (fun pre v => ∃ g c, v = .slice (some ⟨g, 0, none⟩) pre.length c)) _) (ownFrom_below (Nat.le_refl _) (by omega)))
    (fun _ _ _ _ _ hs _ _ => hs)
    ⟨⟨_, q1, hrow0, _, _, rfl⟩, hB0⟩
    (fun x => { tmps := #[.pointer (some ⟨p, 0, none⟩), undef, .slice none 0 0, .pointer (some ⟨w.heap.size + 1, 0, none⟩), .int .i64 x, .pointer (some ⟨p, 0, none⟩), .bool false, .pointer (some ⟨p, 0, none⟩), .pointer (some ⟨p, 0, none⟩), .pointer (some ⟨p, 0, none⟩), .map (some b), .int .i64 (cntL r), .slice (some ⟨w.heap.size, 0, none⟩) 0 (cntL r),
      .pointer (some ⟨p, 0, none⟩), .pointer (some ⟨p, 0, none⟩), .pointer (some ⟨p, 0, none⟩), .map (some b), .func (.func 34) #[] #[.pointer (some ⟨w.heap.size + 1 + 1, 0, none⟩)], .int .i64 x, undef, undef, undef, undef, undef, undef, undef], defers := [] }) ?assign ?body ?done ?stop
  case assign =>
    intro l x W K hK
    gi_wp2
    exact hK
  case body =>
    rintro l pre x W ⟨⟨v, hv, hrow, g, c, rfl⟩, hB⟩ hlen
    rw [hsz] at hlen
    have hvc := hv.cell
    have hle : w.heap.size ≤ w.heap.size + 1 := Nat.le_succ _
    have hWz := hB.size
    gi_wp2_with (gi_at_builtin; refine wpListIn_append_own _ rfl _ _ 27 rfl w.heap.size 3 i0 (.int .i64 0) 1 8 Try.underlying27 hi hz0 hz1 hz2 rfl (by decide) _ _ _ rfl (World.ownsRow.alloc hrow _) ⟨W.heap.size, 0, none⟩ 1 1 [encZ x] rfl rfl (cell_one_new _ _ _) (by simp [Value.oneCell']) (by unfold maxLen; omega) (by omega) (by simp; omega) ?_; intro v' w1 hown' hgrow _; obtain ⟨g', cap', rfl⟩ := ownsRow_succ hown'; obtain ⟨hv1, hv2, hr2, hk2, hb2⟩ := hv.appended (by decide) hrow hB.size hle hown' hgrow; have hc1 := hv1.cell; have hf1 := hv1.frozen)
    refine ⟨hk2, hk2.walks, ⟨⟨_, hv2, by simpa using hr2, g', cap', by simp⟩, hB.trans hb2⟩⟩
  case done =>
    rintro D' ys W hD' ⟨hperm, hmem⟩ ⟨⟨v, hv, hrow, g, c, rfl⟩, hB⟩ hK
    have hvc := hv.cell
    have hsort := sorted_eq hD (own_keys hown) hperm
    have hys : ys.length = cntL r := by
      have := congrArg List.length hsort
      rw [List.length_mergeSort, liveL_length] at this
      exact this
    rcases hrow.2 with ⟨hnil, _⟩ | ⟨gb, cap, cur, hve, hbase, hgb, r1, r2, r3, r4⟩
    · cases hnil
    · injection hve with e1 e2 e3
      injection e1 with e1
      injection e1 with e1
      subst e1
      subst e3
      have hH : Holds encZ W g 0 ys.toArray := holds_of_block_i hgb (by simpa using r4)
      have hgl : g < W.heap.size := (Array.getElem?_eq_some_iff.1 hgb).1
      have cS := fun m => (callsIn_wide (n := m)).2 (Sort_int g 0 c ys W hH hgl (by omega))
      simp only [hys] at cS hvc
      gi_wp2_with fail
      refine ⟨trivial, ?_⟩
      refine (cS _).mono ?_
      rintro e w' ⟨rfl, nn, os, rfl⟩
      have hg5 : W.grownBy (grow (putRow encZ (Sort.ahead W nn) g 0 (ys.mergeSort fun x y => decide (x ≤ y)).toArray) os) (some g) := grownBy_sorted_i _
      have hrow5 : (grow (putRow encZ (Sort.ahead W nn) g 0 (ys.mergeSort fun x y => decide (x ≤ y)).toArray) os).ownsRow w.heap.size 3 1 (.slice (some ⟨g, 0, none⟩) ys.length c) ys.length ((ys.mergeSort fun x y => decide (x ≤ y)).map encZ) := ownsRow_sorted_i (by simp) hbase hgb r1 r2 r3
      have hv5 := hv.kept hg5 (hv.not_row (by decide) hrow)
      have hK5 := (hg5.block D' (by have := (Array.getElem?_eq_some_iff.1 hK).1; exact this) (by intro e; injection e with e; subst e; rw [hgb] at hK; cases hK)).trans hK
      have hB5 := hB.grown hg5 hB.size (row_some hbase)
      rw [show (ys.mergeSort fun x y => decide (x ≤ y)) = liveL r from hsort] at hg5 hrow5 hv5 hK5 hB5 ⊢
      rw [hys] at hrow5 hv5
      generalize grow (putRow encZ (Sort.ahead W nn) g 0 (liveL r).toArray) os = W5 at hg5 hrow5 hv5 hK5 hB5 ⊢
      have hvc5 := hv5.cell
      gi_wp2_with fail
      refine ⟨by simp, .inl ⟨_, _, rfl, run_takeDeferred hK5, ?_⟩⟩
      refine ⟨_, results_tmp rfl _ _ _, ⟨_, rfl, ?_⟩, hB5.grown (grownBy_putObj' W5 D' (.deferred none)) hB5.size (row_some (by omega))⟩
      unfold OL
      rw [liveL_length]
      exact ownsRow_putObj hrow5 _ hK5 rfl
  case stop =>
    rintro D' c pre W _ _ hh _
    exact hh.elim
end Go.Proofs.Ytggnboieenknfaa
