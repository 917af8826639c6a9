/- What slices.Clone, Counts and Clone come to. -/
import Derived.Test.YtfbjnpbmicbbnaaTj
import Derived.Maps.AppendAt
import Derived.Deep.RegionHeld3
namespace Go.Proofs.Ytfbjnpbmicbbnaa
open Go.RowKit
set_option linter.unusedVariables false

theorem BI_of_own {w : World} {base n : Nat} {v : Value} {xs : List Int} (h : w.ownsRow base 3 1 v n (xs.map (Value.int .i64))) (hn : 0 < n) :
    ∃ g cap, v = .slice (some ⟨g, 0, none⟩) n cap ∧ base ≤ g ∧ n ≤ cap ∧ cap ≤ 9223372036854775807 ∧ BI w g xs := by
  obtain ⟨hl, hh⟩ := h
  rcases hh with ⟨_, h0⟩ | ⟨g, cap, cur, hv, hb, hg, h1, h2, h3, h4⟩
  · omega
  · refine ⟨g, cap, hv, hb, h1, by unfold maxLen at h2; omega, cur, hg, fun k hk => ?_⟩
    rw [List.length_map] at hl
    have h5 : (cur.toList.take (n * 1))[k]? = (xs.map (Value.int .i64))[k]? := by rw [h4]
    rw [List.getElem?_take_of_lt (by omega), List.getElem?_map, List.getElem?_eq_getElem hk] at h5
    rw [nth_eq hk]
    simpa using h5

theorem add_at {b off j : Nat} : (⟨b, off, none⟩ : Addr).add j = ⟨b, off + j, none⟩ := by unfold Addr.add; split <;> simp_all

/-- The cells of a slice, as values. -/
theorem src_of_RI {w : World} {b off : Nat} {r : List Int} (hR : RI w (some ⟨b, off, none⟩) r) : ∀ j u, (r.map (Value.int .i64))[j]? = some u → w.cell? ((⟨b, off, none⟩ : Addr).add j) = some u := by
  intro j v hv
  rw [List.getElem?_map] at hv
  have hj : j < r.length := by
    rcases Nat.lt_or_ge j r.length with h | h
    · exact h
    · rw [List.getElem?_eq_none h] at hv; cases hv
  rw [List.getElem?_eq_getElem hj] at hv
  injection hv with hv
  rw [add_at, hR.cellN hj, nth_eq hj, hv]

set_option maxRecDepth 100000 in
set_option maxHeartbeats 400000 in
theorem SClone_ok {w : World} {b off c n : Nat} {r : List Int} (hl : r.length = n) (hR : RI w (some ⟨b, off, none⟩) r) (h1 : 1 ≤ n) (h2 : n ≤ 4096) :
    Calls Try.prog 35 #[.slice (some ⟨b, off, none⟩) n c] w fun e w' => (∃ g cap, e = .returned (.slice (some ⟨g, 0, none⟩) n cap) ∧ w.heap.size ≤ g ∧ n ≤ cap ∧ cap ≤ 9223372036854775807 ∧ BI w' g r) ∧ Below w.heap.size w w' := by
  obtain ⟨i0, hi, hz0, hz1, hz2⟩ := info_parts Try.infoI
  have HL := Lib.hid hl
  clear hl
  have hR1 : RI (w.alloc (.cells #[] 3)) (some ⟨b, off, none⟩) r := hR.below ((Below.refl w.heap.size w).alloc (Nat.le_refl _) _) (Nat.le_refl _)
  have heq := Lib.run_eql_slice_nil (P := Try.prog) w 22 3 (some ⟨b, off, none⟩) n c 0 0 Try.underlying22
  go_enter Try.func35, Try.ntmps35
  go_wp2_with (at_builtin; refine wpList_append_own_at _ rfl _ _ 22 rfl w.heap.size 3 i0 (.int .i64 0) 1 8 Try.underlying22 hi hz0 hz1 hz2 rfl (by decide) (.slice (some ⟨w.heap.size, 0, none⟩) 0 0) 0 [] rfl (World.ownsRow_made w #[] 0 (Nat.le_refl _) (by decide) rfl) ⟨b, off, none⟩ n c (r.map (Value.int .i64)) rfl ?c0 (src_of_RI hR1) ?c2 ?c3 ?c4 ?c5 ?_)
  case c0 => rw [List.length_map, HL.out]; omega
  case c2 => intro u hu; obtain ⟨x, _, rfl⟩ := List.mem_map.1 hu; rfl
  case c3 => unfold maxLen; omega
  case c4 => omega
  case c5 => simp
  intro v' w3 hown hg3 _ hat
  obtain ⟨g, cap, rfl, hb, hc1, hc2, hB⟩ := BI_of_own hown (by omega)
  go_wp2_with fail
  go_ret
  exact ⟨⟨g, cap, rfl, hb, hc1, hc2, hB⟩, ((Below.refl w.heap.size w).alloc (Nat.le_refl _) (.cells #[] 3)).grown hg3 (by simp) (fun k e => by injection e with e; simp at e; omega)⟩

theorem leaves {r t : List Int} (h : TI r t) {w : World} {g : Nat} (hB : BI w g t) : RI w (some ⟨g, r.length, none⟩) r := fun _ =>
  ⟨g, r.length, rfl, fun k hk => by rw [hB.cell (by rw [h.len]; omega), h.leaf k hk]⟩

set_option maxRecDepth 1000000 in
set_option maxHeartbeats 400000 in
theorem TCounts_ok {w : World} {p g cap S L : Nat} {r t : List Int} (h : TM w p g cap S r t) (hr : Rt r L) :
    Calls Try.prog 23 #[.pointer (some ⟨p, 0, none⟩)] w fun e w' => (∃ g' cap', e = .returned (.slice (some ⟨g', 0, none⟩) S cap') ∧ w.heap.size ≤ g' ∧ BI w' g' r) ∧ Below w.heap.size w w' := by
  have hS := h.hS
  have hs1 := hr.len_pos
  have hs2 := hr.len_le
  rw [hS] at hs1 hs2
  have c0 := h.c0
  have c1 := h.c1
  have hcap := h.cap.1
  have i1 : (1 : Int) ≤ (S : Int) := by omega
  have i2 : (S : Int) ≤ 512 := by omega
  have hlv := leaves h.ti h.hg
  rw [hS] at hlv
  have hcl := fun d => SClone_ok (w := w.drewN d) (c := cap - S) hS hlv hs1 (by omega)
  have hne : ¬ cap = S := by omega
  have hsub : 2 * S - S = S := by omega
  have HS := Lib.hid hS
  clear hS
  go_enter Try.func23, Try.ntmps23
  go_wp2_with fail
  go_still_tail 8, (by kernel_rfl)
  change wpList _ _ _ _ _ w.drew
  have hcl1 := hcl 1
  have hb1 : Below w.heap.size w (w.drewN 1) := below_drewN (Below.refl _ _) 1
  have hz1 : (w.drewN 1).heap.size = w.heap.size := rfl
  have hdr : w.drew = w.drewN 1 := rfl
  rw [hdr]
  clear hcl hdr c0 c1 hlv h
  generalize w.drewN 1 = w2 at *
  have HZ := Lib.hid hz1
  clear hz1
  go_wp2_with fail
  refine hcl1.mono ?_
  rintro e w3 ⟨⟨g', cap', rfl, hg, _, _, hB⟩, hb3⟩
  go_wp2_with fail
  go_ret
  exact ⟨⟨g', cap', rfl, by rw [HZ.out] at hg; exact hg, hB⟩, below_ge hb1 hb3 (by rw [← HZ.out]; exact Nat.le_refl _)⟩
end Go.Proofs.Ytfbjnpbmicbbnaa
