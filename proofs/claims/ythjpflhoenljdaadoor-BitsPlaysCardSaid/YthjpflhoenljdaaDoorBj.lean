/- What slices.Clone, Words and Clone come to, and the chapter's example. -/
import Derived.Test.YthjpflhoenljdaaDoorBi
import Derived.Maps.AppendAt
import Derived.StillTailTactics
namespace Go.Proofs.YthjpflhoenljdaaDoor
open Go.RowKit
set_option linter.unusedVariables false

/-- The words f as values. -/
def valsW (f : Nat → Nat) (m : Nat) : List Value := (List.range m).map fun k => .int .u64 (f k : Nat)
theorem valsW_len (f : Nat → Nat) (m : Nat) : (valsW f m).length = m := by simp [valsW]
theorem valsW_get {f : Nat → Nat} {m k : Nat} (h : k < m) : (valsW f m)[k]? = some (.int .u64 (f k : Nat)) := by simp [valsW, h]
theorem BW_of_own {w : World} {base m : Nat} {v : Value} {f : Nat → Nat} (h : w.ownsRow base 53 1 v m (valsW f m)) (hm : 0 < m) :
    ∃ g cap, v = .slice (some ⟨g, 0, none⟩) m cap ∧ base ≤ g ∧ m ≤ cap ∧ cap ≤ 9223372036854775807 ∧ BW w g f m := by
  obtain ⟨hl, hh⟩ := h
  rcases hh with ⟨_, h0⟩ | ⟨g, cap, cur, hv, hb, hg, h1, h2, h3, h4⟩
  · omega
  · refine ⟨g, cap, hv, hb, h1, by unfold maxLen at h2; omega, cur, hg, fun k hk => ?_⟩
    have h5 : (cur.toList.take (m * 1))[k]? = (valsW f m)[k]? := by rw [h4]
    rw [List.getElem?_take_of_lt (by omega), valsW_get hk] at h5
    simpa using h5
theorem add_at {b off j : Nat} : (⟨b, off, none⟩ : Addr).add j = ⟨b, off + j, none⟩ := by unfold Addr.add; split <;> simp_all
theorem src_of_BW {w : World} {g m : Nat} {f : Nat → Nat} (h : BW w g f m) : ∀ j u, (valsW f m)[j]? = some u → w.cell? ((⟨g, 0, none⟩ : Addr).add j) = some u := by
  intro j u hu
  have hj : j < m := by
    rcases Nat.lt_or_ge j m with h1 | h1
    · exact h1
    · rw [List.getElem?_eq_none (by rw [valsW_len]; exact h1)] at hu; cases hu
  rw [valsW_get hj] at hu
  rw [add_at, Nat.zero_add, h.cell hj, hu]

set_option maxRecDepth 100000 in
set_option maxHeartbeats 400000 in
theorem SClone_ok {w : World} {g c m : Nat} {f : Nat → Nat} (h : BW w g f m) (h1 : 1 ≤ m) (h2 : m ≤ 4096) :
    Calls Tryd.prog 32 #[.slice (some ⟨g, 0, none⟩) m c] w fun e w' => (∃ g' cap', e = .returned (.slice (some ⟨g', 0, none⟩) m cap') ∧ w.heap.size ≤ g' ∧ m ≤ cap' ∧ cap' ≤ 9223372036854775807 ∧ BW w' g' f m) ∧ Below w.heap.size w w' := by
  obtain ⟨i0, hi, hz0, hz1, hz2⟩ := info_parts Tryd.infoW
  have hR1 := h.alloc (.cells #[] 53)
  have heq := Lib.run_eql_slice_nil (P := Tryd.prog) w 47 53 (some ⟨g, 0, none⟩) m c 0 0 Tryd.underlying47
  go_enter Tryd.func32, Tryd.ntmps32
  go_wp2_with (at_builtin; refine wpList_append_own_at _ rfl _ _ 47 rfl w.heap.size 53 i0 (.int .u64 0) 1 8 Tryd.underlying47 hi hz0 hz1 hz2 rfl (by decide) (.slice (some ⟨w.heap.size, 0, none⟩) 0 0) 0 [] rfl (World.ownsRow_made w #[] 0 (Nat.le_refl _) (by decide) rfl) ⟨g, 0, none⟩ m c (valsW f m) rfl ?c0 (src_of_BW hR1) ?c2 ?c3 ?c4 ?c5 ?_)
  case c0 => rw [valsW_len]; omega
  case c2 => intro u hu; obtain ⟨x, _, rfl⟩ := List.mem_map.1 hu; rfl
  case c3 => unfold maxLen; omega
  case c4 => omega
  case c5 => simp
  intro v' w3 hown hg3 _ hat
  obtain ⟨g', cap', rfl, hb, hc1, hc2, hB⟩ := BW_of_own hown (by omega)
  go_wp2_with fail
  go_ret
  exact ⟨⟨g', cap', rfl, hb, hc1, hc2, hB⟩, ((Below.refl w.heap.size w).alloc (Nat.le_refl _) (.cells #[] 53)).grown hg3 (by simp) (fun k e => by injection e with e; simp at e; omega)⟩

theorem nw_bd {n : Nat} (h : 1 ≤ n ∧ n ≤ 65536) : 1 ≤ nw n ∧ nw n ≤ 1024 := by unfold nw; omega

set_option maxRecDepth 100000 in
theorem BWords_ok {w : World} {p g cap n : Nat} {r : List Bool} (h : BM w p g cap n r) :
    Calls Tryd.prog 25 #[.pointer (some ⟨p, 0, none⟩)] w fun e w' => (∃ g' cap', e = .returned (.slice (some ⟨g', 0, none⟩) (nw n) cap') ∧ w.heap.size ≤ g' ∧ BW w' g' (word r) (nw n)) ∧ Below w.heap.size w w' := by
  have c1 := h.c1
  have hn := nw_bd h.hn
  have hcl := SClone_ok (c := cap) h.hg hn.1 (by omega)
  go_enter Tryd.func25, Tryd.ntmps25
  go_wp2_with fail
  refine hcl.mono ?_
  rintro e w3 ⟨⟨g', cap', rfl, hg, _, _, hB⟩, hb3⟩
  go_wp2_with fail
  go_ret
  exact ⟨⟨g', cap', rfl, hg, hB⟩, hb3⟩

set_option maxRecDepth 1000000 in
set_option maxHeartbeats 400000 in
theorem BClone_ok {w : World} {p g cap n : Nat} {r : List Bool} (h : BM w p g cap n r) :
    Calls Tryd.prog 27 #[.pointer (some ⟨p, 0, none⟩)] w fun e w' => (∃ p' g' cap', e = .returned (.pointer (some ⟨p', 0, none⟩)) ∧ w.heap.size ≤ p' ∧ w.heap.size ≤ g' ∧ BM w' p' g' cap' n r) ∧ Below w.heap.size w w' := by
  have c0 := h.c0
  have c1 := h.c1
  have hn := nw_bd h.hn
  have hcl : Calls Tryd.prog 32 #[.slice (some ⟨g, 0, none⟩) (nw n) cap] w.drew _ := SClone_ok (w := w.drew) (c := cap) (h.hg.drewN 1) hn.1 (by omega)
  have hp0 := h.hp.drew
  have hplt := h.hp.drew.lt
  have hbd : Below w.heap.size w w.drew := below_drewN (Below.refl _ _) 1
  have hzd : w.drew.heap.size = w.heap.size := rfl
  have HZD := Lib.hid hzd
  have HL := Lib.hid h.hl
  have HN := Lib.hid h.hn
  clear hzd hn
  go_enter Tryd.func27, Tryd.ntmps27
  go_wp2_with fail
  go_region_held3 (fun W => W.cell? ⟨p, 0, none⟩ = some (.int .i64 (n : Int)) ∧ W.cell? ⟨p, 1, none⟩ = some (.slice (some ⟨g, 0, none⟩) (nw n) cap))
    (first | exact ⟨c0, c1⟩ | exact ⟨d0, d1⟩ | exact ⟨(hp3.alloc _).cell 0, (hp3.alloc _).cell 1⟩)
    ((go_at_call 32; refine hcl.mono ?_; rintro e w3 ⟨⟨g', cap', rfl, hg, hc1, hc2, hB⟩, hb3⟩; have hp3 := hp0.below hb3 hplt; have d0 : w3.cell? ⟨p, 0, none⟩ = some (.int .i64 (n : Int)) := (by rw [hp3.cell]; rfl); have d1 : w3.cell? ⟨p, 1, none⟩ = some (.slice (some ⟨g, 0, none⟩) (nw n) cap) := (by rw [hp3.cell]; rfl)))
  all_goals go_wp2_with fail
  all_goals go_ret
  all_goals
    have hbl := below_ge hbd hb3 (Nat.le_refl _)
    have hsz := hbl.size
    rw [HZD.out] at hg
    refine ⟨⟨_, g', cap', rfl, hsz, hg, ⟨HL.out, HN.out, Blk.made _ _ _, hB.alloc _, hc1, hc2⟩⟩, hbl.alloc hsz _⟩

/-- The example's row. -/
def exR : List Bool := (((offs 70).set 3 true).set 64 true).set 69 true
theorem exR_on : ∀ i, on exR i = (decide (i = 3) || decide (i = 64) || decide (i = 69)) := fun i => by
  unfold exR
  rw [on_set (by simp [offs]), on_set (by simp [offs]), on_set (by simp [offs]), on_offs]
  by_cases h1 : i = 69 <;> by_cases h2 : i = 64 <;> by_cases h3 : i = 3 <;> simp [h1, h2, h3]
theorem exR_cnt : cnt exR 3 = 0 ∧ cnt exR 69 = 2 := by decide +kernel
theorem exR_word : word exR 0 = 8 ∧ word exR 1 = 33 := by decide +kernel
theorem exR_next : IsNext exR 4 64 := .inl ⟨64, rfl, by omega, by rw [exR_on]; rfl, fun k h1 h2 => by rw [exR_on]; simp; omega⟩
theorem exR_prev : IsPrev exR 63 3 := .inl ⟨3, rfl, by omega, by rw [exR_on]; rfl, fun k h1 h2 => by rw [exR_on]; simp; omega⟩
theorem exR_nth : IsNth exR 2 69 := .inl ⟨69, rfl, by rw [exR_on]; rfl, by rw [exR_cnt.2]; rfl⟩

set_option maxRecDepth 100000 in
set_option maxHeartbeats 800000 in
theorem awake_any (w : World) (hT : Tab w) : Calls Tryd.prog 9 #[] w fun e w' => e = .returned (.bool true) ∧ Below w.heap.size w w' := by
  go_enter Tryd.func9, Tryd.ntmps9
  go_wp2_with fail
  refine (BNew_ok 70 (by decide) (by decide) w).mono ?_
  generalize hP : w.heap.size + 1 = P
  generalize hG : w.heap.size = G
  have hGP : G ≤ P := by omega
  have HG := Lib.hid hG
  clear hG hP
  rintro e w1 ⟨rfl, hm, hb⟩
  rw [← HG.out] at hb
  have hGa : w.heap.size ≤ G := by rw [HG.out]; exact Nat.le_refl _
  go_wp2_with fail
  refine (BSet_ok hm 3 (by decide) true).mono ?_
  rintro e w2 ⟨rfl, hm2, hg2⟩
  replace hb := hb.grown hg2 hb.size (row_some hGa)
  go_wp2_with fail
  refine (BSet_ok hm2 64 (by decide) true).mono ?_
  rintro e w3 ⟨rfl, hm3, hg3⟩
  replace hb := hb.grown hg3 hb.size (row_some hGa)
  go_wp2_with fail
  refine (BSet_ok hm3 69 (by decide) true).mono ?_
  rintro e w4 ⟨rfl, hm4, hg4⟩
  replace hb := hb.grown hg4 hb.size (row_some hGa)
  replace hm4 : BM w4 P G (nw 70) 70 exR := hm4
  have hT4 := hT.below hb
  clear hm hm2 hm3 hg2 hg3 hg4
  go_wp2_with fail
  refine (BRange_ok hm4 3 69 (by decide) (by decide)).mono ?_
  rw [exR_cnt.1, exR_cnt.2]
  rintro e w5 ⟨rfl, rfl⟩
  go_wp2_with fail
  refine (BWords_ok hm4).mono ?_
  rintro e w5 ⟨⟨g5, cap5, rfl, hg5, hB5⟩, hb5⟩
  have hm5 := hm4.below hb5
  have hb5' := below_ge hb hb5 (Nat.le_refl _)
  have hT5 := hT4.below hb5
  have hx := exR_word
  have q0 : w5.cell? ⟨g5, 0, none⟩ = some (.int .u64 8) := by rw [hB5.cell (by decide), hx.1]; rfl
  have q1 : w5.cell? ⟨g5, 1, none⟩ = some (.int .u64 33) := by rw [hB5.cell (by decide), hx.2]; rfl
  rw [show nw 70 = 2 by decide] at *
  clear hx hB5 hm4 hb5
  go_wp2_with fail
  refine (BNext_any hm5 hT5 4).mono ?_
  rintro e w6 ⟨⟨s, rfl, hs⟩, rfl⟩
  obtain rfl := hs.uniq exR_next
  go_wp2_with fail
  refine (BPrev_any hm5 63).mono ?_
  rintro e w6 ⟨⟨s, rfl, hs⟩, rfl⟩
  obtain rfl := hs.uniq exR_prev
  go_wp2_with fail
  refine (BNth_any hm5 hT5 2 (by decide)).mono ?_
  rintro e w6 ⟨⟨s, rfl, hs⟩, rfl⟩
  obtain rfl := hs.uniq exR_nth
  go_wp2_with fail
  go_ret
  exact ⟨rfl, hb5'⟩
end Go.Proofs.YthjpflhoenljdaaDoor
