/- What slices.Clone, Words and Clone come to, and the chapter's example. -/
import Derived.Maps.AppendAt
import Derived.StillTailTactics
import Derived.Test.YtaonkbfekadalaaGreatDoorM06
namespace Go.Proofs.YtaonkbfekadalaaGreatDoor
open Go.RowKit
set_option linter.unusedVariables false

/-- The words f as values. -/
def valsW (f : Nat → Nat) (m : Nat) : List Value := (List.range m).map fun k => .int .u64 (f k : Nat)
theorem valsW_len (f : Nat → Nat) (m : Nat) : (valsW f m).length = m := by simp [valsW]
theorem valsW_get {f : Nat → Nat} {m k : Nat} (h : k < m) : (valsW f m)[k]? = some (.int .u64 (f k : Nat)) := by simp [valsW, h]
theorem BW_of_own {w : World} {base m : Nat} {v : Value} {f : Nat → Nat} (h : w.ownsRow base 191 1 v m (valsW f m)) (hm : 0 < m) :
    ∃ g cap, v = .slice (some ⟨g, 0, none⟩) m cap ∧ base ≤ g ∧ m ≤ cap ∧ cap ≤ 9223372036854775807 ∧ BW w g f m := by
  obtain ⟨hl, hh⟩ := h
  rcases hh with ⟨_, h0⟩ | ⟨g, cap, cur, hv, hb, hg, h1, h2, h3, h4⟩
  · omega
  · refine ⟨g, cap, hv, hb, h1, by unfold maxLen at h2; omega, cur, hg, fun k hk => ?_⟩
    have h5 : (cur.toList.take (m * 1))[k]? = (valsW f m)[k]? := by rw [h4]
    rw [List.getElem?_take_of_lt (by omega), valsW_get hk] at h5
    simpa using h5
theorem add_atW {b off j : Nat} : (⟨b, off, none⟩ : Addr).add j = ⟨b, off + j, none⟩ := by unfold Addr.add; split <;> simp_all
theorem src_of_BW {w : World} {g m : Nat} {f : Nat → Nat} (h : BW w g f m) : ∀ j u, (valsW f m)[j]? = some u → w.cell? ((⟨g, 0, none⟩ : Addr).add j) = some u := by
  intro j u hu
  have hj : j < m := by
    rcases Nat.lt_or_ge j m with h1 | h1
    · exact h1
    · rw [List.getElem?_eq_none (by rw [valsW_len]; exact h1)] at hu; cases hu
  rw [valsW_get hj] at hu
  rw [add_atW, Nat.zero_add, h.cell hj, hu]

set_option maxRecDepth 100000 in
set_option maxHeartbeats 400000 in
theorem SCloneW_ok {w : World} {g c m : Nat} {f : Nat → Nat} (h : BW w g f m) (h1 : 1 ≤ m) (h2 : m ≤ 4096) :
    Calls Tryz.prog 240 #[.slice (some ⟨g, 0, none⟩) m c] w fun e w' => (∃ g' cap', e = .returned (.slice (some ⟨g', 0, none⟩) m cap') ∧ w.heap.size ≤ g' ∧ m ≤ cap' ∧ cap' ≤ 9223372036854775807 ∧ BW w' g' f m) ∧ Below w.heap.size w w' := by
  obtain ⟨i0, hi, hz0, hz1, hz2⟩ := info_parts Tryz.infoW
  have hR1 := h.alloc (.cells #[] 191)
  have heq := Lib.run_eql_slice_nil (P := Tryz.prog) w 187 191 (some ⟨g, 0, none⟩) m c 0 0 Tryz.underlying187
  go_enter Tryz.func240, Tryz.ntmps240
  go_wp2_with (at_builtin; refine wpList_append_own_at _ rfl _ _ 187 rfl w.heap.size 191 i0 (.int .u64 0) 1 8 Tryz.underlying187 hi hz0 hz1 hz2 rfl (by decide) (.slice (some ⟨w.heap.size, 0, none⟩) 0 0) 0 [] rfl (World.ownsRow_made w #[] 0 (Nat.le_refl _) (by decide) rfl) ⟨g, 0, none⟩ m c (valsW f m) rfl ?c0 (src_of_BW hR1) ?c2 ?c3 ?c4 ?c5 ?_)
  case c0 => rw [valsW_len]; omega
  case c2 => intro u hu; obtain ⟨x, _, rfl⟩ := List.mem_map.1 hu; rfl
  case c3 => unfold maxLen; omega
  case c4 => omega
  case c5 => simp
  intro v' w3 hown hg3 _ hat
  obtain ⟨g', cap', rfl, hb, hc1, hc2, hB⟩ := BW_of_own hown (by omega)
  go_wp2_with fail
  go_ret
  exact ⟨⟨g', cap', rfl, hb, hc1, hc2, hB⟩, ((Below.refl w.heap.size w).alloc (Nat.le_refl _) (.cells #[] 191)).grown hg3 (by simp) (fun k e => by injection e with e; simp at e; omega)⟩

theorem nw_bd {n : Nat} (h : 1 ≤ n ∧ n ≤ 65536) : 1 ≤ nw n ∧ nw n ≤ 1024 := by unfold nw; omega

set_option maxRecDepth 1000000 in
set_option maxHeartbeats 400000 in
theorem BClone_ok {w : World} {p g cap n : Nat} {r : List Bool} (h : BM w p g cap n r) :
    Calls Tryz.prog 198 #[.pointer (some ⟨p, 0, none⟩)] w fun e w' => (∃ p' g' cap', e = .returned (.pointer (some ⟨p', 0, none⟩)) ∧ w.heap.size ≤ p' ∧ w.heap.size ≤ g' ∧ BM w' p' g' cap' n r) ∧ Below w.heap.size w w' := by
  have c0 := h.c0
  have c1 := h.c1
  have hn := nw_bd h.hn
  have hcl : Calls Tryz.prog 240 #[.slice (some ⟨g, 0, none⟩) (nw n) cap] w.drew _ := SCloneW_ok (w := w.drew) (c := cap) (h.hg.drewN 1) hn.1 (by omega)
  have hp0 := h.hp.drew
  have hplt := h.hp.drew.lt
  have hbd : Below w.heap.size w w.drew := below_drewN (Below.refl _ _) 1
  have hzd : w.drew.heap.size = w.heap.size := rfl
  have HZD := Lib.hid hzd
  have HL := Lib.hid h.hl
  have HN := Lib.hid h.hn
  clear hzd hn
  go_enter Tryz.func198, Tryz.ntmps198
  go_wp2_with fail
  go_region_held3 (fun W => W.cell? ⟨p, 0, none⟩ = some (.int .i64 (n : Int)) ∧ W.cell? ⟨p, 1, none⟩ = some (.slice (some ⟨g, 0, none⟩) (nw n) cap))
    (first | exact ⟨c0, c1⟩ | exact ⟨d0, d1⟩ | exact ⟨(hp3.alloc _).cell 0, (hp3.alloc _).cell 1⟩)
    ((go_at_call 240; refine hcl.mono ?_; rintro e w3 ⟨⟨g', cap', rfl, hg, hc1, hc2, hB⟩, hb3⟩; have hp3 := hp0.below hb3 hplt; have d0 : w3.cell? ⟨p, 0, none⟩ = some (.int .i64 (n : Int)) := (by rw [hp3.cell]; rfl); have d1 : w3.cell? ⟨p, 1, none⟩ = some (.slice (some ⟨g, 0, none⟩) (nw n) cap) := (by rw [hp3.cell]; rfl)))
  all_goals go_wp2_with fail
  all_goals go_ret
  all_goals
    have hbl := below_ge hbd hb3 (Nat.le_refl _)
    have hsz := hbl.size
    rw [HZD.out] at hg
    refine ⟨⟨_, g', cap', rfl, hsz, hg, ⟨HL.out, HN.out, Blk.made _ _ _, hB.alloc _, hc1, hc2⟩⟩, hbl.alloc hsz _⟩

end Go.Proofs.YtaonkbfekadalaaGreatDoor
