/- What Clone comes to; Count. -/
import Derived.Test.YtfbjnpbmicbbnaaTk
import Derived.Test.YtfbjnpbmicbbnaaTl
import Derived.Deep.RegionHeld3
namespace Go.Proofs.Ytfbjnpbmicbbnaa
open Go.RowKit
set_option linter.unusedVariables false

set_option maxRecDepth 1000000 in
set_option maxHeartbeats 400000 in
theorem TClone_ok {w : World} {p g cap S L : Nat} {r t : List Int} (h : TM w p g cap S r t) (hr : Rt r L) :
    Calls Try.prog 25 #[.pointer (some ⟨p, 0, none⟩)] w fun e w' => (∃ p' g' cap', e = .returned (.pointer (some ⟨p', 0, none⟩)) ∧ w.heap.size ≤ p' ∧ w.heap.size ≤ g' ∧ TM w' p' g' cap' S r t) ∧ Below w.heap.size w w' := by
  have hS := h.hS
  have hs1 := hr.len_pos
  have hs2 := hr.len_le
  rw [hS] at hs1 hs2
  have c0 := h.c0
  have c1 := h.c1
  have htl := h.tlen
  have hcl : Calls Try.prog 35 #[.slice (some ⟨g, 0, none⟩) (2 * S) cap] w.drew _ := SClone_ok (w := w.drew) (c := cap) htl (RI_of_BI (h.hg.drewN 1)) (by omega) (by omega)
  have hp0 := h.hp.drew
  have hplt := h.hp.drew.lt
  have hbd : Below w.heap.size w w.drew := below_drewN (Below.refl _ _) 1
  have hzd : w.drew.heap.size = w.heap.size := rfl
  have HZD := Lib.hid hzd
  have HTI := Lib.hid h.ti
  have HS := Lib.hid hS
  clear hS hzd
  go_enter Try.func25, Try.ntmps25
  go_wp2_with fail
  go_region_held3 (fun W => W.cell? ⟨p, 0, none⟩ = some (.int .i64 (S : Int)) ∧ W.cell? ⟨p, 1, none⟩ = some (.slice (some ⟨g, 0, none⟩) (2 * S) cap))
    (first | exact ⟨c0, c1⟩ | exact ⟨d0, d1⟩ | exact ⟨(hp3.alloc _).cell 0, (hp3.alloc _).cell 1⟩)
    ((go_at_call 35; refine hcl.mono ?_; rintro e w3 ⟨⟨g', cap', rfl, hg, hc1, hc2, hB⟩, hb3⟩; have hp3 := hp0.below hb3 hplt; have d0 : w3.cell? ⟨p, 0, none⟩ = some (.int .i64 (S : Int)) := (by rw [hp3.cell]; rfl); have d1 : w3.cell? ⟨p, 1, none⟩ = some (.slice (some ⟨g, 0, none⟩) (2 * S) cap) := (by rw [hp3.cell]; rfl)))
  all_goals go_wp2_with fail
  all_goals go_ret
  all_goals
    have hbl := below_ge hbd hb3 (Nat.le_refl _)
    have hsz := hbl.size
    rw [HZD.out] at hg
    refine ⟨⟨_, g', cap', rfl, hsz, hg, ⟨HS.out, Blk.made _ _ _, hB.alloc _, HTI.out, hc1, hc2⟩⟩, hbl.alloc hsz _⟩
end Go.Proofs.Ytfbjnpbmicbbnaa
