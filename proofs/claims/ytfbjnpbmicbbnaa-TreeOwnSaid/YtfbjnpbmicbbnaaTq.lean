/- The chapter's example: awake. -/
import Derived.Test.YtfbjnpbmicbbnaaTp
namespace Go.Proofs.Ytfbjnpbmicbbnaa
open Go.RowKit
set_option linter.unusedVariables false

theorem rt_ex : Rt [1, 2, 0, 3] 2 := ⟨by decide, by decide, by decide⟩

set_option maxRecDepth 100000 in
set_option maxHeartbeats 800000 in
theorem awake_any (w : World) : Calls Try.prog 10 #[] w fun e w' => e = .returned (.bool true) ∧ Below w.heap.size w w' := by
  have k0 := RI_of_blk (Blk.made w 3 (cells [1, 2, 0, 3]))
  have hb0 : Below w.heap.size w (w.alloc (.cells (cells [1, 2, 0, 3]) 3)) := (Below.refl _ w).alloc (Nat.le_refl _) _
  go_enter Try.func10, Try.ntmps10
  go_wp2_with fail
  refine (New_ok (S := 4) (by rfl) k0 rt_ex).mono ?_
  rw [World.size_alloc]
  rintro e w1 ⟨rfl, ⟨t, hm⟩, hb1⟩
  have hb1' := hb0.trans (hb1.mono (by omega))
  go_wp2_with fail
  refine (TCount_ok hm rt_ex 1 1 (by decide)).mono ?_
  rw [show sumR [1, 2, 0, 3] (1 * 2 ^ 1) (2 ^ 1) = 3 by decide]
  rintro e w2 ⟨rfl, d, rfl⟩
  have hm2 := hm.drewN d
  have hb2 := below_drewN hb1' d
  generalize w1.drewN d = w2 at hm2 hb2 ⊢
  go_wp2_with fail
  refine (TAhead_ok hm2 rt_ex 2 (by decide)).mono ?_
  rw [show sumR [1, 2, 0, 3] 0 2 = 3 by decide]
  rintro e w3 ⟨rfl, rfl⟩
  go_wp2_with fail
  refine (TFind_ok hm2 rt_ex 3 (by decide)).mono ?_
  rintro e w3 ⟨⟨s, k, rfl, hat⟩, rfl⟩
  obtain ⟨rfl, rfl⟩ := hat.uniq rt_ex (⟨by decide, by decide, by decide, by decide⟩ : At [1, 2, 0, 3] 3 3 0)
  go_wp2_with fail
  refine (TTotal_ok hm2 rt_ex).mono ?_
  rw [show sumR [1, 2, 0, 3] 0 4 = 6 by decide]
  rintro e w3 ⟨rfl, rfl⟩
  go_wp2_with fail
  refine (TAdd_any hm2 rt_ex 2 9).mono ?_
  rw [show addV [1, 2, 0, 3] 2 9 = ([1, 2, 0, 3], 10) by decide]
  rintro e w3 ⟨rfl, ht, hg⟩
  go_wp2_with fail
  go_ret
  exact ⟨rfl, hb2.grown hg hb2.size (row_some (by omega))⟩
end Go.Proofs.Ytfbjnpbmicbbnaa
