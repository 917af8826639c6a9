/- The chapter's examples: awake. -/
import Derived.Test.YtahmhnbjpgkbbaaPc
namespace Go.Proofs.Ytahmhnbjpgkbbaa
open Go.RowKit
set_option linter.unusedVariables false

theorem pl504 : pl 5 0 4 = [0, 8, 16, 24, 28] := by decide
theorem offs3 : offs 3 = [0, 2, 5] := by decide
theorem s543 : sZ 5 4 3 = 2 := by decide

set_option maxRecDepth 100000 in
set_option maxHeartbeats 800000 in
theorem awake_any (w : World) : Calls Try.prog 10 #[] w fun e w' => e = .returned (.bool true) ∧ Below w.heap.size w w' := by
  go_enter Try.func10, Try.ntmps10
  go_wp2_with fail
  refine (Places_ok 5 0 4 _ (by decide) (by decide)).mono ?_
  rw [show ((5 : Nat) : Int) = 5 from rfl, pl504]
  rintro e w1 ⟨rfl, hr1, hb1⟩
  go_wp2_with fail
  refine (Offsets_ok 3 _ (by decide)).mono ?_
  rw [offs3]
  rintro e w2 ⟨rfl, hk2, hs2, hb2⟩
  have HS2 := Lib.hid hs2
  clear hs2
  have hr2 := hr1.below hb2 (Nat.le_refl _)
  have hb2' := below_ge hb1 hb2 (Nat.le_refl _)
  go_wp2_with fail
  refine (Share_ok 5 4 3 _ (by decide) (by decide)).mono ?_
  rw [s543]
  rintro e w3 ⟨rfl, hb3⟩
  have hr3 := hr2.below hb3 (Nat.le_refl _)
  have hk3 := hk2.below hb3 hk2.lt
  have hb3' := below_ge hb2' hb3 (Nat.le_refl _)
  clear hb1 hr1 hb2 hr2 hk2 hb2' hb3
  go_wp2_with fail
  have hr4 := hr3.below ((Below.refl w3.heap.size w3).alloc (Nat.le_refl _) (.cells (cells [0, 8, 16, 24, 28]) 3)) (Nat.le_refl _)
  refine (ints_b _ _ _ _ _ _ [0, 8, 16, 24, 28] [0, 8, 16, 24, 28] _ rfl rfl hr4 (RI_of_blk (Blk.made w3 3 (cells [0, 8, 16, 24, 28]))) (by decide)).mono ?_
  rintro e w4 ⟨rfl, hb4⟩
  rw [World.size_alloc] at hb4
  have hk4 := (hk3.alloc (.cells (cells [0, 8, 16, 24, 28]) 3)).below hb4 (by have := hk3.lt; omega)
  have hb4' := (hb3'.alloc hb3'.size (.cells (cells [0, 8, 16, 24, 28]) 3)).trans (hb4.mono (by have := hb3'.size; omega))
  clear hr4 hr3 hk3 hb3' hb4
  go_wp2_with fail
  refine (ints_b _ _ _ _ _ _ [0, 2, 5] [0, 2, 5] _ rfl rfl (RI_of_blk (hk4.alloc _)) (RI_of_blk (Blk.made w4 3 (cells [0, 2, 5]))) (by decide)).mono ?_
  rintro e w5 ⟨rfl, hb5⟩
  rw [World.size_alloc] at hb5
  go_wp2_with fail
  go_ret
  exact ⟨rfl, (hb4'.alloc hb4'.size (.cells (cells [0, 2, 5]) 3)).trans (hb5.mono (by have := hb4'.size; omega))⟩
end Go.Proofs.Ytahmhnbjpgkbbaa
