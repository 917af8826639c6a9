/- The chapter's example awake. -/
import Derived.Test.YtjbljdjokgamdaaMh
namespace Go.Proofs.Ytjbljdjokgamdaa
open Go.RowKit
set_option linter.unusedVariables false

theorem below_drewN {B : Nat} {a w : World} (h : Below B a w) (n : Nat) : Below B a (w.drewN n) := ⟨h.os, h.tape, h.output, h.size, h.block⟩

theorem ints_b (A B : Option Addr) (n m ca cb : Nat) (xs ys : List Int) (w : World) (hn : xs.length = n) (hm : ys.length = m) (hA : RI w A xs) (hB : RI w B ys)
    (hx : n ≤ 4611686018427387904) (hy : m ≤ 4611686018427387904) :
    Calls Try.prog 11 #[.slice A n ca, .slice B m cb] w fun e w' => e = .returned (.bool (decide (xs = ys))) ∧ Below w.heap.size w w' :=
  (ints_n A B n m ca cb xs ys w hn hm hA hB hx hy).mono fun _ _ ⟨he, n, hw⟩ => ⟨he, by rw [hw]; exact below_drewN (Below.refl _ _) n⟩

theorem add0 : addS (zeros 2) 0 3 = ([3, 0], 3, 0) := by simp [addS, zeros, nth, wrap64]
theorem peak0 : peakS [3, 0] 1 5 = ([3, 5], 5, 0) := by decide
theorem peak1 : peakS [3, 5] 1 4 = ([3, 5], 5, 0) := by decide
theorem row_some {d B : Nat} (h : B ≤ d) : ∀ k, some d = some k → B ≤ k := fun k e => by cases e; exact h

set_option maxHeartbeats 1600000 in
theorem awake_any (w : World) : Calls Try.prog 8 #[] w fun e w' => e = .returned (.bool true) ∧ Below w.heap.size w w' := by
  go_enter Try.func8, Try.ntmps8
  go_wp2_with fail
  refine (New_ok 2 _ (by decide) (by decide)).mono ?_
  rintro e w1 ⟨rfl, hm1, hs1, hb1⟩
  have HS1 := Lib.hid hs1
  clear hs1
  go_wp2_with fail
  refine (Add_S _ _ _ _ _ _ hm1).mono ?_
  rw [add0]
  rintro e w2 ⟨rfl, hm2, hg2⟩
  have hb2 := hb1.grown hg2 hb1.size (row_some (Nat.le_refl _))
  go_wp2_with fail
  refine (Peak_S _ _ _ _ _ _ hm2).mono ?_
  rw [peak0]
  rintro e w3 ⟨rfl, hm3, hg3⟩
  have hb3 := hb2.grown hg3 hb2.size (row_some (Nat.le_refl _))
  go_wp2_with fail
  refine (Peak_S _ _ _ _ _ _ hm3).mono ?_
  rw [peak1]
  rintro e w4 ⟨rfl, hm4, hg4⟩
  have hb4 := hb3.grown hg4 hb3.size (row_some (Nat.le_refl _))
  clear hm1 hm2 hm3 hg2 hg3 hg4 hb1 hb2 hb3
  have hz4 : w.heap.size + 1 < w4.heap.size := hm4.st.lt
  go_wp2_with fail
  refine (All_any _ _ _ _ hm4 (by decide)).mono ?_
  rintro e w5 ⟨rfl, hk5, hs5, hb5⟩
  have hm5 := hm4.below hb5 hz4 (by omega)
  have HS5 := Lib.hid hs5
  clear hs5
  have hb5' := hb4.trans (hb5.mono (by omega))
  have hp5 : w.heap.size + 1 < w5.heap.size := hm5.st.lt
  go_wp2_with fail
  refine (ints_b _ _ _ _ _ _ [3, 5] [3, 5] _ rfl rfl (RI_of_blk (hk5.alloc _)) (RI_of_blk (Blk.made w5 3 (cells [3, 5]))) (by decide) (by decide)).mono ?_
  rintro e w6 ⟨rfl, hb6⟩
  rw [World.size_alloc] at hb6
  have hm6 := (hm5.alloc (.cells (cells [3, 5]) 3)).below hb6 (by omega) (by omega)
  have hb6' := (hb5'.alloc (by omega) (.cells (cells [3, 5]) 3)).trans (hb6.mono (by omega))
  clear hb5' hb4 hm4 hb5 hk5 HS5 hm5 hb6
  have hz6 : w.heap.size + 1 < w6.heap.size := hm6.st.lt
  go_wp2_with fail
  refine (Reset_any _ _ _ _ hm6 (by decide)).mono ?_
  rintro e w7 ⟨rfl, hk7, hs7, hm7, hg7⟩
  have HS7 := Lib.hid hs7
  clear hs7
  have hb7 := hb6'.grown hg7 hb6'.size (row_some (Nat.le_refl _))
  have hz7 : w.heap.size + 1 < w7.heap.size := hm7.st.lt
  go_wp2_with fail
  refine (ints_b _ _ _ _ _ _ [3, 5] [3, 5] _ rfl rfl (RI_of_blk (hk7.alloc _)) (RI_of_blk (Blk.made w7 3 (cells [3, 5]))) (by decide) (by decide)).mono ?_
  rintro e w8 ⟨rfl, hb8⟩
  rw [World.size_alloc] at hb8
  have hm8 := (hm7.alloc (.cells (cells [3, 5]) 3)).below hb8 (by omega) (by omega)
  have hb8' := (hb7.alloc (by omega) (.cells (cells [3, 5]) 3)).trans (hb8.mono (by omega))
  clear hb7 hb6' hm6 hg7 hk7 HS7 hm7 hb8
  have hz8 : w.heap.size + 1 < w8.heap.size := hm8.st.lt
  go_wp2_with fail
  refine (All_any _ _ _ _ hm8 (by decide)).mono ?_
  rintro e w9 ⟨rfl, hk9, hs9, hb9⟩
  have HS9 := Lib.hid hs9
  clear hs9
  have hb9' := hb8'.trans (hb9.mono (by omega))
  have hz9 := hb9'.size
  go_wp2_with fail
  refine (ints_b _ _ _ _ _ _ [0, 0] [0, 0] _ rfl rfl (RI_of_blk (hk9.alloc _)) (RI_of_blk (Blk.made w9 3 (cells [0, 0]))) (by decide) (by decide)).mono ?_
  rintro e w10 ⟨rfl, hb10⟩
  rw [World.size_alloc] at hb10
  go_wp2_with fail
  go_ret
  exact ⟨rfl, (hb9'.alloc hz9 (.cells (cells [0, 0]) 3)).trans (hb10.mono (by omega))⟩
end Go.Proofs.Ytjbljdjokgamdaa
