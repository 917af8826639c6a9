/- The chapter's example. -/
import Derived.Test.YtggnboieenknfaaHg
namespace Go.Proofs.Ytggnboieenknfaa
open Go.RowKit Go.Maps
set_option linter.unusedVariables false

theorem ints_same {A B : Option Addr} {n ca cb : Nat} {xs : List Int} {w : World} (hn : xs.length = n) (hA : RI w A xs) (hB : RI w B xs) (hx : n ≤ 4611686018427387904) :
    Calls Try.prog 17 #[.slice A n ca, .slice B n cb] w fun e w' => e = .returned (.bool true) ∧ Below w.heap.size w w' := by
  refine (ints_b A B n n ca cb xs xs w hn hn hA hB hx).mono ?_
  rintro e w' ⟨rfl, hb⟩
  exact ⟨by rw [decide_eq_true (rfl : xs = xs)], hb⟩

set_option maxRecDepth 100000 in
theorem awake_any (w : World) : Calls Try.prog 8 #[] w fun e w' => e = .returned (.bool true) ∧ Below w.heap.size w w' := by
  go_enter Try.func8, Try.ntmps8
  go_wp2_with fail
  refine (HNew_ok _).mono ?_
  generalize hP : w.heap.size + 1 = P
  generalize hG : w.heap.size = G
  have hGP : G ≤ P := by omega
  have HG := Lib.hid hG
  clear hG hP
  rintro e w1 ⟨rfl, h1, hb1⟩
  go_wp2_with fail
  refine (HTake_any h1 (by decide) 5).mono ?_
  rintro e w2 ⟨rfl, h2, k2⟩
  have e2 : takeV [] 5 = ([5], 1, 0) := by decide
  rw [e2] at h2 ⊢
  have s2 := k2.below hb1 (by have := h1.hm.lt; omega) hGP (Nat.le_refl _)
  clear k2 h1 hb1
  go_wp2_with fail
  refine (HTake_any h2 (by decide) 7).mono ?_
  rintro e w3 ⟨rfl, h3, k3⟩
  have e3 : takeV [5] 7 = ([5, 7], 2, 0) := by decide
  rw [e3] at h3 ⊢
  have s3 := k3.below s2 (by have := h2.hm.lt; omega) hGP (Nat.le_refl _)
  clear k3 h2 s2
  go_wp2_with fail
  refine (HFree_any h3 (y := 1) ⟨by omega, by omega⟩).mono ?_
  rintro e w4 ⟨rfl, h4, k4⟩
  have e4 : freeV [5, 7] 1 = ([-1, 7], 0) := by decide
  rw [e4] at h4 ⊢
  have s4 := k4.below s3 (by have := h3.hm.lt; omega) hGP (Nat.le_refl _)
  clear k4 h3 s3
  go_wp2_with fail
  refine (HTake_any h4 (by decide) 5).mono ?_
  rintro e w5 ⟨rfl, h5, k5⟩
  have e5 : takeV [-1, 7] 5 = ([-1, 7, 5], 3, 0) := by decide
  rw [e5] at h5 ⊢
  have s5 := k5.below s4 (by have := h4.hm.lt; omega) hGP (Nat.le_refl _)
  clear k5 h4 s4
  go_wp2_with fail
  refine (HSlot_any h5 (x := 1) ⟨by omega, by omega⟩).mono ?_
  have e6 : askV [-1, 7, 5] 1 = (0, 17) := by decide
  rw [e6]
  rintro e w6 ⟨rfl, rfl⟩
  have hall := HAll_ok h5 (by decide)
  have el : liveL [-1, 7, 5] = [2, 3] := by decide
  rw [el] at hall
  go_wp2_with fail
  refine hall.mono ?_
  rintro e w7 ⟨⟨v, rfl, ho⟩, hb7⟩
  obtain ⟨A, cap, rfl, hR⟩ := ho.form
  have hR7 : RI (w7.alloc (.cells #[.int .i64 2, .int .i64 3] 3)) A [2, 3] := hR.below ((Below.refl w7.heap.size w7).alloc (Nat.le_refl _) _) (Nat.le_refl _)
  have hR8 : RI (w7.alloc (.cells #[.int .i64 2, .int .i64 3] 3)) (some ⟨w7.heap.size, 0, none⟩) [2, 3] := RI_of_blk (t := 3) (Blk.made w7 3 #[.int .i64 2, .int .i64 3])
  have s6 : Below w.heap.size w w5 := by rw [HG.out]; exact s5
  have s7 := s6.trans (hb7.mono s6.size)
  have s8 := s7.alloc s7.size (.cells #[.int .i64 2, .int .i64 3] 3)
  change Calls Try.prog 18 _ _ _ at hall
  clear hR ho hall h5 hb7
  simp only [List.length_cons, List.length_nil, Nat.zero_add, Nat.reduceAdd]
  go_wp2_with fail
  refine (ints_same (n := 2) rfl hR7 hR8 (by decide)).mono ?_
  rintro e w9 ⟨rfl, hb9⟩
  go_wp2_with fail
  go_ret
  exact ⟨rfl, s8.trans (hb9.mono s8.size)⟩
end Go.Proofs.Ytggnboieenknfaa
