/- BitsFinds: the walk of the law. -/
import Derived.Test.YthjpflhoenljdaaDoorBm
namespace Go.Proofs.YthjpflhoenljdaaDoor
open Go.RowKit
set_option linter.unusedVariables false

set_option maxRecDepth 1000000 in
set_option maxHeartbeats 1600000 in
theorem BitsFinds_in {B : Option Addr} {c' N len : Nat} {zs : List Act2} {x0 x1 : Int} {w : World} (hT : Tab w) (h1 : 1 ≤ N) (h300 : N ≤ 300) (hl : len ≤ 100) (hz : ActsIn w B len zs) (hx1 : x1 ≤ 9223372036854775807) :
    Calls Tryd.prog 3 #[.int .i64 (N : Nat), .slice B len c', .agg #[.int .i64 x0, .int .i64 x1]] w fun e w' => e = .returned (.bool true) ∧ Below w.heap.size w w' := by
  have i1 : (1 : Int) ≤ (N : Int) := by omega
  have i2 : (N : Int) ≤ 300 := by omega
  have i3 : (len : Int) ≤ 100 := by omega
  have k0 := Blk.made w 23 #[.int .i64 x0, .int .i64 x1]
  have hb0 : Below w.heap.size w (w.alloc (.cells #[.int .i64 x0, .int .i64 x1] 23)) := (Below.refl _ w).alloc (Nat.le_refl _) _
  have hz0 := hz.below hb0
  have hT0 := hT.below hb0
  go_enter Tryd.func3, Tryd.ntmps3
  go_wp2_with fail
  generalize w.alloc (.cells #[.int .i64 x0, .int .i64 x1] 23) = w0 at *
  refine (made_ok h1 (by omega) hz0).mono ?_
  generalize w0.heap.size + 1 = P
  generalize hG : w0.heap.size = G
  have HG := Lib.hid hG
  clear hG
  rintro e w1 ⟨Q, hQ, rfl, hD, n1, n2⟩
  have hbe : Below w0.heap.size w0 w1 := hD.be
  have hT1' := hT0.below hbe
  have k1 := k0.below hbe k0.lt
  have hbw := below_ge hb0 hbe (Nat.le_refl _)
  have hrl : (playB (offs N) zs len).length = N := by rw [playB_len, offs_len]
  generalize playB (offs N) zs len = r at *
  have HRL := Lib.hid hrl
  clear hrl hbe k0 hz0 hT0
  have q0 : w1.cell? ⟨w.heap.size, 0, none⟩ = some (.int .i64 x0) := by rw [k1.cell]; rfl
  have q1 : w1.cell? ⟨w.heap.size, 1, none⟩ = some (.int .i64 x1) := by rw [k1.cell]; rfl
  obtain ⟨s1, hs1⟩ := next_ex r x0
  obtain ⟨s2, hs2⟩ := prev_ex r x0
  obtain ⟨s3, hs3⟩ := nth_ex r x1
  have hm1 : BM w1.drew P G (nw N) N r := hD.bm.drewN 1
  have hbb1 : BB w1.drew Q r := hD.bb.drewN 1
  have hT1 : Tab w1.drew := hT1'
  have hbw1 : Below w.heap.size w w1.drew := below_drewN hbw 1
  have hlt : w.heap.size < w1.drew.heap.size := k1.lt
  by_cases hin : 0 ≤ x0 ∧ x0 ≤ x1 ∧ x1 ≤ (N : Int)
  · obtain ⟨a0, a1, a2⟩ := hin
    obtain ⟨a, ha⟩ := Int.eq_ofNat_of_zero_le a0
    obtain ⟨b, hb⟩ := Int.eq_ofNat_of_zero_le (show 0 ≤ x1 by omega)
    have hrA := BRange_ok hD.bm a b (by omega) (by omega)
    have hrB := RRange_ok (c := N) hD.bb HRL.out (by omega) a b (by omega) (by omega)
    rw [← ha, ← hb] at hrA hrB
    have HA := Lib.hid ha
    have HB := Lib.hid hb
    have t1 : decide (x0 < 0) = false := by simp; omega
    have t2 : decide (x1 < x0) = false := by simp; omega
    have t3 : decide ((N : Int) < x1) = false := by simp; omega
    clear ha hb a0 a1 a2
    generalize cnt r b - cnt r a = D at *
    go_wp2_with fail
    refine hrA.mono ?_
    rintro e w2 ⟨rfl, rfl⟩
    go_wp2_with fail
    refine hrB.mono ?_
    rintro e w2 ⟨rfl, rfl⟩
    go_wp2_with fail
    go_region_held3 (fun W => W.cell? ⟨w.heap.size, 0, none⟩ = some (.int .i64 x0) ∧ W.cell? ⟨w.heap.size, 1, none⟩ = some (.int .i64 x1))
      (first | exact ⟨q0, q1⟩ | exact ⟨d0, d1⟩)
      (first
        | (go_at_call 13; refine (next_is hs1 hm1 hT1).mono ?_; rintro e w9 ⟨rfl, rfl⟩)
        | (go_at_call 14; refine (rnext_is hs1 hbb1 HRL.out (by omega)).mono ?_; rintro e w9 ⟨rfl, rfl⟩)
        | (go_at_call 15; refine (prev_is hs2 hm1).mono ?_; rintro e w9 ⟨rfl, rfl⟩)
        | (go_at_call 16; refine (rprev_is hs2 hbb1 HRL.out (by omega)).mono ?_; rintro e w9 ⟨rfl, rfl⟩)
        | (go_at_call 17; refine (nth_is hs3 hm1 hT1 hx1).mono ?_; rintro e w9 ⟨rfl, rfl⟩)
        | (go_at_call 18; refine (rnth_is hs3 hbb1 HRL.out (by omega)).mono ?_; rintro e w9 ⟨rfl, rfl⟩)
        | (go_at_call 9; refine (awake_any _ hT1).mono ?_; rintro e w9 ⟨rfl, hb9⟩; have d0 := (hb9.cell (p := ⟨w.heap.size, 0, none⟩) hlt).trans q0; have d1 := (hb9.cell (p := ⟨w.heap.size, 1, none⟩) hlt).trans q1))
    all_goals go_wp2_with fail
    all_goals go_ret
    all_goals exact ⟨rfl, below_ge hbw1 hb9 (Nat.le_refl _)⟩
  · have hrA := BRange_bad hD.bm x0 x1 hin
    have HIN := Lib.hid hin
    by_cases c0 : x0 < 0
    · have t1 : decide (x0 < 0) = true := by simp; omega
      clear hin
      go_wp2_with fail
      refine hrA.mono ?_
      rintro e w2 ⟨rfl, rfl⟩
      go_wp2_with fail
      go_region_held3 (fun W => W.cell? ⟨w.heap.size, 0, none⟩ = some (.int .i64 x0) ∧ W.cell? ⟨w.heap.size, 1, none⟩ = some (.int .i64 x1))
        (first | exact ⟨q0, q1⟩ | exact ⟨d0, d1⟩)
        (first
          | (go_at_call 13; refine (next_is hs1 hm1 hT1).mono ?_; rintro e w9 ⟨rfl, rfl⟩)
          | (go_at_call 14; refine (rnext_is hs1 hbb1 HRL.out (by omega)).mono ?_; rintro e w9 ⟨rfl, rfl⟩)
          | (go_at_call 15; refine (prev_is hs2 hm1).mono ?_; rintro e w9 ⟨rfl, rfl⟩)
          | (go_at_call 16; refine (rprev_is hs2 hbb1 HRL.out (by omega)).mono ?_; rintro e w9 ⟨rfl, rfl⟩)
          | (go_at_call 17; refine (nth_is hs3 hm1 hT1 hx1).mono ?_; rintro e w9 ⟨rfl, rfl⟩)
          | (go_at_call 18; refine (rnth_is hs3 hbb1 HRL.out (by omega)).mono ?_; rintro e w9 ⟨rfl, rfl⟩)
          | (go_at_call 9; refine (awake_any _ hT1).mono ?_; rintro e w9 ⟨rfl, hb9⟩; have d0 := (hb9.cell (p := ⟨w.heap.size, 0, none⟩) hlt).trans q0; have d1 := (hb9.cell (p := ⟨w.heap.size, 1, none⟩) hlt).trans q1))
      all_goals go_wp2_with fail
      all_goals go_ret
      all_goals exact ⟨rfl, below_ge hbw1 hb9 (Nat.le_refl _)⟩
    · have t1 : decide (x0 < 0) = false := by simp; omega
      by_cases c1 : x1 < x0
      · have t2 : decide (x1 < x0) = true := by simp; omega
        clear hin c0
        go_wp2_with fail
        refine hrA.mono ?_
        rintro e w2 ⟨rfl, rfl⟩
        go_wp2_with fail
        go_region_held3 (fun W => W.cell? ⟨w.heap.size, 0, none⟩ = some (.int .i64 x0) ∧ W.cell? ⟨w.heap.size, 1, none⟩ = some (.int .i64 x1))
          (first | exact ⟨q0, q1⟩ | exact ⟨d0, d1⟩)
          (first
            | (go_at_call 13; refine (next_is hs1 hm1 hT1).mono ?_; rintro e w9 ⟨rfl, rfl⟩)
            | (go_at_call 14; refine (rnext_is hs1 hbb1 HRL.out (by omega)).mono ?_; rintro e w9 ⟨rfl, rfl⟩)
            | (go_at_call 15; refine (prev_is hs2 hm1).mono ?_; rintro e w9 ⟨rfl, rfl⟩)
            | (go_at_call 16; refine (rprev_is hs2 hbb1 HRL.out (by omega)).mono ?_; rintro e w9 ⟨rfl, rfl⟩)
            | (go_at_call 17; refine (nth_is hs3 hm1 hT1 hx1).mono ?_; rintro e w9 ⟨rfl, rfl⟩)
            | (go_at_call 18; refine (rnth_is hs3 hbb1 HRL.out (by omega)).mono ?_; rintro e w9 ⟨rfl, rfl⟩)
            | (go_at_call 9; refine (awake_any _ hT1).mono ?_; rintro e w9 ⟨rfl, hb9⟩; have d0 := (hb9.cell (p := ⟨w.heap.size, 0, none⟩) hlt).trans q0; have d1 := (hb9.cell (p := ⟨w.heap.size, 1, none⟩) hlt).trans q1))
        all_goals go_wp2_with fail
        all_goals go_ret
        all_goals exact ⟨rfl, below_ge hbw1 hb9 (Nat.le_refl _)⟩
      · have t2 : decide (x1 < x0) = false := by simp; omega
        have t3 : decide ((N : Int) < x1) = true := by simp; omega
        clear hin c0 c1
        go_wp2_with fail
        refine hrA.mono ?_
        rintro e w2 ⟨rfl, rfl⟩
        go_wp2_with fail
        go_region_held3 (fun W => W.cell? ⟨w.heap.size, 0, none⟩ = some (.int .i64 x0) ∧ W.cell? ⟨w.heap.size, 1, none⟩ = some (.int .i64 x1))
          (first | exact ⟨q0, q1⟩ | exact ⟨d0, d1⟩)
          (first
            | (go_at_call 13; refine (next_is hs1 hm1 hT1).mono ?_; rintro e w9 ⟨rfl, rfl⟩)
            | (go_at_call 14; refine (rnext_is hs1 hbb1 HRL.out (by omega)).mono ?_; rintro e w9 ⟨rfl, rfl⟩)
            | (go_at_call 15; refine (prev_is hs2 hm1).mono ?_; rintro e w9 ⟨rfl, rfl⟩)
            | (go_at_call 16; refine (rprev_is hs2 hbb1 HRL.out (by omega)).mono ?_; rintro e w9 ⟨rfl, rfl⟩)
            | (go_at_call 17; refine (nth_is hs3 hm1 hT1 hx1).mono ?_; rintro e w9 ⟨rfl, rfl⟩)
            | (go_at_call 18; refine (rnth_is hs3 hbb1 HRL.out (by omega)).mono ?_; rintro e w9 ⟨rfl, rfl⟩)
            | (go_at_call 9; refine (awake_any _ hT1).mono ?_; rintro e w9 ⟨rfl, hb9⟩; have d0 := (hb9.cell (p := ⟨w.heap.size, 0, none⟩) hlt).trans q0; have d1 := (hb9.cell (p := ⟨w.heap.size, 1, none⟩) hlt).trans q1))
        all_goals go_wp2_with fail
        all_goals go_ret
        all_goals exact ⟨rfl, below_ge hbw1 hb9 (Nat.le_refl _)⟩


set_option maxRecDepth 100000 in
theorem BitsFinds_walk (n : Int) (B : Option Addr) (len lcap : Nat) (zs : List Act2) (x0 x1 : Int) (w : World) (hT : Tab w) (bn : -9223372036854775808 ≤ n ∧ n ≤ 9223372036854775807) (hz : ActsIn w B len zs)
    (bx0 : -9223372036854775808 ≤ x0 ∧ x0 ≤ 9223372036854775807) (bx1 : -9223372036854775808 ≤ x1 ∧ x1 ≤ 9223372036854775807) :
    Calls Tryd.prog 3 #[.int .i64 n, .slice B len lcap, .agg #[.int .i64 x0, .int .i64 x1]] w fun e w' => e = .returned (.bool true) ∧ Below w.heap.size w w' := by
  have hb0 : Below w.heap.size w (w.alloc (.cells #[.int .i64 x0, .int .i64 x1] 23)) := (Below.refl _ w).alloc (Nat.le_refl _) _
  have hT0 := hT.below hb0
  by_cases h1 : 1 ≤ n
  · by_cases h2 : n ≤ 300
    · by_cases h3 : (len : Int) ≤ 100
      · obtain ⟨N, rfl⟩ := Int.eq_ofNat_of_zero_le (show 0 ≤ n by omega)
        exact BitsFinds_in hT (by omega) (by omega) (by omega) hz bx1.2
      · have h3' : 100 < (len : Int) := by omega
        clear h3
        go_enter Tryd.func3, Tryd.ntmps3
        go_wp2_with fail
        refine (awake_any _ hT0).mono ?_
        rintro e w9 ⟨rfl, hb9⟩
        go_wp2_with fail
        go_ret
        exact ⟨rfl, below_ge hb0 hb9 (Nat.le_refl _)⟩
    · have h2' : 300 < n := by omega
      clear h2
      go_enter Tryd.func3, Tryd.ntmps3
      go_wp2_with fail
      refine (awake_any _ hT0).mono ?_
      rintro e w9 ⟨rfl, hb9⟩
      go_wp2_with fail
      go_ret
      exact ⟨rfl, below_ge hb0 hb9 (Nat.le_refl _)⟩
  · have h1' : n < 1 := by omega
    clear h1
    go_enter Tryd.func3, Tryd.ntmps3
    go_wp2_with fail
    refine (awake_any _ hT0).mono ?_
    rintro e w9 ⟨rfl, hb9⟩
    go_wp2_with fail
    go_ret
    exact ⟨rfl, below_ge hb0 hb9 (Nat.le_refl _)⟩
end Go.Proofs.YthjpflhoenljdaaDoor
