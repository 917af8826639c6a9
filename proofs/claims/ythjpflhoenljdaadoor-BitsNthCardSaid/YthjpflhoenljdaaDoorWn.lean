/- BitsNew: the walk of the law. -/
import Derived.Test.YthjpflhoenljdaaDoorBm
namespace Go.Proofs.YthjpflhoenljdaaDoor
open Go.RowKit
set_option linter.unusedVariables false

theorem cnt_set {r : List Bool} {I : Nat} (hI : I < r.length) (ho : on r I = false) (m : Nat) : cnt (r.set I true) m = cnt r m + (if I < m then 1 else 0) := by
  induction m with
  | zero => rfl
  | succ m ih =>
    rw [cnt_succ, cnt_succ, ih, on_set hI]
    by_cases e : m = I
    · subst e
      rw [if_pos rfl, ho]
      simp
    · rw [if_neg e]
      by_cases h : I < m
      · rw [if_pos h, if_pos (show I < m + 1 by omega)]; omega
      · rw [if_neg h, if_neg (show ¬ I < m + 1 by omega)]; omega

set_option maxRecDepth 100000 in
set_option maxHeartbeats 800000 in
theorem BitsNew_walk (n i : Int) (w : World) (hT : Tab w) (bn : -9223372036854775808 ≤ n ∧ n ≤ 9223372036854775807) (bi : -9223372036854775808 ≤ i ∧ i ≤ 9223372036854775807) :
    Calls Tryd.prog 5 #[.int .i64 n, .int .i64 i] w fun e w' => e = .returned (.bool true) ∧ Below w.heap.size w w' := by
  by_cases h1 : 1 ≤ n
  · by_cases h2 : n ≤ 65536
    · obtain ⟨N, rfl⟩ := Int.eq_ofNat_of_zero_le (show 0 ≤ n by omega)
      have g1 : decide ((N : Int) < 1) = false := by simp; omega
      have g2 : decide (65536 < (N : Int)) = false := by simp; omega
      have i1 : (1 : Int) ≤ (N : Int) := h1
      have i2 : (N : Int) ≤ 65536 := h2
      clear h1 h2
      go_enter Tryd.func5, Tryd.ntmps5
      go_wp2_with fail
      refine (BNew_ok N (by omega) (by omega) w).mono ?_
      generalize w.heap.size + 1 = P
      generalize hG : w.heap.size = G
      have HG := Lib.hid hG
      clear hG
      rintro e w1 ⟨rfl, hm, hb⟩
      rw [← HG.out] at hb
      have hGa : w.heap.size ≤ G := by rw [HG.out]; exact Nat.le_refl _
      have hT1 := hT.below hb
      have hcn := BCount_ok hm
      rw [cnt_offs] at hcn
      have hhas := BHas_any hm i
      have hho : hasB (offs N) i = false := by unfold hasB; rw [on_offs]; simp
      rw [hho] at hhas
      clear hho
      go_wp2_with fail
      refine (BLen_ok hm).mono ?_
      rintro e w2 ⟨rfl, rfl⟩
      go_wp2_with fail
      refine hcn.mono ?_
      rintro e w2 ⟨rfl, rfl⟩
      go_wp2_with fail
      refine hhas.mono ?_
      rintro e w2 ⟨rfl, rfl⟩
      by_cases hi : 0 ≤ i ∧ i < (N : Int)
      · obtain ⟨I, hI⟩ := Int.eq_ofNat_of_zero_le hi.1
        subst hI
        have hlt : I < N := by omega
        have t1 : decide ((I : Int) < 0) = false := by simp
        have t2 : decide ((N : Int) ≤ (I : Int)) = false := by simp; omega
        have t3 : decide (N ≤ I) = false := by simp; omega
        have hofl : I < (offs N).length := by rw [offs_len]; exact hlt
        have hon : ∀ k, on ((offs N).set I true) k = decide (k = I) := fun k => by
          rw [on_set hofl, on_offs]
          by_cases e : k = I <;> simp [e]
        have hcnt : cnt ((offs N).set I true) N = 1 := by rw [cnt_set hofl (on_offs N I), cnt_offs, if_pos hlt]
        have hnx : IsNext ((offs N).set I true) 0 I := .inl ⟨I, rfl, by omega, by rw [hon]; simp, fun k k1 k2 => by rw [hon]; simp; omega⟩
        have hpv : IsPrev ((offs N).set I true) N I := .inl ⟨I, rfl, by omega, by rw [hon]; simp, fun k k1 k2 => by rw [hon]; simp; omega⟩
        have hhs : hasB ((offs N).set I true) (I : Int) = true := by rw [hasB_nat, hon]; simp
        have hset := BSet_ok hm I hlt true
        generalize (offs N).set I true = r at *
        have HC := Lib.hid hcnt
        have HH := Lib.hid hhs
        clear hi hon hcnt hhs hcn hhas
        go_wp2_with fail
        refine hset.mono ?_
        rintro e w3 ⟨rfl, hm3, hg3⟩
        have hb3 := hb.grown hg3 hb.size (row_some hGa)
        have hT3 := hT.below hb3
        have hcn := BCount_ok hm3
        have hhas := BHas_any hm3 (I : Int)
        rw [HC.out] at hcn
        rw [HH.out] at hhas
        go_wp2_with fail
        refine hhas.mono ?_
        rintro e w4 ⟨rfl, rfl⟩
        go_wp2_with fail
        refine hcn.mono ?_
        rintro e w4 ⟨rfl, rfl⟩
        go_wp2_with fail
        refine (next_is hnx hm3 hT3).mono ?_
        rintro e w4 ⟨rfl, rfl⟩
        go_wp2_with fail
        refine (prev_is hpv hm3).mono ?_
        rintro e w4 ⟨rfl, rfl⟩
        go_wp2_with fail
        refine (awake_any _ hT3).mono ?_
        rintro e w9 ⟨rfl, hb9⟩
        go_wp2_with fail
        go_ret
        exact ⟨rfl, below_ge hb3 hb9 (Nat.le_refl _)⟩
      · have hset := BSet_bad hm i hi true
        by_cases hneg : i < 0
        · have t1 : decide (i < 0) = true := by simp; omega
          clear hi
          go_wp2_with fail
          refine hset.mono ?_
          rintro e w3 ⟨rfl, rfl⟩
          go_wp2_with fail
          refine hcn.mono ?_
          rintro e w4 ⟨rfl, rfl⟩
          go_wp2_with fail
          refine hhas.mono ?_
          rintro e w4 ⟨rfl, rfl⟩
          go_wp2_with fail
          refine (awake_any _ hT1).mono ?_
          rintro e w9 ⟨rfl, hb9⟩
          go_wp2_with fail
          go_ret
          exact ⟨rfl, below_ge hb hb9 (Nat.le_refl _)⟩
        · have t1 : decide (i < 0) = false := by simp; omega
          have t2 : decide ((N : Int) ≤ i) = true := by simp; omega
          clear hi hneg
          go_wp2_with fail
          refine hset.mono ?_
          rintro e w3 ⟨rfl, rfl⟩
          go_wp2_with fail
          refine hcn.mono ?_
          rintro e w4 ⟨rfl, rfl⟩
          go_wp2_with fail
          refine hhas.mono ?_
          rintro e w4 ⟨rfl, rfl⟩
          go_wp2_with fail
          refine (awake_any _ hT1).mono ?_
          rintro e w9 ⟨rfl, hb9⟩
          go_wp2_with fail
          go_ret
          exact ⟨rfl, below_ge hb hb9 (Nat.le_refl _)⟩
    · have h2' : 65536 < n := by omega
      clear h2
      go_enter Tryd.func5, Tryd.ntmps5
      go_wp2_with fail
      refine (BNew_bad n (.inr h2') w).mono ?_
      rintro e w1 ⟨rfl, rfl⟩
      go_wp2_with fail
      refine (awake_any _ hT).mono ?_
      rintro e w9 ⟨rfl, hb9⟩
      go_wp2_with fail
      go_ret
      exact ⟨rfl, hb9⟩
  · have h1' : n < 1 := by omega
    clear h1
    go_enter Tryd.func5, Tryd.ntmps5
    go_wp2_with fail
    refine (BNew_bad n (.inl h1') w).mono ?_
    rintro e w1 ⟨rfl, rfl⟩
    go_wp2_with fail
    refine (awake_any _ hT).mono ?_
    rintro e w9 ⟨rfl, hb9⟩
    go_wp2_with fail
    go_ret
    exact ⟨rfl, hb9⟩
end Go.Proofs.YthjpflhoenljdaaDoor
