/- SpreadShares: the walk of the law. -/
import Derived.Test.YtahmhnbjpgkbbaaRg
namespace Go.Proofs.Ytahmhnbjpgkbbaa
open Go.RowKit
set_option linter.unusedVariables false

set_option maxRecDepth 100000 in
set_option maxHeartbeats 1600000 in
theorem SpreadShares_walk (n segs seg : Int) (w : World) :
    Calls Try.prog 4 #[.int .i64 n, .int .i64 segs, .int .i64 seg] w fun e w' => e = .returned (.bool true) ∧ Below w.heap.size w w' := by
  by_cases hs : smallB n segs = true
  · by_cases hok : okB n segs = true
    · obtain ⟨p1, p2, p3, p4⟩ := okB_true hok
      by_cases hr : 0 ≤ seg ∧ seg ≤ segs
      · by_cases hl : seg = segs
        · have hno : ¬ (0 ≤ seg ∧ seg ≤ segs - 1) := by omega
          have HR := Lib.hid hr
          have HN := Lib.hid hno
          have a1 := hr.1
          have a2 := hr.2
          subst hl
          have ab := aZ_bound hok hr.1 hr.2
          clear hr hno
          have t1 : (aZ n seg seg != aZ n seg seg) = false := by simp
          have t2 : (seg == seg) = true := by simp
          go_enter Try.func4, Try.ntmps4
          go_wp2_with fail
          refine (Small_any _ _ _).mono ?_
          rw [hs]
          rintro e w1 ⟨rfl, rfl⟩
          go_wp2_with fail
          refine (Share_range _ _ _ _ hok HN.out).mono ?_
          rintro e w1 ⟨rfl, rfl⟩
          go_wp2_with fail
          refine (Ahead_ok _ _ _ _ hok HR.out).mono ?_
          rintro e w1 ⟨rfl, hb1⟩
          go_wp2_with fail
          refine (Right_any _ _ _).mono ?_
          rw [hok]
          rintro e w2 ⟨rfl, rfl⟩
          go_wp2_with fail
          refine (RAhead_ok _ _ _ _ hok a1 a2).mono ?_
          rintro e w2 ⟨rfl, rfl⟩
          go_wp2_with fail
          refine (awake_any _).mono ?_
          rintro e w2 ⟨rfl, hb2⟩
          go_wp2_with fail
          go_ret
          exact ⟨rfl, below_ge hb1 hb2 (Nat.le_refl _)⟩
        · have hin : 0 ≤ seg ∧ seg ≤ segs - 1 := by omega
          have HR := Lib.hid hr
          have HN := Lib.hid hin
          have a1 := hr.1
          have a2 := hin.2
          have ab := aZ_bound hok hr.1 hr.2
          have t1 : (aZ n segs seg != aZ n segs seg) = false := by simp
          have t2 : (seg == segs) = false := by simp; omega
          have t3 : (sZ n segs seg == sZ n segs seg) = true := by simp
          obtain ⟨S, rfl⟩ := Int.eq_ofNat_of_zero_le (by omega : 0 ≤ segs)
          obtain ⟨k, rfl⟩ := Int.eq_ofNat_of_zero_le a1
          have HL := Lib.hid hl
          clear hr hin hl
          go_enter Try.func4, Try.ntmps4
          go_wp2_with fail
          refine (Small_any _ _ _).mono ?_
          rw [hs]
          rintro e w1 ⟨rfl, rfl⟩
          go_wp2_with fail
          refine (Share_ok _ _ _ _ hok HN.out).mono ?_
          rintro e w1 ⟨rfl, hb1⟩
          go_wp2_with fail
          refine (Ahead_ok _ _ _ _ hok HR.out).mono ?_
          rintro e w2 ⟨rfl, hb2⟩
          replace hb2 := below_ge hb1 hb2 (Nat.le_refl _)
          go_wp2_with fail
          refine (Right_any _ _ _).mono ?_
          rw [hok]
          rintro e w3 ⟨rfl, rfl⟩
          go_wp2_with fail
          refine (RAhead_ok _ _ _ _ hok a1 HR.out.2).mono ?_
          rintro e w3 ⟨rfl, rfl⟩
          go_wp2_with fail
          refine (RShares_ok _ _ _ hok).mono ?_
          rintro e w3 ⟨⟨A, cap, rfl, hR⟩, hb3⟩
          obtain ⟨b, off, rfl, hc⟩ := hR (by rw [shTo_length]; omega)
          have c0 := hc k (by rw [shTo_length]; omega)
          rw [nth_shTo (by omega)] at c0
          replace hb3 := below_ge hb2 hb3 (Nat.le_refl _)
          have i2 : (k : Int) < (S : Int) := by omega
          clear hc hR
          go_wp2_with fail
          refine (awake_any _).mono ?_
          rintro e w4 ⟨rfl, hb4⟩
          go_wp2_with fail
          go_ret
          exact ⟨rfl, below_ge hb3 hb4 (Nat.le_refl _)⟩
      · have hno : ¬ (0 ≤ seg ∧ seg ≤ segs - 1) := by omega
        have HR := Lib.hid hr
        have HN := Lib.hid hno
        clear hno
        have t0 : (decide (seg < 0) || decide (segs < seg)) = true := by simp; omega
        by_cases hneg : seg < 0
        · clear hr t0
          go_enter Try.func4, Try.ntmps4
          go_wp2_with fail
          refine (Small_any _ _ _).mono ?_
          rw [hs]
          rintro e w1 ⟨rfl, rfl⟩
          go_wp2_with fail
          refine (Share_range _ _ _ _ hok HN.out).mono ?_
          rintro e w1 ⟨rfl, rfl⟩
          go_wp2_with fail
          refine (Ahead_range _ _ _ _ hok HR.out).mono ?_
          rintro e w1 ⟨rfl, rfl⟩
          go_wp2_with fail
          refine (Right_any _ _ _).mono ?_
          rw [hok]
          rintro e w2 ⟨rfl, rfl⟩
          go_wp2_with fail
          refine (awake_any _).mono ?_
          rintro e w2 ⟨rfl, hb2⟩
          go_wp2_with fail
          go_ret
          exact ⟨rfl, hb2⟩
        · have hgt : segs < seg := by omega
          clear hr t0
          go_enter Try.func4, Try.ntmps4
          go_wp2_with fail
          refine (Small_any _ _ _).mono ?_
          rw [hs]
          rintro e w1 ⟨rfl, rfl⟩
          go_wp2_with fail
          refine (Share_range _ _ _ _ hok HN.out).mono ?_
          rintro e w1 ⟨rfl, rfl⟩
          go_wp2_with fail
          refine (Ahead_range _ _ _ _ hok HR.out).mono ?_
          rintro e w1 ⟨rfl, rfl⟩
          go_wp2_with fail
          refine (Right_any _ _ _).mono ?_
          rw [hok]
          rintro e w2 ⟨rfl, rfl⟩
          go_wp2_with fail
          refine (awake_any _).mono ?_
          rintro e w2 ⟨rfl, hb2⟩
          go_wp2_with fail
          go_ret
          exact ⟨rfl, hb2⟩
    · have hok' : okB n segs = false := by simpa using hok
      clear hok
      go_enter Try.func4, Try.ntmps4
      go_wp2_with fail
      refine (Small_any _ _ _).mono ?_
      rw [hs]
      rintro e w1 ⟨rfl, rfl⟩
      go_wp2_with fail
      refine (Share_arg _ _ _ _ hok').mono ?_
      rintro e w1 ⟨rfl, rfl⟩
      go_wp2_with fail
      refine (Ahead_arg _ _ _ _ hok').mono ?_
      rintro e w1 ⟨rfl, rfl⟩
      go_wp2_with fail
      refine (Right_any _ _ _).mono ?_
      rw [hok']
      rintro e w2 ⟨rfl, rfl⟩
      go_wp2_with fail
      refine (awake_any _).mono ?_
      rintro e w2 ⟨rfl, hb2⟩
      go_wp2_with fail
      go_ret
      exact ⟨rfl, hb2⟩
  · have hs' : smallB n segs = false := by simpa using hs
    clear hs
    go_enter Try.func4, Try.ntmps4
    go_wp2_with fail
    refine (Small_any _ _ _).mono ?_
    rw [hs']
    rintro e w1 ⟨rfl, rfl⟩
    go_wp2_with fail
    refine (awake_any _).mono ?_
    rintro e w2 ⟨rfl, hb2⟩
    go_wp2_with fail
    go_ret
    exact ⟨rfl, hb2⟩
end Go.Proofs.Ytahmhnbjpgkbbaa
