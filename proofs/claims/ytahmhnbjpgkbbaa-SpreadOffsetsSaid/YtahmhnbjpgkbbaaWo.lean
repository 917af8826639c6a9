/- SpreadOffsets: the walk of the law. -/
import Derived.Test.YtahmhnbjpgkbbaaRe
import Derived.Test.YtahmhnbjpgkbbaaRf
import Derived.Test.YtahmhnbjpgkbbaaAr
namespace Go.Proofs.Ytahmhnbjpgkbbaa
open Go.RowKit
set_option linter.unusedVariables false

set_option maxRecDepth 100000 in
set_option maxHeartbeats 800000 in
theorem SpreadOffsets_walk (m : Int) (A : Option Addr) (n cap : Nat) (xs : List Int) (w : World) (hbm : -9223372036854775808 ≤ m ∧ m ≤ 9223372036854775807) (hz : IntsIn w A n xs) :
    Calls Try.prog 7 #[.int .i64 m, .slice A n cap] w fun e w' => e = .returned (.bool true) ∧ Below w.heap.size w w' := by
  by_cases h60 : (n : Int) ≤ 60
  · have hI : I64s xs := fun k _ => hz.hb k
    by_cases hm : 0 ≤ m ∧ m ≤ 8
    · obtain ⟨M, rfl⟩ := Int.eq_ofNat_of_zero_le hm.1
      have m0 := hm.1
      have m8 := hm.2
      clear hm
      have t0 : (evB xs != evB xs) = false := by simp
      have t1 : ((M : Int) != (M : Int)) = false := by simp
      go_enter Try.func7, Try.ntmps7
      go_wp2_with fail
      refine (Offsets_ok M _ (by omega)).mono ?_
      rintro e w1 ⟨rfl, hk1, hs1, hb1⟩
      have HS1 := Lib.hid hs1
      clear hs1
      have hR1 := hz.hr.below hb1 (Nat.le_refl _)
      go_wp2_with fail
      refine (Even_ok _ _ _ _ _ hz.hl hR1 (by omega) hI).mono ?_
      rintro e w2 ⟨rfl, rfl⟩
      go_wp2_with fail
      refine (REven_ok _ _ _ _ _ hz.hl hR1 (by omega) hI).mono ?_
      rintro e w2 ⟨rfl, d0, rfl⟩
      go_wp2_with fail
      go_loopw [7] (fun i wr => ∃ j d : Nat, j ≤ M ∧ i = .int .i64 j ∧ wr = w1.drewN d) (fun i _ => M - (intOf i).toNat)
      case atStart => exact ⟨0, d0, Nat.zero_le _, rfl, rfl⟩
      case round =>
        obtain ⟨j, d, hj, rfl, hwr⟩ := hrel
        by_cases hjt : j < M
        · have c0 : wr.cell? ⟨w.heap.size, j, none⟩ = some (.int .i64 ((j * 8 / M : Nat) : Int)) := by
            have hk1 : Blk wr w.heap.size 3 (cells (offs M)) := by rw [hwr]; exact hk1.drewN d
            rw [hk1.cell, cells_get (by rw [offs_length]; exact hjt), nth_offs hjt]
          have k1 : (0 : Int) ≤ (j : Int) := by omega
          have k2 : (j : Int) < (M : Int) := by omega
          have t2 : (((j * 8 / M : Nat) : Int) != ((j * 8 / M : Nat) : Int)) = false := by simp
          have hco := fun W => ROffset_ok j M W (by omega) (by omega) hjt
          generalize ((j * 8 / M : Nat) : Int) = v at c0 t2 hco
          have HWR := Lib.hid hwr
          clear hwr
          go_wp2_with fail
          go_quiet ((go_at_call 23; exact (hco _).mono fun _ _ h => ⟨h.1, _, h.2.symm⟩))
          go_wp2_with fail
          go_roundw
          case rel => exact ⟨j + 1, d + nq, by omega, by go_num, by rw [HWR.out, World.drewN_drewN]⟩
          case measure => simp [intOf]; omega
        · obtain rfl : j = M := by omega
          subst hwr
          go_wp2_with fail
          refine (awake_any _).mono ?_
          rintro e w5 ⟨rfl, hb5⟩
          go_wp2_with fail
          go_ret
          exact ⟨rfl, below_ge (below_drewN hb1 d) hb5 (Nat.le_refl _)⟩
    · have HM := Lib.hid hm
      have t0 : (evB xs != evB xs) = false := by simp
      by_cases hneg : m < 0
      · clear hm
        go_enter Try.func7, Try.ntmps7
        go_wp2_with fail
        refine (Offsets_bad _ _ HM.out).mono ?_
        rintro e w1 ⟨rfl, rfl⟩
        go_wp2_with fail
        refine (Even_ok _ _ _ _ _ hz.hl hz.hr (by omega) hI).mono ?_
        rintro e w2 ⟨rfl, rfl⟩
        go_wp2_with fail
        refine (REven_ok _ _ _ _ _ hz.hl hz.hr (by omega) hI).mono ?_
        rintro e w2 ⟨rfl, d0, rfl⟩
        go_wp2_with fail
        refine (awake_any _).mono ?_
        rintro e w5 ⟨rfl, hb5⟩
        go_wp2_with fail
        go_ret
        exact ⟨rfl, below_ge (below_drewN (Below.refl _ _) d0) hb5 (Nat.le_refl _)⟩
      · have hgt : 8 < m := by omega
        clear hm
        go_enter Try.func7, Try.ntmps7
        go_wp2_with fail
        refine (Offsets_bad _ _ HM.out).mono ?_
        rintro e w1 ⟨rfl, rfl⟩
        go_wp2_with fail
        refine (Even_ok _ _ _ _ _ hz.hl hz.hr (by omega) hI).mono ?_
        rintro e w2 ⟨rfl, rfl⟩
        go_wp2_with fail
        refine (REven_ok _ _ _ _ _ hz.hl hz.hr (by omega) hI).mono ?_
        rintro e w2 ⟨rfl, d0, rfl⟩
        go_wp2_with fail
        refine (awake_any _).mono ?_
        rintro e w5 ⟨rfl, hb5⟩
        go_wp2_with fail
        go_ret
        exact ⟨rfl, below_ge (below_drewN (Below.refl _ _) d0) hb5 (Nat.le_refl _)⟩
  · have hgt : 60 < (n : Int) := by omega
    have hm := hz.hm
    go_enter Try.func7, Try.ntmps7
    go_wp2_with fail
    refine (awake_any _).mono ?_
    rintro e w5 ⟨rfl, hb5⟩
    go_wp2_with fail
    go_ret
    exact ⟨rfl, hb5⟩
end Go.Proofs.Ytahmhnbjpgkbbaa
