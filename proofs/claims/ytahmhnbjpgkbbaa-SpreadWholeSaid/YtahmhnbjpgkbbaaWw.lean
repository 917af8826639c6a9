/- SpreadWhole: the walk of the law. -/
import Derived.Test.YtahmhnbjpgkbbaaHf
namespace Go.Proofs.Ytahmhnbjpgkbbaa
open Go.RowKit
set_option linter.unusedVariables false

set_option maxRecDepth 100000 in
set_option maxHeartbeats 1600000 in
theorem SpreadWhole_walk (n segs : Int) (w : World) :
    Calls Try.prog 8 #[.int .i64 n, .int .i64 segs] w fun e w' => e = .returned (.bool true) ∧ Below w.heap.size w w' := by
  by_cases h512 : segs ≤ 512
  · by_cases hok : okB n segs = true
    · obtain ⟨p1, p2, p3, p4⟩ := okB_true hok
      obtain ⟨S, rfl⟩ := Int.eq_ofNat_of_zero_le (by omega : 0 ≤ segs)
      obtain ⟨i0, hi, hz0, hz1, hz2⟩ := info_parts Try.infoI
      have hlast := aZ_last (n := n) p1
      have hev := evB_shTo (n := n) p1 S
      have t9 : (n == n) = true := by simp
      go_enter Try.func8, Try.ntmps8
      go_wp2_with fail
      refine (Ahead_ok _ _ _ _ hok ⟨by omega, Int.le_refl _⟩).mono ?_
      rw [hlast]
      rintro e w1 ⟨rfl, hb1⟩
      go_wp2_with fail
      go_loopw [7, 8, 9] (fun v s i wr => ∃ k : Nat, k ≤ S ∧ i = .int .i64 k ∧ s = .int .i64 (aZ n S k) ∧ OL wr w1.heap.size v (shTo n S k) ∧ Below w1.heap.size w1 wr) (fun _ _ i _ => S - (intOf i).toNat)
      case atStart => exact ⟨0, Nat.zero_le _, rfl, by rw [show ((0 : Nat) : Int) = 0 from rfl, aZ_zero], OL.nil _ _, Below.refl _ _⟩
      case round =>
        obtain ⟨k, hk, rfl, rfl, ho, hb⟩ := hrel
        by_cases hlt : k < S
        · have i1 : (0 : Int) ≤ (k : Int) := by omega
          have i2 : (k : Int) < (S : Int) := by omega
          have ab := aZ_bound (a := (k : Int)) hok (by omega) (by omega)
          have ab2 := aZ_bound (a := (k : Int) + 1) hok (by omega) (by omega)
          have s0 := sZ_nonneg hok (k : Int)
          have s8 := sZ_le hok (k : Int)
          have e1 : aZ n S k + sZ n S k = aZ n S ((k + 1 : Nat) : Int) := by unfold sZ; push_cast; omega
          have t1 : (aZ n S k != aZ n S k) = false := by simp
          have E1 := Lib.hid e1
          have hs1 : (S : Int) ≤ n → 1 ≤ sZ n S k := sZ_some p1
          have hs7 : n ≤ 7 * (S : Int) → sZ n S k ≤ 7 := sZ_seven p1
          have HS1 := Lib.hid hs1
          have HS7 := Lib.hid hs7
          clear e1 hs1 hs7
          go_wp2_with fail
          refine (Ahead_ok _ _ _ _ hok ⟨i1, by omega⟩).mono ?_
          rintro e w2 ⟨rfl, hb2⟩
          have ho2 := ho.below hb2
          replace hb2 := below_ge hb hb2 (Nat.le_refl _)
          go_wp2_with fail
          refine (Share_ok _ _ _ _ hok ⟨i1, by omega⟩).mono ?_
          rintro e w3 ⟨rfl, hb3⟩
          have ho3 := ho2.below hb3
          replace hb3 := below_ge hb2 hb3 (Nat.le_refl _)
          have hsz3 := hb3.size
          clear ho ho2 hb hb2
          by_cases hA : (S : Int) ≤ n
          · have q1 := HS1.out hA
            have tA : decide ((S : Int) ≤ n) = true := by simp; omega
            have tC : decide (sZ n S k < 1) = false := by simp; omega
            by_cases hB : n ≤ 7 * (S : Int)
            · have q2 := HS7.out hB
              have tB : decide (n ≤ 7 * (S : Int)) = true := by simp; omega
              have tD : decide (7 < sZ n S k) = false := by simp; omega
              go_wp2_with (at_builtin; refine wpList_append_own_at _ rfl _ _ 22 rfl w1.heap.size 3 i0 (.int .i64 0) 1 8 Try.underlying22 hi hz0 hz1 hz2 rfl (by decide) _ k ((shTo n S k).map (Value.int .i64)) rfl ?c0 ⟨w3.heap.size, 0, none⟩ 1 1 [.int .i64 (sZ n S k)] rfl rfl ?c1 ?c2 ?c3 ?c4 ?c5 ?_)
              case c0 =>
                have := World.ownsRow.alloc ho3 (.cells #[.int .i64 (sZ n S k)] 3)
                rwa [shTo_length] at this
              case c1 => exact cell_one_new _ _ _
              case c2 => intro u hu; simp at hu; subst hu; rfl
              case c3 => unfold maxLen; omega
              case c4 => omega
              case c5 => simp; omega
              intro v' w4 hown hg4 _ hat
              go_wp2_with fail
              go_roundw
              case rel =>
                refine ⟨k + 1, by omega, by go_num, by rw [E1.out], ?_, ?_⟩
                · rw [shTo_succ]
                  refine OL.grow ?_
                  rw [shTo_length]; exact hown
                · exact ((hb3.alloc hsz3 _).grown hg4 (by simp; omega) (fun g hg => ho3.base_le g hg))
              case measure => simp [intOf]; omega
            · have q2 : 7 * (S : Int) < n := by omega
              have tB : decide (n ≤ 7 * (S : Int)) = false := by simp; omega
              have HB := Lib.hid hB
              clear hB
              go_wp2_with (at_builtin; refine wpList_append_own_at _ rfl _ _ 22 rfl w1.heap.size 3 i0 (.int .i64 0) 1 8 Try.underlying22 hi hz0 hz1 hz2 rfl (by decide) _ k ((shTo n S k).map (Value.int .i64)) rfl ?c0 ⟨w3.heap.size, 0, none⟩ 1 1 [.int .i64 (sZ n S k)] rfl rfl ?c1 ?c2 ?c3 ?c4 ?c5 ?_)
              case c0 =>
                have := World.ownsRow.alloc ho3 (.cells #[.int .i64 (sZ n S k)] 3)
                rwa [shTo_length] at this
              case c1 => exact cell_one_new _ _ _
              case c2 => intro u hu; simp at hu; subst hu; rfl
              case c3 => unfold maxLen; omega
              case c4 => omega
              case c5 => simp; omega
              intro v' w4 hown hg4 _ hat
              go_wp2_with fail
              go_roundw
              case rel =>
                refine ⟨k + 1, by omega, by go_num, by rw [E1.out], ?_, ?_⟩
                · rw [shTo_succ]
                  refine OL.grow ?_
                  rw [shTo_length]; exact hown
                · exact ((hb3.alloc hsz3 _).grown hg4 (by simp; omega) (fun g hg => ho3.base_le g hg))
              case measure => simp [intOf]; omega
          · have q1 : n < (S : Int) := by omega
            have HA := Lib.hid hA
            have tA : decide ((S : Int) ≤ n) = false := by simp; omega
            clear hA
            have hB : n ≤ 7 * (S : Int) := by omega
            have q2 := HS7.out hB
            have tB : decide (n ≤ 7 * (S : Int)) = true := by simp; omega
            have tD : decide (7 < sZ n S k) = false := by simp; omega
            go_wp2_with (at_builtin; refine wpList_append_own_at _ rfl _ _ 22 rfl w1.heap.size 3 i0 (.int .i64 0) 1 8 Try.underlying22 hi hz0 hz1 hz2 rfl (by decide) _ k ((shTo n S k).map (Value.int .i64)) rfl ?c0 ⟨w3.heap.size, 0, none⟩ 1 1 [.int .i64 (sZ n S k)] rfl rfl ?c1 ?c2 ?c3 ?c4 ?c5 ?_)
            case c0 =>
              have := World.ownsRow.alloc ho3 (.cells #[.int .i64 (sZ n S k)] 3)
              rwa [shTo_length] at this
            case c1 => exact cell_one_new _ _ _
            case c2 => intro u hu; simp at hu; subst hu; rfl
            case c3 => unfold maxLen; omega
            case c4 => omega
            case c5 => simp; omega
            intro v' w4 hown hg4 _ hat
            go_wp2_with fail
            go_roundw
            case rel =>
              refine ⟨k + 1, by omega, by go_num, by rw [E1.out], ?_, ?_⟩
              · rw [shTo_succ]
                refine OL.grow ?_
                rw [shTo_length]; exact hown
              · exact ((hb3.alloc hsz3 _).grown hg4 (by simp; omega) (fun g hg => ho3.base_le g hg))
            case measure => simp [intOf]; omega
        · obtain rfl : k = S := by omega
          have t2 : (aZ n k k == n) = true := by rw [hlast]; simp
          obtain ⟨A, cap, rfl, hr⟩ := ho.form
          rw [shTo_length]
          go_wp2_with fail
          refine (Even_ok _ _ _ _ _ (shTo_length n k k) hr (by omega) (i64s_shTo hok k)).mono ?_
          rw [hev]
          rintro e w5 ⟨rfl, rfl⟩
          go_wp2_with fail
          refine (awake_any _).mono ?_
          rintro e w5 ⟨rfl, hb5⟩
          go_wp2_with fail
          go_ret
          exact ⟨rfl, below_ge (below_ge hb1 hb (Nat.le_refl _)) hb5 (Nat.le_refl _)⟩
    · have hok' : okB n segs = false := by simpa using hok
      clear hok
      go_enter Try.func8, Try.ntmps8
      go_wp2_with fail
      refine (Ahead_arg _ _ _ _ hok').mono ?_
      rintro e w1 ⟨rfl, rfl⟩
      go_wp2_with fail
      refine (awake_any _).mono ?_
      rintro e w5 ⟨rfl, hb5⟩
      go_wp2_with fail
      go_ret
      exact ⟨rfl, hb5⟩
  · have hgt : 512 < segs := by omega
    clear h512
    go_enter Try.func8, Try.ntmps8
    go_wp2_with fail
    refine (awake_any _).mono ?_
    rintro e w5 ⟨rfl, hb5⟩
    go_wp2_with fail
    go_ret
    exact ⟨rfl, hb5⟩
end Go.Proofs.Ytahmhnbjpgkbbaa
