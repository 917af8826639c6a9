/- What the document's answers come to: Right, Ahead, Shares, Offset, Places. -/
import Derived.Test.YtahmhnbjpgkbbaaAw
import Derived.Maps.AppendAt
namespace Go.Proofs.Ytahmhnbjpgkbbaa
open Go.RowKit
set_option linter.unusedVariables false

theorem Right_any (n segs : Int) (w : World) :
    Calls Try.prog 15 #[.int .i64 n, .int .i64 segs] w fun e w' => e = .returned (.bool (okB n segs)) ∧ w = w' := by
  by_cases h1 : 1 ≤ segs
  · by_cases h2 : segs ≤ 512
    · by_cases h3 : 0 ≤ n
      · by_cases h4 : n ≤ 8 * segs
        · rw [okB_mk ⟨h1, h2, h3, h4⟩]
          go_enter Try.func15, Try.ntmps15
          go_wp2
          go_ret
          exact ⟨rfl, rfl⟩
        · rw [okB_false (by omega)]
          have h5 : 8 * segs < n := by omega
          have h6 : decide (n ≤ 8 * segs) = false := by simp; omega
          clear h4
          go_enter Try.func15, Try.ntmps15
          go_wp2
          go_ret
          exact ⟨rfl, rfl⟩
      · rw [okB_false (by omega)]
        have h5 : n < 0 := by omega
        clear h3
        go_enter Try.func15, Try.ntmps15
        go_wp2
        go_ret
        exact ⟨rfl, rfl⟩
    · rw [okB_false (by omega)]
      have h5 : 512 < segs := by omega
      clear h2
      go_enter Try.func15, Try.ntmps15
      go_wp2
      go_ret
      exact ⟨rfl, rfl⟩
  · rw [okB_false (by omega)]
    have h5 : segs < 1 := by omega
    clear h1
    go_enter Try.func15, Try.ntmps15
    go_wp2
    go_ret
    exact ⟨rfl, rfl⟩

/-- May the law ask of this spread? -/
def smallB (n segs : Int) : Bool := decide (segs ≤ 64) || !okB n segs
theorem Small_any (n segs : Int) (w : World) :
    Calls Try.prog 13 #[.int .i64 n, .int .i64 segs] w fun e w' => e = .returned (.bool (smallB n segs)) ∧ w = w' := by
  by_cases h1 : segs ≤ 64
  · have e : smallB n segs = true := by simp [smallB, h1]
    rw [e]
    go_enter Try.func13, Try.ntmps13
    go_wp2
    go_ret
    exact ⟨rfl, rfl⟩
  · have h5 : 64 < segs := by omega
    have e : smallB n segs = !okB n segs := by simp [smallB, h1]
    have h6 : decide (segs ≤ 64) = false := by simp; omega
    rw [e]
    clear h1 e
    go_enter Try.func13, Try.ntmps13
    go_wp2_with fail
    refine (Right_any _ _ _).mono ?_
    rintro e w' ⟨rfl, rfl⟩
    go_wp2_with fail
    go_ret
    exact ⟨rfl, rfl⟩

theorem le_aZ {n segs k i : Int} (hs : 1 ≤ segs) : i ≤ aZ n segs k ↔ i * segs ≤ k * n := by
  unfold aZ
  exact Int.le_ediv_iff_mul_le (by omega)

set_option maxHeartbeats 400000 in
theorem RAhead_ok (n segs k : Int) (w : World) (hok : okB n segs = true) (h0 : 0 ≤ k) (h1 : k ≤ segs) :
    Calls Try.prog 16 #[.int .i64 n, .int .i64 segs, .int .i64 k] w fun e w' => e = .returned (.int .i64 (aZ n segs k)) ∧ w = w' := by
  obtain ⟨p1, p2, p3, p4⟩ := okB_true hok
  have ha := aZ_bound hok h0 h1
  have m2 := mul_bound h0 (by omega : k ≤ 512) p3 (by omega : n ≤ 4096)
  have m3 := m2.1
  have m4 := m2.2
  clear m2
  go_enter Try.func16, Try.ntmps16
  go_wp2
  go_loop [7, 8] (fun c i => ∃ q : Int, 1 ≤ q ∧ q ≤ n + 1 ∧ i = .int .i64 q ∧ c = .int .i64 (min (q - 1) (aZ n segs k))) (fun _ i => (n + 1 - intOf i).toNat)
  case atStart => exact ⟨1, by omega, by omega, rfl, by rw [Int.min_eq_left (by omega)]; rfl⟩
  case round =>
    obtain ⟨q, hq1, hq2, rfl, rfl⟩ := hrel
    by_cases hlt : q ≤ n
    · have b := mul_bound (a := segs) (b := q) (by omega) p2 (by omega) (by omega)
      rw [Int.mul_comm] at b
      have b1 := b.1
      have b2 := b.2
      clear b
      by_cases hc : q ≤ aZ n segs k
      · have hc' := (le_aZ (n := n) (k := k) p1).1 hc
        have e1 : min (q - 1) (aZ n segs k) = q - 1 := Int.min_eq_left (by omega)
        have e2 : min q (aZ n segs k) = q := Int.min_eq_left hc
        rw [e1]
        have E2 := Lib.hid e2
        clear e1 e2
        go_wp2
        go_round
        case rel => exact ⟨q + 1, by omega, by omega, rfl, by rw [show q + 1 - 1 = q by omega, E2.out]; all_goals go_num⟩
        case measure => simp [intOf]; omega
      · have hc' : ¬ q * segs ≤ k * n := fun h => hc ((le_aZ p1).2 h)
        have hc2 : k * n < q * segs := by omega
        have e1 : min (q - 1) (aZ n segs k) = aZ n segs k := Int.min_eq_right (by omega)
        have e2 : min q (aZ n segs k) = aZ n segs k := Int.min_eq_right (by omega)
        rw [e1]
        have E2 := Lib.hid e2
        clear e1 e2 hc'
        go_wp2
        go_round
        case rel => exact ⟨q + 1, by omega, by omega, rfl, by rw [show q + 1 - 1 = q by omega, E2.out]⟩
        case measure => simp [intOf]; omega
    · have e1 : min (q - 1) (aZ n segs k) = aZ n segs k := Int.min_eq_right (by omega)
      rw [e1]
      clear e1
      go_wp2
      go_ret
      exact ⟨rfl, rfl⟩

set_option maxHeartbeats 400000 in
theorem ROffset_ok (j m : Nat) (w : World) (h0 : 1 ≤ m) (h1 : m ≤ 8) (hj : j < m) :
    Calls Try.prog 23 #[.int .i64 j, .int .i64 m] w fun e w' => e = .returned (.int .i64 ((j * 8 / m : Nat) : Int)) ∧ w = w' := by
  have hb : j * 8 / m ≤ 8 := by
    have := Nat.div_le_div_right (c := m) (show j * 8 ≤ m * 8 by omega)
    rw [Nat.mul_div_cancel_left _ (by omega)] at this
    exact this
  generalize hv : j * 8 / m = v at hb ⊢
  have HV := Lib.hid hv
  clear hv
  have i1 : (j : Int) < (m : Int) := by omega
  have i2 : (m : Int) ≤ 8 := by omega
  have i3 : (0 : Int) ≤ (j : Int) := by omega
  have i4 : (0 : Int) ≤ (m : Int) := by omega
  go_enter Try.func23, Try.ntmps23
  go_wp2
  go_loop [5] (fun a => ∃ q : Nat, q ≤ v ∧ a = .int .i64 q) (fun a => v - (intOf a).toNat)
  case atStart => exact ⟨0, Nat.zero_le _, rfl⟩
  case round =>
    obtain ⟨q, hq, rfl⟩ := hrel
    have b := mul_bound (a := (m : Int)) (b := (q : Int) + 1) (by omega) (by omega) (by omega) (by omega)
    rw [Int.mul_comm] at b
    have b1 := b.1
    have b2 := b.2
    clear b
    by_cases hlt : q < v
    · have hc : ((q : Int) + 1) * (m : Int) ≤ (j : Int) * 8 := by
        have := HV.out
        have h2 : (q + 1) * m ≤ j * 8 := by rw [← Nat.le_div_iff_mul_le (by omega), this]; exact hlt
        exact_mod_cast h2
      go_wp2
      go_round
      case rel => exact ⟨q + 1, by omega, by go_num⟩
      case measure => simp [intOf]; omega
    · obtain rfl : q = v := by omega
      have hc : (j : Int) * 8 < ((q : Int) + 1) * (m : Int) := by
        have := HV.out
        have h2 : j * 8 < (q + 1) * m := by rw [← Nat.div_lt_iff_lt_mul (by omega), this]; exact Nat.lt_succ_self q
        exact_mod_cast h2
      go_wp2
      go_ret
      exact ⟨rfl, rfl⟩
end Go.Proofs.Ytahmhnbjpgkbbaa
