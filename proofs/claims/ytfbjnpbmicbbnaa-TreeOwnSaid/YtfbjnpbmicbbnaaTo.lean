/- The document's Count. -/
import Derived.Test.YtfbjnpbmicbbnaaTn
namespace Go.Proofs.Ytfbjnpbmicbbnaa
open Go.RowKit
set_option linter.unusedVariables false

theorem win_small {S lv k : Nat} (hS : S ≤ 512) (h : (k + 1) * 2 ^ lv ≤ S) : lv ≤ 9 ∧ k ≤ 511 := by
  have h1 : k + 1 ≤ (k + 1) * 2 ^ lv := Nat.le_mul_of_pos_right _ (pow_pos2 lv)
  have h2 : 2 ^ lv ≤ (k + 1) * 2 ^ lv := Nat.le_mul_of_pos_left _ (Nat.succ_pos k)
  refine ⟨?_, by omega⟩
  rcases Nat.lt_or_ge 9 lv with h3 | h3
  · have : 2 ^ 10 ≤ 2 ^ lv := Nat.pow_le_pow_right (by decide) h3
    omega
  · exact h3

set_option maxRecDepth 100000 in
set_option maxHeartbeats 400000 in
theorem RCount_ok {w : World} {A : Option Addr} {c S L : Nat} {r : List Int} (hS : r.length = S) (hR : RI w A r) (hr : Rt r L) (lv k : Nat) (hk : (k + 1) * 2 ^ lv ≤ S) :
    Calls Try.prog 14 #[.slice A S c, .int .i64 lv, .int .i64 k] w fun e w' => e = .returned (.tuple #[.int .i64 (sumR r (k * 2 ^ lv) (2 ^ lv)), .int .i64 0]) ∧ w = w' := by
  have hs2 := hr.len_le
  rw [hS] at hs2
  obtain ⟨h9, h511⟩ := win_small hs2 hk
  have i2 : (S : Int) ≤ 512 := by omega
  have i3 : (0 : Int) ≤ (lv : Int) := by omega
  have i4 : (lv : Int) ≤ 9 := by omega
  have i5 : (0 : Int) ≤ (k : Int) := by omega
  have i6 : (k : Int) ≤ 511 := by omega
  have HK := Lib.hid hk
  have HS := Lib.hid hS
  clear hk hS
  go_enter Try.func14, Try.ntmps14
  go_wp2
  go_loop [8, 9] (fun s i => ∃ q : Nat, q ≤ lv ∧ i = .int .i64 q ∧ s = .int .i64 ((2 ^ q : Nat) : Int)) (fun _ i => lv - (intOf i).toNat)
  case atStart => exact ⟨0, Nat.zero_le _, rfl, rfl⟩
  case round =>
    obtain ⟨q, hq, rfl, rfl⟩ := hrel
    by_cases hlt : q < lv
    · have j1 : (q : Int) < (lv : Int) := by omega
      have hp := pow_le (show q ≤ 9 by omega)
      have hs : 2 ^ (q + 1) = 2 * 2 ^ q := by rw [Nat.pow_succ, Nat.mul_comm]
      have HSQ := Lib.hid hs
      clear hs
      generalize hK : 2 ^ q = K at hp ⊢
      have HKK := Lib.hid hK
      clear hK
      have j2 : (K : Int) ≤ 512 := by omega
      have j3 : (0 : Int) ≤ (K : Int) := by omega
      go_wp2
      go_round
      case rel => exact ⟨q + 1, by omega, by go_num, by rw [HSQ.out, HKK.out]; go_num⟩
      case measure => simp [intOf]; omega
    · obtain rfl : q = lv := by omega
      have hp := pow_le h9
      have hk1 := HK.out
      rw [Nat.add_mul, Nat.one_mul] at hk1
      generalize hK : 2 ^ q = K at hp hk1 ⊢
      have HKK := Lib.hid hK
      clear hK
      have hPK : (k : Int) * (K : Int) = ((k * K : Nat) : Int) := by push_cast; rfl
      generalize hP : k * K = P at hPK hk1 ⊢
      have HPP := Lib.hid hP
      clear hP
      have j2 : (K : Int) ≤ 512 := by omega
      have j3 : (0 : Int) ≤ (K : Int) := by omega
      have j4 : (P : Int) + (K : Int) ≤ (S : Int) := by omega
      have j5 : (0 : Int) ≤ (P : Int) := by omega
      have hsum := RSum_ok HS.out hR hr P (P + K) (by omega) hk1 (c := c)
      rw [show P + K - P = K by omega] at hsum
      push_cast at hsum
      go_wp2_with fail
      refine hsum.mono ?_
      rintro e w1 ⟨rfl, rfl⟩
      go_wp2_with fail
      go_ret2
      exact ⟨by rw [HKK.out, HPP.out]; rfl, rfl⟩

set_option maxRecDepth 100000 in
set_option maxHeartbeats 400000 in
theorem RCount_bad {w : World} {A : Option Addr} {c S : Nat} (hs2 : S ≤ 512) (level n : Int) (hno : ¬ Win S level n) :
    Calls Try.prog 14 #[.slice A S c, .int .i64 level, .int .i64 n] w fun e w' => e = .returned (.tuple #[.int .i64 0, .int .i64 10]) ∧ w = w' := by
  have i2 : (S : Int) ≤ 512 := by omega
  by_cases h1 : level < 0
  · clear hno
    go_enter Try.func14, Try.ntmps14
    go_wp2
    go_ret2
    exact ⟨rfl, rfl⟩
  · have h1' : 0 ≤ level := by omega
    by_cases h2 : 9 < level
    · clear hno h1
      go_enter Try.func14, Try.ntmps14
      go_wp2
      go_ret2
      exact ⟨rfl, rfl⟩
    · have h2' : level ≤ 9 := by omega
      by_cases h3 : n < 0
      · clear hno h1 h2
        go_enter Try.func14, Try.ntmps14
        go_wp2
        go_ret2
        exact ⟨rfl, rfl⟩
      · have h3' : 0 ≤ n := by omega
        by_cases h4 : 511 < n
        · clear hno h1 h2 h3
          go_enter Try.func14, Try.ntmps14
          go_wp2
          go_ret2
          exact ⟨rfl, rfl⟩
        · have h4' : n ≤ 511 := by omega
          obtain ⟨lv, rfl⟩ := Int.eq_ofNat_of_zero_le h1'
          obtain ⟨k, rfl⟩ := Int.eq_ofNat_of_zero_le h3'
          have hgt : ¬ (k + 1) * 2 ^ lv ≤ S := fun h => hno ⟨lv, k, rfl, rfl, h⟩
          have HG := Lib.hid hgt
          clear hno h1 h2 h3 h4 hgt
          go_enter Try.func14, Try.ntmps14
          go_wp2
          go_loop [8, 9] (fun s i => ∃ q : Nat, q ≤ lv ∧ i = .int .i64 q ∧ s = .int .i64 ((2 ^ q : Nat) : Int)) (fun _ i => lv - (intOf i).toNat)
          case atStart => exact ⟨0, Nat.zero_le _, rfl, rfl⟩
          case round =>
            obtain ⟨q, hq, rfl, rfl⟩ := hrel
            by_cases hlt : q < lv
            · have j1 : (q : Int) < (lv : Int) := by omega
              have hp := pow_le (show q ≤ 9 by omega)
              have hs : 2 ^ (q + 1) = 2 * 2 ^ q := by rw [Nat.pow_succ, Nat.mul_comm]
              have HSQ := Lib.hid hs
              clear hs
              generalize hK : 2 ^ q = K at hp ⊢
              have HKK := Lib.hid hK
              clear hK
              have j2 : (K : Int) ≤ 512 := by omega
              have j3 : (0 : Int) ≤ (K : Int) := by omega
              go_wp2
              go_round
              case rel => exact ⟨q + 1, by omega, by go_num, by rw [HSQ.out, HKK.out]; go_num⟩
              case measure => simp [intOf]; omega
            · obtain rfl : q = lv := by omega
              have hp := pow_le (show q ≤ 9 by omega)
              have hk1 := HG.out
              rw [Nat.add_mul, Nat.one_mul] at hk1
              generalize hK : 2 ^ q = K at hp hk1 ⊢
              clear hK
              have hPb : k * K ≤ 511 * 512 := Nat.mul_le_mul (by omega) hp
              have hPK : (k : Int) * (K : Int) = ((k * K : Nat) : Int) := by push_cast; rfl
              generalize k * K = P at hPK hk1 hPb ⊢
              have j2 : (K : Int) ≤ 512 := by omega
              have j3 : (0 : Int) ≤ (K : Int) := by omega
              have j4 : (S : Int) < (P : Int) + (K : Int) := by omega
              have j5 : (0 : Int) ≤ (P : Int) := by omega
              have j6 : (P : Int) ≤ 261632 := by omega
              clear hk1
              go_wp2_with fail
              go_ret2
              exact ⟨rfl, rfl⟩
end Go.Proofs.Ytfbjnpbmicbbnaa
