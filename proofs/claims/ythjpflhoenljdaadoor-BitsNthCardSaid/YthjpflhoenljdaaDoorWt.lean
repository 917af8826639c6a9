/- BitsNth: the walk of the law. -/
import Derived.Test.YthjpflhoenljdaaDoorWn
namespace Go.Proofs.YthjpflhoenljdaaDoor
open Go.RowKit
set_option linter.unusedVariables false

/-- Where k bits are on ahead of q, and more are on in all: the next one from q on is the k-th one. -/
theorem next_hit {r : List Bool} {N q : Nat} (hl : r.length = N) (hq : q ≤ N) (h : cnt r q < cnt r N) : ∃ j : Nat, j < N ∧ IsNext r (q : Int) (j : Int) ∧ on r j = true ∧ cnt r j = cnt r q := by
  obtain ⟨s, hs⟩ := next_ex r (q : Int)
  have hs0 := hs
  rcases hs with ⟨j, rfl, h1, h2, h3⟩ | ⟨rfl, h1⟩
  · have hj : j < N := by
      rcases Nat.lt_or_ge j N with h4 | h4
      · exact h4
      · rw [on_end (by omega)] at h2; cases h2
    exact ⟨j, hj, hs0, h2, cnt_none (by omega) (fun k k1 k2 => h3 k (by omega) k2)⟩
  · have := cnt_none hq (fun k k1 k2 => h1 k (by omega))
    omega
theorem next_miss {r : List Bool} {N q : Nat} (hl : r.length = N) (hq : q ≤ N) (h : cnt r q = cnt r N) : IsNext r (q : Int) (-1) := by
  refine .inr ⟨rfl, fun k hk => ?_⟩
  cases ho : on r k
  · rfl
  · have hkN : k < N := by
      rcases Nat.lt_or_ge k N with h4 | h4
      · exact h4
      · rw [on_end (by omega)] at ho; cases ho
    have h1 := cnt_mono r (show q ≤ k by omega)
    have h2 := cnt_lt hkN ho
    omega
theorem nth_hit {r : List Bool} {j k : Nat} (ho : on r j = true) (h : cnt r j = k) : IsNth r (k : Int) (j : Int) := .inl ⟨j, rfl, ho, by rw [h]⟩
theorem nth_miss {r : List Bool} {N : Nat} (hl : r.length = N) : IsNth r (cnt r N : Nat) (-1) := by
  refine .inr ⟨rfl, fun j hj => ?_⟩
  have hjN : j < N := by
    rcases Nat.lt_or_ge j N with h4 | h4
    · exact h4
    · rw [on_end (by omega)] at hj; cases hj
  have := cnt_lt hjN hj
  omega
theorem nth_neg (r : List Bool) : IsNth r (-1) (-1) := .inr ⟨rfl, fun j _ => by omega⟩
theorem prev_hit {r : List Bool} {p k : Nat} (h : cnt r p = k + 1) : ∃ j : Nat, j < p ∧ IsPrev r ((p : Int) - 1) (j : Int) ∧ on r j = true ∧ cnt r j = k := by
  obtain ⟨s, hs⟩ := prev_ex r ((p : Int) - 1)
  have hs0 := hs
  rcases hs with ⟨j, rfl, h1, h2, h3⟩ | ⟨rfl, h1⟩
  · refine ⟨j, by omega, hs0, h2, ?_⟩
    have h4 := cnt_none (show j + 1 ≤ p by omega) (fun k k1 k2 => h3 k (by omega) (by omega))
    rw [cnt_succ, if_pos h2] at h4
    omega
  · have := cnt_none (Nat.zero_le p) (fun k _ k2 => h1 k (by omega))
    have e : cnt r 0 = 0 := rfl
    omega
theorem prev_miss {r : List Bool} {p : Nat} (h : cnt r p = 0) : IsPrev r ((p : Int) - 1) (-1) := by
  refine .inr ⟨rfl, fun k hk => ?_⟩
  cases ho : on r k
  · rfl
  · have := cnt_lt (show k < p by omega) ho
    omega

set_option maxRecDepth 1000000 in
set_option maxHeartbeats 3200000 in
theorem BitsNth_in {B : Option Addr} {c' N len : Nat} {zs : List Act2} {w : World} (hT : Tab w) (h1 : 1 ≤ N) (h300 : N ≤ 300) (hl : len ≤ 100) (hz : ActsIn w B len zs) :
    Calls Tryd.prog 7 #[.int .i64 (N : Nat), .slice B len c'] w fun e w' => e = .returned (.bool true) ∧ Below w.heap.size w w' := by
  have i1 : (1 : Int) ≤ (N : Int) := by omega
  have i2 : (N : Int) ≤ 300 := by omega
  have i3 : (len : Int) ≤ 100 := by omega
  have g1 : decide ((N : Int) < 1) = false := by simp; omega
  have g2 : decide (300 < (N : Int)) = false := by simp; omega
  have g3 : decide (100 < (len : Int)) = false := by simp; omega
  go_enter Tryd.func7, Tryd.ntmps7
  go_wp2_with fail
  refine (made_ok h1 (by omega) hz).mono ?_
  generalize w.heap.size + 1 = P
  generalize hG : w.heap.size = G
  have HG := Lib.hid hG
  clear hG
  rintro e w1 ⟨Q, hQ, rfl, hD, n1, n2⟩
  have hbe : Below w.heap.size w w1 := hD.be
  have hT1 := hT.below hbe
  have hrl : (playB (offs N) zs len).length = N := by rw [playB_len, offs_len]
  generalize playB (offs N) zs len = r at *
  have HRL := Lib.hid hrl
  have hm := hD.bm
  have hnm := nth_miss hrl
  have hcN := cnt_le r N
  clear hrl hD
  have hct := BCount_ok hm
  have hnext : ∀ q, q ≤ N → cnt r q < cnt r N → ∃ j : Nat, j < N ∧ IsNext r (q : Int) (j : Int) ∧ on r j = true ∧ cnt r j = cnt r q := fun q h1 h2 => next_hit HRL.out h1 h2
  have hnextm : ∀ q, q ≤ N → cnt r q = cnt r N → IsNext r (q : Int) (-1) := fun q h1 h2 => next_miss HRL.out h1 h2
  generalize hM : cnt r N = M at *
  have HM := Lib.hid hM
  have HN1 := Lib.hid hnext
  have HN2 := Lib.hid hnextm
  have iM : (M : Int) ≤ 300 := by omega
  have iM0 : (0 : Int) ≤ (M : Int) := by omega
  have iMN : (M : Int) ≤ (N : Int) := by omega
  have g4 : decide ((M : Int) < 0) = false := by simp
  have g5 : decide ((N : Int) < (M : Int)) = false := by simp; omega
  have g6 : decide (N < M) = false := by simp; omega
  clear hM hnext hnextm
  go_wp2_with fail
  refine hct.mono ?_
  rintro e w2 ⟨rfl, rfl⟩
  go_wp2_with fail
  go_loop [8, 9] (fun a i => ∃ k q : Nat, k ≤ M ∧ q ≤ N ∧ i = .int .i64 k ∧ a = .int .i64 ((q : Int) - 1) ∧ cnt r q = k) (fun _ i => M - (intOf i).toNat)
  case atStart => exact ⟨0, 0, Nat.zero_le _, Nat.zero_le _, rfl, rfl, rfl⟩
  case round =>
    obtain ⟨k, q, hk, hq, rfl, rfl, hkq⟩ := hrel
    have HKQ := Lib.hid hkq
    clear hkq
    have s0 : (0 : Int) ≤ (q : Int) := by omega
    have s1 : (q : Int) ≤ 300 := by omega
    have s2 : (q : Int) - 1 + 1 = (q : Int) := by omega
    by_cases hlt : k < M
    · obtain ⟨j, hj, hnx, ho, hcj⟩ := HN1.out q hq (by rw [HKQ.out]; exact hlt)
      rw [HKQ.out] at hcj
      have hnt := nth_hit ho hcj
      have hhas := BHas_any hm (j : Int)
      rw [hasB_nat, ho] at hhas
      have hrg := BRange_ok hm 0 j (Nat.zero_le _) (by omega)
      rw [hcj, show cnt r 0 = 0 from rfl, Nat.sub_zero] at hrg
      have hnew : cnt r (j + 1) = k + 1 := by rw [cnt_succ, hcj, if_pos ho]
      have HNEW := Lib.hid hnew
      have j0 : (0 : Int) ≤ (j : Int) := by omega
      have j1 : (j : Int) < (N : Int) := by omega
      have j2 : (k : Int) < (M : Int) := by omega
      have j3 : (0 : Int) ≤ (k : Int) := by omega
      clear ho hcj hnew
      go_wp2_with fail
      refine (next_is hnx hm hT1).mono ?_
      rintro e w2 ⟨rfl, rfl⟩
      go_wp2_with fail
      refine hhas.mono ?_
      rintro e w2 ⟨rfl, rfl⟩
      go_wp2_with fail
      refine (nth_is hnt hm hT1 (by omega)).mono ?_
      rintro e w2 ⟨rfl, rfl⟩
      go_wp2_with fail
      refine hrg.mono ?_
      rintro e w2 ⟨rfl, rfl⟩
      go_wp2_with fail
      go_round
      case rel => exact ⟨k + 1, j + 1, by omega, by omega, by go_num, by go_num, HNEW.out⟩
      case measure => simp [intOf]; omega
    · obtain rfl : k = M := by omega
      have hnx := HN2.out q hq HKQ.out
      go_wp2_with fail
      refine (next_is hnx hm hT1).mono ?_
      rintro e w2 ⟨rfl, rfl⟩
      go_wp2_with fail
      refine (nth_is hnm hm hT1 (by omega)).mono ?_
      rintro e w2 ⟨rfl, rfl⟩
      go_wp2_with fail
      refine (nth_is (nth_neg r) hm hT1 (by omega)).mono ?_
      rintro e w2 ⟨rfl, rfl⟩
      go_wp2_with fail
      go_loop [8, 12] (fun a i => ∃ c p : Nat, c ≤ k ∧ p ≤ N ∧ i = .int .i64 ((c : Int) - 1) ∧ a = .int .i64 (p : Nat) ∧ cnt r p = c) (fun _ i => (intOf i + 1).toNat)
      case atStart => exact ⟨k, N, Nat.le_refl _, Nat.le_refl _, rfl, rfl, HM.out⟩
      case round =>
        obtain ⟨c, p, hc, hp, rfl, rfl, hcp⟩ := hrel
        have HCP := Lib.hid hcp
        clear hcp
        have p0 : (0 : Int) ≤ (p : Int) := by omega
        have p1 : (p : Int) ≤ 300 := by omega
        have c1 : (c : Int) ≤ 300 := by omega
        cases c with
        | zero =>
          have hpv := prev_miss HCP.out
          by_cases hk0 : k = 0
          · have t1 : ((k : Int) == 0) = true := by simp; omega
            clear hk0
            go_wp2_with fail
            refine (awake_any _ hT1).mono ?_
            rintro e w9 ⟨rfl, hb9⟩
            go_wp2_with fail
            go_ret
            exact ⟨rfl, below_ge hbe hb9 (Nat.le_refl _)⟩
          · have t1 : ((k : Int) == 0) = false := by simp; omega
            clear hk0
            go_wp2_with fail
            refine (prev_is hpv hm).mono ?_
            rintro e w2 ⟨rfl, rfl⟩
            go_wp2_with fail
            refine (awake_any _ hT1).mono ?_
            rintro e w9 ⟨rfl, hb9⟩
            go_wp2_with fail
            go_ret
            exact ⟨rfl, below_ge hbe hb9 (Nat.le_refl _)⟩
        | succ c =>
          obtain ⟨j, hj, hpv, ho, hcj⟩ := prev_hit HCP.out
          have hnt := nth_hit ho hcj
          have t1 : ((c + 1 : Nat) : Int) - 1 = (c : Int) := by omega
          have t2 : (c : Int) + 1 - 1 = (c : Int) := by omega
          have t3 : (0 : Int) ≤ (c : Int) := by omega
          have j0 : (0 : Int) ≤ (j : Int) := by omega
          have HCJ := Lib.hid hcj
          have hcc : c ≤ k := by omega
          clear ho hcj
          go_wp2_with fail
          refine (prev_is hpv hm).mono ?_
          rintro e w2 ⟨rfl, rfl⟩
          go_wp2_with fail
          refine (nth_is hnt hm hT1 (by omega)).mono ?_
          rintro e w2 ⟨rfl, rfl⟩
          go_wp2_with fail
          go_round
          case rel => exact ⟨c, j, hcc, by omega, by go_num, rfl, HCJ.out⟩
          case measure => first | (simp [intOf]; done) | (simp [intOf]; omega)

set_option maxRecDepth 100000 in
theorem BitsNth_walk (n : Int) (B : Option Addr) (len lcap : Nat) (zs : List Act2) (w : World) (hT : Tab w) (bn : -9223372036854775808 ≤ n ∧ n ≤ 9223372036854775807) (hz : ActsIn w B len zs) :
    Calls Tryd.prog 7 #[.int .i64 n, .slice B len lcap] w fun e w' => e = .returned (.bool true) ∧ Below w.heap.size w w' := by
  by_cases h1 : 1 ≤ n
  · by_cases h2 : n ≤ 300
    · by_cases h3 : (len : Int) ≤ 100
      · obtain ⟨N, rfl⟩ := Int.eq_ofNat_of_zero_le (show 0 ≤ n by omega)
        exact BitsNth_in hT (by omega) (by omega) (by omega) hz
      · have h3' : 100 < (len : Int) := by omega
        clear h3
        go_enter Tryd.func7, Tryd.ntmps7
        go_wp2_with fail
        refine (awake_any _ hT).mono ?_
        rintro e w9 ⟨rfl, hb9⟩
        go_wp2_with fail
        go_ret
        exact ⟨rfl, hb9⟩
    · have h2' : 300 < n := by omega
      clear h2
      go_enter Tryd.func7, Tryd.ntmps7
      go_wp2_with fail
      refine (awake_any _ hT).mono ?_
      rintro e w9 ⟨rfl, hb9⟩
      go_wp2_with fail
      go_ret
      exact ⟨rfl, hb9⟩
  · have h1' : n < 1 := by omega
    clear h1
    go_enter Tryd.func7, Tryd.ntmps7
    go_wp2_with fail
    refine (awake_any _ hT).mono ?_
    rintro e w9 ⟨rfl, hb9⟩
    go_wp2_with fail
    go_ret
    exact ⟨rfl, hb9⟩
end Go.Proofs.YthjpflhoenljdaaDoor
