/- The document's Sum, Find, Segs, Wrong. -/
import Derived.Test.YtfbjnpbmicbbnaaTc
namespace Go.Proofs.Ytfbjnpbmicbbnaa
open Go.RowKit
set_option linter.unusedVariables false

theorem RI.cellN {w : World} {b off : Nat} {xs : List Int} (h : RI w (some ⟨b, off, none⟩) xs) {k : Nat} (hk : k < xs.length) : w.cell? ⟨b, off + k, none⟩ = some (.int .i64 (nth xs k)) := by
  obtain ⟨b', off', e, hc⟩ := h (by omega)
  injection e with e
  injection e with e1 e2
  subst e1 e2
  exact hc k hk

set_option maxRecDepth 100000 in
set_option maxHeartbeats 400000 in
theorem RSum_ok {w : World} {A : Option Addr} {c S L : Nat} {r : List Int} (hS : r.length = S) (hR : RI w A r) (hr : Rt r L) (a b : Nat) (hab : a ≤ b) (hb : b ≤ S) :
    Calls Try.prog 18 #[.slice A S c, .int .i64 a, .int .i64 b] w fun e w' => e = .returned (.int .i64 (sumR r a (b - a))) ∧ w = w' := by
  have hs1 := hr.len_pos
  have hs2 := hr.len_le
  obtain ⟨g, off, rfl, hc⟩ := hR (by omega)
  have HC := Lib.hid hc
  have HS := Lib.hid hS
  clear hc
  rw [hS] at hs1 hs2
  clear hS
  have i1 : (a : Int) ≤ (b : Int) := by omega
  have i2 : (b : Int) ≤ (S : Int) := by omega
  have i3 : (S : Int) ≤ 512 := by omega
  have i4 : (0 : Int) ≤ (a : Int) := by omega
  go_enter Try.func18, Try.ntmps18
  go_wp2
  go_loop [7, 8] (fun n i => ∃ q : Nat, a ≤ q ∧ q ≤ b ∧ i = .int .i64 q ∧ n = .int .i64 (sumR r a (q - a))) (fun _ i => b - (intOf i).toNat)
  case atStart => exact ⟨a, Nat.le_refl _, hab, rfl, by simp [sumR]⟩
  case round =>
    obtain ⟨q, hq1, hq2, rfl, rfl⟩ := hrel
    by_cases hlt : q < b
    · have c0 := HC.out q (by rw [HS.out]; omega)
      have j1 : (0 : Int) ≤ (q : Int) := by omega
      have j2 : (q : Int) < (b : Int) := by omega
      have j3 : (q : Int) < (S : Int) := by omega
      have bd := sumR_bd hr a (q - a) (by rw [HS.out]; omega)
      have bd2 := hr.small q (by rw [HS.out]; omega)
      have hst : sumR r a (q + 1 - a) = sumR r a (q - a) + nth r q := by
        rw [show q + 1 - a = (q - a) + 1 by omega, sumR_succ, show a + (q - a) = q by omega]
      have HST := Lib.hid hst
      have b0 := bd.1
      have b1 : sumR r a (q - a) ≤ 4096 := by omega
      have b2 := bd2.1
      have b3 := bd2.2
      clear hst bd bd2
      go_wp2
      go_round
      case rel => exact ⟨q + 1, by omega, by omega, by go_num, by rw [HST.out]⟩
      case measure => simp [intOf]; omega
    · obtain rfl : q = b := by omega
      go_wp2
      go_ret
      exact ⟨rfl, rfl⟩

set_option maxRecDepth 100000 in
set_option maxHeartbeats 400000 in
theorem RFind_ok {w : World} {A : Option Addr} {c S L : Nat} {r : List Int} (hS : r.length = S) (hR : RI w A r) (hr : Rt r L) (n : Int) (hn : 0 ≤ n ∧ n < sumR r 0 S) :
    Calls Try.prog 16 #[.slice A S c, .int .i64 n] w fun e w' => (∃ (s : Nat) (k : Int), e = .returned (.tuple #[.int .i64 s, .int .i64 k, .int .i64 0]) ∧ At r n s k) ∧ w = w' := by
  have hs1 := hr.len_pos
  have hs2 := hr.len_le
  obtain ⟨g, off, rfl, hc⟩ := hR (by omega)
  have HC := Lib.hid hc
  have HS := Lib.hid hS
  clear hc
  rw [hS] at hs1 hs2
  have n0 := hn.1
  have n1 := hn.2
  have HN := Lib.hid hn
  clear hS hn
  have i3 : (S : Int) ≤ 512 := by omega
  go_enter Try.func16, Try.ntmps16
  go_wp2
  go_loop [1, 7] (fun m i => ∃ q : Nat, q ≤ S ∧ i = .int .i64 q ∧ m = .int .i64 (n - sumR r 0 q) ∧ 0 ≤ n - sumR r 0 q) (fun _ i => S - (intOf i).toNat)
  case atStart => exact ⟨0, Nat.zero_le _, rfl, by simp [sumR], by simpa [sumR] using n0⟩
  case round =>
    obtain ⟨q, hq, rfl, rfl, b0⟩ := hrel
    by_cases hlt : q < S
    · have c0 := HC.out q (by rw [HS.out]; omega)
      have j1 : (0 : Int) ≤ (q : Int) := by omega
      have j3 : (q : Int) < (S : Int) := by omega
      have bd := sumR_bd hr 0 q (by rw [HS.out]; omega)
      have bt := sumR_bd hr 0 S (by rw [HS.out]; omega)
      have bd2 := hr.small q (by rw [HS.out]; omega)
      have hst : sumR r 0 (q + 1) = sumR r 0 q + nth r q := by rw [sumR_succ, Nat.zero_add]
      have HST := Lib.hid hst
      have d0 := bd.1
      have d1 : sumR r 0 q ≤ 4096 := by omega
      have d2 : n ≤ 4096 := by omega
      have b2 := bd2.1
      have b3 := bd2.2
      clear hst bd bd2 bt
      generalize hy : nth r q = y at c0 b2 b3
      have HY := Lib.hid hy
      clear hy
      by_cases hl : n - sumR r 0 q < y
      · go_wp2
        go_ret3
        exact ⟨⟨q, _, rfl, ⟨by rw [HS.out]; exact hlt, rfl, b0, by rw [HY.out]; exact hl⟩⟩, rfl⟩
      · have hge : y ≤ n - sumR r 0 q := by omega
        have HL := Lib.hid hl
        clear hl
        go_wp2
        go_round
        case rel =>
          have e1 := HST.out
          rw [HY.out] at e1
          exact ⟨q + 1, by omega, by go_num, by rw [e1]; congr 1; omega, by rw [e1]; omega⟩
        case measure => simp [intOf]; omega
    · obtain rfl : q = S := by omega
      omega

set_option maxRecDepth 100000 in
set_option maxHeartbeats 400000 in
theorem RFind_none {w : World} {A : Option Addr} {c S L : Nat} {r : List Int} (hS : r.length = S) (hR : RI w A r) (hr : Rt r L) (n : Int) (hi : n ≤ 9223372036854775807) (hn : ¬ (0 ≤ n ∧ n < sumR r 0 S)) :
    Calls Try.prog 16 #[.slice A S c, .int .i64 n] w fun e w' => e = .returned (.tuple #[.int .i64 0, .int .i64 0, .int .i64 14]) ∧ w = w' := by
  by_cases hneg : n < 0
  · clear hn
    go_enter Try.func16, Try.ntmps16
    go_wp2
    go_ret3
    exact ⟨rfl, rfl⟩
  have hs1 := hr.len_pos
  have hs2 := hr.len_le
  obtain ⟨g, off, rfl, hc⟩ := hR (by omega)
  have HC := Lib.hid hc
  have HS := Lib.hid hS
  clear hc
  rw [hS] at hs1 hs2
  have n0 : 0 ≤ n := by omega
  have n1 : sumR r 0 S ≤ n := by omega
  clear hS hn hneg
  have i3 : (S : Int) ≤ 512 := by omega
  go_enter Try.func16, Try.ntmps16
  go_wp2
  go_loop [1, 7] (fun m i => ∃ q : Nat, q ≤ S ∧ i = .int .i64 q ∧ m = .int .i64 (n - sumR r 0 q)) (fun _ i => S - (intOf i).toNat)
  case atStart => exact ⟨0, Nat.zero_le _, rfl, by simp [sumR]⟩
  case round =>
    obtain ⟨q, hq, rfl, rfl⟩ := hrel
    by_cases hlt : q < S
    · have c0 := HC.out q (by rw [HS.out]; omega)
      have j1 : (0 : Int) ≤ (q : Int) := by omega
      have j3 : (q : Int) < (S : Int) := by omega
      have bd := sumR_bd hr 0 q (by rw [HS.out]; omega)
      have bd2 := hr.small q (by rw [HS.out]; omega)
      have hst : sumR r 0 (q + 1) = sumR r 0 q + nth r q := by rw [sumR_succ, Nat.zero_add]
      have hmo := sumR_mono hr (show q + 1 ≤ S by omega) (by rw [HS.out]; omega)
      have HST := Lib.hid hst
      have d0 := bd.1
      have d1 : sumR r 0 q ≤ 4096 := by omega
      have b2 := bd2.1
      have b3 := bd2.2
      rw [hst] at hmo
      clear hst bd bd2
      generalize hy : nth r q = y at c0 b2 b3 hmo
      have HY := Lib.hid hy
      clear hy
      have hge : y ≤ n - sumR r 0 q := by omega
      go_wp2
      go_round
      case rel =>
        have e1 := HST.out
        rw [HY.out] at e1
        exact ⟨q + 1, by omega, by go_num, by rw [e1]; congr 1; omega⟩
      case measure => simp [intOf]; omega
    · obtain rfl : q = S := by omega
      go_wp2
      go_ret3
      exact ⟨rfl, rfl⟩

/-- May there be so many segments? -/
def powB (n : Nat) : Bool := decide (∃ e : Fin 10, n = 2 ^ e.1)
theorem powB_true {n : Nat} : powB n = true ↔ ∃ e, e ≤ 9 ∧ n = 2 ^ e := by
  unfold powB
  rw [decide_eq_true_iff]
  exact ⟨fun ⟨e, h⟩ => ⟨e.1, by omega, h⟩, fun ⟨e, h, h2⟩ => ⟨⟨e, by omega⟩, h2⟩⟩
theorem pow_1024 {e : Nat} (h : e ≤ 10) : 2 ^ e ≤ 1024 := Nat.pow_le_pow_right (n := 2) (by decide) h

set_option maxRecDepth 100000 in
theorem RSegs_any (n : Nat) (w : World) :
    Calls Try.prog 28 #[.int .i64 n] w fun e w' => e = .returned (.bool (powB n)) ∧ w = w' := by
  go_enter Try.func28, Try.ntmps28
  go_wp2
  go_loop [3] (fun k => ∃ e : Nat, e ≤ 10 ∧ k = .int .i64 ((2 ^ e : Nat) : Int) ∧ ∀ e', e' < e → n ≠ 2 ^ e') (fun k => 1024 - (intOf k).toNat)
  case atStart => exact ⟨0, by omega, by simp, fun e' h => absurd h (Nat.not_lt_zero _)⟩
  case round =>
    obtain ⟨e, he, rfl, hA⟩ := hrel
    have HA := Lib.hid hA
    clear hA
    have hK := pow_1024 he
    have hK1 := pow_pos2 e
    have hs : 2 ^ (e + 1) = 2 * 2 ^ e := by rw [Nat.pow_succ, Nat.mul_comm]
    by_cases h9 : e ≤ 9
    · have h512 := pow_le h9
      generalize hk : 2 ^ e = K at hK hK1 hs h512
      have HK := Lib.hid hk
      have HS := Lib.hid hs
      have i1 : (1 : Int) ≤ (K : Int) := by omega
      have i2 : (K : Int) ≤ 512 := by omega
      clear hk hs
      by_cases hc : n = K
      · have t1 : ((n : Int) == (K : Int)) = true := by simp; omega
        have HC := Lib.hid hc
        clear hc
        go_wp2
        go_ret
        exact ⟨ret_bool (powB_true.2 ⟨e, h9, by rw [HC.out, HK.out]⟩).symm, rfl⟩
      · have t1 : ((n : Int) == (K : Int)) = false := by simp; omega
        have HC := Lib.hid hc
        clear hc
        go_wp2
        go_round
        case rel =>
          refine ⟨e + 1, by omega, by rw [HS.out]; go_num, fun e' h => ?_⟩
          by_cases h2 : e' < e
          · exact HA.out e' h2
          · obtain rfl : e' = e := by omega
            rw [HK.out]; exact HC.out
        case measure => simp [intOf]; omega
    · have h10 : e = 10 := by omega
      subst h10
      have i1 : (512 : Int) < ((2 ^ 10 : Nat) : Int) := by decide
      generalize (2 ^ 10 : Nat) = K at i1 ⊢
      go_wp2
      go_ret
      refine ⟨ret_bool ?_, rfl⟩
      refine Eq.symm ?_
      rw [← Bool.not_eq_true, powB_true]
      rintro ⟨e', h1, h2⟩
      exact HA.out e' (by omega) h2
end Go.Proofs.Ytfbjnpbmicbbnaa
