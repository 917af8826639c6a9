/- What Find comes to; the document's Sum and Find. -/
import Derived.Test.YtfbjnpbmicbbnaaTb
namespace Go.Proofs.Ytfbjnpbmicbbnaa
open Go.RowKit
set_option linter.unusedVariables false

theorem TFind_none {w : World} {p g cap S L : Nat} {r t : List Int} (h : TM w p g cap S r t) (hr : Rt r L) (n : Int) (hn : ¬ (0 ≤ n ∧ n < sumR r 0 S)) :
    Calls Try.prog 15 #[.pointer (some ⟨p, 0, none⟩), .int .i64 n] w fun e w' => e = .returned (.tuple #[.int .i64 0, .int .i64 0, .int .i64 14]) ∧ w = w' := by
  have hs := hr.len_pos
  rw [h.hS] at hs
  have c1 := h.c1
  have ca := h.at_ (k := 1) (by omega)
  have hr1 := root h.ti hr
  rw [h.hS] at hr1
  rw [hr1] at ca
  clear hr1 h
  by_cases h0 : n < 0
  · clear hn
    go_enter Try.func15, Try.ntmps15
    go_wp2
    go_ret3
    exact ⟨rfl, rfl⟩
  · have h1 : sumR r 0 S ≤ n := by omega
    clear hn
    go_enter Try.func15, Try.ntmps15
    go_wp2
    go_ret3
    exact ⟨rfl, rfl⟩

set_option maxRecDepth 100000 in
set_option maxHeartbeats 800000 in
theorem TFind_ok {w : World} {p g cap S L : Nat} {r t : List Int} (h : TM w p g cap S r t) (hr : Rt r L) (n : Int) (hn : 0 ≤ n ∧ n < sumR r 0 S) :
    Calls Try.prog 15 #[.pointer (some ⟨p, 0, none⟩), .int .i64 n] w fun e w' => (∃ (s : Nat) (k : Int), e = .returned (.tuple #[.int .i64 s, .int .i64 k, .int .i64 0]) ∧ At r n s k) ∧ w = w' := by
  have hS := h.hS
  have hs1 := hr.len_pos
  have hs2 := hr.len_le
  have hpow := hr.pow
  rw [hS] at hs1 hs2 hpow
  have c0 := h.c0
  have c1 := h.c1
  have i3 : (S : Int) ≤ 512 := by omega
  have n0 := hn.1
  have n1 := hn.2
  have ca := h.at_ (k := 1) (by omega)
  have hr1 := root h.ti hr
  rw [hS] at hr1
  have HR1 := Lib.hid hr1
  rw [hr1] at ca
  have htot := (sumR_bd hr 0 S (by omega)).2
  have HS := Lib.hid hS
  have HPOW := Lib.hid hpow
  clear hr1 hS hpow hn
  go_enter Try.func15, Try.ntmps15
  go_wp2
  clear ca
  go_loop [1, 7] (fun m i => ∃ e l q : Nat, e + l = L ∧ 2 ^ e ≤ q ∧ q < 2 * 2 ^ e ∧ i = .int .i64 q ∧ m = .int .i64 (n - leftOf r e l q) ∧ 0 ≤ n - leftOf r e l q ∧ n - leftOf r e l q < nth t q) (fun _ i => 2 * S - (intOf i).toNat)
  case atStart =>
    have hz : leftOf r 0 L 1 = 0 := by simp [leftOf, sumR]
    exact ⟨0, L, 1, by omega, by simp, by simp, rfl, by rw [hz]; simp, by rw [hz]; omega, by rw [hz, HR1.out]; omega⟩
  case round =>
    obtain ⟨e, l, q, he, hq1, hq2, rfl, rfl, b0, b1⟩ := hrel
    have hqe : 2 ^ e ≤ S := by rw [HPOW.out]; exact Nat.pow_le_pow_right (by decide) (by omega)
    have hq0 : 1 ≤ q := by have := pow_pos2 e; omega
    by_cases hqS : q < S
    · obtain ⟨l', rfl⟩ : ∃ l', l = l' + 1 := by
        cases l with
        | zero => obtain rfl : e = L := by omega
                  have := HPOW.out; omega
        | succ l' => exact ⟨l', rfl⟩
      have hp2 : 2 ^ (e + 1) = 2 * 2 ^ e := by rw [Nat.pow_succ, Nat.mul_comm]
      have hodd := left_odd h.ti hr (e := e) (l := l') (i := 2 * q + 1) (by omega) (by omega) (by omega) (by omega)
      have hev := left_even (r := r) (e := e) (l := l') (i := 2 * q) (by omega) (by omega)
      rw [show (2 * q + 1) / 2 = q by omega, show 2 * q + 1 - 1 = 2 * q by omega] at hodd
      rw [show 2 * q / 2 = q by omega] at hev
      have hnode := h.ti.node q hq0 (by rw [HS.out]; exact hqS)
      have ca : w.cell? ⟨g, q * 2, none⟩ = some (.int .i64 (nth t (2 * q))) := by rw [Nat.mul_comm q 2]; exact h.at_ (k := 2 * q) (by omega)
      have nb := node_bd h.ti hr (i := 2 * q) (by omega) (by rw [HS.out]; omega)
      have nb0 := nb.1
      have nb1 := nb.2
      have bl := left_bd hr he hq1 hq2
      have k1 : (1 : Int) ≤ (q : Int) := by omega
      have k2 : (q : Int) < (S : Int) := by omega
      have HODD := Lib.hid hodd
      have HEV := Lib.hid hev
      have HN := Lib.hid hnode
      clear hodd hev hnode nb hp2
      generalize hy : nth t (2 * q) = y at ca nb0 nb1
      have HY := Lib.hid hy
      clear hy
      generalize hA : leftOf r e (l' + 1) q = A at b0 b1 bl ⊢
      have HA := Lib.hid hA
      clear hA
      have bl0 := bl.1
      have bl1 := bl.2
      clear bl
      by_cases hge : y ≤ n - A
      · go_wp2
        go_round
        case rel =>
          have e1 := HODD.out
          have e2 := HN.out
          rw [HA.out, HY.out] at e1
          rw [HY.out] at e2
          refine ⟨e + 1, l', 2 * q + 1, by omega, by rw [Nat.pow_succ]; omega, by rw [Nat.pow_succ]; omega, by go_num, by rw [e1]; congr 1; omega, by rw [e1]; omega, by rw [e1]; omega⟩
        case measure => simp [intOf]; omega
      · have hlt : n - A < y := by omega
        have HG := Lib.hid hge
        clear hge
        go_wp2
        go_round
        case rel =>
          have e1 := HEV.out
          rw [HA.out] at e1
          refine ⟨e + 1, l', 2 * q, by omega, by rw [Nat.pow_succ]; omega, by rw [Nat.pow_succ]; omega, by go_num, by rw [e1], by rw [e1]; omega, by rw [e1, HY.out]; omega⟩
        case measure => simp [intOf]; omega
    · have hl0 : l = 0 := by
        cases l with
        | zero => rfl
        | succ l' =>
          have h1 := pow_split he
          have h2 : 2 ^ e * 2 ≤ 2 ^ e * 2 ^ (l' + 1) := Nat.mul_le_mul_left _ (by rw [Nat.pow_succ]; have := pow_pos2 l'; omega)
          have := HPOW.out
          omega
      subst hl0
      obtain rfl : e = L := by omega
      have hz : leftOf r e 0 q = sumR r 0 (q - S) := by unfold leftOf; rw [← HPOW.out]; simp
      have hql : q - S < S := by have := HPOW.out; omega
      have hleaf := h.ti.leaf (q - S) (by rw [HS.out]; exact hql)
      rw [HS.out, show S + (q - S) = q by omega] at hleaf
      rw [hz] at b0 b1 ⊢
      rw [hleaf] at b1
      have k2 : (q : Int) < 1024 := by omega
      have k3 : (S : Int) ≤ (q : Int) := by omega
      have HL := Lib.hid hleaf
      clear hz hleaf
      go_wp2
      go_ret3
      refine ⟨⟨q - S, n - sumR r 0 (q - S), by go_num, ⟨by rw [HS.out]; exact hql, rfl, b0, b1⟩⟩, rfl⟩
end Go.Proofs.Ytfbjnpbmicbbnaa
