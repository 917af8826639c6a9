/- What Prev comes to. -/
import Derived.Test.YthjpflhoenljdaaDoorBf
namespace Go.Proofs.YthjpflhoenljdaaDoor
open Go.RowKit
set_option linter.unusedVariables false

/-- s is the last bit that is on and no greater than i; -1: there is none. -/
def IsPrev (r : List Bool) (i s : Int) : Prop :=
  (∃ j : Nat, s = j ∧ (j : Int) ≤ i ∧ on r j = true ∧ ∀ k : Nat, j < k → (k : Int) ≤ i → on r k = false) ∨ (s = -1 ∧ ∀ k : Nat, (k : Int) ≤ i → on r k = false)
theorem IsPrev.uniq {r : List Bool} {i s s' : Int} (h : IsPrev r i s) (h' : IsPrev r i s') : s = s' := by
  rcases h with ⟨j, rfl, h1, h2, h3⟩ | ⟨rfl, h1⟩ <;> rcases h' with ⟨j', rfl, h1', h2', h3'⟩ | ⟨rfl, h1'⟩
  · rcases Nat.lt_trichotomy j j' with h | h | h
    · rw [h3 j' h h1'] at h2'; cases h2'
    · rw [h]
    · rw [h3' j h h1] at h2; cases h2
  · rw [h1' j h1] at h2; cases h2
  · rw [h1 j' h1'] at h2'; cases h2'
  · rfl
theorem IsPrev.bd {r : List Bool} {i s : Int} (h : IsPrev r i s) : -1 ≤ s ∧ s < r.length := by
  rcases h with ⟨j, rfl, h1, h2, h3⟩ | ⟨rfl, h1⟩
  · refine ⟨by omega, ?_⟩
    rcases Nat.lt_or_ge j r.length with h | h
    · omega
    · rw [on_end h] at h2; cases h2
  · exact ⟨by omega, by omega⟩

/-- What the loop knows: of the words behind the q-th one nothing up to I is on; X is the q-th one up to I. -/
structure PrevAt (r : List Bool) (I q X : Nat) : Prop where
  lt : X < 18446744073709551616
  bit : ∀ j, j < 64 → X.testBit j = (decide (64 * q + j ≤ I) && on r (64 * q + j))
  none : ∀ k, k ≤ I → 64 * (q + 1) ≤ k → on r k = false
theorem PrevAt.start {r : List Bool} {I s : Nat} (hs : s = 63 - I % 64) : PrevAt r I (I / 64) ((word r (I / 64) * 2 ^ s % 18446744073709551616) / 2 ^ s) := by
  have hlt : word r (I / 64) * 2 ^ s % 18446744073709551616 < 18446744073709551616 := Nat.mod_lt _ (by decide)
  refine ⟨Nat.lt_of_le_of_lt (Nat.div_le_self _ _) hlt, fun j hj => ?_, fun k h1 h2 => by omega⟩
  rw [shr_bit]
  by_cases h : j + s < 64
  · rw [shl_bit _ _ _ h, word_bit, show j + s - s = j by omega]
    simp [hj, show 64 * (I / 64) + j ≤ I by omega]
  · rw [Nat.testBit_lt_two_pow (Nat.lt_of_lt_of_le hlt (Nat.pow_le_pow_right (n := 2) (by decide) (show 64 ≤ j + s by omega)))]
    simp [show ¬ 64 * (I / 64) + j ≤ I by omega]
theorem PrevAt.hit {r : List Bool} {I q X : Nat} (h : PrevAt r I q X) (h0 : X ≠ 0) : IsPrev r I ((64 * q + Lib.bitLen X - 1 : Nat) : Int) := by
  obtain ⟨c0, c1, c2, c3⟩ := bitLen_spec h0 h.lt
  have hb := h.bit (Lib.bitLen X - 1) (by omega)
  rw [c2] at hb
  simp at hb
  have e : 64 * q + Lib.bitLen X - 1 = 64 * q + (Lib.bitLen X - 1) := by omega
  rw [e]
  refine .inl ⟨_, rfl, by omega, hb.2, fun k k1 k2 => ?_⟩
  by_cases hk : 64 * (q + 1) ≤ k
  · exact h.none k (by omega) hk
  · have hb2 := h.bit (k - 64 * q) (by omega)
    rw [c3 _ (by omega), show 64 * q + (k - 64 * q) = k by omega] at hb2
    simp at hb2
    exact hb2 (by omega)
theorem PrevAt.past {r : List Bool} {I q : Nat} (h : PrevAt r I q 0) : ∀ k, k ≤ I → 64 * q ≤ k → on r k = false := fun k k1 k2 => by
  by_cases hk : 64 * (q + 1) ≤ k
  · exact h.none k (by omega) hk
  · have hb2 := h.bit (k - 64 * q) (by omega)
    rw [Nat.zero_testBit, show 64 * q + (k - 64 * q) = k by omega] at hb2
    simp at hb2
    exact hb2 k1
theorem PrevAt.step {r : List Bool} {I q : Nat} (h : PrevAt r I (q + 1) 0) (hq : 64 * (q + 1) ≤ I + 1) : PrevAt r I q (word r q) :=
  ⟨word_lt _ _, fun j hj => by rw [word_bit]; simp [hj, show 64 * q + j ≤ I by omega], h.past⟩

set_option maxRecDepth 100000 in
set_option maxHeartbeats 800000 in
theorem BPrev_nat {w : World} {p g cap n : Nat} {r : List Bool} (h : BM w p g cap n r) (i : Int) (I : Nat) (hi : (min i ((n : Int) - 1)) = (I : Int)) :
    Calls Tryd.prog 15 #[.pointer (some ⟨p, 0, none⟩), .int .i64 i] w fun e w' => (∃ s : Int, e = .returned (.int .i64 s) ∧ IsPrev r I s) ∧ w = w' := by
  have c1 := h.c1
  have hn := h.hn
  have hlen := BLen_ok h
  have i1 : (I : Int) < (n : Int) := by omega
  have i2 : (n : Int) ≤ 65536 := by omega
  have i3 : (1 : Int) ≤ (n : Int) := by omega
  have i0 : (0 : Int) ≤ (I : Int) := by omega
  have hIw : I / 64 < nw n := by unfold nw; omega
  have hnw : n ≤ 64 * nw n := by unfold nw; omega
  have hnw2 : 64 * nw n ≤ n + 63 := by unfold nw; omega
  have cg := h.hg.cell hIw
  have hst := PrevAt.start (r := r) (I := I) (s := 63 - I % 64) rfl
  have k1 := shl_wrap (word r (I / 64)) (63 - I % 64)
  have k2 : ((word r (I / 64) * 2 ^ (63 - I % 64) % 18446744073709551616 : Nat) : Int) / 2 ^ (63 - I % 64) = ((word r (I / 64) * 2 ^ (63 - I % 64) % 18446744073709551616 / 2 ^ (63 - I % 64) : Nat) : Int) := by
    rw [Int.natCast_ediv]; congr 1
  generalize word r (I / 64) * 2 ^ (63 - I % 64) % 18446744073709551616 / 2 ^ (63 - I % 64) = X0 at *
  generalize word r (I / 64) * 2 ^ (63 - I % 64) % 18446744073709551616 = Y0 at *
  generalize hm : nw n = M at *
  go_enter Tryd.func15, Tryd.ntmps15
  go_wp2_with fail
  refine hlen.mono ?_
  rintro e w1 ⟨rfl, rfl⟩
  go_wp2_with fail
  go_loop [6, 7] (fun x k => ∃ q X : Nat, q ≤ I / 64 ∧ k = .int .i64 q ∧ x = .int .u64 (X : Nat) ∧ PrevAt r I q X) (fun _ k => (intOf k).toNat)
  case atStart =>
    exact ⟨I / 64, X0, Nat.le_refl _, by go_num, by rw [k2], hst⟩
  case round =>
    obtain ⟨q, X, hq1, rfl, rfl, hat⟩ := hrel
    have j1 : (q : Int) ≤ 1024 := by omega
    have j0 : (0 : Int) ≤ (q : Int) := by omega
    by_cases h0 : X = 0
    · subst h0
      cases q with
      | zero =>
        have hnone : ∀ k, k ≤ I → on r k = false := fun k hk => hat.past k hk (by omega)
        go_wp2_with fail
        go_ret
        exact ⟨⟨_, rfl, .inr ⟨rfl, fun k hk => hnone k (by omega)⟩⟩, rfl⟩
      | succ q =>
        have cq := h.hg.cell (k := q) (by omega)
        have t1 : ((q + 1 : Nat) : Int) - 1 = (q : Int) := by omega
        have t2 : (q : Int) + 1 - 1 = (q : Int) := by omega
        have t4 : (q : Int) < (M : Int) := by omega
        have t5 : (0 : Int) ≤ (q : Int) := by omega
        have t6 : ¬ ((q : Int) < 0) := by omega
        have hst2 := hat.step (by omega)
        have hqm : q ≤ I / 64 := by omega
        go_wp2_with fail
        go_round
        case rel => exact ⟨q, _, hqm, by go_num, rfl, hst2⟩
        case measure => simp [intOf]
    · have hc := bits_Len64 (X : Int) w (by omega) (by have := hat.lt; omega)
      rw [Int.toNat_natCast] at hc
      have hh := hat.hit h0
      obtain ⟨hcl0, hcl, _⟩ := bitLen_spec h0 hat.lt
      have t0 : ((X : Int) != 0) = true := by simp; omega
      have t3 : (q : Int) * 64 + ((Lib.bitLen X : Nat) : Int) - 1 = ((64 * q + Lib.bitLen X - 1 : Nat) : Int) := by omega
      have t4 : ((64 * q + Lib.bitLen X - 1 : Nat) : Int) ≤ 70000 := by omega
      have t6 : (1 : Int) ≤ ((Lib.bitLen X : Nat) : Int) := by omega
      have t7 : ((Lib.bitLen X : Nat) : Int) ≤ 64 := by omega
      clear hcl hcl0
      generalize 64 * q + Lib.bitLen X - 1 = Z at *
      generalize Lib.bitLen X = C at *
      clear h0
      go_wp2_with fail
      refine hc.mono ?_
      rintro e w1 ⟨rfl, rfl⟩
      go_wp2_with fail
      go_ret
      exact ⟨⟨_, rfl, hh⟩, rfl⟩
/-- PREV, AT EVERY NUMBER. -/
theorem BPrev_any {w : World} {p g cap n : Nat} {r : List Bool} (h : BM w p g cap n r) (i : Int) :
    Calls Tryd.prog 15 #[.pointer (some ⟨p, 0, none⟩), .int .i64 i] w fun e w' => (∃ s : Int, e = .returned (.int .i64 s) ∧ IsPrev r i s) ∧ w = w' := by
  have hn := h.hn
  by_cases hi : i < 0
  · have hlen := BLen_ok h
    have i1 : min i ((n : Int) - 1) = i := by omega
    have i2 : (n : Int) ≤ 65536 := by omega
    have i3 : (1 : Int) ≤ (n : Int) := by omega
    go_enter Tryd.func15, Tryd.ntmps15
    go_wp2_with fail
    refine hlen.mono ?_
    rintro e w1 ⟨rfl, rfl⟩
    go_wp2_with fail
    go_ret
    exact ⟨⟨_, rfl, .inr ⟨rfl, fun k hk => by omega⟩⟩, rfl⟩
  · refine (BPrev_nat h i (min i ((n : Int) - 1)).toNat (by omega)).mono ?_
    rintro e w' ⟨⟨s, rfl, hs⟩, hw⟩
    refine ⟨⟨s, rfl, ?_⟩, hw⟩
    rcases hs with ⟨j, rfl, h1, h2, h3⟩ | ⟨rfl, h1⟩
    · refine .inl ⟨j, rfl, by omega, h2, fun k k1 k2 => ?_⟩
      by_cases hk : (k : Int) < n
      · exact h3 k k1 (by omega)
      · exact on_end (by rw [h.hl]; omega)
    · refine .inr ⟨rfl, fun k hk => ?_⟩
      by_cases hk : (k : Int) < n
      · exact h1 k (by omega)
      · exact on_end (by rw [h.hl]; omega)
end Go.Proofs.YthjpflhoenljdaaDoor
