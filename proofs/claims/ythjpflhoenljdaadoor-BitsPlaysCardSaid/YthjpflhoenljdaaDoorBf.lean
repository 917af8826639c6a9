/- What Next comes to. -/
import Derived.Test.YthjpflhoenljdaaDoorBe
import Derived.Lib.MinMax
namespace Go.Proofs.YthjpflhoenljdaaDoor
open Go.RowKit
set_option linter.unusedVariables false

/-- s is the first bit that is on and no less than i; -1: there is none. -/
def IsNext (r : List Bool) (i s : Int) : Prop :=
  (∃ j : Nat, s = j ∧ i ≤ (j : Int) ∧ on r j = true ∧ ∀ k : Nat, i ≤ (k : Int) → k < j → on r k = false) ∨ (s = -1 ∧ ∀ k : Nat, i ≤ (k : Int) → on r k = false)
theorem IsNext.uniq {r : List Bool} {i s s' : Int} (h : IsNext r i s) (h' : IsNext r i s') : s = s' := by
  rcases h with ⟨j, rfl, h1, h2, h3⟩ | ⟨rfl, h1⟩ <;> rcases h' with ⟨j', rfl, h1', h2', h3'⟩ | ⟨rfl, h1'⟩
  · rcases Nat.lt_trichotomy j j' with h | h | h
    · rw [h3' j h1 h] at h2; cases h2
    · rw [h]
    · rw [h3 j' h1' h] at h2'; cases h2'
  · rw [h1' j h1] at h2; cases h2
  · rw [h1 j' h1'] at h2'; cases h2'
  · rfl
theorem IsNext.bd {r : List Bool} {i s : Int} (h : IsNext r i s) : -1 ≤ s ∧ s < r.length := by
  rcases h with ⟨j, rfl, h1, h2, h3⟩ | ⟨rfl, h1⟩
  · refine ⟨by omega, ?_⟩
    rcases Nat.lt_or_ge j r.length with h | h
    · omega
    · rw [on_end h] at h2; cases h2
  · exact ⟨by omega, by omega⟩

/-- What the loop knows: of the words ahead of the q-th one nothing from I on is on; X is the q-th one from I on. -/
structure NextAt (r : List Bool) (I q X : Nat) : Prop where
  lt : X < 18446744073709551616
  bit : ∀ j, j < 64 → X.testBit j = (decide (I ≤ 64 * q + j) && on r (64 * q + j))
  none : ∀ k, I ≤ k → k < 64 * q → on r k = false
theorem NextAt.start {r : List Bool} {I : Nat} : NextAt r I (I / 64) (word r (I / 64) / 2 ^ (I % 64) * 2 ^ (I % 64)) := by
  have hw := word_lt r (I / 64)
  have hle : word r (I / 64) / 2 ^ (I % 64) * 2 ^ (I % 64) ≤ word r (I / 64) := Nat.div_mul_le_self _ _
  refine ⟨Nat.lt_of_le_of_lt hle hw, fun j hj => ?_, fun k h1 h2 => by omega⟩
  rw [Nat.testBit_mul_two_pow, shr_bit, word_bit]
  by_cases h : I % 64 ≤ j
  · rw [show j - I % 64 + I % 64 = j by omega]
    simp [h, hj, show I ≤ 64 * (I / 64) + j by omega]
  · simp [h, show ¬ I ≤ 64 * (I / 64) + j by omega]
theorem NextAt.hit {r : List Bool} {I q X : Nat} (h : NextAt r I q X) (h0 : X ≠ 0) : IsNext r I ((64 * q + Lib.ctz 64 X : Nat) : Int) := by
  obtain ⟨c1, c2, c3⟩ := ctz_spec h0 h.lt
  have hb := h.bit _ c1
  rw [c2] at hb
  simp at hb
  refine .inl ⟨_, rfl, by omega, hb.2, fun k k1 k2 => ?_⟩
  by_cases hk : k < 64 * q
  · exact h.none k (by omega) hk
  · have hb2 := h.bit (k - 64 * q) (by omega)
    rw [c3 _ (by omega), show 64 * q + (k - 64 * q) = k by omega] at hb2
    simp at hb2
    exact hb2 (by omega)
theorem NextAt.past {r : List Bool} {I q : Nat} (h : NextAt r I q 0) : ∀ k, I ≤ k → k < 64 * (q + 1) → on r k = false := fun k k1 k2 => by
  by_cases hk : k < 64 * q
  · exact h.none k (by omega) hk
  · have hb2 := h.bit (k - 64 * q) (by omega)
    rw [Nat.zero_testBit, show 64 * q + (k - 64 * q) = k by omega] at hb2
    simp at hb2
    exact hb2 k1
theorem NextAt.step {r : List Bool} {I q : Nat} (h : NextAt r I q 0) (hq : I ≤ 64 * (q + 1)) : NextAt r I (q + 1) (word r (q + 1)) :=
  ⟨word_lt _ _, fun j hj => by rw [word_bit]; simp [hj, show I ≤ 64 * (q + 1) + j by omega], h.past⟩

set_option maxRecDepth 100000 in
set_option maxHeartbeats 800000 in
theorem BNext_nat {w : World} {p g cap n : Nat} {r : List Bool} (h : BM w p g cap n r) (hT : Tab w) (i : Int) (I : Nat) (hi : (max i 0) = (I : Int)) :
    Calls Tryd.prog 13 #[.pointer (some ⟨p, 0, none⟩), .int .i64 i] w fun e w' => (∃ s : Int, e = .returned (.int .i64 s) ∧ IsNext r I s) ∧ w = w' := by
  have c1 := h.c1
  have hn := h.hn
  have hlen := BLen_ok h
  by_cases hI : n ≤ I
  · have i1 : (n : Int) ≤ (I : Int) := by omega
    go_enter Tryd.func13, Tryd.ntmps13
    go_wp2_with fail
    refine hlen.mono ?_
    rintro e w1 ⟨rfl, rfl⟩
    go_wp2_with fail
    go_ret
    exact ⟨⟨_, rfl, .inr ⟨rfl, fun k hk => on_end (by rw [h.hl]; omega)⟩⟩, rfl⟩
  · have i1 : (I : Int) < (n : Int) := by omega
    have i2 : (n : Int) ≤ 65536 := by omega
    have i0 : (0 : Int) ≤ (I : Int) := by omega
    have hIw : I / 64 < nw n := by unfold nw; omega
    have hnw : n ≤ 64 * nw n := by unfold nw; omega
    have hnw2 : 64 * nw n ≤ n + 63 := by unfold nw; omega
    have cg := h.hg.cell hIw
    have hst := NextAt.start (r := r) (I := I)
    have k1 : ((word r (I / 64) : Nat) : Int) / 2 ^ (I % 64) = ((word r (I / 64) / 2 ^ (I % 64) : Nat) : Int) := by
      rw [Int.natCast_ediv]; congr 1
    have k2 := shl_wrap (word r (I / 64) / 2 ^ (I % 64)) (I % 64)
    rw [Nat.mod_eq_of_lt hst.lt] at k2
    generalize word r (I / 64) / 2 ^ (I % 64) * 2 ^ (I % 64) = X0 at *
    generalize word r (I / 64) / 2 ^ (I % 64) = Y0 at *
    generalize hm : nw n = M at *
    have HI := Lib.hid hI
    clear hI
    go_enter Tryd.func13, Tryd.ntmps13
    go_wp2_with fail
    refine hlen.mono ?_
    rintro e w1 ⟨rfl, rfl⟩
    go_wp2_with fail
    go_loop [5, 6] (fun x k => ∃ q X : Nat, I / 64 ≤ q ∧ q < M ∧ k = .int .i64 q ∧ x = .int .u64 (X : Nat) ∧ NextAt r I q X) (fun _ k => M - (intOf k).toNat)
    case atStart => exact ⟨I / 64, X0, Nat.le_refl _, hIw, by go_num, by rw [k2], hst⟩
    case round =>
      obtain ⟨q, X, hq1, hq, rfl, rfl, hat⟩ := hrel
      have j1 : (q : Int) ≤ 1024 := by omega
      have j0 : (0 : Int) ≤ (q : Int) := by omega
      by_cases h0 : X = 0
      · subst h0
        by_cases hlast : q + 1 = M
        · have t1 : ((q : Int) + 1 == (M : Int)) = true := by simp; omega
          have hnone : ∀ k, I ≤ k → on r k = false := fun k hk => by
            by_cases hk2 : k < 64 * (q + 1)
            · exact hat.past k hk hk2
            · exact on_end (by rw [h.hl]; omega)
          clear hlast
          go_wp2_with fail
          go_ret
          exact ⟨⟨_, rfl, .inr ⟨rfl, fun k hk => hnone k (by omega)⟩⟩, rfl⟩
        · have t1 : ((q : Int) + 1 == (M : Int)) = false := by simp; omega
          have cq := h.hg.cell (k := q + 1) (by omega)
          have t2 : (q : Int) + 1 < (M : Int) := by omega
          have t3 : ((q : Int) + 1).toNat = q + 1 := by omega
          have hst2 := hat.step (by omega)
          have hqm : q + 1 < M := by omega
          clear hlast
          go_wp2_with fail
          go_round
          case rel => exact ⟨q + 1, _, by omega, hqm, by go_num, rfl, hst2⟩
          case measure => simp [intOf]; omega
      · have hc := Ctz_ok X hat.lt h0 w hT
        have hh := hat.hit h0
        have hcl := (ctz_spec h0 hat.lt).1
        have t0 : ((X : Int) != 0) = true := by simp; omega
        have t3 : (q : Int) * 64 + ((Lib.ctz 64 X : Nat) : Int) = ((64 * q + Lib.ctz 64 X : Nat) : Int) := by omega
        have t4 : ((64 * q + Lib.ctz 64 X : Nat) : Int) ≤ 70000 := by omega
        have t5 : IntKind.i64.wrap ((64 * q + Lib.ctz 64 X : Nat) : Int) = ((64 * q + Lib.ctz 64 X : Nat) : Int) := IntWalk.i64_in _ (by omega)
        clear hcl
        generalize 64 * q + Lib.ctz 64 X = Z at *
        generalize Lib.ctz 64 X = C at *
        clear h0
        go_wp2_with fail
        refine hc.mono ?_
        rintro e w1 ⟨rfl, rfl⟩
        go_wp2_with fail
        go_ret
        exact ⟨⟨_, rfl, hh⟩, rfl⟩

/-- NEXT, AT EVERY NUMBER. -/
theorem BNext_any {w : World} {p g cap n : Nat} {r : List Bool} (h : BM w p g cap n r) (hT : Tab w) (i : Int) :
    Calls Tryd.prog 13 #[.pointer (some ⟨p, 0, none⟩), .int .i64 i] w fun e w' => (∃ s : Int, e = .returned (.int .i64 s) ∧ IsNext r i s) ∧ w = w' := by
  refine (BNext_nat h hT i (max i 0).toNat (by omega)).mono ?_
  rintro e w' ⟨⟨s, rfl, hs⟩, hw⟩
  refine ⟨⟨s, rfl, ?_⟩, hw⟩
  rcases hs with ⟨j, rfl, h1, h2, h3⟩ | ⟨rfl, h1⟩
  · exact .inl ⟨j, rfl, by omega, h2, fun k k1 k2 => h3 k (by omega) k2⟩
  · exact .inr ⟨rfl, fun k hk => h1 k (by omega)⟩
end Go.Proofs.YthjpflhoenljdaaDoor
