/- What Nth comes to. -/
import Derived.Test.YthjpflhoenljdaaDoorBg
import Derived.WalkMore
import Derived.ScopeJumps
namespace Go.Proofs.YthjpflhoenljdaaDoor
open Go.RowKit
set_option linter.unusedVariables false

/-- s is the n-th bit that is on; -1: there is none. -/
def IsNth (r : List Bool) (n s : Int) : Prop :=
  (∃ j : Nat, s = j ∧ on r j = true ∧ ((cnt r j : Nat) : Int) = n) ∨ (s = -1 ∧ ∀ j : Nat, on r j = true → ((cnt r j : Nat) : Int) ≠ n)
theorem IsNth.uniq {r : List Bool} {n s s' : Int} (h : IsNth r n s) (h' : IsNth r n s') : s = s' := by
  rcases h with ⟨j, rfl, h1, h2⟩ | ⟨rfl, h1⟩ <;> rcases h' with ⟨j', rfl, h1', h2'⟩ | ⟨rfl, h1'⟩
  · rcases Nat.lt_trichotomy j j' with h | h | h
    · have := cnt_lt h h1; omega
    · rw [h]
    · have := cnt_lt h h1'; omega
  · exact absurd h2 (h1' j h1)
  · exact absurd h2' (h1 j' h1')
  · rfl
theorem IsNth.bd {r : List Bool} {n s : Int} (h : IsNth r n s) : -1 ≤ s ∧ s < r.length := by
  rcases h with ⟨j, rfl, h1, h2⟩ | ⟨rfl, h1⟩
  · refine ⟨by omega, ?_⟩
    rcases Nat.lt_or_ge j r.length with h | h
    · omega
    · rw [on_end h] at h1; cases h1
  · exact ⟨by omega, by omega⟩

/-- X is the word W without its c lowest bits that are on. -/
structure Less (W c X : Nat) : Prop where
  lt : X < 18446744073709551616
  pop : ∀ p, p ≤ 64 → popN X p = popN W p - c
theorem pop_zero (m : Nat) : popN 0 m = 0 := by
  induction m with
  | zero => rfl
  | succ m ih => rw [popN_succ, ih]; simp
theorem pop_low {X : Nat} {z p : Nat} (h : ∀ j, j < z → X.testBit j = false) (hp : p ≤ z) : popN X p = 0 := by
  rw [popN_congr (y := 0) (fun i hi => by rw [h i (by omega), Nat.zero_testBit]), pop_zero]
theorem Less.ne {W c X : Nat} (h : Less W c X) (hc : c < popN W 64) : X ≠ 0 := by
  rintro rfl
  have := h.pop 64 (Nat.le_refl _)
  rw [pop_zero] at this
  omega
theorem Less.step {W c X : Nat} (h : Less W c X) (hc : c < popN W 64) : Less W (c + 1) (X &&& (X - 1)) := by
  have h0 := h.ne hc
  obtain ⟨z1, z2, z3⟩ := ctz_spec h0 h.lt
  refine ⟨Nat.lt_of_le_of_lt Nat.and_le_left h.lt, fun p hp => ?_⟩
  have h1 := pop_drop h0 h.lt p
  have h2 := h.pop p hp
  by_cases hz : Lib.ctz 64 X < p
  · rw [if_pos hz] at h1; omega
  · rw [if_neg hz] at h1
    rw [pop_low z3 (by omega)] at h1 h2
    omega
theorem Less.hit {W c X : Nat} (h : Less W c X) (hc : c < popN W 64) : Lib.ctz 64 X < 64 ∧ popN W (Lib.ctz 64 X) = c ∧ W.testBit (Lib.ctz 64 X) = true := by
  have h0 := h.ne hc
  obtain ⟨z1, z2, z3⟩ := ctz_spec h0 h.lt
  have h1 := h.pop _ (show Lib.ctz 64 X + 1 ≤ 64 by omega)
  have h2 := h.pop _ (show Lib.ctz 64 X ≤ 64 by omega)
  rw [pop_low z3 (Nat.le_refl _)] at h2
  rw [popN_succ, pop_low z3 (Nat.le_refl _), z2, popN_succ] at h1
  generalize Lib.ctz 64 X = z at *
  cases hb : W.testBit z
  · rw [hb] at h1; simp at h1; omega
  · rw [hb] at h1; simp at h1
    exact ⟨z1, by omega, rfl⟩
theorem Less.found {r : List Bool} {q c X : Nat} (h : Less (word r q) c X) (hc : c < popN (word r q) 64) : IsNth r ((cnt r (64 * q) + c : Nat) : Int) ((64 * q + Lib.ctz 64 X : Nat) : Int) := by
  obtain ⟨z1, z2, z3⟩ := h.hit hc
  rw [word_bit] at z3
  simp [z1] at z3
  refine .inl ⟨_, rfl, z3, ?_⟩
  rw [← pop_word r q _ (by omega), z2]

set_option maxRecDepth 100000 in
set_option maxHeartbeats 1600000 in
theorem BNth_nat {w : World} {p g cap n : Nat} {r : List Bool} (h : BM w p g cap n r) (hT : Tab w) (N : Nat) (hN : N ≤ 9223372036854775807) :
    Calls Tryd.prog 17 #[.pointer (some ⟨p, 0, none⟩), .int .i64 (N : Nat)] w fun e w' => (∃ s : Int, e = .returned (.int .i64 s) ∧ IsNth r N s) ∧ w = w' := by
  have c1 := h.c1
  have hn := h.hn
  have i0 : (0 : Int) ≤ (N : Int) := by omega
  have i1 : (N : Int) ≤ 9223372036854775807 := by omega
  have hnw : n ≤ 64 * nw n := by unfold nw; omega
  have hnw2 : 64 * nw n ≤ n + 63 := by unfold nw; omega
  generalize hm : nw n = M at *
  have i2 : (M : Int) ≤ 1024 := by omega
  have hg : ∀ k, k < M → w.cell? ⟨g, k, none⟩ = some (.int .u64 (word r k : Nat)) := fun k hk => h.hg.cell (by rw [hm]; exact hk)
  have HG := Lib.hid hg
  clear hm hg
  go_enter Tryd.func17, Tryd.ntmps17
  go_wp2_with fail
  go_step3
  go_wp2_with fail
  go_step3
  go_wp2_with fail
  go_loop [1, 19] (fun a i => ∃ q N' : Nat, q ≤ M ∧ i = .int .i64 q ∧ a = .int .i64 (N' : Nat) ∧ N = cnt r (64 * q) + N') (fun _ i => M - (intOf i).toNat)
  case atStart => exact ⟨0, N, Nat.zero_le _, rfl, rfl, by simp [cnt]⟩
  case round =>
    obtain ⟨q, N', hq, rfl, rfl, hNN⟩ := hrel
    have hN' : N' ≤ N := by omega
    have l1 : (N' : Int) ≤ 9223372036854775807 := by omega
    have l0 : (0 : Int) ≤ (N' : Int) := by omega
    have HNN := Lib.hid hNN
    clear hNN
    by_cases hlt : q < M
    · have cg := HG.out q hlt
      have j1 : (q : Int) < (M : Int) := by omega
      have j0 : (0 : Int) ≤ (q : Int) := by omega
      have hon := Ones_ok (word r q) (word_lt r q) w
      have hpw := pop_word r q 64 (Nat.le_refl _)
      rw [show 64 * q + 64 = 64 * (q + 1) by omega] at hpw
      have hpl := popN_le (word r q) 64
      have hless : Less (word r q) 0 (word r q) := ⟨word_lt r q, fun p hp => by omega⟩
      have hfd : ∀ X, Less (word r q) N' X → N' < popN (word r q) 64 → IsNth r ((cnt r (64 * q) + N' : Nat) : Int) ((64 * q + Lib.ctz 64 X : Nat) : Int) := fun X h1 h2 => h1.found h2
      rw [← HNN.out] at hfd
      have HPW := Lib.hid hpw
      clear hpw
      generalize word r q = WQ at *
      by_cases hge : popN WQ 64 ≤ N'
      · have t1 : ((popN WQ 64 : Nat) : Int) ≤ (N' : Int) := by omega
        have t2 : (N' : Int) - ((popN WQ 64 : Nat) : Int) = ((N' - popN WQ 64 : Nat) : Int) := by omega
        have t3 : IntKind.i64.wrap ((N' - popN WQ 64 : Nat) : Int) = ((N' - popN WQ 64 : Nat) : Int) := IntWalk.i64_in _ (by omega)
        have hnext : N = cnt r (64 * (q + 1)) + (N' - popN WQ 64) := by rw [← HPW.out, HNN.out]; omega
        clear hge
        have HNX := Lib.hid hnext
        clear hnext
        generalize N' - popN WQ 64 = N2 at *
        generalize popN WQ 64 = PW at *
        go_wp2_with fail
        refine hon.mono ?_
        rintro e w1 ⟨rfl, rfl⟩
        go_wp2_with fail
        go_round
        case rel => exact ⟨q + 1, N2, by omega, by go_num, rfl, HNX.out⟩
        case measure => simp [intOf]; omega
      · have hlt2 : N' < popN WQ 64 := by omega
        have t1 : (N' : Int) < ((popN WQ 64 : Nat) : Int) := by omega
        have t2 : (N' : Int) ≤ 64 := by omega
        have hfd2 := fun X h => hfd X h hlt2
        clear hge hfd HPW
        generalize hPW : popN WQ 64 = PW at *
        have HP := Lib.hid hPW
        clear hPW
        go_wp2_with fail
        refine hon.mono ?_
        rintro e w1 ⟨rfl, rfl⟩
        go_wp2_with fail
        go_loop [6, 33] (fun x i => ∃ c X : Nat, c ≤ N' ∧ i = .int .i64 c ∧ x = .int .u64 (X : Nat) ∧ Less WQ c X) (fun _ i => N' - (intOf i).toNat)
        case atStart => exact ⟨0, WQ, Nat.zero_le _, rfl, rfl, hless⟩
        case round =>
          obtain ⟨c, X, hc, rfl, rfl, hL⟩ := hrel
          have hX0 := hL.ne (by rw [HP.out]; omega)
          have hXl := hL.lt
          by_cases hcl : c < N'
          · have t3 : (c : Int) < (N' : Int) := by omega
            have t4 : IntKind.u64.wrap ((X : Int) - 1) = ((X - 1 : Nat) : Int) := by rw [IntKind.wrap_u64]; omega
            have t5 := bits_and_u64_nat X (X - 1) hXl (by omega)
            have hst := hL.step (by rw [HP.out]; omega)
            generalize X &&& (X - 1) = X2 at *
            generalize X - 1 = X1 at *
            clear hX0 hXl
            go_wp2_with fail
            go_round
            case rel => exact ⟨c + 1, X2, by omega, by go_num, rfl, hst⟩
            case measure => simp [intOf]; omega
          · obtain rfl : c = N' := by omega
            have hfx := hfd2 X hL
            have hcz := Ctz_ok X hXl hX0 w hT
            have hz := (ctz_spec hX0 hXl).1
            have t3 : (q : Int) * 64 + ((Lib.ctz 64 X : Nat) : Int) = ((64 * q + Lib.ctz 64 X : Nat) : Int) := by omega
            have t4 : ((64 * q + Lib.ctz 64 X : Nat) : Int) ≤ 70000 := by omega
            have t5 : IntKind.i64.wrap ((64 * q + Lib.ctz 64 X : Nat) : Int) = ((64 * q + Lib.ctz 64 X : Nat) : Int) := IntWalk.i64_in _ (by omega)
            clear hz hX0 hXl
            generalize 64 * q + Lib.ctz 64 X = Z at *
            generalize Lib.ctz 64 X = C at *
            go_wp2_with fail
            refine hcz.mono ?_
            rintro e w1 ⟨rfl, rfl⟩
            go_wp2_with fail
            try simp only [Exit.noGoto_ret]
            go_ret
            exact ⟨⟨_, rfl, hfx⟩, rfl⟩
    · obtain rfl : q = M := by omega
      go_wp2_with fail
      go_ret
      refine ⟨⟨_, rfl, .inr ⟨rfl, fun j hj he => ?_⟩⟩, rfl⟩
      have h1 : j < n := by
        rcases Nat.lt_or_ge j n with h2 | h2
        · exact h2
        · rw [on_end (by rw [h.hl]; exact h2)] at hj; cases hj
      have h2 := cnt_lt (show j < 64 * q by omega) hj
      have := HNN.out
      omega
/-- NTH, AT EVERY NUMBER. -/
theorem BNth_any {w : World} {p g cap n : Nat} {r : List Bool} (h : BM w p g cap n r) (hT : Tab w) (i : Int) (hi : i ≤ 9223372036854775807) :
    Calls Tryd.prog 17 #[.pointer (some ⟨p, 0, none⟩), .int .i64 i] w fun e w' => (∃ s : Int, e = .returned (.int .i64 s) ∧ IsNth r i s) ∧ w = w' := by
  by_cases h0 : i < 0
  · go_enter Tryd.func17, Tryd.ntmps17
    go_wp2_with fail
    go_step3
    go_wp2_with fail
    try rw [Exit.noGoto_ret]
    go_ret
    exact ⟨⟨_, rfl, .inr ⟨rfl, fun j _ => by omega⟩⟩, rfl⟩
  · obtain ⟨N, rfl⟩ := Int.eq_ofNat_of_zero_le (show 0 ≤ i by omega)
    exact BNth_nat h hT N (by omega)
end Go.Proofs.YthjpflhoenljdaaDoor
