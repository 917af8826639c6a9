/- BitsParts: the walk of the law. -/
import Derived.Test.YthjpflhoenljdaaDoorWn
namespace Go.Proofs.YthjpflhoenljdaaDoor
open Go.RowKit
set_option linter.unusedVariables false

theorem cnt_diff (r : List Bool) {a b : Nat} (h : a ≤ b) : cnt r b ≤ cnt r a + (b - a) := by
  induction b with
  | zero => obtain rfl : a = 0 := by omega
            simp
  | succ b ih =>
    by_cases e : a = b + 1
    · subst e; simp
    · have h1 := ih (by omega)
      have h2 := cnt_succ r b
      have h3 : (if on r b then 1 else 0) ≤ 1 := by split <;> omega
      omega

/-- What Range tells. -/
theorem BRange_any {w : World} {p g cap n : Nat} {r : List Bool} (h : BM w p g cap n r) (a b : Int) :
    ∃ v c : Int, Calls Tryd.prog 11 #[.pointer (some ⟨p, 0, none⟩), .int .i64 a, .int .i64 b] w (fun e w' => e = .returned (.tuple #[.int .i64 v, .int .i64 c]) ∧ w = w') ∧ ((c = 0 ∧ 0 ≤ a ∧ a ≤ b ∧ b ≤ n) ∨ (c = 10 ∧ ¬ (0 ≤ a ∧ a ≤ b ∧ b ≤ n))) := by
  by_cases hin : 0 ≤ a ∧ a ≤ b ∧ b ≤ n
  · obtain ⟨A, rfl⟩ := Int.eq_ofNat_of_zero_le hin.1
    obtain ⟨B, rfl⟩ := Int.eq_ofNat_of_zero_le (show 0 ≤ b by omega)
    exact ⟨_, _, BRange_ok h A B (by omega) (by omega), .inl ⟨rfl, hin⟩⟩
  · exact ⟨_, _, BRange_bad h a b hin, .inr ⟨rfl, hin⟩⟩

set_option maxRecDepth 1000000 in
set_option maxHeartbeats 3200000 in
theorem BitsParts_in {B : Option Addr} {c' N len : Nat} {zs : List Act2} {x0 x1 x2 x3 : Int} {w : World} (hT : Tab w) (h1 : 1 ≤ N) (h300 : N ≤ 300) (hl : len ≤ 100) (hz : ActsIn w B len zs) :
    Calls Tryd.prog 4 #[.int .i64 (N : Nat), .slice B len c', .agg #[.int .i64 x0, .int .i64 x1, .int .i64 x2, .int .i64 x3]] w fun e w' => e = .returned (.bool true) ∧ Below w.heap.size w w' := by
  have i1 : (1 : Int) ≤ (N : Int) := by omega
  have i2 : (N : Int) ≤ 300 := by omega
  have i3 : (len : Int) ≤ 100 := by omega
  have k0 := Blk.made w 36 #[.int .i64 x0, .int .i64 x1, .int .i64 x2, .int .i64 x3]
  have hb0 : Below w.heap.size w (w.alloc (.cells #[.int .i64 x0, .int .i64 x1, .int .i64 x2, .int .i64 x3] 36)) := (Below.refl _ w).alloc (Nat.le_refl _) _
  have hz0 := hz.below hb0
  have hT0 := hT.below hb0
  have hsz0 : (w.alloc (.cells #[.int .i64 x0, .int .i64 x1, .int .i64 x2, .int .i64 x3] 36)).heap.size = w.heap.size + 1 := by simp
  go_enter Tryd.func4, Tryd.ntmps4
  go_wp2_with fail
  generalize w.alloc (.cells #[.int .i64 x0, .int .i64 x1, .int .i64 x2, .int .i64 x3] 36) = w0 at *
  refine (made_ok h1 (by omega) hz0).mono ?_
  generalize w0.heap.size + 1 = P
  generalize hG : w0.heap.size = G
  have HG := Lib.hid hG
  clear hG
  rintro e w1 ⟨Q, hQ, rfl, hD, n1, n2⟩
  have hbe : Below w0.heap.size w0 w1 := hD.be
  have hT1 := hT0.below hbe
  have k1 := k0.below hbe k0.lt
  have hbw := below_ge hb0 hbe (Nat.le_refl _)
  have hrl : (playB (offs N) zs len).length = N := by rw [playB_len, offs_len]
  generalize playB (offs N) zs len = r at *
  have HRL := Lib.hid hrl
  have hm := hD.bm
  have hGw : w.heap.size ≠ G := by have := HG.out; omega
  have hGa : w.heap.size ≤ G := by have := HG.out; omega
  clear hrl hbe k0 hz0 hT0 hsz0 hD
  have q0 : w1.cell? ⟨w.heap.size, 0, none⟩ = some (.int .i64 x0) := by rw [k1.cell]; rfl
  have q1 : w1.cell? ⟨w.heap.size, 1, none⟩ = some (.int .i64 x1) := by rw [k1.cell]; rfl
  have q2 : w1.cell? ⟨w.heap.size, 2, none⟩ = some (.int .i64 x2) := by rw [k1.cell]; rfl
  have q3 : w1.cell? ⟨w.heap.size, 3, none⟩ = some (.int .i64 x3) := by rw [k1.cell]; rfl
  by_cases hin : (0 ≤ x0 ∧ x0 ≤ x1 ∧ x1 ≤ (N : Int)) ∧ (0 ≤ x1 ∧ x1 ≤ x2 ∧ x2 ≤ (N : Int))
  · obtain ⟨⟨a0, a1, a2⟩, a3, a4, a5⟩ := hin
    obtain ⟨a, ha⟩ := Int.eq_ofNat_of_zero_le a0
    obtain ⟨b, hb⟩ := Int.eq_ofNat_of_zero_le a3
    obtain ⟨c, hc⟩ := Int.eq_ofNat_of_zero_le (show 0 ≤ x2 by omega)
    have hab : a ≤ b := by omega
    have hbc : b ≤ c := by omega
    have hcN : c ≤ N := by omega
    have hr1 := BRange_ok hm a b hab (by omega)
    have hr2 := BRange_ok hm b c hbc hcN
    have hr3 := BRange_ok hm a c (by omega) hcN
    have m1 := cnt_mono r hab
    have m2 := cnt_mono r hbc
    have m3 := cnt_diff r (show a ≤ c by omega)
    have v1 : ((cnt r b - cnt r a : Nat) : Int) + ((cnt r c - cnt r b : Nat) : Int) = ((cnt r c - cnt r a : Nat) : Int) := by omega
    have v2 : ((cnt r c - cnt r a : Nat) : Int) ≤ x2 - x0 := by omega
    have v3 : ((cnt r c - cnt r a : Nat) : Int) ≤ 300 := by omega
    have v4 : IntKind.i64.wrap ((cnt r c - cnt r a : Nat) : Int) = ((cnt r c - cnt r a : Nat) : Int) := IntWalk.i64_in _ (by omega)
    have v5 : IntKind.i64.wrap (x2 - x0) = x2 - x0 := IntWalk.i64_in _ (by omega)
    have v6 : decide (x2 - x0 < ((cnt r c - cnt r a : Nat) : Int)) = false := by simp; omega
    have v7 : decide (((cnt r c - cnt r a : Nat) : Int) < 0) = false := by simp
    have v8 : IntKind.i64.wrap (((cnt r c - cnt r a : Nat) : Int) + 1) = ((cnt r c - cnt r a : Nat) : Int) + 1 := IntWalk.i64_in _ (by omega)
    have hset : ∀ I, I < N → on r I = false → cnt (r.set I true) c - cnt (r.set I true) a = (cnt r c - cnt r a) + (if a ≤ I ∧ I < c then 1 else 0) := fun I hI ho => by
      rw [cnt_set (by rw [HRL.out]; exact hI) ho, cnt_set (by rw [HRL.out]; exact hI) ho]
      by_cases e1 : I < a
      · rw [if_pos e1, if_pos (show I < c by omega), if_neg (by omega)]; omega
      · rw [if_neg e1]
        by_cases e2 : I < c
        · rw [if_pos e2, if_pos (by omega)]; omega
        · rw [if_neg e2, if_neg (by omega)]; simp
    rw [← ha, ← hb] at hr1
    rw [← hb, ← hc] at hr2
    rw [← ha, ← hc] at hr3
    have HA := Lib.hid ha
    have HC := Lib.hid hc
    clear ha hb hc m1 m2 m3
    generalize hR : cnt r c - cnt r a = R at *
    generalize cnt r b - cnt r a = R1 at *
    generalize cnt r c - cnt r b = R2 at *
    clear hR
    have hhas := BHas_any hm x3
    go_wp2_with fail
    refine hr1.mono ?_
    rintro e w2 ⟨rfl, rfl⟩
    go_wp2_with fail
    refine hr2.mono ?_
    rintro e w2 ⟨rfl, rfl⟩
    go_wp2_with fail
    refine hr3.mono ?_
    rintro e w2 ⟨rfl, rfl⟩
    cases ho : hasB r x3
    · rw [ho] at hhas
      by_cases hi : 0 ≤ x3 ∧ x3 < (N : Int)
      · obtain ⟨I, hI⟩ := Int.eq_ofNat_of_zero_le hi.1
        have hIN : I < N := by omega
        rw [hI, hasB_nat] at ho
        have hs2 := hset I hIN ho
        have hst := BSet_ok hm I hIN true
        rw [← hI] at hst
        have hh2 : hasB (r.set I true) x3 = true := by rw [hI, hasB_nat, on_set (by rw [HRL.out]; exact hIN)]; simp
        generalize r.set I true = r2 at *
        have HS2 := Lib.hid hs2
        have HH2 := Lib.hid hh2
        have HI := Lib.hid hI
        clear hset ho hi hs2 hh2 hI
        go_wp2_with fail
        refine hhas.mono ?_
        rintro e w3 ⟨rfl, rfl⟩
        go_wp2_with fail
        refine hst.mono ?_
        rintro e w3 ⟨rfl, hm3, hg3⟩
        have k3 := k1.grown hg3 (fun e => by injection e with e; exact hGw e)
        have hb3 := hbw.grown hg3 hbw.size (row_some hGa)
        have hT3 := hT.below hb3
        have p0 : w3.cell? ⟨w.heap.size, 0, none⟩ = some (.int .i64 x0) := by rw [k3.cell]; rfl
        have p2 : w3.cell? ⟨w.heap.size, 2, none⟩ = some (.int .i64 x2) := by rw [k3.cell]; rfl
        have p3 : w3.cell? ⟨w.heap.size, 3, none⟩ = some (.int .i64 x3) := by rw [k3.cell]; rfl
        have hr4 := BRange_ok hm3 a c (by omega) hcN
        rw [← HA.out, ← HC.out, HS2.out] at hr4
        have hh4 := BHas_any hm3 x3
        rw [HH2.out] at hh4
        clear q0 q1 q2 q3 k1 hm hg3
        by_cases hio : x0 ≤ x3 ∧ x3 < x2
        · rw [if_pos (by have := HA.out; have := HC.out; have := HI.out; omega)] at hr4
          push_cast at hr4
          have u1 := hio.1
          have u2 := hio.2
          clear hio
          go_wp2_with fail
          refine hr4.mono ?_
          rintro e w4 ⟨rfl, rfl⟩
          go_wp2_with fail
          refine hh4.mono ?_
          rintro e w4 ⟨rfl, rfl⟩
          go_wp2_with fail
          refine (awake_any _ hT3).mono ?_
          rintro e w9 ⟨rfl, hb9⟩
          go_wp2_with fail
          go_ret
          exact ⟨rfl, below_ge hb3 hb9 (Nat.le_refl _)⟩
        · rw [if_neg (by have := HA.out; have := HC.out; have := HI.out; omega), Nat.add_zero] at hr4
          by_cases u1 : x0 ≤ x3
          · have u2 : decide (x3 < x2) = false := by simp; omega
            clear hio
            go_wp2_with fail
            refine hr4.mono ?_
            rintro e w4 ⟨rfl, rfl⟩
            go_wp2_with fail
            refine hh4.mono ?_
            rintro e w4 ⟨rfl, rfl⟩
            go_wp2_with fail
            refine (awake_any _ hT3).mono ?_
            rintro e w9 ⟨rfl, hb9⟩
            go_wp2_with fail
            go_ret
            exact ⟨rfl, below_ge hb3 hb9 (Nat.le_refl _)⟩
          · have u2 : decide (x0 ≤ x3) = false := by simp; omega
            clear hio u1
            go_wp2_with fail
            refine hr4.mono ?_
            rintro e w4 ⟨rfl, rfl⟩
            go_wp2_with fail
            refine hh4.mono ?_
            rintro e w4 ⟨rfl, rfl⟩
            go_wp2_with fail
            refine (awake_any _ hT3).mono ?_
            rintro e w9 ⟨rfl, hb9⟩
            go_wp2_with fail
            go_ret
            exact ⟨rfl, below_ge hb3 hb9 (Nat.le_refl _)⟩
      · have hst := BSet_bad hm x3 hi true
        clear hi ho hset
        go_wp2_with fail
        refine hhas.mono ?_
        rintro e w3 ⟨rfl, rfl⟩
        go_wp2_with fail
        refine hst.mono ?_
        rintro e w3 ⟨rfl, rfl⟩
        go_wp2_with fail
        refine (awake_any _ hT1).mono ?_
        rintro e w9 ⟨rfl, hb9⟩
        go_wp2_with fail
        go_ret
        exact ⟨rfl, below_ge hbw hb9 (Nat.le_refl _)⟩
    · rw [ho] at hhas
      clear ho hset
      go_wp2_with fail
      refine hhas.mono ?_
      rintro e w3 ⟨rfl, rfl⟩
      go_wp2_with fail
      refine (awake_any _ hT1).mono ?_
      rintro e w9 ⟨rfl, hb9⟩
      go_wp2_with fail
      go_ret
      exact ⟨rfl, below_ge hbw hb9 (Nat.le_refl _)⟩
  · obtain ⟨v1, c1, hr1, hv1⟩ := BRange_any hm x0 x1
    obtain ⟨v2, c2, hr2, hv2⟩ := BRange_any hm x1 x2
    obtain ⟨v3, c3, hr3, hv3⟩ := BRange_any hm x0 x2
    have hbad : c1 = 10 ∨ (c1 = 0 ∧ c2 = 10) := by
      rcases hv1 with ⟨h1, h1'⟩ | ⟨h1, h1'⟩
      · rcases hv2 with ⟨h2, h2'⟩ | ⟨h2, h2'⟩
        · exact absurd ⟨h1', h2'⟩ hin
        · exact .inr ⟨h1, h2⟩
      · exact .inl h1
    clear hin hv1 hv2 hv3
    rcases hbad with rfl | ⟨rfl, rfl⟩
    · go_wp2_with fail
      refine hr1.mono ?_
      rintro e w2 ⟨rfl, rfl⟩
      go_wp2_with fail
      refine hr2.mono ?_
      rintro e w2 ⟨rfl, rfl⟩
      go_wp2_with fail
      refine hr3.mono ?_
      rintro e w2 ⟨rfl, rfl⟩
      go_wp2_with fail
      refine (awake_any _ hT1).mono ?_
      rintro e w9 ⟨rfl, hb9⟩
      go_wp2_with fail
      go_ret
      exact ⟨rfl, below_ge hbw hb9 (Nat.le_refl _)⟩
    · go_wp2_with fail
      refine hr1.mono ?_
      rintro e w2 ⟨rfl, rfl⟩
      go_wp2_with fail
      refine hr2.mono ?_
      rintro e w2 ⟨rfl, rfl⟩
      go_wp2_with fail
      refine hr3.mono ?_
      rintro e w2 ⟨rfl, rfl⟩
      go_wp2_with fail
      refine (awake_any _ hT1).mono ?_
      rintro e w9 ⟨rfl, hb9⟩
      go_wp2_with fail
      go_ret
      exact ⟨rfl, below_ge hbw hb9 (Nat.le_refl _)⟩

set_option maxRecDepth 100000 in
theorem BitsParts_walk (n : Int) (B : Option Addr) (len lcap : Nat) (zs : List Act2) (x0 x1 x2 x3 : Int) (w : World) (hT : Tab w) (bn : -9223372036854775808 ≤ n ∧ n ≤ 9223372036854775807) (hz : ActsIn w B len zs)
    (b0 : -9223372036854775808 ≤ x0 ∧ x0 ≤ 9223372036854775807) (b1 : -9223372036854775808 ≤ x1 ∧ x1 ≤ 9223372036854775807) (b2 : -9223372036854775808 ≤ x2 ∧ x2 ≤ 9223372036854775807) (b3 : -9223372036854775808 ≤ x3 ∧ x3 ≤ 9223372036854775807) :
    Calls Tryd.prog 4 #[.int .i64 n, .slice B len lcap, .agg #[.int .i64 x0, .int .i64 x1, .int .i64 x2, .int .i64 x3]] w fun e w' => e = .returned (.bool true) ∧ Below w.heap.size w w' := by
  have hb0 : Below w.heap.size w (w.alloc (.cells #[.int .i64 x0, .int .i64 x1, .int .i64 x2, .int .i64 x3] 36)) := (Below.refl _ w).alloc (Nat.le_refl _) _
  have hT0 := hT.below hb0
  by_cases h1 : 1 ≤ n
  · by_cases h2 : n ≤ 300
    · by_cases h3 : (len : Int) ≤ 100
      · obtain ⟨N, rfl⟩ := Int.eq_ofNat_of_zero_le (show 0 ≤ n by omega)
        exact BitsParts_in hT (by omega) (by omega) (by omega) hz
      · have h3' : 100 < (len : Int) := by omega
        clear h3
        go_enter Tryd.func4, Tryd.ntmps4
        go_wp2_with fail
        refine (awake_any _ hT0).mono ?_
        rintro e w9 ⟨rfl, hb9⟩
        go_wp2_with fail
        go_ret
        exact ⟨rfl, below_ge hb0 hb9 (Nat.le_refl _)⟩
    · have h2' : 300 < n := by omega
      clear h2
      go_enter Tryd.func4, Tryd.ntmps4
      go_wp2_with fail
      refine (awake_any _ hT0).mono ?_
      rintro e w9 ⟨rfl, hb9⟩
      go_wp2_with fail
      go_ret
      exact ⟨rfl, below_ge hb0 hb9 (Nat.le_refl _)⟩
  · have h1' : n < 1 := by omega
    clear h1
    go_enter Tryd.func4, Tryd.ntmps4
    go_wp2_with fail
    refine (awake_any _ hT0).mono ?_
    rintro e w9 ⟨rfl, hb9⟩
    go_wp2_with fail
    go_ret
    exact ⟨rfl, below_ge hb0 hb9 (Nat.le_refl _)⟩
end Go.Proofs.YthjpflhoenljdaaDoor
