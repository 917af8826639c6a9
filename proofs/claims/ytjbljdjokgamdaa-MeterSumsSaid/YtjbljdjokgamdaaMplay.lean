/- MeterPlays: what each call tells, and which counts there are then, and what a Reset tells and does: the walk of the law. -/
import Derived.Test.YtjbljdjokgamdaaMpeak
namespace Go.Proofs.Ytjbljdjokgamdaa
open Go.RowKit
set_option linter.unusedVariables false

/-- The counts behind k calls, a Reset ahead of call number t among them. -/
def played (n : Nat) (t : Int) (zs : List Act3) : Nat → List Int
  | 0 => zeros n
  | k + 1 => (doesS (if (k : Int) = t then zeros n else played n t zs k) (act zs k).o (act zs k).i (act zs k).n).1
theorem played_length (n : Nat) (t : Int) (zs : List Act3) (k : Nat) : (played n t zs k).length = n := by
  induction k with
  | zero => exact zeros_length n
  | succ k ih =>
    rw [played, doesS_length]
    split
    · exact zeros_length n
    · exact ih
theorem played_at {n : Nat} {t : Int} {zs : List Act3} {k : Nat} (h : (k : Int) = t) : played n t zs (k + 1) = (doesS (zeros n) (act zs k).o (act zs k).i (act zs k).n).1 := by rw [played, if_pos h]
theorem played_off {n : Nat} {t : Int} {zs : List Act3} {k : Nat} (h : ¬ (k : Int) = t) : played n t zs (k + 1) = (doesS (played n t zs k) (act zs k).o (act zs k).i (act zs k).n).1 := by rw [played, if_neg h]

theorem ne_self (x : Int) : (x != x) = false := by simp
theorem not_decide_self {α : Type} [DecidableEq α] (x : α) : (!decide (x = x)) = false := by simp

set_option maxHeartbeats 1600000 in
theorem MeterPlays_walk (n : Int) (A : Option Addr) (len cap : Nat) (zs : List Act3) (t : Int) (w : World) (hz : ActsIn w A len zs) :
    Calls Try.prog 5 #[.int .i64 n, .slice A len cap, .int .i64 t] w fun e w' => e = .returned (.bool true) ∧ Below w.heap.size w w' := by
  by_cases hn : 1 ≤ n ∧ n ≤ 60 ∧ (len : Int) ≤ 150
  · obtain ⟨m, rfl⟩ := Int.eq_ofNat_of_zero_le (show 0 ≤ n by omega)
    have a1 : (1 : Int) ≤ (m : Int) := hn.1
    have a2 : (m : Int) ≤ 60 := hn.2.1
    have a3 : (len : Int) ≤ 150 := hn.2.2
    clear hn
    have hmk := make_ints m (by omega)
    go_enter Try.func5, Try.ntmps5
    go_wp2_with fail
    refine (New_ok m _ (by omega) (by omega)).mono ?_
    rintro e w1 ⟨rfl, hm1, hs1, hb1⟩
    have HS1 := Lib.hid hs1
    clear hs1
    have hz1 := hm1.st.lt
    go_wp2_with fail
    have hk1 := Blk.made w1 3 (cells (zeros m))
    have hm1' := hm1.alloc (.cells (cells (zeros m)) 3)
    have hb1' := hb1.alloc hb1.size (.cells (cells (zeros m)) 3)
    clear hm1 hb1
    go_loopw [9, 10] (fun g i wr => ∃ (k r : Nat), k ≤ len ∧ i = .int .i64 k ∧ g = .slice (some ⟨r, 0, none⟩) m m ∧ w.heap.size + 1 < r ∧ Blk wr r 3 (cells (played m t zs k)) ∧ Met wr (w.heap.size + 1) w.heap.size (played m t zs k) ∧ Below w.heap.size w wr) (fun _ i _ => len - (intOf i).toNat)
    case atStart => exact ⟨0, w1.heap.size, Nat.zero_le _, rfl, rfl, hz1, hk1, hm1', hb1'⟩
    case round =>
      obtain ⟨k, r, hk, rfl, rfl, hr, hkr, hm, hb⟩ := hrel
      clear hm1' hb1' hk1 HS1 hz1
      have hrl := hkr.lt
      have hpl := Lib.hid (played_length m t zs k)
      by_cases hlt : k < len
      · have i1 : (0 : Int) ≤ (k : Int) := by omega
        have i2 : (k : Int) < (len : Int) := by omega
        by_cases ht : (k : Int) = t
        · have t1 : ((k : Int) == t) = true := by simp [ht]
          have HT := Lib.hid ht
          clear ht
          go_wp2_with fail
          refine (Reset_any _ _ _ _ hm (by rw [hpl.out]; omega)).mono ?_
          rw [hpl.out]
          rintro e w2 ⟨rfl, hk2, hs2, hm2, hg2⟩
          have HS2 := Lib.hid hs2
          clear hs2
          have hb2 := hb.grown hg2 hb.size (row_some (Nat.le_refl _))
          have hkr2 := hkr.grown hg2 (by simp; omega)
          go_wp2_with fail
          refine (ints_b _ _ _ _ _ _ (played m t zs k) (played m t zs k) _ hpl.out hpl.out (RI_of_blk hk2) (RI_of_blk hkr2) (by omega) (by omega)).mono ?_
          rintro e w3 ⟨rfl, hb3⟩
          have hb3' := hb2.trans (hb3.mono hb2.size)
          have hm3 := hm2.below hb3 hm2.st.lt hm2.row.lt
          have hz3 := hm3.st.lt
          have hk6 := Blk.made w3 3 (cells (zeros m))
          have hm6 := hm3.alloc (.cells (cells (zeros m)) 3)
          have hb6 := hb3'.alloc hb3'.size (.cells (cells (zeros m)) 3)
          have HL := Lib.hid (zeros_length m)
          clear hb2 hkr2 hk2 hg2 hm2 hb3 hb3' hm3
          obtain ⟨b, off, hA', c0, c1, c2⟩ := (hz.below hb6).at_ hlt
          subst hA'
          go_wp2_with fail
          refine (does_any _ _ _ _ _ _ _ hm6).mono ?_
          rintro e w4 ⟨rfl, hm4, hg4⟩
          have hb4 := hb6.grown hg4 hb6.size (row_some (Nat.le_refl _))
          have hk4 := hk6.grown hg4 (by simp; omega)
          clear c0 c1 c2
          obtain ⟨b', off', hA', c0, c1, c2⟩ := (hz.below hb4).at_ hlt
          obtain ⟨rfl, rfl⟩ : b = b' ∧ off = off' := by simpa using hA'
          clear hA'
          go_wp2_with fail
          refine (Play_any _ _ _ _ _ _ _ _ HL.out hk4).mono ?_
          rintro e w5 ⟨rfl, hk5, hg5⟩
          have hb5 := hb4.grown hg5 hb4.size (row_some (by omega))
          have hm5 := hm4.grown hg5 (by simp; omega) (by simp; omega)
          go_wp2_with fail
          go_roundw
          case rel => exact ⟨k + 1, _, by omega, by go_num, rfl, hz3, by rw [played_at HT.out]; exact hk5, by rw [played_at HT.out]; exact hm5, hb5⟩
          case measure => simp [intOf]; omega
        · have t1 : ((k : Int) == t) = false := by simp [ht]
          have HT := Lib.hid ht
          clear ht
          have HL := hpl
          have hk6 := hkr
          have hm6 := hm
          have hb6 := hb
          obtain ⟨b, off, hA', c0, c1, c2⟩ := (hz.below hb6).at_ hlt
          subst hA'
          go_wp2_with fail
          refine (does_any _ _ _ _ _ _ _ hm6).mono ?_
          rintro e w4 ⟨rfl, hm4, hg4⟩
          have hb4 := hb6.grown hg4 hb6.size (row_some (Nat.le_refl _))
          have hk4 := hk6.grown hg4 (by simp; omega)
          clear c0 c1 c2
          obtain ⟨b', off', hA', c0, c1, c2⟩ := (hz.below hb4).at_ hlt
          obtain ⟨rfl, rfl⟩ : b = b' ∧ off = off' := by simpa using hA'
          clear hA'
          go_wp2_with fail
          refine (Play_any _ _ _ _ _ _ _ _ HL.out hk4).mono ?_
          rintro e w5 ⟨rfl, hk5, hg5⟩
          have hb5 := hb4.grown hg5 hb4.size (row_some (by omega))
          have hm5 := hm4.grown hg5 (by simp; omega) (by simp; omega)
          go_wp2_with fail
          go_roundw
          case rel => exact ⟨k + 1, _, by omega, by go_num, rfl, hr, by rw [played_off HT.out]; exact hk5, by rw [played_off HT.out]; exact hm5, hb5⟩
          case measure => simp [intOf]; omega
      · clear hz hpl
        obtain ⟨wo, rfl⟩ : ∃ wo : World, wo = wr := ⟨_, rfl⟩
        have hPl := played_length m t zs k
        generalize played m t zs k = P at hkr hm hPl
        have HP := Lib.hid hPl
        clear hPl
        go_wp2_with fail
        refine (All_any _ _ _ _ hm (by rw [HP.out]; omega)).mono ?_
        rw [HP.out]
        rintro e w2 ⟨rfl, hk2, hs2, hb2⟩
        have HS2 := Lib.hid hs2
        clear hs2
        have hb2' := hb.trans (hb2.mono hb.size)
        have hkr2 := hkr.below hb2 hrl
        have hm2 := hm.below hb2 hm.st.lt hm.row.lt
        go_wp2_with fail
        refine (ints_b _ _ _ _ _ _ P P _ HP.out HP.out (RI_of_blk hk2) (RI_of_blk hkr2) (by omega) (by omega)).mono ?_
        rintro e w3 ⟨rfl, hb3⟩
        have hk3 := hk2.below hb3 hk2.lt
        have hkr3 := hkr2.below hb3 hkr2.lt
        have hm3 := hm2.below hb3 hm2.st.lt hm2.row.lt
        have hb3' := hb2'.trans (hb3.mono hb2'.size)
        clear hb2 hb2' hkr2 hk2 hm2 hb3 hb hkr hm
        go_wp2_with fail
        go_loopw [16] (fun i W => ∃ (j : Nat) (ys : List Int), j ≤ m ∧ i = .int .i64 j ∧ ys.length = m ∧ Blk W wo.heap.size 3 (cells ys) ∧ Blk W r 3 (cells P) ∧ Met W (w.heap.size + 1) w.heap.size P ∧ Below w.heap.size w W) (fun i _ => m - (intOf i).toNat)
        case atStart => exact ⟨0, P, Nat.zero_le _, rfl, HP.out, hk3, hkr3, hm3, hb3'⟩
        case round =>
          obtain ⟨j, ys, hj, rfl, hys, hkq, hkr', hm', hb'⟩ := hrel
          clear hk3 hkr3 hm3 hb3'
          have HY := Lib.hid hys
          clear hys
          by_cases hjt : j < m
          · have i1 : (0 : Int) ≤ (j : Int) := by omega
            have i2 : (j : Int) < (m : Int) := by omega
            have hc : wr.cell? ⟨wo.heap.size, j, none⟩ = some (.int .i64 (nth ys j)) := by rw [hkq.cell, cells_get (by rw [HY.out]; exact hjt)]
            have hf := hkq.frozen j
            go_wp2_with fail
            go_roundw
            case rel =>
              refine ⟨j + 1, ys.set j (wrap64 (nth ys j + 1)), by omega, by go_num, by rw [List.length_set]; exact HY.out, ?_, hkr'.far (by simp; omega) _, ?_, hb'.setCell (by simp; omega) _⟩
              · have := hkq.put j (.int .i64 (wrap64 (nth ys j + 1)))
                rwa [cells_put] at this
              · exact hm'.grown (grown_put _ _ _ _) (by simp; omega) (by simp; omega)
            case measure => simp [intOf]; omega
          · go_wp2_with fail
            refine (All_any _ _ _ _ hm' (by rw [HP.out]; omega)).mono ?_
            rw [HP.out]
            rintro e w5 ⟨rfl, hk5, hs5, hb5⟩
            have HS5 := Lib.hid hs5
            clear hs5
            have hb5' := hb'.trans (hb5.mono hb'.size)
            have hkr5 := hkr'.below hb5 hkr'.lt
            have hz5 := hb5'.size
            go_wp2_with fail
            refine (ints_b _ _ _ _ _ _ P P _ HP.out HP.out (RI_of_blk hk5) (RI_of_blk hkr5) (by omega) (by omega)).mono ?_
            rintro e w6 ⟨rfl, hb6⟩
            have hb6' := hb5'.trans (hb6.mono hz5)
            have hz6 := hb6'.size
            go_wp2_with fail
            refine (awake_any _).mono ?_
            rintro e w7 ⟨rfl, hb7⟩
            go_wp2_with fail
            go_ret
            exact ⟨rfl, hb6'.trans (hb7.mono hz6)⟩
  · by_cases h1 : n < 1
    · clear hn hz
      go_enter Try.func5, Try.ntmps5
      go_wp2_with (go_at_call 8; refine (awake_any _).mono ?_; rintro e w' ⟨rfl, hb⟩)
      go_ret
      exact ⟨rfl, hb⟩
    · have h1' : (1 : Int) ≤ n := by omega
      by_cases h2 : 60 < n
      · clear hn hz h1
        go_enter Try.func5, Try.ntmps5
        go_wp2_with (go_at_call 8; refine (awake_any _).mono ?_; rintro e w' ⟨rfl, hb⟩)
        go_ret
        exact ⟨rfl, hb⟩
      · have h2' : n ≤ 60 := by omega
        have h3 : (150 : Int) < (len : Int) := by omega
        clear hn hz h1 h2
        go_enter Try.func5, Try.ntmps5
        go_wp2_with (go_at_call 8; refine (awake_any _).mono ?_; rintro e w' ⟨rfl, hb⟩)
        go_ret
        exact ⟨rfl, hb⟩
end Go.Proofs.Ytjbljdjokgamdaa
