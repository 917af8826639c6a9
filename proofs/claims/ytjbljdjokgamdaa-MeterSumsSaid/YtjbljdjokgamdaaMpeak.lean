/- MeterPeaks: a count that is only a Peak's is the greatest number that came, 0 among them: the walk of the law. -/
import Derived.Test.YtjbljdjokgamdaaMnew
import Derived.Test.YtjbljdjokgamdaaAr
namespace Go.Proofs.Ytjbljdjokgamdaa
open Go.RowKit
set_option linter.unusedVariables false

/-- The greatest of the first k numbers, and 0. -/
def top (zs : List Int) : Nat → Int
  | 0 => 0
  | k + 1 => if top zs k < nth zs k then nth zs k else top zs k
theorem top_hi {zs : List Int} {k : Nat} (h : top zs k < nth zs k) : top zs (k + 1) = nth zs k := by rw [top, if_pos h]
theorem top_lo {zs : List Int} {k : Nat} (h : ¬ top zs k < nth zs k) : top zs (k + 1) = top zs k := by rw [top, if_neg h]

theorem peak_hi {t n : Int} (h : t < n) : peakS [0, t, 0] 1 n = ([0, n, 0], n, 0) := by
  simp [peakS, nth, h]
theorem peak_lo {t n : Int} (h : ¬ t < n) : peakS [0, t, 0] 1 n = ([0, t, 0], t, 0) := by
  simp [peakS, nth, h]
theorem get_mid {t : Int} : getS [0, t, 0] 1 = ([0, t, 0], t, 0) := by
  simp [getS, nth]
theorem zeros3 : zeros 3 = [0, 0, 0] := rfl

set_option maxHeartbeats 800000 in
theorem MeterPeaks_walk (A : Option Addr) (len cap : Nat) (zs : List Int) (w : World) (hz : IntsIn w A len zs) :
    Calls Try.prog 6 #[.slice A len cap] w fun e w' => e = .returned (.bool true) ∧ Below w.heap.size w w' := by
  by_cases hlen : 100 < len
  · have h0 : (100 : Int) < (len : Int) := by omega
    go_enter Try.func6, Try.ntmps6
    go_wp2_with (go_at_call 8; refine (awake_any _).mono ?_; rintro e w' ⟨rfl, hb⟩)
    go_ret
    exact ⟨rfl, hb⟩
  · have h0 : (len : Int) ≤ 100 := by omega
    clear hlen
    go_enter Try.func6, Try.ntmps6
    go_wp2_with fail
    refine (New_ok 3 _ (by decide) (by decide)).mono ?_
    rintro e w1 ⟨rfl, hm1, hs1, hb1⟩
    rw [zeros3] at hm1
    have HS1 := Lib.hid hs1
    clear hs1
    go_wp2_with fail
    go_loopw [5, 6] (fun t i wr => ∃ k : Nat, k ≤ len ∧ i = .int .i64 k ∧ t = .int .i64 (top zs k) ∧ Met wr (w.heap.size + 1) w.heap.size [0, top zs k, 0] ∧ Below w.heap.size w wr) (fun _ i _ => len - (intOf i).toNat)
    case atStart => exact ⟨0, Nat.zero_le _, rfl, rfl, hm1, hb1⟩
    case round =>
      obtain ⟨k, hk, rfl, rfl, hm, hb⟩ := hrel
      clear hm1 hb1 HS1
      by_cases hlt : k < len
      · obtain ⟨b, off, rfl, hc⟩ := (hz.below hb).at_ hlt
        have i1 : (0 : Int) ≤ (k : Int) := by omega
        have i2 : (k : Int) < (len : Int) := by omega
        by_cases hp : top zs k < nth zs k
        · have HP := Lib.hid hp
          go_wp2_with fail
          refine (Peak_S _ _ _ _ _ _ hm).mono ?_
          rw [peak_hi HP.out]
          rintro e w2 ⟨rfl, hm2, hg2⟩
          have hb2 := hb.grown hg2 hb.size (row_some (Nat.le_refl _))
          go_wp2_with fail
          refine (Get_S _ _ _ _ _ hm2).mono ?_
          rw [get_mid]
          rintro e w3 ⟨rfl, hm3, hg3⟩
          have hb3 := hb2.grown hg3 hb2.size (row_some (Nat.le_refl _))
          go_wp2_with fail
          go_roundw
          case rel => exact ⟨k + 1, by omega, by go_num, by rw [top_hi HP.out], by rw [top_hi HP.out]; exact hm3, hb3⟩
          case measure => simp [intOf]; omega
        · have HP := Lib.hid hp
          go_wp2_with fail
          refine (Peak_S _ _ _ _ _ _ hm).mono ?_
          rw [peak_lo (Int.not_lt.2 HP.out)]
          rintro e w2 ⟨rfl, hm2, hg2⟩
          have hb2 := hb.grown hg2 hb.size (row_some (Nat.le_refl _))
          go_wp2_with fail
          refine (Get_S _ _ _ _ _ hm2).mono ?_
          rw [get_mid]
          rintro e w3 ⟨rfl, hm3, hg3⟩
          have hb3 := hb2.grown hg3 hb2.size (row_some (Nat.le_refl _))
          go_wp2_with fail
          go_roundw
          case rel => exact ⟨k + 1, by omega, by go_num, by rw [top_lo (Int.not_lt.2 HP.out)], by rw [top_lo (Int.not_lt.2 HP.out)]; exact hm3, hb3⟩
          case measure => simp [intOf]; omega
      · have hz4 := hm.st.lt
        go_wp2_with fail
        refine (All_any _ _ _ _ hm (by simp)).mono ?_
        rintro e w5 ⟨rfl, hk5, hs5, hb5⟩
        have HS5 := Lib.hid hs5
        clear hs5
        have hb5' := hb.trans (hb5.mono (by omega))
        have hz5 := hb5'.size
        go_wp2_with fail
        refine (ints_b _ _ _ _ _ _ [0, top zs k, 0] [0, top zs k, 0] _ rfl rfl (RI_of_blk (hk5.alloc _)) (RI_of_blk (Blk.made w5 3 (cells [0, top zs k, 0]))) (by simp) (by simp)).mono ?_
        rintro e w6 ⟨rfl, hb6⟩
        rw [World.size_alloc] at hb6
        have hb6' := (hb5'.alloc hz5 (.cells (cells [0, top zs k, 0]) 3)).trans (hb6.mono (by omega))
        have hz6 := hb6'.size
        go_wp2_with fail
        refine (awake_any _).mono ?_
        rintro e w7 ⟨rfl, hb7⟩
        go_wp2_with fail
        go_ret
        exact ⟨rfl, hb6'.trans (hb7.mono hz6)⟩
end Go.Proofs.Ytjbljdjokgamdaa
