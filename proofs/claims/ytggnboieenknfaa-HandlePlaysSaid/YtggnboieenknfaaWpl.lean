/- HandlePlays: the walk of the law. -/
import Derived.Test.YtggnboieenknfaaHi
namespace Go.Proofs.Ytggnboieenknfaa
open Go.RowKit Go.Maps
set_option linter.unusedVariables false

theorem cell_below {w w' : World} {p : Addr} {v : Value} (hb : Below w.heap.size w w') (h : w.cell? p = some v) : w'.cell? p = some v := (hb.cell (World.block_lt_of_cell? w p h)).trans h

set_option maxRecDepth 1000000 in
set_option maxHeartbeats 3200000 in
theorem HandlePlays_in {B : Option Addr} {len lcap : Nat} {zs : List Act3} {w : World} (hz : ActsIn w B len zs) (h200 : (len : Int) ≤ 200) :
    Calls Try.prog 3 #[.slice B len lcap] w fun e w' => e = .returned (.bool true) ∧ Below w.heap.size w w' := by
  go_enter Try.func3, Try.ntmps3
  go_wp2_with fail
  refine (HNew_ok _).mono ?_
  generalize hP : w.heap.size + 1 = P
  generalize hG : w.heap.size = G
  have hGP : G < P := by omega
  have HG := Lib.hid hG
  clear hG hP
  rintro e w1 ⟨rfl, hm, hb1⟩
  rw [← HG.out] at hb1
  have hP1 := hm.hp.lt
  have hGa : w.heap.size ≤ G := by rw [HG.out]; exact Nat.le_refl _
  have hPa : w.heap.size ≤ P := by omega
  have h0 : Two w P G w1.heap.size w1.heap.size [] [] (w1.alloc (.cells #[.slice none 0 0] 29)) := ⟨hm.alloc _, ⟨Nat.le_refl _, _, Boxed.new w1 29 (.slice none 0 0), OL.nil _ _⟩, hb1.alloc hb1.size _⟩
  have hga := hb1.size
  go_wp2_with fail
  have hgP : P < w1.heap.size := hP1
  have hgG : G < w1.heap.size := by omega
  clear hm hb1 hP1
  generalize hg0 : w1.heap.size = g at *
  clear hg0
  go_loopw [5] (fun i wr => ∃ k : Nat, k ≤ len ∧ i = .int .i64 k ∧ Two w P G g g (playF [] zs k) (playF [] zs k) wr) (fun i _ => len - (intOf i).toNat)
  case atStart => exact ⟨0, Nat.zero_le _, rfl, h0⟩
  case round =>
    obtain ⟨k, hk, rfl, hT⟩ := hrel
    by_cases hlt : k < len
    · obtain ⟨ab, aoff, rfl, q0, q1, q2⟩ := (hz.below hT.be).at_ hlt
      have j1 : (0 : Int) ≤ (k : Int) := by omega
      have j2 : (k : Int) < (len : Int) := by omega
      have hstep : playF [] zs (k + 1) = (actH (playF [] zs k) (act zs k).o (act zs k).i (act zs k).n).1 := rfl
      have HST := Lib.hid hstep
      have hql := playF_len [] zs k
      have hq1 : (playF [] zs k).length ≤ 1000000 := by simp at hql; omega
      have hq2 : (actH (playF [] zs k) (act zs k).o (act zs k).i (act zs k).n).1.length ≤ 1000000 := by
        have := actH_len (playF [] zs k) (act zs k).o (act zs k).i (act zs k).n
        simp at hql; omega
      have hin : inB (act zs k).i := (hz.hb k).2.1
      clear hstep hql
      generalize playF [] zs k = q at *
      go_wp2_with fail
      refine (two_does hT hq1 hgP hgG hPa hGa _ hin _).mono ?_
      rintro e w4 ⟨rfl, hT4⟩
      obtain ⟨q0', q1', q2'⟩ := hT4.acts hz hlt
      go_wp2_with fail
      refine (two_plays hT4 hq1 hgP hgG hga _ _ _).mono ?_
      rintro e w5 ⟨rfl, hT5⟩
      obtain ⟨q0'', q1'', q2''⟩ := hT5.acts hz hlt
      have HH := Lib.hid q0
      clear q0 q1 q2 q0' q1' q2' hT4 hT HH
      generalize (actH q (act zs k).o (act zs k).i (act zs k).n).2 = told at *
      generalize (actH q (act zs k).o (act zs k).i (act zs k).n).1 = q6 at *
      obtain ⟨At, acap, hat⟩ := hT5.rm.at_
      have hTD := hT5.drewN 1
      have hTM := hTD.tm
      have hRM := hTD.rm
      obtain ⟨q0d, q1d, q2d⟩ := hTD.acts hz hlt
      have hatd : (w5.drewN 1).cell? ⟨g, 0, none⟩ = some (.slice At q6.length acap) := hat
      go_wp2_with fail
      have hS0 := And.intro q1'' hat
      have hSd := And.intro q1d hatd
      clear q0'' q2'' q0d q2d
      have hlv : ∀ W, TM W P G q6 → Calls Try.prog 12 #[.pointer (some ⟨P, 0, none⟩), .int .i64 (act zs k).i] W fun e w' => e = .returned (.bool (live q6 (act zs k).i)) ∧ W = w' := fun W h => HLive_any h hin
      have hrv : ∀ W, RM W g g q6 → Calls Try.prog 13 #[.pointer (some ⟨g, 0, none⟩), .int .i64 (act zs k).i] W fun e w' => e = .returned (.bool (live q6 (act zs k).i)) ∧ W = w' := fun W h => RLive_any h hq2 _
      generalize live q6 (act zs k).i = lv at *
      generalize (act zs k).i = yy at *
      go_region_held3 (fun W => W.cell? ⟨ab, aoff + k * 3 + 1, none⟩ = some (.int .i64 yy) ∧ W.cell? ⟨g, 0, none⟩ = some (.slice At q6.length acap))
        (first | exact hS0 | exact hSd | assumption)
        (first
          | (go_at_call 12; refine (hlv _ (by assumption)).mono ?_; rintro e w6 ⟨rfl, rfl⟩)
          | (go_at_call 13; refine (hrv _ (by assumption)).mono ?_; rintro e w6 ⟨rfl, rfl⟩)
          | (go_at_call 14; refine (HLen_ok (by assumption)).mono ?_; rintro e w6 ⟨rfl, rfl⟩)
          | (go_at_call 15; refine (RAll_n (by assumption) hq2).mono ?_; rintro e w7 ⟨⟨A7, cap7, rfl, hR7⟩, hb7⟩; have hT7 := hTD.below hb7; have hTM7 := hT7.tm; have hRM7 := hT7.rm; have hS7 := And.intro ((cell_below hb7 q1d)) (cell_below hb7 hatd); clear hR7 hb7)
          | (go_at_call 16; refine (HTaken_ok (by assumption)).mono ?_; rintro e w6 ⟨rfl, rfl⟩))
      all_goals go_wp2_with fail
      all_goals exact ⟨⟨k + 1, by omega, by go_num, by rw [HST.out]; exact hT7⟩, by simp [intOf]; omega⟩
    · obtain rfl : k = len := by omega
      have hql := playF_len [] zs k
      have hq1 : (playF [] zs k).length ≤ 1000000 := by simp at hql; omega
      have hcl := cntL_le (playF [] zs k)
      have hll := liveL_length (playF [] zs k)
      generalize playF [] zs k = q at *
      have HLL := Lib.hid hll
      clear hll hql
      go_wp2_with fail
      refine (HAll_n hT.tm hq1).mono ?_
      rintro e w4 ⟨⟨A4, c4, rfl, hR4⟩, hb4⟩
      have hT4 := hT.below hb4
      go_wp2_with fail
      refine (RAll_n hT4.rm hq1).mono ?_
      rintro e w5 ⟨⟨A5, c5, rfl, hR5⟩, hb5⟩
      have hT5 := hT4.below hb5
      have hR4' := hR4.below hb5 (Nat.le_refl _)
      go_wp2_with fail
      refine (ints_same HLL.out hR4' hR5 (by omega)).mono ?_
      rintro e w6 ⟨rfl, hb6⟩
      have hb7 := hT5.be.trans (hb6.mono hT5.be.size)
      go_wp2_with fail
      refine (awake_any _).mono ?_
      rintro e w8 ⟨rfl, hb8⟩
      go_wp2_with fail
      go_ret
      exact ⟨rfl, hb7.trans (hb8.mono hb7.size)⟩

theorem HandlePlays_any (B : Option Addr) (len lcap : Nat) (zs : List Act3) (w : World) (hz : ActsIn w B len zs) :
    Calls Try.prog 3 #[.slice B len lcap] w fun e w' => e = .returned (.bool true) ∧ Below w.heap.size w w' := by
  by_cases h : (len : Int) ≤ 200
  · exact HandlePlays_in hz h
  · have t : decide (200 < (len : Int)) = true := by simp; omega
    clear h
    go_enter Try.func3, Try.ntmps3
    go_wp2_with fail
    refine (awake_any _).mono ?_
    rintro e w8 ⟨rfl, hb8⟩
    go_wp2_with fail
    go_ret
    exact ⟨rfl, hb8⟩
end Go.Proofs.Ytggnboieenknfaa
