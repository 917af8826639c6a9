/- The document's answer Play over a list of counts. -/
import Derived.Test.YtjbljdjokgamdaaMi
import Derived.Deep.RegionHeld3
namespace Go.Proofs.Ytjbljdjokgamdaa
open Go.RowKit
set_option linter.unusedVariables false

theorem grown_drewN {a w : World} {row : Option Nat} (h : a.grownBy w row) (n : Nat) : a.grownBy (w.drewN n) row := ⟨h.os, h.tape, h.output, h.size, h.block⟩

theorem Play_out (g n c : Nat) (xs : List Int) (o i m : Int) (w : World) (hn : xs.length = n) (hi : i < 0 ∨ (n : Int) ≤ i) :
    Calls Try.prog 15 #[.slice (some ⟨g, 0, none⟩) n c, .agg #[.int .i64 o, .int .i64 i, .int .i64 m]] w fun e w' =>
      e = .returned (.tuple #[.int .i64 (doesS xs o i m).2.1, .int .i64 (doesS xs o i m).2.2]) ∧ Below w.heap.size w w' := by
  have e0 : doesS xs o i m = (xs, 0, 10) := by
    have : ¬ (0 ≤ i ∧ i < xs.length) := by omega
    simp [doesS, addS, peakS, getS, this]
  rw [e0]
  clear e0 hn
  by_cases h0 : i < 0
  · clear hi
    go_enter Try.func15, Try.ntmps15
    go_wp2
    go_ret2
    exact ⟨rfl, (Below.refl _ _).alloc (Nat.le_refl _) _⟩
  · have h1 : (n : Int) ≤ i := by omega
    clear hi
    go_enter Try.func15, Try.ntmps15
    go_wp2
    go_ret2
    exact ⟨rfl, (Below.refl _ _).alloc (Nat.le_refl _) _⟩

set_option maxHeartbeats 1000000 in
theorem Play_in (g n c : Nat) (xs : List Int) (o m : Int) (k : Nat) (w : World) (hn : xs.length = n) (hb : Blk w g 3 (cells xs)) (hk : k < n) :
    Calls Try.prog 15 #[.slice (some ⟨g, 0, none⟩) n c, .agg #[.int .i64 o, .int .i64 k, .int .i64 m]] w fun e w' =>
      e = .returned (.tuple #[.int .i64 (doesS xs o k m).2.1, .int .i64 (doesS xs o k m).2.2]) ∧ Blk w' g 3 (cells (doesS xs o k m).1) ∧ w.grownBy w' (some g) := by
  have hin : (0 : Int) ≤ (k : Int) ∧ (k : Int) < xs.length := by omega
  have hc : w.cell? ⟨g, k, none⟩ = some (.int .i64 (nth xs k)) := by rw [hb.cell, cells_get (by omega)]
  have hba := hb.alloc (.cells #[.int .i64 o, .int .i64 k, .int .i64 m] 30)
  have hca : (w.alloc (.cells #[.int .i64 o, .int .i64 k, .int .i64 m] 30)).cell? ⟨g, k, none⟩ = some (.int .i64 (nth xs k)) := by rw [hba.cell, cells_get (by omega)]
  have hfa := hba.frozen k
  have hf := hb.frozen k
  have hne := World.new_ne w ⟨g, k, none⟩ hc
  have i1 : (0 : Int) ≤ (k : Int) := by omega
  have i2 : (k : Int) < (n : Int) := by omega
  by_cases h0 : o = 0
  · have e0 : doesS xs o k m = (xs.set k (wrap64 (nth xs k + m)), wrap64 (nth xs k + m), 0) := by
      unfold doesS addS; rw [if_pos h0, if_pos hin]; rfl
    rw [e0]
    have t0 : (o == 0) = true := by simp [h0]
    have t1 : (o == 1) = false := by simp [h0]
    have HN := Lib.hid hn
    clear e0 h0 hn hin
    go_enter Try.func15, Try.ntmps15
    go_wp2
    go_region
    go_wp2
    go_quiet (fail)
    go_wp2
    go_ret2
    refine ⟨rfl, ?_, ?_⟩
    · have h2 := hba.put k (.int .i64 (wrap64 (nth xs k + m)))
      rw [cells_put] at h2
      exact h2
    · exact grown_drewN (grown_more (World.grownBy_alloc w _ (some g)) (.inl rfl) _) _
  · have t0 : (o == 0) = false := by simp [h0]
    by_cases h1 : o = 1
    · have t1 : (o == 1) = true := by simp [h1]
      by_cases h2 : nth xs k < m
      · have e0 : doesS xs o k m = (xs.set k m, m, 0) := by
          unfold doesS peakS; rw [if_neg h0, if_pos h1, if_pos hin]; simp only [Int.toNat_natCast]; rw [if_pos h2]
        rw [e0]
        have HN := Lib.hid hn
        have t2 : decide (nth xs k < m) = true := by simp [h2]
        clear e0 h0 h1 hn hin h2
        go_enter Try.func15, Try.ntmps15
        go_wp2
        go_quiet (fail)
        go_wp2
        go_ret2
        refine ⟨rfl, ?_, ?_⟩
        · have h2 := hba.put k (.int .i64 m)
          rw [cells_put] at h2
          exact h2
        · exact grown_drewN (grown_more (World.grownBy_alloc w _ (some g)) (.inl rfl) _) _
      · have e0 : doesS xs o k m = (xs, nth xs k, 0) := by
          unfold doesS peakS; rw [if_neg h0, if_pos h1, if_pos hin]; simp only [Int.toNat_natCast]; rw [if_neg h2]
        rw [e0]
        have HN := Lib.hid hn
        have t2 : decide (nth xs k < m) = false := by simp [h2]
        clear e0 h0 h1 hn hin h2
        go_enter Try.func15, Try.ntmps15
        go_wp2
        go_quiet (fail)
        go_wp2
        go_ret2
        exact ⟨rfl, hba, grown_drewN (World.grownBy_alloc w _ (some g)) _⟩
    · have t1 : (o == 1) = false := by simp [h1]
      have e0 : doesS xs o k m = (xs, nth xs k, 0) := by
        unfold doesS getS; rw [if_neg h0, if_neg h1, if_pos hin]; rfl
      rw [e0]
      have HN := Lib.hid hn
      clear e0 h0 h1 hn hin
      go_enter Try.func15, Try.ntmps15
      go_wp2
      go_quiet (fail)
      go_wp2
      go_ret2
      exact ⟨rfl, hba, grown_drewN (World.grownBy_alloc w _ (some g)) _⟩

theorem grown_of_below {a w : World} (h : Below a.heap.size a w) (row : Option Nat) : a.grownBy w row := ⟨h.os, h.tape, h.output, h.size, fun i hi _ => h.block i hi⟩

theorem Play_any (g n c : Nat) (xs : List Int) (o i m : Int) (w : World) (hn : xs.length = n) (hb : Blk w g 3 (cells xs)) :
    Calls Try.prog 15 #[.slice (some ⟨g, 0, none⟩) n c, .agg #[.int .i64 o, .int .i64 i, .int .i64 m]] w fun e w' =>
      e = .returned (.tuple #[.int .i64 (doesS xs o i m).2.1, .int .i64 (doesS xs o i m).2.2]) ∧ Blk w' g 3 (cells (doesS xs o i m).1) ∧ w.grownBy w' (some g) := by
  by_cases hi : 0 ≤ i ∧ i < n
  · obtain ⟨k, rfl⟩ := Int.eq_ofNat_of_zero_le hi.1
    exact Play_in g n c xs o m k w hn hb (by omega)
  · refine (Play_out g n c xs o i m w hn (by omega)).mono fun e w' ⟨he, hw⟩ => ⟨he, ?_, grown_of_below hw _⟩
    have : (doesS xs o i m).1 = xs := by
      have : ¬ (0 ≤ i ∧ i < xs.length) := by omega
      simp [doesS, addS, peakS, getS, this]
    rw [this]
    exact hb.below hw hb.lt
end Go.Proofs.Ytjbljdjokgamdaa
