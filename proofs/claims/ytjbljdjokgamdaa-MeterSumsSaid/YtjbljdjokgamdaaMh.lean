/- The law's own helpers over a meter: ints, does, the document's Play, and the chapter's example awake. -/
import Derived.Test.YtjbljdjokgamdaaMg
import Derived.BigRegion
namespace Go.Proofs.Ytjbljdjokgamdaa
open Go.RowKit
set_option linter.unusedVariables false

theorem RI_of_blk {w : World} {g : Nat} {xs : List Int} (h : Blk w g 3 (cells xs)) : RI w (some ⟨g, 0, none⟩) xs :=
  fun _ => ⟨g, 0, rfl, fun k hk => by rw [Nat.zero_add, h.cell, cells_get hk]⟩
theorem RI_nil (w : World) (A : Option Addr) : RI w A [] := fun h => absurd h (by simp)
theorem RI.keep {w w' : World} {A : Option Addr} {xs : List Int} (h : RI w A xs) (hc : ∀ p, (w.cell? p).isSome → w'.cell? p = w.cell? p) : RI w' A xs := fun hx => by
  obtain ⟨b, off, rfl, hr⟩ := h hx
  exact ⟨b, off, rfl, fun k hk => by rw [hc _ (by rw [hr k hk]; rfl), hr k hk]⟩

theorem ints_n (A B : Option Addr) (n m ca cb : Nat) (xs ys : List Int) (w : World) (hn : xs.length = n) (hm : ys.length = m) (hA : RI w A xs) (hB : RI w B ys)
    (hx : n ≤ 4611686018427387904) (hy : m ≤ 4611686018427387904) :
    Calls Try.prog 11 #[.slice A n ca, .slice B m cb] w fun e w' => e = .returned (.bool (decide (xs = ys))) ∧ ∃ n, w' = w.drewN n := by
  subst hn hm
  exact ints_any A B ca cb xs ys w hA hB hx hy

/-- What Add tells and leaves: the counts, the number, the error. -/
def addS (xs : List Int) (i n : Int) : List Int × Int × Int :=
  if 0 ≤ i ∧ i < xs.length then (xs.set i.toNat (wrap64 (nth xs i.toNat + n)), wrap64 (nth xs i.toNat + n), 0) else (xs, 0, 10)
def peakS (xs : List Int) (i n : Int) : List Int × Int × Int :=
  if 0 ≤ i ∧ i < xs.length then (if nth xs i.toNat < n then (xs.set i.toNat n, n, 0) else (xs, nth xs i.toNat, 0)) else (xs, 0, 10)
def getS (xs : List Int) (i : Int) : List Int × Int × Int :=
  if 0 ≤ i ∧ i < xs.length then (xs, nth xs i.toNat, 0) else (xs, 0, 10)
def doesS (xs : List Int) (o i n : Int) : List Int × Int × Int := if o = 0 then addS xs i n else if o = 1 then peakS xs i n else getS xs i

theorem addS_length (xs : List Int) (i n : Int) : (addS xs i n).1.length = xs.length := by unfold addS; split <;> simp
theorem peakS_length (xs : List Int) (i n : Int) : (peakS xs i n).1.length = xs.length := by unfold peakS; split <;> (try split) <;> simp
theorem getS_length (xs : List Int) (i : Int) : (getS xs i).1.length = xs.length := by unfold getS; split <;> simp
theorem doesS_length (xs : List Int) (o i n : Int) : (doesS xs o i n).1.length = xs.length := by
  unfold doesS
  split
  · exact addS_length _ _ _
  · split
    · exact peakS_length _ _ _
    · exact getS_length _ _

theorem Add_S (s d : Nat) (xs : List Int) (i n : Int) (w : World) (h : Met w s d xs) :
    Calls Try.prog 10 #[.pointer (some ⟨s, 0, none⟩), .int .i64 i, .int .i64 n] w fun e w' => e = .returned (.tuple #[.int .i64 (addS xs i n).2.1, .int .i64 (addS xs i n).2.2]) ∧
      Met w' s d (addS xs i n).1 ∧ w.grownBy w' (some d) := by
  by_cases hi : 0 ≤ i ∧ i < xs.length
  · obtain ⟨k, rfl⟩ := Int.eq_ofNat_of_zero_le hi.1
    refine (Add_in s d xs k n w h (by omega)).mono fun e w' hq => ?_
    unfold addS
    rw [if_pos hi]
    exact hq
  · refine (Add_out s d xs i n w h (by omega)).mono fun e w' hq => ?_
    unfold addS
    rw [if_neg hi]
    obtain ⟨rfl, rfl⟩ := hq
    exact ⟨rfl, h, World.grownBy.refl _ _⟩

theorem Peak_S (s d : Nat) (xs : List Int) (i n : Int) (w : World) (h : Met w s d xs) :
    Calls Try.prog 16 #[.pointer (some ⟨s, 0, none⟩), .int .i64 i, .int .i64 n] w fun e w' => e = .returned (.tuple #[.int .i64 (peakS xs i n).2.1, .int .i64 (peakS xs i n).2.2]) ∧
      Met w' s d (peakS xs i n).1 ∧ w.grownBy w' (some d) := by
  by_cases hi : 0 ≤ i ∧ i < xs.length
  · obtain ⟨k, rfl⟩ := Int.eq_ofNat_of_zero_le hi.1
    by_cases hn : nth xs k < n
    · refine (Peak_high s d xs k n w h (by omega) hn).mono fun e w' hq => ?_
      unfold peakS
      rw [if_pos hi, Int.toNat_natCast, if_pos hn]
      exact hq
    · refine (Peak_low s d xs k n w h (by omega) (by omega)).mono fun e w' hq => ?_
      unfold peakS
      rw [if_pos hi, Int.toNat_natCast, if_neg hn]
      obtain ⟨rfl, rfl⟩ := hq
      exact ⟨rfl, h, World.grownBy.refl _ _⟩
  · refine (Peak_out s d xs i n w h (by omega)).mono fun e w' hq => ?_
    unfold peakS
    rw [if_neg hi]
    obtain ⟨rfl, rfl⟩ := hq
    exact ⟨rfl, h, World.grownBy.refl _ _⟩

theorem Get_S (s d : Nat) (xs : List Int) (i : Int) (w : World) (h : Met w s d xs) :
    Calls Try.prog 17 #[.pointer (some ⟨s, 0, none⟩), .int .i64 i] w fun e w' => e = .returned (.tuple #[.int .i64 (getS xs i).2.1, .int .i64 (getS xs i).2.2]) ∧
      Met w' s d (getS xs i).1 ∧ w.grownBy w' (some d) := by
  by_cases hi : 0 ≤ i ∧ i < xs.length
  · obtain ⟨k, rfl⟩ := Int.eq_ofNat_of_zero_le hi.1
    refine (Get_in s d xs k w h (by omega)).mono fun e w' hq => ?_
    unfold getS
    rw [if_pos hi]
    obtain ⟨rfl, rfl⟩ := hq
    exact ⟨rfl, h, World.grownBy.refl _ _⟩
  · refine (Get_out s d xs i w h (by omega)).mono fun e w' hq => ?_
    unfold getS
    rw [if_neg hi]
    obtain ⟨rfl, rfl⟩ := hq
    exact ⟨rfl, h, World.grownBy.refl _ _⟩

theorem grown_box {w w' : World} {o : Obj} {d : Nat} (h : (w.alloc o).grownBy w' (some d)) : w.grownBy w' (some d) :=
  ⟨h.os, h.tape, h.output, by have := h.size; simp at this; omega, fun i hi hne => (h.block i (by simp; omega) hne).trans (Below.heap_alloc _ _ _ hi)⟩

theorem does_any (s d : Nat) (xs : List Int) (o i n : Int) (w : World) (h : Met w s d xs) :
    Calls Try.prog 13 #[.pointer (some ⟨s, 0, none⟩), .agg #[.int .i64 o, .int .i64 i, .int .i64 n]] w fun e w' =>
      e = .returned (.tuple #[.int .i64 (doesS xs o i n).2.1, .int .i64 (doesS xs o i n).2.2]) ∧ Met w' s d (doesS xs o i n).1 ∧ w.grownBy w' (some d) := by
  have hb := h.alloc (.cells #[.int .i64 o, .int .i64 i, .int .i64 n] 30)
  by_cases h0 : o = 0
  · have e0 : doesS xs o i n = addS xs i n := by unfold doesS; rw [if_pos h0]
    rw [e0]
    clear e0
    have t0 : (o == 0) = true := by simp [h0]
    clear h0
    go_enter Try.func13, Try.ntmps13
    go_wp2_with (go_at_call 10; refine (Add_S s d xs _ _ _ hb).mono ?_; rintro e w' ⟨rfl, hm, hg⟩)
    go_ret2
    exact ⟨rfl, hm, grown_box hg⟩
  · by_cases h1 : o = 1
    · have e0 : doesS xs o i n = peakS xs i n := by unfold doesS; rw [if_neg h0, if_pos h1]
      rw [e0]
      clear e0
      have t0 : (o == 0) = false := by simp [h0]
      have t1 : (o == 1) = true := by simp [h1]
      clear h0 h1
      go_enter Try.func13, Try.ntmps13
      go_wp2_with (go_at_call 16; refine (Peak_S s d xs _ _ _ hb).mono ?_; rintro e w' ⟨rfl, hm, hg⟩)
      go_ret2
      exact ⟨rfl, hm, grown_box hg⟩
    · have e0 : doesS xs o i n = getS xs i := by unfold doesS; rw [if_neg h0, if_neg h1]
      rw [e0]
      clear e0
      have t0 : (o == 0) = false := by simp [h0]
      have t1 : (o == 1) = false := by simp [h1]
      clear h0 h1
      go_enter Try.func13, Try.ntmps13
      go_wp2_with (go_at_call 17; refine (Get_S s d xs _ _ hb).mono ?_; rintro e w' ⟨rfl, hm, hg⟩)
      go_ret2
      exact ⟨rfl, hm, grown_box hg⟩

theorem does_nil (o i n : Int) (w : World) :
    Calls Try.prog 13 #[.pointer none, .agg #[.int .i64 o, .int .i64 i, .int .i64 n]] w fun e w' =>
      e = .returned (.tuple #[.int .i64 0, .int .i64 2]) ∧ Below w.heap.size w w' := by
  by_cases h0 : o = 0
  · have t0 : (o == 0) = true := by simp [h0]
    clear h0
    go_enter Try.func13, Try.ntmps13
    go_wp2_with (go_at_call 10; refine (Add_nil _ _ _).mono ?_; rintro e w' ⟨rfl, rfl⟩)
    go_ret2
    exact ⟨rfl, (Below.refl _ _).alloc (Nat.le_refl _) _⟩
  · by_cases h1 : o = 1
    · have t0 : (o == 0) = false := by simp [h0]
      have t1 : (o == 1) = true := by simp [h1]
      clear h0 h1
      go_enter Try.func13, Try.ntmps13
      go_wp2_with (go_at_call 16; refine (Peak_nil _ _ _).mono ?_; rintro e w' ⟨rfl, rfl⟩)
      go_ret2
      exact ⟨rfl, (Below.refl _ _).alloc (Nat.le_refl _) _⟩
    · have t0 : (o == 0) = false := by simp [h0]
      have t1 : (o == 1) = false := by simp [h1]
      clear h0 h1
      go_enter Try.func13, Try.ntmps13
      go_wp2_with (go_at_call 17; refine (Get_nil _ _).mono ?_; rintro e w' ⟨rfl, rfl⟩)
      go_ret2
      exact ⟨rfl, (Below.refl _ _).alloc (Nat.le_refl _) _⟩
end Go.Proofs.Ytjbljdjokgamdaa
