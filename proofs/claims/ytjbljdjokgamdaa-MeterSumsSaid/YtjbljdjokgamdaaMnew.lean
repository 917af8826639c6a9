/- MeterNew: which meters there are, and what a nil one tells: for every number and every call the law answers true. No condition. -/
import Derived.Test.YtjbljdjokgamdaaMj
import Derived.Deep.RegionHeld3
import Derived.Deep.DeepCutAuto
namespace Go.Proofs.Ytjbljdjokgamdaa
open Go.RowKit
set_option linter.unusedVariables false

theorem Blk.drew {w : World} {g : Nat} {t : TypeId} {cs : Array Value} (h : Blk w g t cs) : Blk w.drew g t cs := h
theorem Met.drew {w : World} {s d : Nat} {xs : List Int} (h : Met w s d xs) : Met w.drew s d xs := ⟨h.st, h.row⟩

/-- What stays through a statement whose order is open: the meter, and all that was there before the call. -/
structure St (w : World) (s d : Nat) (xs : List Int) (W : World) : Prop where
  m : Met W s d xs
  b : Below w.heap.size w W
section
variable {w W W' : World} {s d : Nat} {xs : List Int}
theorem St.drew (h : St w s d xs W) : St w s d xs W.drew := ⟨h.m.drew, h.b.drew⟩
theorem St.alloc (h : St w s d xs W) (o : Obj) : St w s d xs (W.alloc o) := ⟨h.m.alloc o, h.b.alloc h.b.size o⟩
theorem St.below (h : St w s d xs W) (hb : Below W.heap.size W W') : St w s d xs W' := ⟨h.m.below hb h.m.st.lt h.m.row.lt, h.b.trans (hb.mono h.b.size)⟩
end

set_option maxHeartbeats 400000 in
theorem MeterNew_walk (n o i m : Int) (w : World) :
    Calls Try.prog 4 #[.int .i64 n, .agg #[.int .i64 o, .int .i64 i, .int .i64 m]] w fun e w' => e = .returned (.bool true) ∧ Below w.heap.size w w' := by
  have hA := (Below.refl w.heap.size w).alloc (Nat.le_refl _) (.cells #[.int .i64 o, .int .i64 i, .int .i64 m] 30)
  go_enter Try.func4, Try.ntmps4
  go_wp2_with fail
  refine (does_nil _ _ _ _).mono ?_
  rintro e w1 ⟨rfl, hb1⟩
  rw [World.size_alloc] at hb1
  have hb1' := hA.trans (hb1.mono (by omega))
  clear hb1 hA
  go_wp2_with fail
  refine (All_nil _).mono ?_
  rintro e w2 ⟨rfl, rfl⟩
  go_wp2_with fail
  refine (Reset_nil _).mono ?_
  rintro e w2 ⟨rfl, rfl⟩
  by_cases hn : 1 ≤ n ∧ n ≤ 256
  · obtain ⟨k, rfl⟩ := Int.eq_ofNat_of_zero_le (show 0 ≤ n by omega)
    have a1 : (1 : Int) ≤ (k : Int) := hn.1
    have a2 : (k : Int) ≤ 256 := hn.2
    clear hn
    go_wp2_with fail
    refine (New_ok k _ (by omega) (by omega)).mono ?_
    rintro e w2 ⟨rfl, hm2, hs2, hb2⟩
    have HS2 := Lib.hid hs2
    clear hs2
    have hb2' := hb1'.trans (hb2.mono hb1'.size)
    have hz2 := hm2.st.lt
    have hz1 := hb1'.size
    have hmk := make_ints k (by omega)
    have hl := zeros_length k
    have HL := Lib.hid hl
    clear hl
    have hS : St w (w1.heap.size + 1) w1.heap.size (zeros k) w2 := ⟨hm2, hb2'⟩
    go_wp2_with fail
    go_region_held3 (St w (w1.heap.size + 1) w1.heap.size (zeros k))
      (first | with_reducible exact hS.drew | with_reducible exact (hS.alloc _).drew | with_reducible exact St.below (by assumption) (by assumption) | with_reducible exact St.alloc (by assumption) _)
      (first
      | (go_at_call 12; refine (All_any (w1.heap.size + 1) w1.heap.size (zeros k) _ ?_ ?_).mono ?_; (exact St.m (w := w) (by assumption)); (rw [HL.out]; omega); rw [HL.out]; rintro e w3 ⟨rfl, hk3, hs3, hb3⟩; have HS3 := Lib.hid hs3; clear hs3)
      | (go_at_call 8; refine (awake_any _).mono ?_; rintro e w5 ⟨rfl, hb5⟩)
      | (go_at_call 11; refine (ints_b _ _ k k _ _ (zeros k) (zeros k) _ HL.out HL.out (by first | with_reducible exact RI_of_blk hk3 | with_reducible exact RI_of_blk (hk3.alloc _) | exact RI_of_blk (by simpa using hk3)) (by first | with_reducible exact RI_of_blk (Blk.made _ 3 _) | with_reducible exact RI_of_blk ((Blk.made w2 3 (cells (zeros k))).drew.below hb3 (by simp))) (by omega) (by omega)).mono ?_; rintro e w4 ⟨rfl, hb4⟩))
    all_goals go_wp2_with fail
    all_goals go_ret
    all_goals exact ⟨rfl, St.b (s := w1.heap.size + 1) (d := w1.heap.size) (xs := zeros k) (by assumption)⟩
  · go_wp2_with fail
    refine (New_bad n _ (by omega)).mono ?_
    rintro e w2 ⟨rfl, rfl⟩
    have hn' : n < 1 ∨ 256 < n := by omega
    clear hn
    have hz1 := hb1'.size
    rcases hn' with h1 | h1
    · go_wp2_with fail
      refine (awake_any _).mono ?_
      rintro e w2 ⟨rfl, hb2⟩
      go_wp2_with fail
      go_ret
      exact ⟨rfl, hb1'.trans (hb2.mono hz1)⟩
    · have h2 : (1 : Int) ≤ n := by omega
      go_wp2_with fail
      refine (awake_any _).mono ?_
      rintro e w2 ⟨rfl, hb2⟩
      go_wp2_with fail
      go_ret
      exact ⟨rfl, hb1'.trans (hb2.mono hz1)⟩
end Go.Proofs.Ytjbljdjokgamdaa
