/- What Share, Ahead, check and Offsets come to. -/
import Derived.Test.YtahmhnbjpgkbbaaSa
namespace Go.Proofs.Ytahmhnbjpgkbbaa
open Go.RowKit
set_option linter.unusedVariables false

/-- How many elements come into a segment. -/
def sZ (n segs seg : Int) : Int := aZ n segs (seg + 1) - aZ n segs seg
theorem aZ_mono {n segs a b : Int} (hn : 0 ≤ n) (hs : 1 ≤ segs) (h : a ≤ b) : aZ n segs a ≤ aZ n segs b := by
  unfold aZ
  exact Int.ediv_le_ediv (by omega) (Int.mul_le_mul_of_nonneg_right h hn)
theorem aZ_bound {n segs a : Int} (hok : okB n segs = true) (h0 : 0 ≤ a) (h1 : a ≤ segs) : 0 ≤ aZ n segs a ∧ aZ n segs a ≤ n := by
  obtain ⟨p1, p2, p3, p4⟩ := okB_true hok
  unfold aZ
  refine ⟨Int.ediv_nonneg (Int.mul_nonneg h0 p3) (by omega), ?_⟩
  have : a * n ≤ segs * n := Int.mul_le_mul_of_nonneg_right h1 p3
  calc a * n / segs ≤ segs * n / segs := Int.ediv_le_ediv (by omega) this
    _ = n := Int.mul_ediv_cancel_left n (by omega)
theorem aZ_zero (n segs : Int) : aZ n segs 0 = 0 := by simp [aZ]
theorem aZ_last {n segs : Int} (hs : 1 ≤ segs) : aZ n segs segs = n := Int.mul_ediv_cancel_left n (by omega)

theorem Share_arg (n segs seg : Int) (w : World) (h : okB n segs = false) :
    Calls Try.prog 11 #[.int .i64 n, .int .i64 segs, .int .i64 seg] w fun e w' => e = .returned (.tuple #[.int .i64 0, .int .i64 1]) ∧ w = w' := by
  go_enter Try.func11, Try.ntmps11
  go_wp2_with (go_at_call 26; refine (right_any _ _ _).mono ?_; rintro e w' ⟨rfl, rfl⟩)
  go_ret2
  exact ⟨rfl, rfl⟩
theorem Share_range (n segs seg : Int) (w : World) (h : okB n segs = true) (hr : ¬ (0 ≤ seg ∧ seg ≤ segs - 1)) :
    Calls Try.prog 11 #[.int .i64 n, .int .i64 segs, .int .i64 seg] w fun e w' => e = .returned (.tuple #[.int .i64 0, .int .i64 10]) ∧ w = w' := by
  obtain ⟨p1, p2, p3, p4⟩ := okB_true h
  have b1 := inB_false hr
  clear hr
  go_enter Try.func11, Try.ntmps11
  go_wp2_with (first
    | (go_at_call 26; refine (right_any _ _ _).mono ?_; rintro e w' ⟨rfl, rfl⟩)
    | (go_at_call 27; refine (between_any _ _ _ _).mono ?_; rintro e w' ⟨rfl, rfl⟩))
  go_ret2
  exact ⟨rfl, rfl⟩
theorem Share_ok (n segs seg : Int) (w : World) (h : okB n segs = true) (hr : 0 ≤ seg ∧ seg ≤ segs - 1) :
    Calls Try.prog 11 #[.int .i64 n, .int .i64 segs, .int .i64 seg] w fun e w' => e = .returned (.tuple #[.int .i64 (sZ n segs seg), .int .i64 0]) ∧ Below w.heap.size w w' := by
  obtain ⟨p1, p2, p3, p4⟩ := okB_true h
  have b1 := inB_true hr
  have h0 := hr.1
  have h1 := hr.2
  have c0 := aZ_bound (a := seg) h (by omega) (by omega)
  have c1 := aZ_bound (a := seg + 1) h (by omega) (by omega)
  have c2 := aZ_mono (n := n) (segs := segs) (a := seg) (b := seg + 1) p3 p1 (by omega)
  have k0 := Blk.made w 3 #[.int .i64 n]
  have k1 := (Blk.made w 3 #[.int .i64 n]).alloc (.cells #[.int .i64 segs] 3)
  have k2 := Blk.made (w.alloc (.cells #[.int .i64 n] 3)) 3 #[.int .i64 segs]
  rw [World.size_alloc] at k2
  clear hr
  go_enter Try.func11, Try.ntmps11
  go_wp2_with fail
  refine (right_any _ _ _).mono ?_
  rintro e w' ⟨rfl, rfl⟩
  go_wp2_with fail
  refine (between_any _ _ _ _).mono ?_
  rintro e w' ⟨rfl, rfl⟩
  go_wp2_with fail
  refine (ahead_any _ _ _).mono ?_
  rintro e w' ⟨rfl, rfl⟩
  go_wp2_with fail
  refine (before_any n segs (seg + 1) _ _ _ (by rw [k1.cell]; rfl) (by rw [k2.cell]; rfl) (by omega) (by omega) (by omega) (by omega) (by omega)).mono ?_
  rintro e w' ⟨rfl, rfl⟩
  go_wp2_with fail
  refine (before_any n segs seg _ _ _ (by rw [k1.cell]; rfl) (by rw [k2.cell]; rfl) (by omega) (by omega) (by omega) (by omega) (by omega)).mono ?_
  rintro e w' ⟨rfl, rfl⟩
  go_wp2_with fail
  go_ret2
  exact ⟨rfl, ((Below.refl _ _).alloc (Nat.le_refl _) _).alloc (by simp) _⟩

theorem Ahead_arg (n segs seg : Int) (w : World) (h : okB n segs = false) :
    Calls Try.prog 14 #[.int .i64 n, .int .i64 segs, .int .i64 seg] w fun e w' => e = .returned (.tuple #[.int .i64 0, .int .i64 1]) ∧ w = w' := by
  go_enter Try.func14, Try.ntmps14
  go_wp2_with (go_at_call 26; refine (right_any _ _ _).mono ?_; rintro e w' ⟨rfl, rfl⟩)
  go_ret2
  exact ⟨rfl, rfl⟩
theorem Ahead_range (n segs seg : Int) (w : World) (h : okB n segs = true) (hr : ¬ (0 ≤ seg ∧ seg ≤ segs)) :
    Calls Try.prog 14 #[.int .i64 n, .int .i64 segs, .int .i64 seg] w fun e w' => e = .returned (.tuple #[.int .i64 0, .int .i64 10]) ∧ w = w' := by
  obtain ⟨p1, p2, p3, p4⟩ := okB_true h
  have b1 := inB_false hr
  clear hr
  go_enter Try.func14, Try.ntmps14
  go_wp2_with (first
    | (go_at_call 26; refine (right_any _ _ _).mono ?_; rintro e w' ⟨rfl, rfl⟩)
    | (go_at_call 27; refine (between_any _ _ _ _).mono ?_; rintro e w' ⟨rfl, rfl⟩))
  go_ret2
  exact ⟨rfl, rfl⟩
theorem Ahead_ok (n segs seg : Int) (w : World) (h : okB n segs = true) (hr : 0 ≤ seg ∧ seg ≤ segs) :
    Calls Try.prog 14 #[.int .i64 n, .int .i64 segs, .int .i64 seg] w fun e w' => e = .returned (.tuple #[.int .i64 (aZ n segs seg), .int .i64 0]) ∧ Below w.heap.size w w' := by
  obtain ⟨p1, p2, p3, p4⟩ := okB_true h
  have b1 := inB_true hr
  have h0 := hr.1
  have h1 := hr.2
  have k1 := (Blk.made w 3 #[.int .i64 n]).alloc (.cells #[.int .i64 segs] 3)
  have k2 := Blk.made (w.alloc (.cells #[.int .i64 n] 3)) 3 #[.int .i64 segs]
  rw [World.size_alloc] at k2
  clear hr
  go_enter Try.func14, Try.ntmps14
  go_wp2_with fail
  refine (right_any _ _ _).mono ?_
  rintro e w' ⟨rfl, rfl⟩
  go_wp2_with fail
  refine (between_any _ _ _ _).mono ?_
  rintro e w' ⟨rfl, rfl⟩
  go_wp2_with fail
  refine (ahead_any _ _ _).mono ?_
  rintro e w' ⟨rfl, rfl⟩
  go_wp2_with fail
  refine (before_any n segs seg _ _ _ (by rw [k1.cell]; rfl) (by rw [k2.cell]; rfl) (by omega) (by omega) (by omega) (by omega) (by omega)).mono ?_
  rintro e w' ⟨rfl, rfl⟩
  go_wp2_with fail
  go_ret2
  exact ⟨rfl, ((Below.refl _ _).alloc (Nat.le_refl _) _).alloc (by simp) _⟩

theorem check_arg (n first segs : Int) (w : World) (h : okB n segs = false) :
    Calls Try.prog 24 #[.int .i64 n, .int .i64 first, .int .i64 segs] w fun e w' => e = .returned (.int .i64 1) ∧ w = w' := by
  go_enter Try.func24, Try.ntmps24
  go_wp2_with (go_at_call 26; refine (right_any _ _ _).mono ?_; rintro e w' ⟨rfl, rfl⟩)
  go_ret
  exact ⟨rfl, rfl⟩
theorem check_range (n first segs : Int) (w : World) (h : okB n segs = true) (hr : ¬ (0 ≤ first ∧ first ≤ 512 - segs)) :
    Calls Try.prog 24 #[.int .i64 n, .int .i64 first, .int .i64 segs] w fun e w' => e = .returned (.int .i64 10) ∧ w = w' := by
  obtain ⟨p1, p2, p3, p4⟩ := okB_true h
  have b1 := inB_false hr
  clear hr
  go_enter Try.func24, Try.ntmps24
  go_wp2_with (first
    | (go_at_call 26; refine (right_any _ _ _).mono ?_; rintro e w' ⟨rfl, rfl⟩)
    | (go_at_call 27; refine (between_any _ _ _ _).mono ?_; rintro e w' ⟨rfl, rfl⟩))
  go_ret
  exact ⟨rfl, rfl⟩
theorem check_ok (n first segs : Int) (w : World) (h : okB n segs = true) (hr : 0 ≤ first ∧ first ≤ 512 - segs) :
    Calls Try.prog 24 #[.int .i64 n, .int .i64 first, .int .i64 segs] w fun e w' => e = .returned (.int .i64 0) ∧ w = w' := by
  obtain ⟨p1, p2, p3, p4⟩ := okB_true h
  have b1 := inB_true hr
  clear hr
  go_enter Try.func24, Try.ntmps24
  go_wp2_with (first
    | (go_at_call 26; refine (right_any _ _ _).mono ?_; rintro e w' ⟨rfl, rfl⟩)
    | (go_at_call 27; refine (between_any _ _ _ _).mono ?_; rintro e w' ⟨rfl, rfl⟩))
  go_ret
  exact ⟨rfl, rfl⟩

/-- The offsets of m elements in a segment. -/
def offs (m : Nat) : List Int := (List.range m).map fun j => ((j * 8 / m : Nat) : Int)
theorem offs_length (m : Nat) : (offs m).length = m := by simp [offs]
theorem nth_offs {m j : Nat} (h : j < m) : nth (offs m) j = ((j * 8 / m : Nat) : Int) := by
  rw [nth_eq (by rw [offs_length]; exact h)]
  simp [offs]
/-- What has been laid after k rounds. -/
def filledO (m k : Nat) : List Int := (offs m).take k ++ zeros (m - k)
theorem filledO_length {m k : Nat} (h : k ≤ m) : (filledO m k).length = m := by simp [filledO, zeros, offs]; omega
theorem filledO_step {m k : Nat} (h : k < m) : (filledO m k).set k ((k * 8 / m : Nat) : Int) = filledO m (k + 1) := by
  unfold filledO
  rw [List.take_succ_eq_append_getElem (by rw [offs_length]; exact h), ← nth_eq (by rw [offs_length]; exact h), nth_offs h, show m - k = (m - (k + 1)) + 1 by omega]
  rw [List.set_append_right _ _ (by simp; omega), List.length_take, offs_length, show k - min k m = 0 by omega]
  simp [zeros, List.replicate_succ]

theorem Offsets_bad (m : Int) (w : World) (h : ¬ (0 ≤ m ∧ m ≤ 8)) :
    Calls Try.prog 12 #[.int .i64 m] w fun e w' => e = .returned (.tuple #[.slice none 0 0, .int .i64 10]) ∧ w = w' := by
  have b1 := inB_false h
  clear h
  go_enter Try.func12, Try.ntmps12
  go_wp2_with (go_at_call 27; refine (between_any _ _ _ _).mono ?_; rintro e w' ⟨rfl, rfl⟩)
  go_ret2
  exact ⟨rfl, rfl⟩
set_option maxHeartbeats 400000 in
theorem Offsets_ok (m : Nat) (w : World) (h : m ≤ 8) :
    Calls Try.prog 12 #[.int .i64 m] w fun e w' => e = .returned (.tuple #[.slice (some ⟨w.heap.size, 0, none⟩) m m, .int .i64 0]) ∧ Blk w' w.heap.size 3 (cells (offs m)) ∧ w'.heap.size = w.heap.size + 1 ∧ Below w.heap.size w w' := by
  have b1 : inB (m : Int) 0 8 = true := inB_true (by omega)
  have hmk := make_ints m (by omega)
  have HB := Lib.hid (Blk.made w 3 (cells (zeros m)))
  have a1 : (m : Int) ≤ 8 := by omega
  go_enter Try.func12, Try.ntmps12
  go_wp2_with fail
  refine (between_any _ _ _ _).mono ?_
  rintro e w' ⟨rfl, rfl⟩
  go_wp2_with fail
  go_loopw [13] (fun i wr => ∃ k : Nat, k ≤ m ∧ i = .int .i64 k ∧ Blk wr w.heap.size 3 (cells (filledO m k)) ∧ wr.heap.size = w.heap.size + 1 ∧ Below w.heap.size w wr) (fun i _ => m - (intOf i).toNat)
  case atStart => exact ⟨0, Nat.zero_le _, rfl, by simpa [filledO] using HB.out, by simp, (Below.refl _ _).alloc (Nat.le_refl _) _⟩
  case round =>
    obtain ⟨k, hk, rfl, hb, hsz, hbel⟩ := hrel
    have HSZ := Lib.hid hsz
    clear hsz
    by_cases hlt : k < m
    · have i1 : (0 : Int) ≤ (k : Int) := by omega
      have i2 : (k : Int) < (m : Int) := by omega
      have i3 : (1 : Int) ≤ (m : Int) := by omega
      have hc : wr.cell? ⟨w.heap.size, k, none⟩ = some (.int .i64 (nth (filledO m k) k)) := by rw [hb.cell, cells_get (by rw [filledO_length hk]; exact hlt)]
      have hf := hb.frozen k
      have d := div_bound (a := (k : Int) * 8) (b := (m : Int)) (by omega) (by omega) i3
      have d0 := d.1
      have d1 := d.2
      clear d
      go_wp2_with fail
      go_roundw
      case rel =>
        refine ⟨k + 1, by omega, by go_num, ?_, by simpa [World.setCell] using HSZ.out, hbel.setCell (Nat.le_refl _) _⟩
        have h2 := hb.put k (.int .i64 ((k * 8 / m : Nat) : Int))
        rw [cells_put, filledO_step hlt] at h2
        exact h2
      case measure => simp [intOf]; omega
    · obtain rfl : k = m := by omega
      go_wp2_with fail
      go_ret2
      have h2 : filledO k k = offs k := by unfold filledO; rw [List.take_of_length_le (by rw [offs_length]; omega)]; simp [zeros]
      rw [h2] at hb
      exact ⟨rfl, hb, HSZ.out, hbel⟩
end Go.Proofs.Ytahmhnbjpgkbbaa
