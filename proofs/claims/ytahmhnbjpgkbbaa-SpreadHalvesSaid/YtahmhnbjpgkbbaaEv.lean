/- What Even comes to, the document's one and the program's. -/
import Derived.Test.YtahmhnbjpgkbbaaRi
import Derived.Lib.MinMax
namespace Go.Proofs.Ytahmhnbjpgkbbaa
open Go.RowKit
set_option linter.unusedVariables false

/-- The least and the greatest of the first k numbers. -/
def loTo (xs : List Int) (k : Nat) : Int := (xs.take k).foldl min (nth xs 0)
def hiTo (xs : List Int) (k : Nat) : Int := (xs.take k).foldl max (nth xs 0)
theorem loTo_succ {xs : List Int} {k : Nat} (h : k < xs.length) : loTo xs (k + 1) = min (loTo xs k) (nth xs k) := by
  unfold loTo
  rw [List.take_succ_eq_append_getElem h, List.foldl_append, nth_eq h]
  rfl
theorem hiTo_succ {xs : List Int} {k : Nat} (h : k < xs.length) : hiTo xs (k + 1) = max (hiTo xs k) (nth xs k) := by
  unfold hiTo
  rw [List.take_succ_eq_append_getElem h, List.foldl_append, nth_eq h]
  rfl
theorem loTo_one {xs : List Int} (h : 0 < xs.length) : loTo xs 1 = nth xs 0 := by
  rw [loTo_succ h, loTo]; simp
theorem hiTo_one {xs : List Int} (h : 0 < xs.length) : hiTo xs 1 = nth xs 0 := by
  rw [hiTo_succ h, hiTo]; simp
theorem loTo_spec {xs : List Int} (k : Nat) (h : k < xs.length) : (∃ a, a ≤ k ∧ loTo xs (k + 1) = nth xs a) ∧ ∀ i, i ≤ k → loTo xs (k + 1) ≤ nth xs i := by
  induction k with
  | zero =>
    rw [loTo_one h]
    refine ⟨⟨0, Nat.le_refl _, rfl⟩, fun i hi => ?_⟩
    have hz : i = 0 := Nat.le_zero.1 hi
    subst hz
    exact Int.le_refl _
  | succ k ih =>
    obtain ⟨⟨a, ha, he⟩, hl⟩ := ih (by omega)
    rw [loTo_succ h]
    refine ⟨?_, fun i hi => ?_⟩
    · by_cases hc : loTo xs (k + 1) ≤ nth xs (k + 1)
      · exact ⟨a, by omega, by rw [Int.min_eq_left hc, he]⟩
      · exact ⟨k + 1, Nat.le_refl _, Int.min_eq_right (by omega)⟩
    · by_cases hi2 : i ≤ k
      · have := hl i hi2
        omega
      · obtain rfl : i = k + 1 := by omega
        omega
theorem hiTo_spec {xs : List Int} (k : Nat) (h : k < xs.length) : (∃ a, a ≤ k ∧ hiTo xs (k + 1) = nth xs a) ∧ ∀ i, i ≤ k → nth xs i ≤ hiTo xs (k + 1) := by
  induction k with
  | zero =>
    rw [hiTo_one h]
    refine ⟨⟨0, Nat.le_refl _, rfl⟩, fun i hi => ?_⟩
    have hz : i = 0 := Nat.le_zero.1 hi
    subst hz
    exact Int.le_refl _
  | succ k ih =>
    obtain ⟨⟨a, ha, he⟩, hl⟩ := ih (by omega)
    rw [hiTo_succ h]
    refine ⟨?_, fun i hi => ?_⟩
    · by_cases hc : nth xs (k + 1) ≤ hiTo xs (k + 1)
      · exact ⟨a, by omega, by rw [Int.max_eq_left hc, he]⟩
      · exact ⟨k + 1, Nat.le_refl _, Int.max_eq_right (by omega)⟩
    · by_cases hi2 : i ≤ k
      · have := hl i hi2
        omega
      · obtain rfl : i = k + 1 := by omega
        omega

/-- Do the numbers differ by one at most, two by two? -/
def evB (xs : List Int) : Bool := xs.all fun a => xs.all fun b => decide (a ≤ b + 1)
theorem evB_iff {xs : List Int} : evB xs = true ↔ ∀ i j, i < xs.length → j < xs.length → nth xs i ≤ nth xs j + 1 := by
  unfold evB
  rw [List.all_eq_true]
  constructor
  · intro h i j hi hj
    have h1 := h xs[i] (List.getElem_mem hi)
    rw [List.all_eq_true] at h1
    have h2 := h1 xs[j] (List.getElem_mem hj)
    rw [nth_eq hi, nth_eq hj]
    simpa using h2
  · intro h a ha
    rw [List.all_eq_true]
    intro b hb
    obtain ⟨i, hi, rfl⟩ := List.mem_iff_getElem.1 ha
    obtain ⟨j, hj, rfl⟩ := List.mem_iff_getElem.1 hb
    have := h i j hi hj
    rw [nth_eq hi, nth_eq hj] at this
    simpa using this
theorem evB_of_ends {xs : List Int} (h : 0 < xs.length) : evB xs = decide (hiTo xs xs.length ≤ loTo xs xs.length + 1) := by
  obtain ⟨k, hk⟩ : ∃ k, xs.length = k + 1 := ⟨xs.length - 1, by omega⟩
  obtain ⟨⟨a, ha, hea⟩, hla⟩ := loTo_spec (xs := xs) k (by omega)
  obtain ⟨⟨b, hb, heb⟩, hlb⟩ := hiTo_spec (xs := xs) k (by omega)
  rw [hk]
  by_cases hc : hiTo xs (k + 1) ≤ loTo xs (k + 1) + 1
  · rw [decide_eq_true hc, evB_iff]
    intro i j hi hj
    have := hlb i (by omega)
    have := hla j (by omega)
    omega
  · rw [decide_eq_false hc, ← Bool.not_eq_true, evB_iff]
    intro h2
    have := h2 b a (by omega) (by omega)
    omega

theorem RI.cellN {w : World} {b off : Nat} {xs : List Int} (h : RI w (some ⟨b, off, none⟩) xs) {k : Nat} (hk : k < xs.length) : w.cell? ⟨b, off + k, none⟩ = some (.int .i64 (nth xs k)) := by
  obtain ⟨b', off', e, hc⟩ := h (by omega)
  injection e with e
  injection e with e1 e2
  subst e1 e2
  exact hc k hk

set_option maxHeartbeats 400000 in
theorem Min_ok (b off c n : Nat) (xs : List Int) (w : World) (hn : 0 < n) (hl : xs.length = n) (hR : RI w (some ⟨b, off, none⟩) xs) (hbig : n ≤ 4611686018427387904) :
    Calls Try.prog 29 #[.slice (some ⟨b, off, none⟩) n c] w fun e w' => e = .returned (.int .i64 (loTo xs n)) ∧ w = w' := by
  have h0 := hR.cellN (k := 0) (by omega)
  rw [Nat.add_zero] at h0
  have i0 : (1 : Int) ≤ (n : Int) := by omega
  go_enter Try.func29, Try.ntmps29
  go_wp2
  go_loop [3, 4] (fun m i => ∃ k : Nat, 0 < k ∧ k ≤ n ∧ i = .int .i64 k ∧ m = .int .i64 (loTo xs k)) (fun _ i => n - (intOf i).toNat)
  case atStart => exact ⟨1, Nat.one_pos, hn, rfl, by rw [loTo_one (by omega)]⟩
  case round =>
    obtain ⟨k, hk0, hk, rfl, rfl⟩ := hrel
    by_cases hlt : k < n
    · have i1 : (0 : Int) ≤ (k : Int) := by omega
      have i2 : (k : Int) < (n : Int) := by omega
      have hc := hR.cellN (k := k) (by omega)
      go_wp2
      go_round
      case rel => exact ⟨k + 1, Nat.succ_pos k, by omega, by go_num, by rw [loTo_succ (by omega)]⟩
      case measure => simp [intOf]; omega
    · obtain rfl : k = n := by omega
      go_wp2
      go_ret
      exact ⟨rfl, rfl⟩

set_option maxHeartbeats 400000 in
theorem Max_ok (b off c n : Nat) (xs : List Int) (w : World) (hn : 0 < n) (hl : xs.length = n) (hR : RI w (some ⟨b, off, none⟩) xs) (hbig : n ≤ 4611686018427387904) :
    Calls Try.prog 30 #[.slice (some ⟨b, off, none⟩) n c] w fun e w' => e = .returned (.int .i64 (hiTo xs n)) ∧ w = w' := by
  have h0 := hR.cellN (k := 0) (by omega)
  rw [Nat.add_zero] at h0
  have i0 : (1 : Int) ≤ (n : Int) := by omega
  go_enter Try.func30, Try.ntmps30
  go_wp2
  go_loop [3, 4] (fun m i => ∃ k : Nat, 0 < k ∧ k ≤ n ∧ i = .int .i64 k ∧ m = .int .i64 (hiTo xs k)) (fun _ i => n - (intOf i).toNat)
  case atStart => exact ⟨1, Nat.one_pos, hn, rfl, by rw [hiTo_one (by omega)]⟩
  case round =>
    obtain ⟨k, hk0, hk, rfl, rfl⟩ := hrel
    by_cases hlt : k < n
    · have i1 : (0 : Int) ≤ (k : Int) := by omega
      have i2 : (k : Int) < (n : Int) := by omega
      have hc := hR.cellN (k := k) (by omega)
      go_wp2
      go_round
      case rel => exact ⟨k + 1, Nat.succ_pos k, by omega, by go_num, by rw [hiTo_succ (by omega)]⟩
      case measure => simp [intOf]; omega
    · obtain rfl : k = n := by omega
      go_wp2
      go_ret
      exact ⟨rfl, rfl⟩

/-- All numbers of a list are of the machine. -/
def I64s (xs : List Int) : Prop := ∀ k, k < xs.length → -9223372036854775808 ≤ nth xs k ∧ nth xs k ≤ 9223372036854775807

set_option maxHeartbeats 400000 in
theorem Even_ok (A : Option Addr) (c n : Nat) (xs : List Int) (w : World) (hl : xs.length = n) (hR : RI w A xs) (hbig : n ≤ 4611686018427387904) (hb : I64s xs) :
    Calls Try.prog 21 #[.slice A n c] w fun e w' => e = .returned (.bool (evB xs)) ∧ w = w' := by
  by_cases hn : n = 0
  · subst hn
    obtain rfl : xs = [] := List.length_eq_zero_iff.1 hl
    go_enter Try.func21, Try.ntmps21
    go_wp2_with fail
    go_ret
    exact ⟨rfl, rfl⟩
  · obtain ⟨b, off, rfl, hcell⟩ := hR (by omega)
    clear hcell
    have hev := evB_of_ends (xs := xs) (by omega)
    rw [hl] at hev
    obtain ⟨k, hk⟩ : ∃ k, n = k + 1 := ⟨n - 1, by omega⟩
    have hlo := loTo_spec (xs := xs) k (by omega)
    have hhi := hiTo_spec (xs := xs) k (by omega)
    rw [← hk] at hlo hhi
    obtain ⟨a, ha, he⟩ := hlo.1
    obtain ⟨a', ha', he'⟩ := hhi.1
    have b1 := hb a (by omega)
    have b2 := hb a' (by omega)
    have b3 := hhi.2 a (by omega)
    rw [← he] at b1 b3
    rw [← he'] at b2
    have HN := Lib.hid hn
    have i0 : ¬ ((n : Int) = 0) := by omega
    have t0 : ((n : Int) == 0) = false := by simp; omega
    clear hn hlo hhi he he' ha ha' hk
    rw [hev]
    clear hev
    generalize hLo : loTo xs n = lo at *
    generalize hHi : hiTo xs n = hi at *
    have HLo := Lib.hid hLo
    have HHi := Lib.hid hHi
    clear hLo hHi
    go_enter Try.func21, Try.ntmps21
    go_wp2_with fail
    refine (Min_ok b off c n xs w (by omega) hl hR hbig).mono ?_
    rw [HLo.out]
    rintro e w' ⟨rfl, rfl⟩
    go_wp2_with fail
    refine (Max_ok b off c n xs w (by omega) hl hR hbig).mono ?_
    rw [HHi.out]
    rintro e w' ⟨rfl, rfl⟩
    by_cases hq : hi = lo
    · subst hq
      have t1 : (hi == hi) = true := by simp
      go_wp2_with fail
      go_ret
      exact ⟨ret_bool (by simp; omega), rfl⟩
    · have hgt : lo < hi := by omega
      have t1 : (hi == lo) = false := by simp; omega
      by_cases hq2 : hi - 1 = lo
      · have t2 : (hi - 1 == lo) = true := by simp; omega
        go_wp2_with fail
        go_ret
        exact ⟨ret_bool (by simp; omega), rfl⟩
      · have t2 : (hi - 1 == lo) = false := by simp; omega
        go_wp2_with fail
        go_ret
        exact ⟨ret_bool (by simp; omega), rfl⟩
end Go.Proofs.Ytahmhnbjpgkbbaa
