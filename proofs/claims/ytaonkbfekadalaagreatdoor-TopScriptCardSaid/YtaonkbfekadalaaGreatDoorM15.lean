/- Joined texts: Sa, Sb, Pl. -/
import Derived.Test.YtaonkbfekadalaaGreatDoorM03
/- What the small functions of the spread come to: between, right, ahead and its closure, Share, Ahead, check. -/
namespace Go.Proofs.YtaonkbfekadalaaGreatDoor
open Go.RowKit
set_option linter.unusedVariables false

/-- Is n within lo and hi? -/
def inB (n lo hi : Int) : Bool := decide (lo ≤ n ∧ n ≤ hi)
theorem inB_true {n lo hi : Int} (h : lo ≤ n ∧ n ≤ hi) : inB n lo hi = true := by simp [inB, h]
theorem inB_false {n lo hi : Int} (h : ¬ (lo ≤ n ∧ n ≤ hi)) : inB n lo hi = false := by simp only [inB, h, decide_false]

theorem between_any (n lo hi : Int) (w : World) :
    Calls Tryz.prog 250 #[.int .i64 n, .int .i64 lo, .int .i64 hi] w fun e w' => e = .returned (.bool (inB n lo hi)) ∧ w = w' := by
  by_cases h1 : lo ≤ n
  · by_cases h2 : n ≤ hi
    · rw [inB_true ⟨h1, h2⟩]
      go_enter Tryz.func250, Tryz.ntmps250
      go_wp2
      go_ret
      exact ⟨rfl, rfl⟩
    · rw [inB_false (by omega)]
      have h3 : hi < n := by omega
      have h4 : decide (n ≤ hi) = false := by simp; omega
      clear h2
      go_enter Tryz.func250, Tryz.ntmps250
      go_wp2
      go_ret
      exact ⟨rfl, rfl⟩
  · rw [inB_false (by omega)]
    have h3 : n < lo := by omega
    clear h1
    go_enter Tryz.func250, Tryz.ntmps250
    go_wp2
    go_ret
    exact ⟨rfl, rfl⟩

/-- May so many elements be spread into so many segments? -/
def okB (n segs : Int) : Bool := decide (1 ≤ segs ∧ segs ≤ 512 ∧ 0 ≤ n ∧ n ≤ 8 * segs)
theorem okB_true {n segs : Int} (h : okB n segs = true) : 1 ≤ segs ∧ segs ≤ 512 ∧ 0 ≤ n ∧ n ≤ 8 * segs := of_decide_eq_true h
theorem okB_mk {n segs : Int} (h : 1 ≤ segs ∧ segs ≤ 512 ∧ 0 ≤ n ∧ n ≤ 8 * segs) : okB n segs = true := decide_eq_true h
theorem okB_false {n segs : Int} (h : ¬ (1 ≤ segs ∧ segs ≤ 512 ∧ 0 ≤ n ∧ n ≤ 8 * segs)) : okB n segs = false := decide_eq_false h

theorem right_any (n segs : Int) (w : World) :
    Calls Tryz.prog 249 #[.int .i64 n, .int .i64 segs] w fun e w' => e = .returned (.bool (okB n segs)) ∧ w = w' := by
  by_cases h1 : 1 ≤ segs ∧ segs ≤ 512
  · have a1 : (1 : Int) ≤ segs := h1.1
    have a2 : segs ≤ 512 := h1.2
    have b1 := inB_true h1
    clear h1
    by_cases h2 : 0 ≤ n ∧ n ≤ 8 * segs
    · rw [okB_mk ⟨a1, a2, h2.1, h2.2⟩]
      have b2 := inB_true h2
      clear h2
      go_enter Tryz.func249, Tryz.ntmps249
      go_wp2_with fail
      refine (between_any _ _ _ _).mono ?_
      rintro e w' ⟨rfl, rfl⟩
      go_wp2_with fail
      refine (between_any _ _ _ _).mono ?_
      rintro e w' ⟨rfl, rfl⟩
      go_wp2_with fail
      go_ret
      exact ⟨rfl, rfl⟩
    · rw [okB_false (by omega)]
      have b2 := inB_false h2
      clear h2
      go_enter Tryz.func249, Tryz.ntmps249
      go_wp2_with fail
      refine (between_any _ _ _ _).mono ?_
      rintro e w' ⟨rfl, rfl⟩
      go_wp2_with fail
      refine (between_any _ _ _ _).mono ?_
      rintro e w' ⟨rfl, rfl⟩
      go_wp2_with fail
      go_ret
      exact ⟨rfl, rfl⟩
  · rw [okB_false (by omega)]
    have b1 := inB_false h1
    clear h1
    go_enter Tryz.func249, Tryz.ntmps249
    go_wp2_with fail
    refine (between_any _ _ _ _).mono ?_
    rintro e w' ⟨rfl, rfl⟩
    go_wp2_with fail
    go_ret
    exact ⟨rfl, rfl⟩

/-- How many elements are ahead of a segment. -/
def aZ (n segs seg : Int) : Int := seg * n / segs
theorem mul_bound {a b : Int} (h0 : 0 ≤ a) (h1 : a ≤ 512) (h2 : 0 ≤ b) (h3 : b ≤ 4096) : 0 ≤ a * b ∧ a * b ≤ 2097152 :=
  ⟨Int.mul_nonneg h0 h2, by have := Int.mul_le_mul h1 h3 h2 (by omega : (0 : Int) ≤ 512); omega⟩
theorem div_bound {a b : Int} (h0 : 0 ≤ a) (h1 : a ≤ 2097152) (hb : 1 ≤ b) : 0 ≤ a / b ∧ a / b ≤ 2097152 :=
  ⟨Int.ediv_nonneg h0 (by omega), Int.le_trans (Int.ediv_le_self b h0) h1⟩

theorem ahead_any (n segs : Int) (w : World) :
    Calls Tryz.prog 252 #[.int .i64 n, .int .i64 segs] w fun e w' => e = .returned (.func (.func 270) #[] #[.pointer (some ⟨w.heap.size, 0, none⟩), .pointer (some ⟨w.heap.size + 1, 0, none⟩)]) ∧
      (w.alloc (.cells #[.int .i64 n] 3)).alloc (.cells #[.int .i64 segs] 3) = w' := by
  have hmf : ∀ (fn : Fn) (first cap : Array Value) (w : World), (Instr.makeFunc fn first cap).run Tryz.prog w = .ok (.func fn first cap) w := fun _ _ _ _ => rfl
  go_enter Tryz.func252, Tryz.ntmps252
  go_wp2
  go_ret
  exact ⟨rfl, rfl⟩

theorem before_any (n segs seg : Int) (B C : Nat) (w : World) (hn : w.cell? ⟨B, 0, none⟩ = some (.int .i64 n)) (hs : w.cell? ⟨C, 0, none⟩ = some (.int .i64 segs)) (h0 : 0 ≤ seg) (h1 : seg ≤ 512) (h2 : 0 ≤ n) (h3 : n ≤ 4096) (h4 : 1 ≤ segs) :
    Calls Tryz.prog 270 #[.int .i64 seg, .pointer (some ⟨B, 0, none⟩), .pointer (some ⟨C, 0, none⟩)] w fun e w' => e = .returned (.int .i64 (aZ n segs seg)) ∧ w = w' := by
  have m := mul_bound h0 h1 h2 h3
  have d := div_bound m.1 m.2 h4
  have m1 := m.1
  have m2 := m.2
  have d1 := d.1
  have d2 := d.2
  clear m d
  go_enter Tryz.func270, Tryz.ntmps270
  go_wp2
  go_ret
  exact ⟨rfl, rfl⟩
end Go.Proofs.YtaonkbfekadalaaGreatDoor
/- What Share, Ahead, check and Offsets come to. -/
namespace Go.Proofs.YtaonkbfekadalaaGreatDoor
open Go.RowKit
set_option linter.unusedVariables false

/-- How many elements come into a segment. -/
def sZ (n segs seg : Int) : Int := aZ n segs (seg + 1) - aZ n segs seg
theorem aZ_mono {n segs a b : Int} (hn : 0 ≤ n) (hs : 1 ≤ segs) (h : a ≤ b) : aZ n segs a ≤ aZ n segs b := by
  unfold aZ
  exact Int.ediv_le_ediv (by omega) (Int.mul_le_mul_of_nonneg_right h hn)
theorem aZ_bound {n segs a : Int} (hok : okB n segs = true) (h0 : 0 ≤ a) (h1 : a ≤ segs) : 0 ≤ aZ n segs a ∧ aZ n segs a ≤ n := by
  obtain ⟨p1, p2, p3, p4⟩ := okB_true hok
  unfold aZ
  refine ⟨Int.ediv_nonneg (Int.mul_nonneg h0 p3) (by omega), ?_⟩
  have : a * n ≤ segs * n := Int.mul_le_mul_of_nonneg_right h1 p3
  calc a * n / segs ≤ segs * n / segs := Int.ediv_le_ediv (by omega) this
    _ = n := Int.mul_ediv_cancel_left n (by omega)
theorem aZ_zero (n segs : Int) : aZ n segs 0 = 0 := by simp [aZ]
theorem aZ_last {n segs : Int} (hs : 1 ≤ segs) : aZ n segs segs = n := Int.mul_ediv_cancel_left n (by omega)

theorem check_ok (n first segs : Int) (w : World) (h : okB n segs = true) (hr : 0 ≤ first ∧ first ≤ 512 - segs) :
    Calls Tryz.prog 218 #[.int .i64 n, .int .i64 first, .int .i64 segs] w fun e w' => e = .returned (.int .i64 0) ∧ w = w' := by
  obtain ⟨p1, p2, p3, p4⟩ := okB_true h
  have b1 := inB_true hr
  clear hr
  go_enter Tryz.func218, Tryz.ntmps218
  go_wp2_with (first
    | (go_at_call 249; refine (right_any _ _ _).mono ?_; rintro e w' ⟨rfl, rfl⟩)
    | (go_at_call 250; refine (between_any _ _ _ _).mono ?_; rintro e w' ⟨rfl, rfl⟩))
  go_ret
  exact ⟨rfl, rfl⟩

/-- The offsets of m elements in a segment. -/
def offsP (m : Nat) : List Int := (List.range m).map fun j => ((j * 8 / m : Nat) : Int)
theorem offsP_length (m : Nat) : (offsP m).length = m := by simp [offsP]
theorem nth_offsP {m j : Nat} (h : j < m) : nth (offsP m) j = ((j * 8 / m : Nat) : Int) := by
  rw [nth_eq (by rw [offsP_length]; exact h)]
  simp [offsP]
end Go.Proofs.YtaonkbfekadalaaGreatDoor
/- The slots of a spread, as a list: plain lists and numbers. -/
namespace Go.Proofs.YtaonkbfekadalaaGreatDoor
open Go.RowKit
set_option linter.unusedVariables false

/-- How many elements come into segment k, as a natural number. -/
def sN (n segs : Int) (k : Nat) : Nat := (sZ n segs k).toNat
theorem sZ_nonneg {n segs : Int} (hok : okB n segs = true) (k : Int) : 0 ≤ sZ n segs k := by
  obtain ⟨p1, p2, p3, p4⟩ := okB_true hok
  have := aZ_mono (a := k) (b := k + 1) p3 p1 (by omega)
  unfold sZ; omega
theorem sN_eq {n segs : Int} (hok : okB n segs = true) (k : Nat) : ((sN n segs k : Nat) : Int) = sZ n segs k := by
  have := sZ_nonneg hok k
  unfold sN; omega
/-- A share is no more than a segment has room for. -/
theorem sZ_le {n segs : Int} (hok : okB n segs = true) (k : Int) : sZ n segs k ≤ 8 := by
  obtain ⟨p1, p2, p3, p4⟩ := okB_true hok
  unfold sZ aZ
  have e : (k + 1) * n = k * n + n := by rw [Int.add_mul, Int.one_mul]
  have h8 : (k * n + n) / segs ≤ (k * n + 8 * segs) / segs := Int.ediv_le_ediv (by omega) (by omega)
  have h9 : (k * n + 8 * segs) / segs = k * n / segs + 8 := by rw [Int.mul_comm 8 segs, Int.add_mul_ediv_left _ _ (by omega)]
  rw [e]; omega
theorem sN_le {n segs : Int} (hok : okB n segs = true) (k : Nat) : sN n segs k ≤ 8 := by
  have := sZ_le hok k
  have := sN_eq hok k
  omega

/-- The slots of segment k. -/
def seg (n first segs : Int) (k : Nat) : List Int := (offsP (sN n segs k)).map fun o => 8 * (first + k) + o
theorem seg_length (n first segs : Int) (k : Nat) : (seg n first segs k).length = sN n segs k := by simp [seg, offsP_length]
theorem nth_map_off {f : Int → Int} {l : List Int} {j : Nat} (h : j < l.length) : nth (l.map f) j = f (nth l j) := by
  rw [nth_eq (by simpa using h), nth_eq h]; simp
theorem nth_seg {n first segs : Int} {k j : Nat} (h : j < sN n segs k) : nth (seg n first segs k) j = 8 * (first + k) + ((j * 8 / sN n segs k : Nat) : Int) := by
  unfold seg
  rw [nth_map_off (by rw [offsP_length]; exact h), nth_offsP h]

/-- The slots of the first k segments. -/
def plTo (n first segs : Int) (k : Nat) : List Int := (List.range k).flatMap (seg n first segs)
theorem plTo_succ (n first segs : Int) (k : Nat) : plTo n first segs (k + 1) = plTo n first segs k ++ seg n first segs k := by
  simp [plTo, List.range_succ]
theorem plTo_zero (n first segs : Int) : plTo n first segs 0 = [] := rfl
theorem plTo_length {n first segs : Int} (hok : okB n segs = true) (k : Nat) : ((plTo n first segs k).length : Int) = aZ n segs k := by
  induction k with
  | zero => rw [plTo_zero]; exact (aZ_zero n segs).symm
  | succ k ih =>
    rw [plTo_succ, List.length_append, seg_length]
    have := sN_eq hok k
    unfold sZ at this
    push_cast
    omega
theorem plTo_prefix (n first segs : Int) {k m : Nat} (h : k ≤ m) : plTo n first segs k <+: plTo n first segs m := by
  induction m with
  | zero =>
    obtain rfl : k = 0 := by omega
    exact List.prefix_refl _
  | succ m ih =>
    rcases Nat.lt_or_ge m k with h1 | h1
    · obtain rfl : k = m + 1 := by omega
      exact List.prefix_refl _
    · rw [plTo_succ]; exact (ih h1).trans (List.prefix_append _ _)

/-- All slots of a spread. -/
def pl (n first segs : Int) : List Int := plTo n first segs segs.toNat
theorem pl_length {n first segs : Int} (hok : okB n segs = true) : ((pl n first segs).length : Int) = n := by
  obtain ⟨p1, p2, p3, p4⟩ := okB_true hok
  unfold pl
  rw [plTo_length hok, show ((segs.toNat : Nat) : Int) = segs by omega, aZ_last p1]
theorem part_prefix {n first segs : Int} {k j : Nat} (h : (k : Int) < segs) : plTo n first segs k ++ (seg n first segs k).take j <+: pl n first segs := by
  have h1 : plTo n first segs (k + 1) <+: pl n first segs := plTo_prefix n first segs (by omega)
  rw [plTo_succ] at h1
  exact (List.prefix_append_right_inj _ |>.2 (List.take_prefix _ _)).trans h1
theorem part_step {n first segs : Int} {k j : Nat} (h : j < sN n segs k) : plTo n first segs k ++ (seg n first segs k).take j ++ [8 * (first + k) + ((j * 8 / sN n segs k : Nat) : Int)] = plTo n first segs k ++ (seg n first segs k).take (j + 1) := by
  have hl : j < (seg n first segs k).length := by rw [seg_length]; exact h
  rw [List.append_assoc, List.take_succ_eq_append_getElem hl, ← nth_eq hl, nth_seg h]
theorem part_length_lt {n first segs : Int} {k j : Nat} (hk : (k : Int) < segs) (h : j < sN n segs k) : (plTo n first segs k ++ (seg n first segs k).take j).length < (pl n first segs).length := by
  have h1 := (part_prefix (n := n) (first := first) (j := j + 1) hk).length_le
  rw [← part_step h, List.length_append] at h1
  simp only [List.length_singleton] at h1
  omega
end Go.Proofs.YtaonkbfekadalaaGreatDoor
