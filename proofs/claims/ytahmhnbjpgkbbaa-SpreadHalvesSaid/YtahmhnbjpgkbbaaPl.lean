/- The slots of a spread, as a list: plain lists and numbers. -/
import Derived.Test.YtahmhnbjpgkbbaaSb
namespace Go.Proofs.Ytahmhnbjpgkbbaa
open Go.RowKit
set_option linter.unusedVariables false

/-- How many elements come into segment k, as a natural number. -/
def sN (n segs : Int) (k : Nat) : Nat := (sZ n segs k).toNat
theorem sZ_nonneg {n segs : Int} (hok : okB n segs = true) (k : Int) : 0 ≤ sZ n segs k := by
  obtain ⟨p1, p2, p3, p4⟩ := okB_true hok
  have := aZ_mono (a := k) (b := k + 1) p3 p1 (by omega)
  unfold sZ; omega
theorem sN_eq {n segs : Int} (hok : okB n segs = true) (k : Nat) : ((sN n segs k : Nat) : Int) = sZ n segs k := by
  have := sZ_nonneg hok k
  unfold sN; omega
/-- A share is no more than a segment has room for. -/
theorem sZ_le {n segs : Int} (hok : okB n segs = true) (k : Int) : sZ n segs k ≤ 8 := by
  obtain ⟨p1, p2, p3, p4⟩ := okB_true hok
  unfold sZ aZ
  have e : (k + 1) * n = k * n + n := by rw [Int.add_mul, Int.one_mul]
  have h8 : (k * n + n) / segs ≤ (k * n + 8 * segs) / segs := Int.ediv_le_ediv (by omega) (by omega)
  have h9 : (k * n + 8 * segs) / segs = k * n / segs + 8 := by rw [Int.mul_comm 8 segs, Int.add_mul_ediv_left _ _ (by omega)]
  rw [e]; omega
theorem sN_le {n segs : Int} (hok : okB n segs = true) (k : Nat) : sN n segs k ≤ 8 := by
  have := sZ_le hok k
  have := sN_eq hok k
  omega

/-- The slots of segment k. -/
def seg (n first segs : Int) (k : Nat) : List Int := (offs (sN n segs k)).map fun o => 8 * (first + k) + o
theorem seg_length (n first segs : Int) (k : Nat) : (seg n first segs k).length = sN n segs k := by simp [seg, offs_length]
theorem nth_map_off {f : Int → Int} {l : List Int} {j : Nat} (h : j < l.length) : nth (l.map f) j = f (nth l j) := by
  rw [nth_eq (by simpa using h), nth_eq h]; simp
theorem nth_seg {n first segs : Int} {k j : Nat} (h : j < sN n segs k) : nth (seg n first segs k) j = 8 * (first + k) + ((j * 8 / sN n segs k : Nat) : Int) := by
  unfold seg
  rw [nth_map_off (by rw [offs_length]; exact h), nth_offs h]

/-- The slots of the first k segments. -/
def plTo (n first segs : Int) (k : Nat) : List Int := (List.range k).flatMap (seg n first segs)
theorem plTo_succ (n first segs : Int) (k : Nat) : plTo n first segs (k + 1) = plTo n first segs k ++ seg n first segs k := by
  simp [plTo, List.range_succ]
theorem plTo_zero (n first segs : Int) : plTo n first segs 0 = [] := rfl
theorem plTo_length {n first segs : Int} (hok : okB n segs = true) (k : Nat) : ((plTo n first segs k).length : Int) = aZ n segs k := by
  induction k with
  | zero => rw [plTo_zero]; exact (aZ_zero n segs).symm
  | succ k ih =>
    rw [plTo_succ, List.length_append, seg_length]
    have := sN_eq hok k
    unfold sZ at this
    push_cast
    omega
theorem plTo_prefix (n first segs : Int) {k m : Nat} (h : k ≤ m) : plTo n first segs k <+: plTo n first segs m := by
  induction m with
  | zero =>
    obtain rfl : k = 0 := by omega
    exact List.prefix_refl _
  | succ m ih =>
    rcases Nat.lt_or_ge m k with h1 | h1
    · obtain rfl : k = m + 1 := by omega
      exact List.prefix_refl _
    · rw [plTo_succ]; exact (ih h1).trans (List.prefix_append _ _)

/-- All slots of a spread. -/
def pl (n first segs : Int) : List Int := plTo n first segs segs.toNat
theorem pl_length {n first segs : Int} (hok : okB n segs = true) : ((pl n first segs).length : Int) = n := by
  obtain ⟨p1, p2, p3, p4⟩ := okB_true hok
  unfold pl
  rw [plTo_length hok, show ((segs.toNat : Nat) : Int) = segs by omega, aZ_last p1]
theorem part_prefix {n first segs : Int} {k j : Nat} (h : (k : Int) < segs) : plTo n first segs k ++ (seg n first segs k).take j <+: pl n first segs := by
  have h1 : plTo n first segs (k + 1) <+: pl n first segs := plTo_prefix n first segs (by omega)
  rw [plTo_succ] at h1
  exact (List.prefix_append_right_inj _ |>.2 (List.take_prefix _ _)).trans h1
theorem part_step {n first segs : Int} {k j : Nat} (h : j < sN n segs k) : plTo n first segs k ++ (seg n first segs k).take j ++ [8 * (first + k) + ((j * 8 / sN n segs k : Nat) : Int)] = plTo n first segs k ++ (seg n first segs k).take (j + 1) := by
  have hl : j < (seg n first segs k).length := by rw [seg_length]; exact h
  rw [List.append_assoc, List.take_succ_eq_append_getElem hl, ← nth_eq hl, nth_seg h]
theorem part_length_lt {n first segs : Int} {k j : Nat} (hk : (k : Int) < segs) (h : j < sN n segs k) : (plTo n first segs k ++ (seg n first segs k).take j).length < (pl n first segs).length := by
  have h1 := (part_prefix (n := n) (first := first) (j := j + 1) hk).length_le
  rw [← part_step h, List.length_append] at h1
  simp only [List.length_singleton] at h1
  omega
end Go.Proofs.Ytahmhnbjpgkbbaa
