/- Plain facts on shares and slots: shares differ by one at most; the halves of a spread. -/
import Derived.Test.YtahmhnbjpgkbbaaEv
import Derived.Test.YtahmhnbjpgkbbaaRg
namespace Go.Proofs.Ytahmhnbjpgkbbaa
open Go.RowKit
set_option linter.unusedVariables false

/-- A share is the number of elements by the number of segments, or one more. -/
theorem sZ_near {n segs k : Int} (hs : 1 ≤ segs) : n / segs ≤ sZ n segs k ∧ sZ n segs k ≤ n / segs + 1 := by
  unfold sZ aZ
  have e : (k + 1) * n = k * n + n := by rw [Int.add_mul, Int.one_mul]
  rw [e]
  generalize k * n = A
  have h1 := Int.mul_ediv_add_emod A segs
  have h2 := Int.mul_ediv_add_emod n segs
  have r1 := Int.emod_nonneg A (show segs ≠ 0 by omega)
  have r2 := Int.emod_nonneg n (show segs ≠ 0 by omega)
  have r3 := Int.emod_lt_of_pos A (show 0 < segs by omega)
  have r4 := Int.emod_lt_of_pos n (show 0 < segs by omega)
  have h3 : A + n = (A % segs + n % segs) + segs * (A / segs + n / segs) := by rw [Int.mul_add]; omega
  have h4 : (A + n) / segs = (A % segs + n % segs) / segs + (A / segs + n / segs) := by
    conv => lhs; rw [h3]
    exact Int.add_mul_ediv_left _ _ (by omega)
  have h5 : 0 ≤ (A % segs + n % segs) / segs := Int.ediv_nonneg (by omega) (by omega)
  have h6 : (A % segs + n % segs) / segs < 2 := Int.ediv_lt_of_lt_mul (by omega) (by omega)
  omega
theorem sZ_some {n segs k : Int} (hs : 1 ≤ segs) (h : segs ≤ n) : 1 ≤ sZ n segs k := by
  have h1 := (sZ_near (n := n) (k := k) hs).1
  have h2 : segs / segs ≤ n / segs := Int.ediv_le_ediv (by omega) h
  rw [Int.ediv_self (by omega)] at h2
  omega
theorem sZ_seven {n segs k : Int} (hs : 1 ≤ segs) (h : n ≤ 7 * segs) : sZ n segs k ≤ 7 := by
  have h1 := (sZ_near (n := n) (k := k) hs).2
  by_cases he : n = 7 * segs
  · subst he
    unfold sZ aZ
    have e1 : (k + 1) * (7 * segs) / segs = (k + 1) * 7 := by rw [← Int.mul_assoc]; exact Int.mul_ediv_cancel _ (by omega)
    have e2 : k * (7 * segs) / segs = k * 7 := by rw [← Int.mul_assoc]; exact Int.mul_ediv_cancel _ (by omega)
    rw [e1, e2]; omega
  · have h2 : n / segs < 7 := Int.ediv_lt_of_lt_mul (by omega) (by omega)
    omega
theorem evB_shTo {n segs : Int} (hs : 1 ≤ segs) (k : Nat) : evB (shTo n segs k) = true := by
  rw [evB_iff]
  intro i j hi hj
  rw [shTo_length] at hi hj
  rw [nth_shTo hi, nth_shTo hj]
  have h1 := (sZ_near (n := n) (k := (i : Int)) hs).2
  have h2 := (sZ_near (n := n) (k := (j : Int)) hs).1
  omega
theorem i64s_shTo {n segs : Int} (hok : okB n segs = true) (k : Nat) : I64s (shTo n segs k) := by
  intro i hi
  rw [shTo_length] at hi
  rw [nth_shTo hi]
  have h1 := sZ_nonneg hok (i : Int)
  have h2 := sZ_le hok (i : Int)
  omega

/-- As many slots farther as the first segment is. -/
theorem seg_shift (n first segs : Int) (k : Nat) : seg n first segs k = (seg n 0 segs k).map (· + 8 * first) := by
  unfold seg
  rw [List.map_map]
  apply List.map_congr_left
  intro x _
  simp only [Function.comp]
  omega
theorem pl_shift (n first segs : Int) : pl n first segs = (pl n 0 segs).map (· + 8 * first) := by
  unfold pl plTo
  rw [List.map_flatMap]
  congr 1
  funext k
  exact seg_shift n first segs k
theorem nth_pl_shift {n first segs : Int} {i : Nat} (h : i < (pl n 0 segs).length) : nth (pl n first segs) i = nth (pl n 0 segs) i + 8 * first := by
  rw [pl_shift, nth_map_off h]

theorem aZ_half {h s : Int} (hs : 1 ≤ s) (k : Int) : aZ (2 * h) (2 * s) k = aZ h s k := by
  unfold aZ
  rw [show k * (2 * h) = 2 * (k * h) by rw [Int.mul_left_comm], Int.mul_ediv_mul_of_pos _ _ (by decide)]
theorem aZ_past {h s : Int} (hs : 1 ≤ s) (k : Int) : aZ h s (s + k) = h + aZ h s k := by
  unfold aZ
  rw [Int.add_mul, Int.add_comm, Int.add_mul_ediv_left _ _ (by omega)]
  omega
theorem sN_low {h s : Int} (hs : 1 ≤ s) (k : Nat) : sN (2 * h) (2 * s) k = sN h s k := by
  unfold sN sZ
  rw [aZ_half hs, aZ_half hs]
theorem sN_high {h : Int} {s : Nat} (hs : 1 ≤ (s : Int)) (k : Nat) : sN (2 * h) (2 * (s : Int)) (s + k) = sN h s k := by
  unfold sN sZ
  rw [aZ_half hs, aZ_half hs, show ((s + k : Nat) : Int) + 1 = (s : Int) + ((k : Int) + 1) by omega, show ((s + k : Nat) : Int) = (s : Int) + (k : Int) by omega, aZ_past hs, aZ_past hs]
  congr 1
  omega
theorem seg_low {h first s : Int} (hs : 1 ≤ s) (k : Nat) : seg (2 * h) first (2 * s) k = seg h first s k := by
  unfold seg
  rw [sN_low hs]
theorem seg_high {h first : Int} {s : Nat} (hs : 1 ≤ (s : Int)) (k : Nat) : seg (2 * h) first (2 * (s : Int)) (s + k) = seg h (first + s) s k := by
  unfold seg
  rw [sN_high hs]
  congr 1
  funext o
  omega
/-- AN EVEN NUMBER LIES IN BOTH HALVES ALIKE. -/
theorem pl_halves {h first : Int} {s : Nat} (hs : 1 ≤ (s : Int)) : pl (2 * h) first (2 * (s : Int)) = pl h first s ++ pl h (first + s) s := by
  unfold pl plTo
  rw [show (2 * (s : Int)).toNat = s + s by omega, show ((s : Int)).toNat = s by omega, List.range_add, List.flatMap_append, List.flatMap_map]
  congr 1
  · congr 1
    funext k
    exact seg_low hs k
  · congr 1
    funext k
    exact seg_high hs k
theorem aZ_mid {n : Int} {s : Int} (hs : 1 ≤ s) : aZ n (2 * s) s = n / 2 := by
  unfold aZ
  rw [Int.mul_comm 2 s, Int.mul_ediv_mul_of_pos _ _ (by omega)]
theorem okB_half {h s : Int} (hok : okB (2 * h) (2 * s) = true) (hs : s ≤ 256) : okB h s = true := by
  obtain ⟨p1, p2, p3, p4⟩ := okB_true hok
  exact okB_mk ⟨by omega, by omega, by omega, by omega⟩

theorem RI.left {w : World} {A : Option Addr} {xs ys : List Int} (h : RI w A (xs ++ ys)) : RI w A xs := fun hx => by
  obtain ⟨b, off, rfl, hr⟩ := h (by rw [List.length_append]; omega)
  exact ⟨b, off, rfl, fun k hk => by
    have := hr k (by rw [List.length_append]; omega)
    rwa [nth_prefix (List.prefix_append xs ys) hk] at this⟩
theorem RI.right {w : World} {b off : Nat} {xs ys : List Int} (h : RI w (some ⟨b, off, none⟩) (xs ++ ys)) : RI w (some ⟨b, off + xs.length, none⟩) ys := fun hx => by
  refine ⟨b, off + xs.length, rfl, fun k hk => ?_⟩
  have := h.cellN (k := xs.length + k) (by rw [List.length_append]; omega)
  rw [nth_right] at this
  rwa [Nat.add_assoc]
end Go.Proofs.Ytahmhnbjpgkbbaa
