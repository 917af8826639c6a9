/- Plain laws of 64-bit words: how many bits are on, the lowest one, the highest one. No program in sight. -/
import Derived.Lib.BitFns
import Derived.Lib.TrailingZeros
namespace Go.Proofs.YthjpflhoenljdaaDoor
open Go
set_option linter.unusedVariables false

/-- How many of the bits below m are on. -/
def popN (x : Nat) : Nat → Nat
  | 0 => 0
  | m + 1 => popN x m + (if x.testBit m then 1 else 0)
theorem popN_succ (x m : Nat) : popN x (m + 1) = popN x m + (if x.testBit m then 1 else 0) := rfl
theorem popN_le (x : Nat) : ∀ m, popN x m ≤ m
  | 0 => Nat.le_refl _
  | m + 1 => by have := popN_le x m; unfold popN; split <;> omega
theorem popN_mono (x : Nat) {a b : Nat} (h : a ≤ b) : popN x a ≤ popN x b := by
  induction b with
  | zero => obtain rfl : a = 0 := by omega
            exact Nat.le_refl _
  | succ b ih =>
    by_cases e : a = b + 1
    · subst e; exact Nat.le_refl _
    · have h1 := ih (by omega)
      have h2 := popN_succ x b
      exact Nat.le_trans h1 (by rw [h2]; exact Nat.le_add_right _ _)
theorem popN_congr {x y : Nat} : ∀ {m : Nat}, (∀ i, i < m → x.testBit i = y.testBit i) → popN x m = popN y m
  | 0, _ => rfl
  | m + 1, h => by
    unfold popN
    rw [popN_congr (fun i hi => h i (by omega)), h m (by omega)]
theorem popN_cat (hi : Nat) {lo k : Nat} (hl : lo < 2 ^ k) : ∀ m, popN (2 ^ k * hi + lo) (k + m) = popN lo k + popN hi m
  | 0 => by
    simp only [Nat.add_zero, popN]
    exact popN_congr fun i h => by rw [Nat.testBit_two_pow_mul_add hi hl, if_pos h]
  | m + 1 => by
    have ih := popN_cat hi hl m
    have hb : (2 ^ k * hi + lo).testBit (k + m) = hi.testBit m := by
      rw [Nat.testBit_two_pow_mul_add hi hl, if_neg (by omega), show k + m - k = m by omega]
    have h1 := popN_succ (2 ^ k * hi + lo) (k + m)
    have h2 := popN_succ hi m
    rw [hb] at h1
    rw [← Nat.add_assoc, h1, h2, ih, Nat.add_assoc]
theorem and_cat (a c : Nat) {b d : Nat} (hb : b < 256) (hd : d < 256) : (256 * a + b) &&& (256 * c + d) = 256 * (a &&& c) + (b &&& d) := by
  have e : (256 : Nat) = 2 ^ 8 := by decide
  rw [e] at hb hd ⊢
  apply Nat.eq_of_testBit_eq
  intro i
  have h3 : b &&& d < 2 ^ 8 := Nat.and_lt_two_pow _ hd
  rw [Nat.testBit_and, Nat.testBit_two_pow_mul_add a hb, Nat.testBit_two_pow_mul_add c hd, Nat.testBit_two_pow_mul_add _ h3]
  split <;> rw [Nat.testBit_and]

/-- A byte, k times. -/
def rep (v : Nat) : Nat → Nat
  | 0 => 0
  | k + 1 => 256 * rep v k + v
theorem rep_succ (v k : Nat) : rep v (k + 1) = 256 * rep v k + v := rfl
def s1 (k x : Nat) : Nat := (x / 2 &&& rep 85 k) + (x &&& rep 85 k)
def s2 (k x : Nat) : Nat := (x / 4 &&& rep 51 k) + (x &&& rep 51 k)
def s3 (k x : Nat) : Nat := (x / 16 + x) &&& rep 15 k
def b1 (x : Nat) : Nat := (x / 2 &&& 85) + (x &&& 85)
def b2 (x : Nat) : Nat := (x / 4 &&& 51) + (x &&& 51)
def b3 (x : Nat) : Nat := (x / 16 + x) &&& 15
theorem bytes_all : ∀ b : Fin 256, b1 b.1 < 256 ∧ b2 (b1 b.1) ≤ 68 ∧ b2 (b1 b.1) % 16 ≤ 4 ∧ b3 (b2 (b1 b.1)) = popN b.1 8 := by decide +kernel
theorem and85 : ∀ (q : Fin 2) (c : Fin 128), (q.1 * 128 + c.1) &&& 85 = c.1 &&& 85 := by decide +kernel
theorem and51 : ∀ (q : Fin 4) (c : Fin 64), (q.1 * 64 + c.1) &&& 51 = c.1 &&& 51 := by decide +kernel
theorem and15 : ∀ (q : Fin 5) (c : Fin 69), (q.1 * 16 + (c.1 / 16 + c.1)) &&& 15 = (c.1 / 16 + c.1) &&& 15 := by decide +kernel
theorem s1_cat (k hi : Nat) {lo : Nat} (hl : lo < 256) : s1 (k + 1) (256 * hi + lo) = 256 * s1 k hi + b1 lo := by
  have e : (256 * hi + lo) / 2 = 256 * (hi / 2) + ((hi % 2) * 128 + lo / 2) := by omega
  unfold s1 b1
  rw [rep_succ, e, and_cat _ _ (by omega) (by omega), and_cat _ _ hl (by omega), and85 ⟨hi % 2, by omega⟩ ⟨lo / 2, by omega⟩]
  simp only []
  omega
theorem s2_cat (k hi : Nat) {lo : Nat} (hl : lo < 256) : s2 (k + 1) (256 * hi + lo) = 256 * s2 k hi + b2 lo := by
  have e : (256 * hi + lo) / 4 = 256 * (hi / 4) + ((hi % 4) * 64 + lo / 4) := by omega
  unfold s2 b2
  rw [rep_succ, e, and_cat _ _ (by omega) (by omega), and_cat _ _ hl (by omega), and51 ⟨hi % 4, by omega⟩ ⟨lo / 4, by omega⟩]
  simp only []
  omega
theorem s3_cat (k hi : Nat) {lo : Nat} (hl : lo ≤ 68) (hh : hi % 16 ≤ 4) : s3 (k + 1) (256 * hi + lo) = 256 * s3 k hi + b3 lo := by
  have e : (256 * hi + lo) / 16 + (256 * hi + lo) = 256 * (hi / 16 + hi) + ((hi % 16) * 16 + (lo / 16 + lo)) := by omega
  unfold s3 b3
  rw [rep_succ, e, and_cat _ _ (by omega) (by omega), and15 ⟨hi % 16, by omega⟩ ⟨lo, by omega⟩]
/-- The bytes' counts, beside each other. -/
def sums (x : Nat) : Nat → Nat
  | 0 => 0
  | k + 1 => 256 * sums (x / 256) k + popN (x % 256) 8
theorem s_all : ∀ (k x : Nat), s2 k (s1 k x) % 16 ≤ 4 ∧ s3 k (s2 k (s1 k x)) = sums x k
  | 0, x => by simp [s1, s2, s3, rep, sums]
  | k + 1, x => by
    obtain ⟨i1, i2⟩ := s_all k (x / 256)
    have hx : x = 256 * (x / 256) + x % 256 := by omega
    have hb := bytes_all ⟨x % 256, by omega⟩
    simp only [] at hb
    have e1 : s1 (k + 1) x = 256 * s1 k (x / 256) + b1 (x % 256) := by
      conv => lhs; rw [hx]
      exact s1_cat k (x / 256) (by omega)
    rw [e1, s2_cat k _ hb.1, s3_cat k _ hb.2.1 i1, i2, hb.2.2.2]
    exact ⟨by omega, rfl⟩
theorem popN_8 (x m : Nat) : popN x (8 + m) = popN (x % 256) 8 + popN (x / 256) m := by
  have := popN_cat (x / 256) (lo := x % 256) (k := 8) (by omega) m
  rw [← this]
  congr 1
  omega

/-- What OnesCount64 reckons is how many bits are on. -/
theorem ones_eq (x : Nat) (hx : x < 18446744073709551616) : ∃ c0 c1 c2 c3 c4 c5 c6 c7 : Nat, (c0 ≤ 8 ∧ c1 ≤ 8 ∧ c2 ≤ 8 ∧ c3 ≤ 8 ∧ c4 ≤ 8 ∧ c5 ≤ 8 ∧ c6 ≤ 8 ∧ c7 ≤ 8) ∧
    sums x 8 = c0 + 256 * (c1 + 256 * (c2 + 256 * (c3 + 256 * (c4 + 256 * (c5 + 256 * (c6 + 256 * c7)))))) ∧ popN x 64 = c0 + c1 + c2 + c3 + c4 + c5 + c6 + c7 := by
  refine ⟨popN (x % 256) 8, popN (x / 256 % 256) 8, popN (x / 256 / 256 % 256) 8, popN (x / 256 / 256 / 256 % 256) 8, popN (x / 256 / 256 / 256 / 256 % 256) 8, popN (x / 256 / 256 / 256 / 256 / 256 % 256) 8, popN (x / 256 / 256 / 256 / 256 / 256 / 256 % 256) 8, popN (x / 256 / 256 / 256 / 256 / 256 / 256 / 256 % 256) 8,
    ⟨popN_le _ _, popN_le _ _, popN_le _ _, popN_le _ _, popN_le _ _, popN_le _ _, popN_le _ _, popN_le _ _⟩, ?_, ?_⟩
  · simp only [sums]
    generalize popN (x % 256) 8 = c0
    generalize popN (x / 256 % 256) 8 = c1
    generalize popN (x / 256 / 256 % 256) 8 = c2
    generalize popN (x / 256 / 256 / 256 % 256) 8 = c3
    generalize popN (x / 256 / 256 / 256 / 256 % 256) 8 = c4
    generalize popN (x / 256 / 256 / 256 / 256 / 256 % 256) 8 = c5
    generalize popN (x / 256 / 256 / 256 / 256 / 256 / 256 % 256) 8 = c6
    generalize popN (x / 256 / 256 / 256 / 256 / 256 / 256 / 256 % 256) 8 = c7
    omega
  · rw [show (64 : Nat) = 8 + (8 + (8 + (8 + (8 + (8 + (8 + (8 + 0))))))) from rfl]
    rw [popN_8, popN_8, popN_8, popN_8, popN_8, popN_8, popN_8, popN_8]
    generalize popN (x % 256) 8 = c0
    generalize popN (x / 256 % 256) 8 = c1
    generalize popN (x / 256 / 256 % 256) 8 = c2
    generalize popN (x / 256 / 256 / 256 % 256) 8 = c3
    generalize popN (x / 256 / 256 / 256 / 256 % 256) 8 = c4
    generalize popN (x / 256 / 256 / 256 / 256 / 256 % 256) 8 = c5
    generalize popN (x / 256 / 256 / 256 / 256 / 256 / 256 % 256) 8 = c6
    generalize popN (x / 256 / 256 / 256 / 256 / 256 / 256 / 256 % 256) 8 = c7
    rw [show ∀ y, popN y 0 = 0 from fun _ => rfl]
    omega
theorem div_of {a b x N : Nat} (h : x = a + N * b) (ha : a < N) : x / N = b := by
  subst h
  rw [Nat.add_mul_div_left _ _ (by omega), Nat.div_eq_of_lt ha, Nat.zero_add]
theorem lin1 (c0 c1 c2 c3 c4 c5 c6 c7 y : Nat) (hy : y = c0 + 256 * (c1 + 256 * (c2 + 256 * (c3 + 256 * (c4 + 256 * (c5 + 256 * (c6 + 256 * c7)))))) + (c1 + 256 * (c2 + 256 * (c3 + 256 * (c4 + 256 * (c5 + 256 * (c6 + 256 * c7))))))) :
    y = ((c0 + c1) + 256 * (c1 + c2)) + 65536 * ((c2 + c3) + 256 * ((c3 + c4) + 256 * ((c4 + c5) + 256 * ((c5 + c6) + 256 * ((c6 + c7) + 256 * c7))))) := by omega
theorem lin2 (c0 c1 c2 c3 c4 c5 c6 c7 z : Nat) (hz : z = ((c0 + c1) + 256 * (c1 + c2)) + 65536 * ((c2 + c3) + 256 * ((c3 + c4) + 256 * ((c4 + c5) + 256 * ((c5 + c6) + 256 * ((c6 + c7) + 256 * c7))))) + ((c2 + c3) + 256 * ((c3 + c4) + 256 * ((c4 + c5) + 256 * ((c5 + c6) + 256 * ((c6 + c7) + 256 * c7)))))) :
    z = ((c0 + c1 + c2 + c3) + 256 * ((c1 + c2 + c3 + c4) + 256 * ((c2 + c3 + c4 + c5) + 256 * (c3 + c4 + c5 + c6)))) + 4294967296 * ((c4 + c5 + c6 + c7) + 256 * ((c5 + c6 + c7) + 256 * ((c6 + c7) + 256 * c7))) := by omega
theorem lin3 (c0 c1 c2 c3 c4 c5 c6 c7 u : Nat) (hu : u = ((c0 + c1 + c2 + c3) + 256 * ((c1 + c2 + c3 + c4) + 256 * ((c2 + c3 + c4 + c5) + 256 * (c3 + c4 + c5 + c6)))) + 4294967296 * ((c4 + c5 + c6 + c7) + 256 * ((c5 + c6 + c7) + 256 * ((c6 + c7) + 256 * c7))) + ((c4 + c5 + c6 + c7) + 256 * ((c5 + c6 + c7) + 256 * ((c6 + c7) + 256 * c7)))) :
    u = (c0 + c1 + c2 + c3 + c4 + c5 + c6 + c7) + 128 * (2 * ((c1 + c2 + c3 + c4 + c5 + c6 + c7) + 256 * ((c2 + c3 + c4 + c5 + c6 + c7) + 256 * ((c3 + c4 + c5 + c6 + c7) + 256 * ((c4 + c5 + c6 + c7) + 256 * ((c5 + c6 + c7) + 256 * ((c6 + c7) + 256 * c7))))))) := by omega
theorem sum8 (c0 c1 c2 c3 c4 c5 c6 c7 : Nat) (h : c0 ≤ 8 ∧ c1 ≤ 8 ∧ c2 ≤ 8 ∧ c3 ≤ 8 ∧ c4 ≤ 8 ∧ c5 ≤ 8 ∧ c6 ≤ 8 ∧ c7 ≤ 8) (x y z u : Nat)
    (hx : x = c0 + 256 * (c1 + 256 * (c2 + 256 * (c3 + 256 * (c4 + 256 * (c5 + 256 * (c6 + 256 * c7)))))))
    (hy : y = x + x / 256) (hz : z = y + y / 65536) (hu : u = z + z / 4294967296) : u < 9223372036854775808 ∧ y < 18446744073709551616 ∧ z < 18446744073709551616 ∧ u % 128 = c0 + c1 + c2 + c3 + c4 + c5 + c6 + c7 := by
  obtain ⟨h0, h1, h2, h3, h4, h5, h6, h7⟩ := h
  rw [div_of (N := 256) hx (by omega), hx] at hy
  clear hx
  have hy' := lin1 c0 c1 c2 c3 c4 c5 c6 c7 y hy
  clear hy
  rw [div_of (N := 65536) hy' (by omega), hy'] at hz
  have hz' := lin2 c0 c1 c2 c3 c4 c5 c6 c7 z hz
  have b1 : y < 18446744073709551616 := by clear hz hz'; omega
  clear hz hy'
  rw [div_of (N := 4294967296) hz' (by omega), hz'] at hu
  have hu' := lin3 c0 c1 c2 c3 c4 c5 c6 c7 u hu
  clear hu
  have b2 : z < 18446744073709551616 := by clear hu'; omega
  clear hz'
  refine ⟨by omega, b1, b2, ?_⟩
  rw [hu', Nat.add_mul_mod_self_left]
  clear hu'
  exact Nat.mod_eq_of_lt (by omega)
end Go.Proofs.YthjpflhoenljdaaDoor
