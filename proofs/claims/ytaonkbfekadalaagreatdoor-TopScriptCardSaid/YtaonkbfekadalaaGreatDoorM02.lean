/- Joined texts: Ba, Bb. -/
import Derived.Lib.BitFns
import Derived.Lib.TrailingZeros
/- Plain laws of 64-bit words: how many bits are on, the lowest one, the highest one. No program in sight. -/
namespace Go.Proofs.YtaonkbfekadalaaGreatDoor
open Go
set_option linter.unusedVariables false

/-- How many of the bits below m are on. -/
def popN (x : Nat) : Nat → Nat
  | 0 => 0
  | m + 1 => popN x m + (if x.testBit m then 1 else 0)
theorem popN_succ (x m : Nat) : popN x (m + 1) = popN x m + (if x.testBit m then 1 else 0) := rfl
theorem popN_le (x : Nat) : ∀ m, popN x m ≤ m
  | 0 => Nat.le_refl _
  | m + 1 => by have := popN_le x m; unfold popN; split <;> omega
theorem popN_congr {x y : Nat} : ∀ {m : Nat}, (∀ i, i < m → x.testBit i = y.testBit i) → popN x m = popN y m
  | 0, _ => rfl
  | m + 1, h => by
    unfold popN
    rw [popN_congr (fun i hi => h i (by omega)), h m (by omega)]
theorem popN_cat (hi : Nat) {lo k : Nat} (hl : lo < 2 ^ k) : ∀ m, popN (2 ^ k * hi + lo) (k + m) = popN lo k + popN hi m
  | 0 => by
    simp only [Nat.add_zero, popN]
    exact popN_congr fun i h => by rw [Nat.testBit_two_pow_mul_add hi hl, if_pos h]
  | m + 1 => by
    have ih := popN_cat hi hl m
    have hb : (2 ^ k * hi + lo).testBit (k + m) = hi.testBit m := by
      rw [Nat.testBit_two_pow_mul_add hi hl, if_neg (by omega), show k + m - k = m by omega]
    have h1 := popN_succ (2 ^ k * hi + lo) (k + m)
    have h2 := popN_succ hi m
    rw [hb] at h1
    rw [← Nat.add_assoc, h1, h2, ih, Nat.add_assoc]
theorem and_cat (a c : Nat) {b d : Nat} (hb : b < 256) (hd : d < 256) : (256 * a + b) &&& (256 * c + d) = 256 * (a &&& c) + (b &&& d) := by
  have e : (256 : Nat) = 2 ^ 8 := by decide
  rw [e] at hb hd ⊢
  apply Nat.eq_of_testBit_eq
  intro i
  have h3 : b &&& d < 2 ^ 8 := Nat.and_lt_two_pow _ hd
  rw [Nat.testBit_and, Nat.testBit_two_pow_mul_add a hb, Nat.testBit_two_pow_mul_add c hd, Nat.testBit_two_pow_mul_add _ h3]
  split <;> rw [Nat.testBit_and]

/-- A byte, k times. -/
def rep (v : Nat) : Nat → Nat
  | 0 => 0
  | k + 1 => 256 * rep v k + v
theorem rep_succ (v k : Nat) : rep v (k + 1) = 256 * rep v k + v := rfl
def s1 (k x : Nat) : Nat := (x / 2 &&& rep 85 k) + (x &&& rep 85 k)
def s2 (k x : Nat) : Nat := (x / 4 &&& rep 51 k) + (x &&& rep 51 k)
def s3 (k x : Nat) : Nat := (x / 16 + x) &&& rep 15 k
def b1 (x : Nat) : Nat := (x / 2 &&& 85) + (x &&& 85)
def b2 (x : Nat) : Nat := (x / 4 &&& 51) + (x &&& 51)
def b3 (x : Nat) : Nat := (x / 16 + x) &&& 15
theorem bytes_all : ∀ b : Fin 256, b1 b.1 < 256 ∧ b2 (b1 b.1) ≤ 68 ∧ b2 (b1 b.1) % 16 ≤ 4 ∧ b3 (b2 (b1 b.1)) = popN b.1 8 := by decide +kernel
theorem and85 : ∀ (q : Fin 2) (c : Fin 128), (q.1 * 128 + c.1) &&& 85 = c.1 &&& 85 := by decide +kernel
theorem and51 : ∀ (q : Fin 4) (c : Fin 64), (q.1 * 64 + c.1) &&& 51 = c.1 &&& 51 := by decide +kernel
theorem and15 : ∀ (q : Fin 5) (c : Fin 69), (q.1 * 16 + (c.1 / 16 + c.1)) &&& 15 = (c.1 / 16 + c.1) &&& 15 := by decide +kernel
theorem s1_cat (k hi : Nat) {lo : Nat} (hl : lo < 256) : s1 (k + 1) (256 * hi + lo) = 256 * s1 k hi + b1 lo := by
  have e : (256 * hi + lo) / 2 = 256 * (hi / 2) + ((hi % 2) * 128 + lo / 2) := by omega
  unfold s1 b1
  rw [rep_succ, e, and_cat _ _ (by omega) (by omega), and_cat _ _ hl (by omega), and85 ⟨hi % 2, by omega⟩ ⟨lo / 2, by omega⟩]
  simp only []
  omega
theorem s2_cat (k hi : Nat) {lo : Nat} (hl : lo < 256) : s2 (k + 1) (256 * hi + lo) = 256 * s2 k hi + b2 lo := by
  have e : (256 * hi + lo) / 4 = 256 * (hi / 4) + ((hi % 4) * 64 + lo / 4) := by omega
  unfold s2 b2
  rw [rep_succ, e, and_cat _ _ (by omega) (by omega), and_cat _ _ hl (by omega), and51 ⟨hi % 4, by omega⟩ ⟨lo / 4, by omega⟩]
  simp only []
  omega
theorem s3_cat (k hi : Nat) {lo : Nat} (hl : lo ≤ 68) (hh : hi % 16 ≤ 4) : s3 (k + 1) (256 * hi + lo) = 256 * s3 k hi + b3 lo := by
  have e : (256 * hi + lo) / 16 + (256 * hi + lo) = 256 * (hi / 16 + hi) + ((hi % 16) * 16 + (lo / 16 + lo)) := by omega
  unfold s3 b3
  rw [rep_succ, e, and_cat _ _ (by omega) (by omega), and15 ⟨hi % 16, by omega⟩ ⟨lo, by omega⟩]
/-- The bytes' counts, beside each other. -/
def sums (x : Nat) : Nat → Nat
  | 0 => 0
  | k + 1 => 256 * sums (x / 256) k + popN (x % 256) 8
theorem s_all : ∀ (k x : Nat), s2 k (s1 k x) % 16 ≤ 4 ∧ s3 k (s2 k (s1 k x)) = sums x k
  | 0, x => by simp [s1, s2, s3, rep, sums]
  | k + 1, x => by
    obtain ⟨i1, i2⟩ := s_all k (x / 256)
    have hx : x = 256 * (x / 256) + x % 256 := by omega
    have hb := bytes_all ⟨x % 256, by omega⟩
    simp only [] at hb
    have e1 : s1 (k + 1) x = 256 * s1 k (x / 256) + b1 (x % 256) := by
      conv => lhs; rw [hx]
      exact s1_cat k (x / 256) (by omega)
    rw [e1, s2_cat k _ hb.1, s3_cat k _ hb.2.1 i1, i2, hb.2.2.2]
    exact ⟨by omega, rfl⟩
theorem popN_8 (x m : Nat) : popN x (8 + m) = popN (x % 256) 8 + popN (x / 256) m := by
  have := popN_cat (x / 256) (lo := x % 256) (k := 8) (by omega) m
  rw [← this]
  congr 1
  omega

/-- What OnesCount64 reckons is how many bits are on. -/
theorem ones_eq (x : Nat) (hx : x < 18446744073709551616) : ∃ c0 c1 c2 c3 c4 c5 c6 c7 : Nat, (c0 ≤ 8 ∧ c1 ≤ 8 ∧ c2 ≤ 8 ∧ c3 ≤ 8 ∧ c4 ≤ 8 ∧ c5 ≤ 8 ∧ c6 ≤ 8 ∧ c7 ≤ 8) ∧
    sums x 8 = c0 + 256 * (c1 + 256 * (c2 + 256 * (c3 + 256 * (c4 + 256 * (c5 + 256 * (c6 + 256 * c7)))))) ∧ popN x 64 = c0 + c1 + c2 + c3 + c4 + c5 + c6 + c7 := by
  refine ⟨popN (x % 256) 8, popN (x / 256 % 256) 8, popN (x / 256 / 256 % 256) 8, popN (x / 256 / 256 / 256 % 256) 8, popN (x / 256 / 256 / 256 / 256 % 256) 8, popN (x / 256 / 256 / 256 / 256 / 256 % 256) 8, popN (x / 256 / 256 / 256 / 256 / 256 / 256 % 256) 8, popN (x / 256 / 256 / 256 / 256 / 256 / 256 / 256 % 256) 8,
    ⟨popN_le _ _, popN_le _ _, popN_le _ _, popN_le _ _, popN_le _ _, popN_le _ _, popN_le _ _, popN_le _ _⟩, ?_, ?_⟩
  · simp only [sums]
    generalize popN (x % 256) 8 = c0
    generalize popN (x / 256 % 256) 8 = c1
    generalize popN (x / 256 / 256 % 256) 8 = c2
    generalize popN (x / 256 / 256 / 256 % 256) 8 = c3
    generalize popN (x / 256 / 256 / 256 / 256 % 256) 8 = c4
    generalize popN (x / 256 / 256 / 256 / 256 / 256 % 256) 8 = c5
    generalize popN (x / 256 / 256 / 256 / 256 / 256 / 256 % 256) 8 = c6
    generalize popN (x / 256 / 256 / 256 / 256 / 256 / 256 / 256 % 256) 8 = c7
    omega
  · rw [show (64 : Nat) = 8 + (8 + (8 + (8 + (8 + (8 + (8 + (8 + 0))))))) from rfl]
    rw [popN_8, popN_8, popN_8, popN_8, popN_8, popN_8, popN_8, popN_8]
    generalize popN (x % 256) 8 = c0
    generalize popN (x / 256 % 256) 8 = c1
    generalize popN (x / 256 / 256 % 256) 8 = c2
    generalize popN (x / 256 / 256 / 256 % 256) 8 = c3
    generalize popN (x / 256 / 256 / 256 / 256 % 256) 8 = c4
    generalize popN (x / 256 / 256 / 256 / 256 / 256 % 256) 8 = c5
    generalize popN (x / 256 / 256 / 256 / 256 / 256 / 256 % 256) 8 = c6
    generalize popN (x / 256 / 256 / 256 / 256 / 256 / 256 / 256 % 256) 8 = c7
    rw [show ∀ y, popN y 0 = 0 from fun _ => rfl]
    omega
theorem div_of {a b x N : Nat} (h : x = a + N * b) (ha : a < N) : x / N = b := by
  subst h
  rw [Nat.add_mul_div_left _ _ (by omega), Nat.div_eq_of_lt ha, Nat.zero_add]
theorem lin1 (c0 c1 c2 c3 c4 c5 c6 c7 y : Nat) (hy : y = c0 + 256 * (c1 + 256 * (c2 + 256 * (c3 + 256 * (c4 + 256 * (c5 + 256 * (c6 + 256 * c7)))))) + (c1 + 256 * (c2 + 256 * (c3 + 256 * (c4 + 256 * (c5 + 256 * (c6 + 256 * c7))))))) :
    y = ((c0 + c1) + 256 * (c1 + c2)) + 65536 * ((c2 + c3) + 256 * ((c3 + c4) + 256 * ((c4 + c5) + 256 * ((c5 + c6) + 256 * ((c6 + c7) + 256 * c7))))) := by omega
theorem lin2 (c0 c1 c2 c3 c4 c5 c6 c7 z : Nat) (hz : z = ((c0 + c1) + 256 * (c1 + c2)) + 65536 * ((c2 + c3) + 256 * ((c3 + c4) + 256 * ((c4 + c5) + 256 * ((c5 + c6) + 256 * ((c6 + c7) + 256 * c7))))) + ((c2 + c3) + 256 * ((c3 + c4) + 256 * ((c4 + c5) + 256 * ((c5 + c6) + 256 * ((c6 + c7) + 256 * c7)))))) :
    z = ((c0 + c1 + c2 + c3) + 256 * ((c1 + c2 + c3 + c4) + 256 * ((c2 + c3 + c4 + c5) + 256 * (c3 + c4 + c5 + c6)))) + 4294967296 * ((c4 + c5 + c6 + c7) + 256 * ((c5 + c6 + c7) + 256 * ((c6 + c7) + 256 * c7))) := by omega
theorem lin3 (c0 c1 c2 c3 c4 c5 c6 c7 u : Nat) (hu : u = ((c0 + c1 + c2 + c3) + 256 * ((c1 + c2 + c3 + c4) + 256 * ((c2 + c3 + c4 + c5) + 256 * (c3 + c4 + c5 + c6)))) + 4294967296 * ((c4 + c5 + c6 + c7) + 256 * ((c5 + c6 + c7) + 256 * ((c6 + c7) + 256 * c7))) + ((c4 + c5 + c6 + c7) + 256 * ((c5 + c6 + c7) + 256 * ((c6 + c7) + 256 * c7)))) :
    u = (c0 + c1 + c2 + c3 + c4 + c5 + c6 + c7) + 128 * (2 * ((c1 + c2 + c3 + c4 + c5 + c6 + c7) + 256 * ((c2 + c3 + c4 + c5 + c6 + c7) + 256 * ((c3 + c4 + c5 + c6 + c7) + 256 * ((c4 + c5 + c6 + c7) + 256 * ((c5 + c6 + c7) + 256 * ((c6 + c7) + 256 * c7))))))) := by omega
theorem sum8 (c0 c1 c2 c3 c4 c5 c6 c7 : Nat) (h : c0 ≤ 8 ∧ c1 ≤ 8 ∧ c2 ≤ 8 ∧ c3 ≤ 8 ∧ c4 ≤ 8 ∧ c5 ≤ 8 ∧ c6 ≤ 8 ∧ c7 ≤ 8) (x y z u : Nat)
    (hx : x = c0 + 256 * (c1 + 256 * (c2 + 256 * (c3 + 256 * (c4 + 256 * (c5 + 256 * (c6 + 256 * c7)))))))
    (hy : y = x + x / 256) (hz : z = y + y / 65536) (hu : u = z + z / 4294967296) : u < 9223372036854775808 ∧ y < 18446744073709551616 ∧ z < 18446744073709551616 ∧ u % 128 = c0 + c1 + c2 + c3 + c4 + c5 + c6 + c7 := by
  obtain ⟨h0, h1, h2, h3, h4, h5, h6, h7⟩ := h
  rw [div_of (N := 256) hx (by omega), hx] at hy
  clear hx
  have hy' := lin1 c0 c1 c2 c3 c4 c5 c6 c7 y hy
  clear hy
  rw [div_of (N := 65536) hy' (by omega), hy'] at hz
  have hz' := lin2 c0 c1 c2 c3 c4 c5 c6 c7 z hz
  have b1 : y < 18446744073709551616 := by clear hz hz'; omega
  clear hz hy'
  rw [div_of (N := 4294967296) hz' (by omega), hz'] at hu
  have hu' := lin3 c0 c1 c2 c3 c4 c5 c6 c7 u hu
  clear hu
  have b2 : z < 18446744073709551616 := by clear hu'; omega
  clear hz'
  refine ⟨by omega, b1, b2, ?_⟩
  rw [hu', Nat.add_mul_mod_self_left]
  clear hu'
  exact Nat.mod_eq_of_lt (by omega)
end Go.Proofs.YtaonkbfekadalaaGreatDoor
/- Plain laws of a row of bits: which are on, how many are on ahead of one, and the row as words of 64. No program in sight. -/
namespace Go.Proofs.YtaonkbfekadalaaGreatDoor
open Go
set_option linter.unusedVariables false

/-- Whether a bit is on (beyond the end it is off). -/
def on (r : List Bool) (i : Nat) : Bool := r.getD i false
theorem on_end {r : List Bool} {i : Nat} (h : r.length ≤ i) : on r i = false := by
  unfold on
  simp [List.getD, List.getElem?_eq_none h]
theorem on_eq {r : List Bool} {i : Nat} (h : i < r.length) : on r i = r[i] := by
  unfold on
  simp [h]
theorem on_set {r : List Bool} {i : Nat} (h : i < r.length) (b : Bool) (j : Nat) : on (r.set i b) j = if j = i then b else on r j := by
  unfold on
  by_cases e : j = i
  · subst e; simp [h]
  · rw [if_neg e]
    simp only [List.getD]
    rw [List.getElem?_set_ne (fun h => e h.symm)]
/-- How many are on ahead of one. -/
def cnt (r : List Bool) : Nat → Nat
  | 0 => 0
  | m + 1 => cnt r m + (if on r m then 1 else 0)
theorem cnt_succ (r : List Bool) (m : Nat) : cnt r (m + 1) = cnt r m + (if on r m then 1 else 0) := rfl
theorem cnt_le (r : List Bool) (m : Nat) : cnt r m ≤ m := by
  induction m with
  | zero => exact Nat.le_refl _
  | succ m ih => rw [cnt_succ]; split <;> omega
theorem cnt_mono (r : List Bool) {a b : Nat} (h : a ≤ b) : cnt r a ≤ cnt r b := by
  induction b with
  | zero => obtain rfl : a = 0 := by omega
            exact Nat.le_refl _
  | succ b ih =>
    by_cases e : a = b + 1
    · subst e; exact Nat.le_refl _
    · exact Nat.le_trans (ih (by omega)) (by rw [cnt_succ]; exact Nat.le_add_right _ _)
theorem cnt_lt {r : List Bool} {a b : Nat} (h : a < b) (ho : on r a = true) : cnt r a < cnt r b := by
  have h1 := cnt_mono r (show a + 1 ≤ b by omega)
  rw [cnt_succ, if_pos ho] at h1
  omega
theorem cnt_none {r : List Bool} {a b : Nat} (hab : a ≤ b) (h : ∀ j, a ≤ j → j < b → on r j = false) : cnt r b = cnt r a := by
  induction b with
  | zero => obtain rfl : a = 0 := by omega
            rfl
  | succ b ih =>
    by_cases e : a = b + 1
    · subst e; rfl
    · rw [cnt_succ, ih (by omega) (fun j h1 h2 => h j h1 (by omega)), h b (by omega) (by omega)]
      rfl
/-- The first j bits of the k-th word. -/
def wd (r : List Bool) (k : Nat) : Nat → Nat
  | 0 => 0
  | j + 1 => wd r k j + (if on r (64 * k + j) then 2 ^ j else 0)
theorem wd_succ (r : List Bool) (k j : Nat) : wd r k (j + 1) = wd r k j + (if on r (64 * k + j) then 2 ^ j else 0) := rfl
theorem wd_lt (r : List Bool) (k : Nat) : ∀ j, wd r k j < 2 ^ j
  | 0 => Nat.one_pos
  | j + 1 => by
    have h := wd_lt r k j
    rw [wd_succ, Nat.pow_succ]
    split <;> omega
theorem wd_bit (r : List Bool) (k : Nat) : ∀ j i, (wd r k j).testBit i = (decide (i < j) && on r (64 * k + i))
  | 0, i => by simp [wd]
  | j + 1, i => by
    have h := wd_bit r k j i
    have hl := wd_lt r k j
    rw [wd_succ]
    by_cases ho : on r (64 * k + j) = true
    · rw [if_pos ho, Nat.add_comm, show 2 ^ j + wd r k j = 2 ^ j * 1 + wd r k j by omega, Nat.testBit_two_pow_mul_add 1 hl]
      by_cases hi : i < j
      · rw [if_pos hi, h]
        simp [hi, show i < j + 1 by omega]
      · rw [if_neg hi]
        by_cases e : i = j
        · subst e; simp [ho]
        · obtain ⟨d, hd⟩ : ∃ d, i - j = d + 1 := ⟨i - j - 1, by omega⟩
          rw [hd, Nat.testBit_succ]
          simp [show ¬ i < j + 1 by omega]
    · rw [if_neg ho, Nat.add_zero, h]
      by_cases hi : i < j
      · simp [hi, show i < j + 1 by omega]
      · by_cases e : i = j
        · subst e
          have : on r (64 * k + i) = false := by simpa using ho
          simp [this]
        · simp [hi, show ¬ i < j + 1 by omega]
/-- The k-th word. -/
def word (r : List Bool) (k : Nat) : Nat := wd r k 64
theorem word_lt (r : List Bool) (k : Nat) : word r k < 18446744073709551616 := wd_lt r k 64
theorem word_bit (r : List Bool) (k i : Nat) : (word r k).testBit i = (decide (i < 64) && on r (64 * k + i)) := wd_bit r k 64 i
theorem word_eq {r : List Bool} {k x : Nat} (hx : x < 18446744073709551616) (h : ∀ i, i < 64 → x.testBit i = on r (64 * k + i)) : x = word r k := by
  apply Nat.eq_of_testBit_eq
  intro i
  rw [word_bit]
  by_cases hi : i < 64
  · rw [h i hi]; simp [hi]
  · rw [Nat.testBit_lt_two_pow (Nat.lt_of_lt_of_le hx (Nat.pow_le_pow_right (n := 2) (by decide) (show 64 ≤ i by omega)))]
    simp [hi]
theorem pop_word (r : List Bool) (k : Nat) : ∀ m, m ≤ 64 → cnt r (64 * k) + popN (word r k) m = cnt r (64 * k + m)
  | 0, _ => rfl
  | m + 1, h => by
    have ih := pop_word r k m (by omega)
    rw [popN_succ, ← Nat.add_assoc (64 * k), cnt_succ, word_bit, ← ih]
    simp [show m < 64 by omega, Nat.add_assoc]

/-- A word shifted to the left keeps its low bits. -/
theorem shl_bit (x s i : Nat) (hi : i < 64) : (x * 2 ^ s % 18446744073709551616).testBit i = (decide (s ≤ i) && x.testBit (i - s)) := by
  rw [show (18446744073709551616 : Nat) = 2 ^ 64 by decide, Nat.testBit_mod_two_pow, Nat.testBit_mul_two_pow]
  simp [hi]
theorem shr_bit (x s i : Nat) : (x / 2 ^ s).testBit i = x.testBit (i + s) := by
  rw [Nat.testBit_div_two_pow]
theorem pop_shl (x : Nat) {s : Nat} (hs : s ≤ 64) : popN (x * 2 ^ s % 18446744073709551616) 64 = popN x (64 - s) := by
  have key : ∀ m, m ≤ 64 → popN (x * 2 ^ s % 18446744073709551616) m = popN x (m - s) := by
    intro m
    induction m with
    | zero => intro _; simp [popN]
    | succ m ih =>
      intro hm
      have h1 := ih (by omega)
      rw [popN_succ, h1, shl_bit x s m (by omega)]
      by_cases h : s ≤ m
      · rw [show m + 1 - s = (m - s) + 1 by omega, popN_succ]
        simp [h]
      · rw [show m + 1 - s = m - s by omega]
        simp [h]
  exact key 64 (Nat.le_refl _)

/-- The lowest bit that is on. -/
theorem ctz_spec {x : Nat} (h0 : x ≠ 0) (hx : x < 18446744073709551616) : Lib.ctz 64 x < 64 ∧ x.testBit (Lib.ctz 64 x) = true ∧ ∀ j, j < Lib.ctz 64 x → x.testBit j = false := by
  have e : Lib.ctz 64 x = Lib.ctzFrom 64 x := by simp [Lib.ctz, h0]
  rw [e]
  obtain ⟨m, hm, hl⟩ := Lib.ctzFrom_spec 64 x (by omega) (by simpa using hx)
  generalize Lib.ctzFrom 64 x = c at *
  refine ⟨hl, ?_, fun j hj => ?_⟩
  · rw [hm, Nat.mul_comm, Nat.testBit_mul_two_pow]
    simp
  · rw [hm, Nat.mul_comm, Nat.testBit_mul_two_pow]
    simp [show ¬ c ≤ j by omega]
/-- The highest bit that is on. -/
theorem bitLen_spec {x : Nat} (h0 : x ≠ 0) (hx : x < 18446744073709551616) : 1 ≤ Lib.bitLen x ∧ Lib.bitLen x ≤ 64 ∧ x.testBit (Lib.bitLen x - 1) = true ∧ ∀ j, Lib.bitLen x ≤ j → x.testBit j = false := by
  have key : ∀ f x, x ≠ 0 → x < 2 ^ f → 1 ≤ Lib.bitLenAux f x ∧ Lib.bitLenAux f x ≤ f ∧ x.testBit (Lib.bitLenAux f x - 1) = true ∧ ∀ j, Lib.bitLenAux f x ≤ j → x.testBit j = false := by
    intro f
    induction f with
    | zero => intro x h0 h; simp at h; omega
    | succ f ih =>
      intro x h0 h
      have e : Lib.bitLenAux (f + 1) x = 1 + Lib.bitLenAux f (x / 2) := by rw [Lib.bitLenAux, if_neg h0]
      rw [e]
      by_cases h1 : x / 2 = 0
      · have hx1 : x = 1 := by omega
        subst hx1
        have e0 : Lib.bitLenAux f (1 / 2) = 0 := by cases f <;> simp [Lib.bitLenAux]
        rw [e0]
        refine ⟨by omega, by omega, by decide, fun j hj => ?_⟩
        obtain ⟨d, rfl⟩ : ∃ d, j = d + 1 := ⟨j - 1, by omega⟩
        rw [Nat.testBit_succ]
        simp
      · obtain ⟨a, b, c, d⟩ := ih (x / 2) h1 (by rw [Nat.pow_succ] at h; omega)
        refine ⟨by omega, by omega, ?_, fun j hj => ?_⟩
        · rw [show 1 + Lib.bitLenAux f (x / 2) - 1 = (Lib.bitLenAux f (x / 2) - 1) + 1 by omega, Nat.testBit_succ]
          exact c
        · obtain ⟨j', rfl⟩ : ∃ j', j = j' + 1 := ⟨j - 1, by omega⟩
          rw [Nat.testBit_succ]
          exact d j' (by omega)
  exact key 64 x h0 (by simpa using hx)
end Go.Proofs.YtaonkbfekadalaaGreatDoor
