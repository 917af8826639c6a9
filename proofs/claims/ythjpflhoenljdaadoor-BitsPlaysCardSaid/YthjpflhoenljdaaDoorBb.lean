/- Plain laws of a row of bits: which are on, how many are on ahead of one, and the row as words of 64. No program in sight. -/
import Derived.Test.YthjpflhoenljdaaDoorBa
namespace Go.Proofs.YthjpflhoenljdaaDoor
open Go
set_option linter.unusedVariables false

/-- Whether a bit is on (beyond the end it is off). -/
def on (r : List Bool) (i : Nat) : Bool := r.getD i false
theorem on_end {r : List Bool} {i : Nat} (h : r.length ≤ i) : on r i = false := by
  unfold on
  simp [List.getD, List.getElem?_eq_none h]
theorem on_eq {r : List Bool} {i : Nat} (h : i < r.length) : on r i = r[i] := by
  unfold on
  simp [h]
theorem on_set {r : List Bool} {i : Nat} (h : i < r.length) (b : Bool) (j : Nat) : on (r.set i b) j = if j = i then b else on r j := by
  unfold on
  by_cases e : j = i
  · subst e; simp [h]
  · rw [if_neg e]
    simp only [List.getD]
    rw [List.getElem?_set_ne (fun h => e h.symm)]
/-- How many are on ahead of one. -/
def cnt (r : List Bool) : Nat → Nat
  | 0 => 0
  | m + 1 => cnt r m + (if on r m then 1 else 0)
theorem cnt_succ (r : List Bool) (m : Nat) : cnt r (m + 1) = cnt r m + (if on r m then 1 else 0) := rfl
theorem cnt_le (r : List Bool) (m : Nat) : cnt r m ≤ m := by
  induction m with
  | zero => exact Nat.le_refl _
  | succ m ih => rw [cnt_succ]; split <;> omega
theorem cnt_mono (r : List Bool) {a b : Nat} (h : a ≤ b) : cnt r a ≤ cnt r b := by
  induction b with
  | zero => obtain rfl : a = 0 := by omega
            exact Nat.le_refl _
  | succ b ih =>
    by_cases e : a = b + 1
    · subst e; exact Nat.le_refl _
    · exact Nat.le_trans (ih (by omega)) (by rw [cnt_succ]; exact Nat.le_add_right _ _)
theorem cnt_lt {r : List Bool} {a b : Nat} (h : a < b) (ho : on r a = true) : cnt r a < cnt r b := by
  have h1 := cnt_mono r (show a + 1 ≤ b by omega)
  rw [cnt_succ, if_pos ho] at h1
  omega
theorem cnt_none {r : List Bool} {a b : Nat} (hab : a ≤ b) (h : ∀ j, a ≤ j → j < b → on r j = false) : cnt r b = cnt r a := by
  induction b with
  | zero => obtain rfl : a = 0 := by omega
            rfl
  | succ b ih =>
    by_cases e : a = b + 1
    · subst e; rfl
    · rw [cnt_succ, ih (by omega) (fun j h1 h2 => h j h1 (by omega)), h b (by omega) (by omega)]
      rfl
theorem cnt_end (r : List Bool) {m : Nat} (h : r.length ≤ m) : cnt r m = cnt r r.length := cnt_none h fun j h1 _ => on_end h1

/-- The first j bits of the k-th word. -/
def wd (r : List Bool) (k : Nat) : Nat → Nat
  | 0 => 0
  | j + 1 => wd r k j + (if on r (64 * k + j) then 2 ^ j else 0)
theorem wd_succ (r : List Bool) (k j : Nat) : wd r k (j + 1) = wd r k j + (if on r (64 * k + j) then 2 ^ j else 0) := rfl
theorem wd_lt (r : List Bool) (k : Nat) : ∀ j, wd r k j < 2 ^ j
  | 0 => Nat.one_pos
  | j + 1 => by
    have h := wd_lt r k j
    rw [wd_succ, Nat.pow_succ]
    split <;> omega
theorem wd_bit (r : List Bool) (k : Nat) : ∀ j i, (wd r k j).testBit i = (decide (i < j) && on r (64 * k + i))
  | 0, i => by simp [wd]
  | j + 1, i => by
    have h := wd_bit r k j i
    have hl := wd_lt r k j
    rw [wd_succ]
    by_cases ho : on r (64 * k + j) = true
    · rw [if_pos ho, Nat.add_comm, show 2 ^ j + wd r k j = 2 ^ j * 1 + wd r k j by omega, Nat.testBit_two_pow_mul_add 1 hl]
      by_cases hi : i < j
      · rw [if_pos hi, h]
        simp [hi, show i < j + 1 by omega]
      · rw [if_neg hi]
        by_cases e : i = j
        · subst e; simp [ho]
        · obtain ⟨d, hd⟩ : ∃ d, i - j = d + 1 := ⟨i - j - 1, by omega⟩
          rw [hd, Nat.testBit_succ]
          simp [show ¬ i < j + 1 by omega]
    · rw [if_neg ho, Nat.add_zero, h]
      by_cases hi : i < j
      · simp [hi, show i < j + 1 by omega]
      · by_cases e : i = j
        · subst e
          have : on r (64 * k + i) = false := by simpa using ho
          simp [this]
        · simp [hi, show ¬ i < j + 1 by omega]
/-- The k-th word. -/
def word (r : List Bool) (k : Nat) : Nat := wd r k 64
theorem word_lt (r : List Bool) (k : Nat) : word r k < 18446744073709551616 := wd_lt r k 64
theorem word_bit (r : List Bool) (k i : Nat) : (word r k).testBit i = (decide (i < 64) && on r (64 * k + i)) := wd_bit r k 64 i
theorem word_eq {r : List Bool} {k x : Nat} (hx : x < 18446744073709551616) (h : ∀ i, i < 64 → x.testBit i = on r (64 * k + i)) : x = word r k := by
  apply Nat.eq_of_testBit_eq
  intro i
  rw [word_bit]
  by_cases hi : i < 64
  · rw [h i hi]; simp [hi]
  · rw [Nat.testBit_lt_two_pow (Nat.lt_of_lt_of_le hx (Nat.pow_le_pow_right (n := 2) (by decide) (show 64 ≤ i by omega)))]
    simp [hi]
theorem pop_word (r : List Bool) (k : Nat) : ∀ m, m ≤ 64 → cnt r (64 * k) + popN (word r k) m = cnt r (64 * k + m)
  | 0, _ => rfl
  | m + 1, h => by
    have ih := pop_word r k m (by omega)
    rw [popN_succ, ← Nat.add_assoc (64 * k), cnt_succ, word_bit, ← ih]
    simp [show m < 64 by omega, Nat.add_assoc]

/-- A word shifted to the left keeps its low bits. -/
theorem shl_bit (x s i : Nat) (hi : i < 64) : (x * 2 ^ s % 18446744073709551616).testBit i = (decide (s ≤ i) && x.testBit (i - s)) := by
  rw [show (18446744073709551616 : Nat) = 2 ^ 64 by decide, Nat.testBit_mod_two_pow, Nat.testBit_mul_two_pow]
  simp [hi]
theorem shr_bit (x s i : Nat) : (x / 2 ^ s).testBit i = x.testBit (i + s) := by
  rw [Nat.testBit_div_two_pow]
theorem pop_shl (x : Nat) {s : Nat} (hs : s ≤ 64) : popN (x * 2 ^ s % 18446744073709551616) 64 = popN x (64 - s) := by
  have key : ∀ m, m ≤ 64 → popN (x * 2 ^ s % 18446744073709551616) m = popN x (m - s) := by
    intro m
    induction m with
    | zero => intro _; simp [popN]
    | succ m ih =>
      intro hm
      have h1 := ih (by omega)
      rw [popN_succ, h1, shl_bit x s m (by omega)]
      by_cases h : s ≤ m
      · rw [show m + 1 - s = (m - s) + 1 by omega, popN_succ]
        simp [h]
      · rw [show m + 1 - s = m - s by omega]
        simp [h]
  exact key 64 (Nat.le_refl _)

/-- The lowest bit that is on. -/
theorem ctz_spec {x : Nat} (h0 : x ≠ 0) (hx : x < 18446744073709551616) : Lib.ctz 64 x < 64 ∧ x.testBit (Lib.ctz 64 x) = true ∧ ∀ j, j < Lib.ctz 64 x → x.testBit j = false := by
  have e : Lib.ctz 64 x = Lib.ctzFrom 64 x := by simp [Lib.ctz, h0]
  rw [e]
  obtain ⟨m, hm, hl⟩ := Lib.ctzFrom_spec 64 x (by omega) (by simpa using hx)
  generalize Lib.ctzFrom 64 x = c at *
  refine ⟨hl, ?_, fun j hj => ?_⟩
  · rw [hm, Nat.mul_comm, Nat.testBit_mul_two_pow]
    simp
  · rw [hm, Nat.mul_comm, Nat.testBit_mul_two_pow]
    simp [show ¬ c ≤ j by omega]
theorem zero_bits {x : Nat} (hx : x < 18446744073709551616) (h : ∀ j, j < 64 → x.testBit j = false) : x = 0 := by
  apply Nat.eq_of_testBit_eq
  intro i
  rw [Nat.zero_testBit]
  by_cases hi : i < 64
  · exact h i hi
  · exact Nat.testBit_lt_two_pow (Nat.lt_of_lt_of_le hx (Nat.pow_le_pow_right (n := 2) (by decide) (show 64 ≤ i by omega)))
/-- The highest bit that is on. -/
theorem bitLen_spec {x : Nat} (h0 : x ≠ 0) (hx : x < 18446744073709551616) : 1 ≤ Lib.bitLen x ∧ Lib.bitLen x ≤ 64 ∧ x.testBit (Lib.bitLen x - 1) = true ∧ ∀ j, Lib.bitLen x ≤ j → x.testBit j = false := by
  have key : ∀ f x, x ≠ 0 → x < 2 ^ f → 1 ≤ Lib.bitLenAux f x ∧ Lib.bitLenAux f x ≤ f ∧ x.testBit (Lib.bitLenAux f x - 1) = true ∧ ∀ j, Lib.bitLenAux f x ≤ j → x.testBit j = false := by
    intro f
    induction f with
    | zero => intro x h0 h; simp at h; omega
    | succ f ih =>
      intro x h0 h
      have e : Lib.bitLenAux (f + 1) x = 1 + Lib.bitLenAux f (x / 2) := by rw [Lib.bitLenAux, if_neg h0]
      rw [e]
      by_cases h1 : x / 2 = 0
      · have hx1 : x = 1 := by omega
        subst hx1
        have e0 : Lib.bitLenAux f (1 / 2) = 0 := by cases f <;> simp [Lib.bitLenAux]
        rw [e0]
        refine ⟨by omega, by omega, by decide, fun j hj => ?_⟩
        obtain ⟨d, rfl⟩ : ∃ d, j = d + 1 := ⟨j - 1, by omega⟩
        rw [Nat.testBit_succ]
        simp
      · obtain ⟨a, b, c, d⟩ := ih (x / 2) h1 (by rw [Nat.pow_succ] at h; omega)
        refine ⟨by omega, by omega, ?_, fun j hj => ?_⟩
        · rw [show 1 + Lib.bitLenAux f (x / 2) - 1 = (Lib.bitLenAux f (x / 2) - 1) + 1 by omega, Nat.testBit_succ]
          exact c
        · obtain ⟨j', rfl⟩ : ∃ j', j = j' + 1 := ⟨j - 1, by omega⟩
          rw [Nat.testBit_succ]
          exact d j' (by omega)
  exact key 64 x h0 (by simpa using hx)
/-- The lowest bit that is on, turned off. -/
theorem drop_low {x : Nat} (h0 : x ≠ 0) (hx : x < 18446744073709551616) (j : Nat) : (x &&& (x - 1)).testBit j = (x.testBit j && !decide (j = Lib.ctz 64 x)) := by
  have e : Lib.ctz 64 x = Lib.ctzFrom 64 x := by simp [Lib.ctz, h0]
  rw [e]
  obtain ⟨m, hm, hl⟩ := Lib.ctzFrom_spec 64 x (by omega) (by simpa using hx)
  generalize Lib.ctzFrom 64 x = c at *
  have hp : 0 < 2 ^ c := Nat.two_pow_pos c
  have e1 : x - 1 = 2 ^ c * (2 * m) + (2 ^ c - 1) := by rw [hm, Nat.mul_add]; omega
  have hl1 : 2 ^ c - 1 < 2 ^ c := by omega
  rw [Nat.testBit_and, e1, Nat.testBit_two_pow_mul_add _ hl1, hm, Nat.mul_comm, Nat.testBit_mul_two_pow]
  by_cases h1 : j < c
  · rw [if_pos h1]
    simp [show ¬ c ≤ j by omega]
  · rw [if_neg h1]
    by_cases h2 : j = c
    · subst h2; simp
    · obtain ⟨d, hd⟩ : ∃ d, j - c = d + 1 := ⟨j - c - 1, by omega⟩
      rw [hd, Nat.testBit_succ, Nat.testBit_succ, show (2 * m + 1) / 2 = m by omega, show 2 * m / 2 = m by omega]
      simp [h2]
theorem pop_drop {x : Nat} (h0 : x ≠ 0) (hx : x < 18446744073709551616) (j : Nat) : popN (x &&& (x - 1)) j + (if Lib.ctz 64 x < j then 1 else 0) = popN x j := by
  obtain ⟨h1, h2, h3⟩ := ctz_spec h0 hx
  have hd := drop_low h0 hx
  generalize Lib.ctz 64 x = c at *
  induction j with
  | zero => simp [popN]
  | succ j ih =>
    rw [popN_succ, popN_succ, ← ih, hd j]
    by_cases e : j = c
    · subst e
      simp [h2]
    · by_cases e2 : c < j
      · simp [e, e2, show c < j + 1 by omega]
        omega
      · simp [e, e2, show ¬ c < j + 1 by omega]
end Go.Proofs.YthjpflhoenljdaaDoor
