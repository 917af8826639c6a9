/- Sums modulo eight counts do not hang on the order of what is added: plain lists and numbers. -/
import Derived.Test.YtjbljdjokgamdaaMplay
namespace Go.Proofs.Ytjbljdjokgamdaa
open Go.RowKit
set_option linter.unusedVariables false

/-- Which of eight counts a number names. -/
def key (x : Int) : Nat := ((x.tmod 8 + 8) % 8).toNat
theorem key_lt (x : Int) : key x < 8 := by unfold key; omega
theorem key_eq (x : Int) : ((x.tmod 8 + 8) % 8) = ((key x : Nat) : Int) := by unfold key; omega
theorem tmod8 (x : Int) : -8 < x.tmod 8 ∧ x.tmod 8 < 8 := by
  have h1 := Int.tmod_lt_of_pos x (show (0 : Int) < 8 by decide)
  have h2 := Int.lt_tmod_of_pos x (show (0 : Int) < 8 by decide)
  exact ⟨by simpa using h2, h1⟩

def step (S : List Int) (a : Act3) : List Int := S.set (key a.i) (wrap64 (nth S (key a.i) + a.n))
theorem step_length (S : List Int) (a : Act3) : (step S a).length = S.length := by simp [step]

theorem nth_set_self (S : List Int) {k : Nat} (h : k < S.length) (x : Int) : nth (S.set k x) k = x := by
  unfold nth; simp [h]
theorem nth_set_other (S : List Int) {k j : Nat} (h : k ≠ j) (x : Int) : nth (S.set k x) j = nth S j := by
  unfold nth; simp [List.getElem?_set, h]
theorem nth_set_out (S : List Int) {k : Nat} (h : ¬ k < S.length) (x : Int) : S.set k x = S := by
  rw [List.set_eq_of_length_le (by omega)]

theorem wrap_add (x a b : Int) : wrap64 (wrap64 (x + a) + b) = wrap64 (wrap64 (x + b) + a) := by
  unfold wrap64; omega

theorem step_comm (S : List Int) (a b : Act3) : step (step S a) b = step (step S b) a := by
  unfold step
  by_cases h : key a.i = key b.i
  · rw [h]
    by_cases hl : key b.i < S.length
    · rw [nth_set_self S hl, nth_set_self S hl, List.set_set, List.set_set, wrap_add]
    · rw [nth_set_out S hl, nth_set_out S hl, nth_set_out S hl]
  · rw [nth_set_other S h, nth_set_other S (Ne.symm h), List.set_comm _ _ h]

theorem foldl_perm {xs ys : List Act3} (h : xs.Perm ys) : ∀ S : List Int, xs.foldl step S = ys.foldl step S := by
  induction h with
  | nil => intro S; rfl
  | cons x _ ih => intro S; exact ih _
  | swap x y l => intro S; simp only [List.foldl_cons]; rw [step_comm]
  | trans _ _ ih1 ih2 => intro S; rw [ih1, ih2]

/-- The counts behind the first k of the calls. -/
def addAll (zs : List Act3) (k : Nat) : List Int := (zs.take k).foldl step (zeros 8)
theorem addAll_zero (zs : List Act3) : addAll zs 0 = zeros 8 := by simp [addAll]
theorem addAll_succ (zs : List Act3) {k : Nat} (h : k < zs.length) : addAll zs (k + 1) = step (addAll zs k) (act zs k) := by
  unfold addAll
  rw [List.take_succ_eq_append_getElem h, List.foldl_append, act_eq h]
  rfl
theorem foldl_length (l : List Act3) : ∀ S : List Int, (l.foldl step S).length = S.length := by
  induction l with
  | nil => intro S; rfl
  | cons a l ih => intro S; rw [List.foldl_cons, ih, step_length]
theorem addAll_length (zs : List Act3) (k : Nat) : (addAll zs k).length = 8 := by
  unfold addAll
  rw [foldl_length, zeros_length]
theorem addAll_perm {xs ys : List Act3} (h : xs.Perm ys) : addAll xs xs.length = addAll ys ys.length := by
  unfold addAll
  rw [List.take_length, List.take_length]
  exact foldl_perm h _

/-- Two of the calls change places. -/
def swapped (ys : List Act3) (a b : Nat) : List Act3 := (ys.set a (act ys b)).set b (act ys a)
theorem swapped_length (ys : List Act3) (a b : Nat) : (swapped ys a b).length = ys.length := by simp [swapped]
theorem act_set (ys : List Act3) {k j : Nat} (hk : k < ys.length) (x : Act3) : act (ys.set k x) j = if k = j then x else act ys j := by
  unfold act
  by_cases h : k = j
  · subst h; simp [hk]
  · simp [h, List.getElem?_set]
theorem act_swapped (ys : List Act3) {a b j : Nat} (ha : a < ys.length) (hb : b < ys.length) : act (swapped ys a b) j = if b = j then act ys a else if a = j then act ys b else act ys j := by
  unfold swapped
  rw [act_set _ (by simpa using hb), act_set _ ha]
theorem swapped_perm (ys : List Act3) {a b : Nat} (ha : a < ys.length) (hb : b < ys.length) : (swapped ys a b).Perm ys := by
  have h := Array.swap_perm (xs := ys.toArray) (i := a) (j := b) (by simpa using ha) (by simpa using hb)
  have h2 := h.toList
  have e : (ys.toArray.swap a b (by simpa using ha) (by simpa using hb)).toList = swapped ys a b := by
    unfold swapped
    rw [act_eq ha, act_eq hb]
    simp [Array.swap]
  rw [e] at h2
  simpa using h2
end Go.Proofs.Ytjbljdjokgamdaa
