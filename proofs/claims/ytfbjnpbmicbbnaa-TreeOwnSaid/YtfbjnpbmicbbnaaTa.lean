/- Plain: the counts of all windows of a row of segments: a tree in an array. -/
import Derived.Test.YtfbjnpbmicbbnaaK0
namespace Go.Proofs.Ytfbjnpbmicbbnaa
open Go.RowKit
set_option linter.unusedVariables false

/-- So many numbers, from one on, together. -/
def sumR (r : List Int) (a : Nat) : Nat → Int
  | 0 => 0
  | n + 1 => sumR r a n + nth r (a + n)
theorem sumR_succ (r : List Int) (a n : Nat) : sumR r a (n + 1) = sumR r a n + nth r (a + n) := rfl
theorem sumR_zero (r : List Int) (a : Nat) : sumR r a 0 = 0 := rfl
theorem sumR_add (r : List Int) (a m n : Nat) : sumR r a (m + n) = sumR r a m + sumR r (a + m) n := by
  induction n with
  | zero => simp [sumR]
  | succ n ih => rw [← Nat.add_assoc, sumR_succ, ih, sumR_succ, Nat.add_assoc a m n]; omega

/-- Right counts: a power of two of them, none below 0, none above 8. -/
structure Rt (r : List Int) (L : Nat) : Prop where
  le : L ≤ 9
  pow : r.length = 2 ^ L
  small : ∀ j, j < r.length → 0 ≤ nth r j ∧ nth r j ≤ 8
theorem pow_le {L : Nat} (h : L ≤ 9) : 2 ^ L ≤ 512 := Nat.pow_le_pow_right (n := 2) (by decide) h
theorem pow_pos2 (L : Nat) : 1 ≤ 2 ^ L := Nat.one_le_two_pow
theorem Rt.len_le {r : List Int} {L : Nat} (h : Rt r L) : r.length ≤ 512 := by rw [h.pow]; exact pow_le h.le
theorem Rt.len_pos {r : List Int} {L : Nat} (h : Rt r L) : 1 ≤ r.length := by rw [h.pow]; exact pow_pos2 L

theorem sumR_bd {r : List Int} {L : Nat} (h : Rt r L) (a n : Nat) (hl : a + n ≤ r.length) : 0 ≤ sumR r a n ∧ sumR r a n ≤ 8 * n := by
  induction n with
  | zero => simp [sumR]
  | succ n ih =>
    have h1 := ih (by omega)
    have h2 := h.small (a + n) (by omega)
    rw [sumR_succ]; push_cast; omega
theorem sumR_mono {r : List Int} {L : Nat} (h : Rt r L) {a b : Nat} (hab : a ≤ b) (hb : b ≤ r.length) : sumR r 0 a ≤ sumR r 0 b := by
  obtain ⟨c, rfl⟩ := Nat.le.dest hab
  rw [sumR_add]
  have := (sumR_bd h (0 + a) c (by omega)).1
  omega

/-- t holds the counts of all windows of the segments' counts r. -/
structure TI (r t : List Int) : Prop where
  len : t.length = 2 * r.length
  leaf : ∀ j, j < r.length → nth t (r.length + j) = nth r j
  node : ∀ i, 1 ≤ i → i < r.length → nth t i = nth t (2 * i) + nth t (2 * i + 1)

/-- A WINDOW's NODE HAS WHAT ITS SEGMENTS HAVE, TOGETHER. -/
theorem win {r t : List Int} (h : TI r t) : ∀ (l m k : Nat), r.length = m * 2 ^ l → k < m → nth t (m + k) = sumR r (k * 2 ^ l) (2 ^ l)
  | 0, m, k, hm, hk => by
    have e : m = r.length := by rw [hm]; simp
    subst e
    rw [h.leaf k hk]
    simp [sumR]
  | l + 1, m, k, hm, hk => by
    have h2 : 2 ^ (l + 1) = 2 * 2 ^ l := by rw [Nat.pow_succ, Nat.mul_comm]
    have hm2 : r.length = (2 * m) * 2 ^ l := by rw [hm, h2, Nat.mul_comm 2 m, Nat.mul_assoc]
    have hlt : m + k < r.length := by
      have : 2 * m * 1 ≤ 2 * m * 2 ^ l := Nat.mul_le_mul_left _ (pow_pos2 l)
      omega
    rw [h.node (m + k) (by omega) hlt]
    have a := win h l (2 * m) (2 * k) hm2 (by omega)
    have b := win h l (2 * m) (2 * k + 1) hm2 (by omega)
    rw [show 2 * (m + k) = 2 * m + 2 * k by omega, show 2 * m + 2 * k + 1 = 2 * m + (2 * k + 1) by omega, a, b]
    rw [show k * 2 ^ (l + 1) = 2 * k * 2 ^ l by rw [h2, Nat.mul_comm 2 k, Nat.mul_assoc], h2, Nat.two_mul (2 ^ l), sumR_add]
    congr 2
    rw [Nat.add_mul, Nat.one_mul]

/-- The level of a node. -/
theorem lvl : ∀ (L i : Nat), 1 ≤ i → i < 2 * 2 ^ L → ∃ e l, e + l = L ∧ 2 ^ e ≤ i ∧ i < 2 * 2 ^ e
  | 0, i, h1, h2 => ⟨0, 0, rfl, by simpa using h1, by simpa using h2⟩
  | L + 1, i, h1, h2 => by
    by_cases hc : 2 ^ (L + 1) ≤ i
    · exact ⟨L + 1, 0, rfl, hc, h2⟩
    · obtain ⟨e, l, he, ha, hb⟩ := lvl L i h1 (by rw [Nat.pow_succ] at hc; omega)
      exact ⟨e, l + 1, by omega, ha, hb⟩
theorem pow_split {e l L : Nat} (h : e + l = L) : 2 ^ L = 2 ^ e * 2 ^ l := by rw [← h, Nat.pow_add]
/-- A node, by its level. -/
theorem winL {r t : List Int} {L : Nat} (h : TI r t) (hr : Rt r L) {e l k : Nat} (he : e + l = L) (hk : k < 2 ^ e) : nth t (2 ^ e + k) = sumR r (k * 2 ^ l) (2 ^ l) :=
  win h l (2 ^ e) k (by rw [hr.pow, pow_split he]) hk
theorem win_in {L e l k : Nat} (he : e + l = L) (hk : k < 2 ^ e) : k * 2 ^ l + 2 ^ l ≤ 2 ^ L := by
  rw [pow_split he]
  have : (k + 1) * 2 ^ l ≤ 2 ^ e * 2 ^ l := Nat.mul_le_mul_right _ hk
  rwa [Nat.add_mul, Nat.one_mul] at this
theorem node_bd {r t : List Int} {L : Nat} (h : TI r t) (hr : Rt r L) {i : Nat} (h1 : 1 ≤ i) (h2 : i < 2 * r.length) : 0 ≤ nth t i ∧ nth t i ≤ 4096 := by
  obtain ⟨e, l, he, ha, hb⟩ := lvl L i h1 (by rw [← hr.pow]; exact h2)
  obtain ⟨k, rfl⟩ := Nat.le.dest ha
  rw [winL h hr he (by omega)]
  have hin := win_in he (k := k) (by omega)
  have := sumR_bd hr (k * 2 ^ l) (2 ^ l) (by rw [hr.pow]; exact hin)
  have hp : 2 ^ l ≤ 512 := Nat.le_trans (by have := win_in he (k := k) (by omega); omega) (pow_le hr.le)
  have hp' : ((2 ^ l : Nat) : Int) ≤ 512 := Int.ofNat_le.2 hp
  omega
theorem root {r t : List Int} {L : Nat} (h : TI r t) (hr : Rt r L) : nth t 1 = sumR r 0 r.length := by
  have := winL h hr (e := 0) (l := L) (k := 0) (by omega) (by decide)
  rw [hr.pow]
  simpa using this

/-! ### Ahead -/
/-- What is ahead of a node's window, by its level. -/
def leftOf (r : List Int) (e l i : Nat) : Int := sumR r 0 ((i - 2 ^ e) * 2 ^ l)
theorem left_even {r : List Int} {e l i : Nat} (he : 2 ^ (e + 1) ≤ i) (h : i % 2 = 0) : leftOf r (e + 1) l i = leftOf r e (l + 1) (i / 2) := by
  unfold leftOf
  rw [Nat.pow_succ] at he
  rw [Nat.pow_succ, Nat.pow_succ, show i - 2 ^ e * 2 = (i / 2 - 2 ^ e) * 2 by omega, Nat.mul_assoc, Nat.mul_comm 2]
theorem left_odd {r t : List Int} {L e l i : Nat} (ht : TI r t) (hr : Rt r L) (hL : e + 1 + l = L) (he : 2 ^ (e + 1) ≤ i) (hi : i < 2 * 2 ^ (e + 1)) (h : i % 2 = 1) : leftOf r (e + 1) l i = leftOf r e (l + 1) (i / 2) + nth t (i - 1) := by
  have hp : 2 ^ (e + 1) = 2 ^ e * 2 := Nat.pow_succ ..
  have hw := winL ht hr (k := i - 1 - 2 ^ (e + 1)) hL (by omega)
  rw [show 2 ^ (e + 1) + (i - 1 - 2 ^ (e + 1)) = i - 1 by omega] at hw
  rw [hw]
  unfold leftOf
  have h1 : (i / 2 - 2 ^ e) * 2 ^ (l + 1) = (i - 1 - 2 ^ (e + 1)) * 2 ^ l := by
    rw [Nat.pow_succ 2 l, hp, show i - 1 - 2 ^ e * 2 = (i / 2 - 2 ^ e) * 2 by omega, Nat.mul_assoc, Nat.mul_comm 2]
  have h2 : (i - 2 ^ (e + 1)) * 2 ^ l = (i - 1 - 2 ^ (e + 1)) * 2 ^ l + 2 ^ l := by
    rw [show i - 2 ^ (e + 1) = (i - 1 - 2 ^ (e + 1)) + 1 by omega, Nat.add_mul, Nat.one_mul]
  rw [h1, h2, sumR_add, Nat.zero_add]

/-! ### Find -/
/-- The n-th element is the k-th one of segment s. -/
structure At (r : List Int) (n : Int) (s : Nat) (k : Int) : Prop where
  lt : s < r.length
  eq : k = n - sumR r 0 s
  ge : 0 ≤ k
  own : k < nth r s
theorem At.uniq {r : List Int} {L : Nat} (hr : Rt r L) {n : Int} {s s' : Nat} {k k' : Int} (h : At r n s k) (h' : At r n s' k') : s = s' ∧ k = k' := by
  have key : ∀ {a b : Nat} {x y : Int}, At r n a x → At r n b y → ¬ a < b := fun {a b x y} ha hb hlt => by
    have h1 := sumR_mono hr (show a + 1 ≤ b from hlt) (by have := hb.lt; omega)
    rw [sumR_succ, Nat.zero_add] at h1
    have := ha.eq; have := ha.own; have := hb.eq; have := hb.ge
    omega
  have e : s = s' := by
    have := key h h'; have := key h' h; omega
  subst e
  exact ⟨rfl, by rw [h.eq, h'.eq]⟩

/-! ### Add -/
/-- The tree on its way: all nodes above i, i among them, have yet to grow by n. -/
structure Up (r t : List Int) (i : Nat) (n : Int) : Prop where
  len : t.length = 2 * r.length
  lt : i < r.length
  leaf : ∀ j, j < r.length → nth t (r.length + j) = nth r j
  node : ∀ k, 1 ≤ k → k < r.length → nth t k + (if k = i then n else 0) = nth t (2 * k) + nth t (2 * k + 1)
  bd : ∀ k, 1 ≤ k → k ≤ i → 0 ≤ nth t k ∧ nth t k ≤ 4096
theorem Up.done {r t : List Int} {n : Int} (h : Up r t 0 n) : TI r t :=
  ⟨h.len, h.leaf, fun i h1 h2 => by have := h.node i h1 h2; rw [if_neg (by omega)] at this; omega⟩
theorem Up.start {r t : List Int} {L : Nat} (h : TI r t) (hr : Rt r L) {s : Nat} (hs : s < r.length) (n : Int) :
    Up (r.set s (nth r s + n)) (t.set (r.length + s) (nth t (r.length + s) + n)) ((r.length + s) / 2) n := by
  have hp := hr.len_pos
  have hl := h.len
  refine ⟨by simp [h.len], by simp; omega, fun j hj => ?_, fun k h1 h2 => ?_, fun k h1 h2 => ?_⟩
  · rw [List.length_set] at hj ⊢
    by_cases e : j = s
    · subst e
      rw [nth_set_self _ (by omega), nth_set_self _ hj, h.leaf j hj]
    · rw [nth_set_other _ (by omega), nth_set_other _ (by omega), h.leaf j hj]
  · rw [List.length_set] at h2
    rw [nth_set_other _ (by omega), h.node k h1 h2]
    by_cases e : k = (r.length + s) / 2
    · rw [if_pos e]
      by_cases ev : (r.length + s) % 2 = 0
      · rw [show 2 * k = r.length + s by omega, nth_set_self _ (by omega), nth_set_other _ (by omega)]; omega
      · rw [show 2 * k + 1 = r.length + s by omega, nth_set_self _ (by omega), nth_set_other _ (by omega)]; omega
    · rw [if_neg e, nth_set_other _ (by omega), nth_set_other _ (by omega)]; omega
  · rw [nth_set_other _ (by omega)]
    exact node_bd h hr h1 (by omega)
theorem Up.step {r t : List Int} {i : Nat} {n : Int} (h : Up r t i n) (h1 : 1 ≤ i) : Up r (t.set i (nth t i + n)) (i / 2) n := by
  have hl := h.len
  have hlt := h.lt
  refine ⟨by simp [h.len], by omega, fun j hj => ?_, fun k k1 k2 => ?_, fun k k1 k2 => ?_⟩
  · rw [nth_set_other _ (by omega), h.leaf j hj]
  · have hn := h.node k k1 k2
    by_cases e : k = i
    · subst e
      rw [if_pos rfl] at hn
      rw [nth_set_self _ (by omega), nth_set_other _ (by omega), nth_set_other _ (by omega), if_neg (by omega)]; omega
    · rw [if_neg e] at hn
      rw [nth_set_other (k := i) (j := k) _ (by omega)]
      by_cases e2 : k = i / 2
      · rw [if_pos e2]
        by_cases ev : i % 2 = 0
        · rw [show 2 * k = i by omega] at hn ⊢
          rw [nth_set_self _ (by omega), nth_set_other _ (by omega)]; omega
        · rw [show 2 * k + 1 = i by omega] at hn ⊢
          rw [nth_set_self _ (by omega), nth_set_other _ (by omega)]; omega
      · rw [if_neg e2, nth_set_other _ (by omega), nth_set_other _ (by omega)]; omega
  · rw [nth_set_other _ (by omega)]
    exact h.bd k k1 (by omega)
theorem Rt.set {r : List Int} {L : Nat} (hr : Rt r L) (s : Nat) {x : Int} (h0 : 0 ≤ x) (h8 : x ≤ 8) : Rt (r.set s x) L := by
  refine ⟨hr.le, by simp [hr.pow], fun j hj => ?_⟩
  rw [List.length_set] at hj
  by_cases e : s = j
  · subst e
    rw [nth_set_self _ hj]; omega
  · rw [nth_set_other _ e]; exact hr.small j hj

/-! ### New -/
/-- The tree half made: nodes above i are right. -/
structure Half (r t : List Int) (i : Nat) : Prop where
  len : t.length = 2 * r.length
  leaf : ∀ j, j < r.length → nth t (r.length + j) = nth r j
  node : ∀ k, i < k → k < r.length → nth t k = nth t (2 * k) + nth t (2 * k + 1)
theorem Half.done {r t : List Int} (h : Half r t 0) : TI r t := ⟨h.len, h.leaf, fun i h1 h2 => h.node i (by omega) h2⟩
theorem Half.step {r t : List Int} {i : Nat} (h : Half r t (i + 1)) (hi : i + 1 < r.length) : Half r (t.set (i + 1) (nth t (2 * (i + 1)) + nth t (2 * (i + 1) + 1))) i := by
  have hl := h.len
  refine ⟨by simp [h.len], fun j hj => ?_, fun k k1 k2 => ?_⟩
  · rw [nth_set_other _ (by omega), h.leaf j hj]
  · by_cases e : k = i + 1
    · subst e
      rw [nth_set_self _ (by omega), nth_set_other _ (by omega), nth_set_other _ (by omega)]
    · rw [nth_set_other (k := i + 1) (j := k) _ (by omega), nth_set_other _ (by omega), nth_set_other _ (by omega)]
      exact h.node k (by omega) k2
end Go.Proofs.Ytfbjnpbmicbbnaa
