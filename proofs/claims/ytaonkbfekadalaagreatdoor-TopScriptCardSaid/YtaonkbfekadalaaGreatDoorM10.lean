/- Plain laws of an array with gaps: r says which slots are occupied, xs what the slots hold: the elements from left to right, and what a put, a take and a move do to them. No program in sight. -/
import Derived.Test.YtaonkbfekadalaaGreatDoorM02
import Derived.Test.YtaonkbfekadalaaGreatDoorM03
namespace Go.Proofs.YtaonkbfekadalaaGreatDoor
open Go
set_option linter.unusedVariables false

theorem on_lt {r : List Bool} {i : Nat} (h : on r i = true) : i < r.length := by
  by_cases e : i < r.length
  · exact e
  · rw [on_end (by omega)] at h; cases h
theorem on_ext {r r' : List Bool} (hl : r.length = r'.length) (h : ∀ i, i < r.length → on r i = on r' i) : r = r' := by
  apply List.ext_getElem hl
  intro i h1 h2
  have := h i h1
  rwa [on_eq h1, on_eq h2] at this
theorem nth_set {S : List Int} {k : Nat} (h : k < S.length) (x : Int) (j : Nat) : nth (S.set k x) j = if j = k then x else nth S j := by
  by_cases e : j = k
  · subst e; rw [if_pos rfl, nth_set_self S h]
  · rw [if_neg e, nth_set_other S (fun h => e h.symm)]

/-- The elements of n slots from a on. -/
def fr (r : List Bool) (xs : List Int) (a : Nat) : Nat → List Int
  | 0 => []
  | n + 1 => fr r xs a n ++ (if on r (a + n) then [nth xs (a + n)] else [])
theorem fr_succ (r : List Bool) (xs : List Int) (a n : Nat) : fr r xs a (n + 1) = fr r xs a n ++ (if on r (a + n) then [nth xs (a + n)] else []) := rfl
theorem fr_add (r : List Bool) (xs : List Int) (a m : Nat) : ∀ n, fr r xs a (m + n) = fr r xs a m ++ fr r xs (a + m) n
  | 0 => by simp [fr]
  | n + 1 => by rw [← Nat.add_assoc, fr_succ, fr_add r xs a m n, fr_succ, List.append_assoc, Nat.add_assoc]
theorem fr_len (r : List Bool) (xs : List Int) (a : Nat) : ∀ n, cnt r a + (fr r xs a n).length = cnt r (a + n)
  | 0 => by simp [fr]
  | n + 1 => by
    rw [fr_succ, List.length_append, ← Nat.add_assoc, fr_len r xs a n, ← Nat.add_assoc, cnt_succ]
    split <;> simp
theorem fr_congr {r r' : List Bool} {xs xs' : List Int} {a : Nat} : ∀ {n : Nat}, (∀ j, a ≤ j → j < a + n → on r j = on r' j) → (∀ j, a ≤ j → j < a + n → on r j = true → nth xs j = nth xs' j) → fr r xs a n = fr r' xs' a n
  | 0, _, _ => rfl
  | n + 1, h1, h2 => by
    rw [fr_succ, fr_succ, fr_congr (n := n) (fun j a b => h1 j a (by omega)) (fun j a b => h2 j a (by omega)), h1 (a + n) (by omega) (by omega)]
    by_cases e : on r' (a + n) = true
    · rw [if_pos e, if_pos e, h2 (a + n) (by omega) (by omega) (by rw [h1 (a + n) (by omega) (by omega)]; exact e)]
    · rw [if_neg e, if_neg e]
theorem fr_none {r : List Bool} {xs : List Int} {a : Nat} : ∀ {n : Nat}, (∀ j, a ≤ j → j < a + n → on r j = false) → fr r xs a n = []
  | 0, _ => rfl
  | n + 1, h => by rw [fr_succ, fr_none (n := n) (fun j a b => h j a (by omega)), h (a + n) (by omega) (by omega)]; rfl
theorem fr_one (r : List Bool) (xs : List Int) (a : Nat) : fr r xs a 1 = if on r a then [nth xs a] else [] := by
  rw [fr_succ]; simp [fr]

/-- The elements, from left to right. -/
def its (r : List Bool) (xs : List Int) : List Int := fr r xs 0 r.length
theorem its_len (r : List Bool) (xs : List Int) : (its r xs).length = cnt r r.length := by
  have := fr_len r xs 0 r.length
  simpa [its, cnt] using this
/-- The elements, cut at a slot. -/
theorem its_cut (r : List Bool) (xs : List Int) {s : Nat} (h : s ≤ r.length) : its r xs = fr r xs 0 s ++ fr r xs s (r.length - s) := by
  have := fr_add r xs 0 s (r.length - s)
  rw [Nat.zero_add, show s + (r.length - s) = r.length by omega] at this
  exact this
theorem its_cut1 (r : List Bool) (xs : List Int) {s : Nat} (h : s < r.length) : its r xs = fr r xs 0 s ++ ((if on r s then [nth xs s] else []) ++ fr r xs (s + 1) (r.length - (s + 1))) := by
  rw [its_cut r xs (Nat.le_of_lt h), show r.length - s = 1 + (r.length - (s + 1)) by omega, fr_add, fr_one]
theorem fr0_len (r : List Bool) (xs : List Int) (s : Nat) : (fr r xs 0 s).length = cnt r s := by
  have := fr_len r xs 0 s
  simpa [cnt] using this
theorem its_take (r : List Bool) (xs : List Int) {s : Nat} (h : s ≤ r.length) : (its r xs).take (cnt r s) = fr r xs 0 s := by
  rw [its_cut r xs h, ← fr0_len r xs s, List.take_left]
theorem its_drop (r : List Bool) (xs : List Int) {s : Nat} (h : s ≤ r.length) : (its r xs).drop (cnt r s) = fr r xs s (r.length - s) := by
  rw [its_cut r xs h, ← fr0_len r xs s, List.drop_left]
theorem its_get {r : List Bool} {xs : List Int} {s : Nat} (h : on r s = true) : (its r xs)[cnt r s]? = some (nth xs s) := by
  rw [its_cut1 r xs (on_lt h), List.getElem?_append_right (by rw [fr0_len]; exact Nat.le_refl _), fr0_len, if_pos h]
  simp
theorem its_nth {r : List Bool} {xs : List Int} {s : Nat} (h : on r s = true) : nth (its r xs) (cnt r s) = nth xs s := by
  have := its_get (xs := xs) h
  rw [List.getElem?_eq_some_iff] at this
  obtain ⟨h1, h2⟩ := this
  rw [nth_eq h1, h2]
/-- The slot of the n-th element. -/
theorem cnt_slot {r : List Bool} {n : Nat} : ∀ {m : Nat}, n < cnt r m → ∃ s, s < m ∧ on r s = true ∧ cnt r s = n
  | 0, h => by simp [cnt] at h
  | m + 1, h => by
    by_cases e : n < cnt r m
    · obtain ⟨s, h1, h2, h3⟩ := cnt_slot e
      exact ⟨s, by omega, h2, h3⟩
    · rw [cnt_succ] at h
      by_cases o : on r m = true
      · rw [if_pos o] at h
        exact ⟨m, by omega, o, by omega⟩
      · rw [if_neg o] at h
        omega
theorem its_mem {r : List Bool} {xs : List Int} {x : Int} : x ∈ its r xs ↔ ∃ s, on r s = true ∧ nth xs s = x := by
  constructor
  · intro h
    obtain ⟨n, hn, rfl⟩ := List.getElem_of_mem h
    rw [its_len] at hn
    obtain ⟨s, h1, h2, h3⟩ := cnt_slot hn
    refine ⟨s, h2, ?_⟩
    rw [← its_nth h2, h3, nth_eq]
  · rintro ⟨s, h, rfl⟩
    exact List.mem_of_getElem? (its_get h)

/-- What a put does. -/
theorem its_put {r : List Bool} {xs : List Int} (hl : xs.length = r.length) {s : Nat} (hs : s < r.length) (ho : on r s = false) (x : Int) :
    its (r.set s true) (xs.set s x) = (its r xs).take (cnt r s) ++ x :: (its r xs).drop (cnt r s) := by
  rw [its_take r xs (Nat.le_of_lt hs), its_drop r xs (Nat.le_of_lt hs), its_cut1 _ _ (s := s) (by simpa using hs), on_set hs, if_pos rfl, if_pos rfl, nth_set (by omega), if_pos rfl, List.length_set]
  have e1 : fr (r.set s true) (xs.set s x) 0 s = fr r xs 0 s := by
    apply fr_congr
    · intro j _ h; rw [on_set hs, if_neg (by omega)]
    · intro j _ h _; rw [nth_set (by omega), if_neg (by omega)]
  have e2 : fr (r.set s true) (xs.set s x) (s + 1) (r.length - (s + 1)) = fr r xs (s + 1) (r.length - (s + 1)) := by
    apply fr_congr
    · intro j h _; rw [on_set hs, if_neg (by omega)]
    · intro j h _ _; rw [nth_set (by omega), if_neg (by omega)]
  rw [e1, e2, show r.length - s = 1 + (r.length - (s + 1)) by omega, fr_add r xs s 1, fr_one, ho]
  simp
/-- What a take does. -/
theorem its_takeOut {r : List Bool} {xs : List Int} (hl : xs.length = r.length) {s : Nat} (ho : on r s = true) (x : Int) :
    its (r.set s false) (xs.set s x) = (its r xs).eraseIdx (cnt r s) := by
  have hs := on_lt ho
  rw [its_cut1 r xs hs, if_pos ho, its_cut1 _ _ (s := s) (by simpa using hs), on_set hs, if_pos rfl, if_neg (by simp), List.length_set]
  have e1 : fr (r.set s false) (xs.set s x) 0 s = fr r xs 0 s := by
    apply fr_congr
    · intro j _ h; rw [on_set hs, if_neg (by omega)]
    · intro j _ h _; rw [nth_set (by omega), if_neg (by omega)]
  have e2 : fr (r.set s false) (xs.set s x) (s + 1) (r.length - (s + 1)) = fr r xs (s + 1) (r.length - (s + 1)) := by
    apply fr_congr
    · intro j h _; rw [on_set hs, if_neg (by omega)]
    · intro j h _ _; rw [nth_set (by omega), if_neg (by omega)]
  rw [e1, e2, List.eraseIdx_append_of_length_le (by rw [fr0_len]; exact Nat.le_refl _), fr0_len]
  simp
/-- What a move does: nothing, to the elements, if it leaps over none. -/
theorem its_move {r : List Bool} {xs : List Int} (hl : xs.length = r.length) {f t : Nat} (hf : on r f = true) (ht : t < r.length) (hto : on r t = false) (hb : ∀ j, (f < j ∧ j < t) ∨ (t < j ∧ j < f) → on r j = false) :
    its ((r.set f false).set t true) ((xs.set f 0).set t (nth xs f)) = its r xs := by
  have hfl := on_lt hf
  have hne : f ≠ t := by rintro rfl; rw [hf] at hto; cases hto
  rw [its_put (by simp [hl]) (by simpa using ht) (by rw [on_set hfl, if_neg (fun h => hne h.symm)]; exact hto), its_takeOut hl hf]
  have hc : cnt (r.set f false) t = cnt r f := by
    rcases Nat.lt_or_gt_of_ne hne with c | c
    · have h1 : cnt (r.set f false) f = cnt r f := by
        have := fr0_len r xs f
        have h2 := fr0_len (r.set f false) xs f
        rw [fr_congr (r' := r) (xs' := xs) (fun j _ h => by rw [on_set hfl, if_neg (by omega)]) (fun j _ _ _ => rfl)] at h2
        omega
      rw [← h1]
      exact cnt_none (by omega) (fun j h3 h4 => by
        rw [on_set hfl]
        by_cases e : j = f
        · rw [if_pos e]
        · rw [if_neg e]; exact hb j (.inl ⟨by omega, h4⟩))
    · have h1 : cnt (r.set f false) t = cnt r t := by
        have := fr0_len r xs t
        have h2 := fr0_len (r.set f false) xs t
        rw [fr_congr (r' := r) (xs' := xs) (fun j _ h => by rw [on_set hfl, if_neg (by omega)]) (fun j _ _ _ => rfl)] at h2
        omega
      rw [h1]
      exact (cnt_none (by omega) (fun j h3 h4 => by
        by_cases e : j = t
        · rw [e]; exact hto
        · exact hb j (.inr ⟨by omega, h4⟩))).symm
  have hg := its_nth (xs := xs) hf
  have hlt : cnt r f < (its r xs).length := by
    rw [its_len]
    exact cnt_lt hfl hf
  rw [hc]
  generalize its r xs = L at *
  generalize cnt r f = n at *
  have hx : L[n]? = some (nth xs f) := by rw [List.getElem?_eq_getElem hlt, ← nth_eq hlt, hg]
  apply List.ext_getElem?
  intro i
  rw [List.getElem?_append, List.length_take, List.length_eraseIdx, if_pos hlt, Nat.min_eq_left (by omega)]
  by_cases h1 : i < n
  · rw [if_pos h1, List.getElem?_take, if_pos h1, List.getElem?_eraseIdx, if_pos h1]
  · rw [if_neg h1]
    by_cases h2 : i = n
    · subst h2; simp [hx]
    · obtain ⟨d, rfl⟩ : ∃ d, i = n + d + 1 := ⟨i - n - 1, by omega⟩
      rw [show n + d + 1 - n = d + 1 by omega, List.getElem?_cons_succ, List.getElem?_drop, List.getElem?_eraseIdx, if_neg (by omega)]
end Go.Proofs.YtaonkbfekadalaaGreatDoor
