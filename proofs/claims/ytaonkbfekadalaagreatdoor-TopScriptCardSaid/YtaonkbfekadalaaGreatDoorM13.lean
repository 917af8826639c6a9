/- Plain laws: where the elements of an array with gaps are, and when a table of handles agrees with that. No program in sight. -/
import Derived.Test.YtaonkbfekadalaaGreatDoorM10
import Derived.Test.YtaonkbfekadalaaGreatDoorM12
namespace Go.Proofs.YtaonkbfekadalaaGreatDoor
open Go
set_option linter.unusedVariables false

/-- The list with one more at a place. -/
def insI (L : List Int) (i : Nat) (x : Int) : List Int := L.take i ++ x :: L.drop i
theorem insI_len {L : List Int} {i : Nat} (h : i ≤ L.length) (x : Int) : (insI L i x).length = L.length + 1 := by
  unfold insI
  simp
  omega
theorem nth_insI {L : List Int} {i : Nat} (h : i ≤ L.length) (x : Int) (j : Nat) : nth (insI L i x) j = if j < i then nth L j else if j = i then x else nth L (j - 1) := by
  unfold insI nth
  simp only [List.getD]
  rw [List.getElem?_append, List.length_take, Nat.min_eq_left h]
  by_cases h1 : j < i
  · rw [if_pos h1, if_pos h1, List.getElem?_take, if_pos h1]
  · rw [if_neg h1, if_neg h1]
    by_cases h2 : j = i
    · subst h2; simp
    · obtain ⟨d, rfl⟩ : ∃ d, j = i + d + 1 := ⟨j - i - 1, by omega⟩
      rw [if_neg h2, show i + d + 1 - i = d + 1 by omega, List.getElem?_cons_succ, List.getElem?_drop, show i + d + 1 - 1 = i + d by omega]
theorem nth_erase {L : List Int} {i : Nat} (j : Nat) : nth (L.eraseIdx i) j = if j < i then nth L j else nth L (j + 1) := by
  unfold nth
  simp only [List.getD]
  rw [List.getElem?_eraseIdx]
  split <;> rfl

/-- The numbers from 0 on. -/
def iota (n : Nat) : List Int := (List.range n).map fun (i : Nat) => (i : Int)
theorem iota_len (n : Nat) : (iota n).length = n := by simp [iota]
theorem nth_iota {n i : Nat} (h : i < n) : nth (iota n) i = (i : Int) := by
  rw [nth_eq (by rw [iota_len]; exact h)]
  simp [iota]
/-- The occupied slots, from left to right. -/
def pos (r : List Bool) : List Int := its r (iota r.length)
theorem pos_len (r : List Bool) : (pos r).length = cnt r r.length := its_len _ _
theorem pos_nth {r : List Bool} {s : Nat} (h : on r s = true) : nth (pos r) (cnt r s) = (s : Int) := by
  unfold pos
  rw [its_nth h, nth_iota (on_lt h)]
theorem its_same {r : List Bool} {xs xs' : List Int} (h : ∀ s, on r s = true → nth xs s = nth xs' s) : its r xs = its r xs' :=
  fr_congr (fun _ _ _ => rfl) (fun j _ _ o => h j o)
theorem pos_put {r : List Bool} {s : Nat} (hs : s < r.length) (ho : on r s = false) : pos (r.set s true) = insI (pos r) (cnt r s) (s : Int) := by
  have h := its_put (xs := iota r.length) (iota_len _) hs ho (s : Int)
  unfold pos insI
  rw [← h, List.length_set]
  exact its_same fun j hj => by
    rw [nth_set (by rw [iota_len]; exact hs)]
    split
    · rename_i e; subst e; exact nth_iota hs
    · rfl
theorem pos_take {r : List Bool} {s : Nat} (ho : on r s = true) : pos (r.set s false) = (pos r).eraseIdx (cnt r s) := by
  have h := its_takeOut (xs := iota r.length) (iota_len _) ho 0
  unfold pos
  rw [← h, List.length_set]
  exact its_same fun j hj => by
    rw [on_set (on_lt ho)] at hj
    by_cases e : j = s
    · rw [if_pos e] at hj; cases hj
    · rw [nth_set (by rw [iota_len]; exact on_lt ho), if_neg e]
theorem insI_erase {L : List Int} {i : Nat} (h : i < L.length) (x : Int) : insI (L.eraseIdx i) i x = L.set i x := by
  have e1 : (L.eraseIdx i).length = L.length - 1 := by rw [List.length_eraseIdx, if_pos h]
  apply nth_ext
  · rw [insI_len (by omega), e1, List.length_set]; omega
  · intro k _
    rw [nth_insI (by omega), nth_set h]
    by_cases h1 : k < i
    · rw [if_pos h1, nth_erase, if_pos h1, if_neg (by omega)]
    · rw [if_neg h1]
      by_cases h2 : k = i
      · rw [if_pos h2, if_pos h2]
      · rw [if_neg h2, if_neg h2, nth_erase, if_neg (by omega), show k - 1 + 1 = k by omega]
theorem cnt_moved {r : List Bool} {f t : Nat} (hf : on r f = true) (ht : t < r.length) (hto : on r t = false) (hb : ∀ j, (f < j ∧ j < t) ∨ (t < j ∧ j < f) → on r j = false) : cnt (r.set f false) t = cnt r f := by
  have hfl := on_lt hf
  have hne : f ≠ t := by rintro rfl; rw [hf] at hto; cases hto
  have hsame : ∀ m, m ≤ f → cnt (r.set f false) m = cnt r m := by
    intro m hm
    have h1 := fr0_len r [] m
    have h2 := fr0_len (r.set f false) [] m
    rw [fr_congr (r' := r) (xs' := []) (fun j _ h => by rw [on_set hfl, if_neg (by omega)]) (fun j _ _ _ => rfl)] at h2
    omega
  rcases Nat.lt_or_gt_of_ne hne with c | c
  · rw [← hsame f (Nat.le_refl _)]
    exact cnt_none (by omega) (fun j h3 h4 => by
      rw [on_set hfl]
      by_cases e : j = f
      · rw [if_pos e]
      · rw [if_neg e]; exact hb j (.inl ⟨by omega, h4⟩))
  · rw [hsame t (by omega)]
    exact (cnt_none (by omega) (fun j h3 h4 => by
      by_cases e : j = t
      · rw [e]; exact hto
      · exact hb j (.inr ⟨by omega, h4⟩))).symm
theorem pos_move {r : List Bool} {f t : Nat} (hf : on r f = true) (ht : t < r.length) (hto : on r t = false) (hb : ∀ j, (f < j ∧ j < t) ∨ (t < j ∧ j < f) → on r j = false) :
    pos ((r.set f false).set t true) = (pos r).set (cnt r f) (t : Int) := by
  have hfl := on_lt hf
  have hne : f ≠ t := by rintro rfl; rw [hf] at hto; cases hto
  rw [pos_put (by simpa using ht) (by rw [on_set hfl, if_neg (fun h => hne h.symm)]; exact hto), pos_take hf, cnt_moved hf ht hto hb]
  exact insI_erase (by rw [pos_len]; exact cnt_lt hfl hf) _

/-- The table says of the elements L that they are at the slots S; besides it has the pending handle alone. -/
structure Agree (t L S : List Int) (pd : Option Int) : Prop where
  len : S.length = L.length
  at_ : ∀ j, j < L.length → live t (nth L j) = true ∧ slotV t (nth L j) = nth S j ∧ pd ≠ some (nth L j)
  inj : ∀ i j, i < L.length → j < L.length → nth L i = nth L j → i = j
  all : ∀ h, live t h = true → pd ≠ some h → ∃ j, j < L.length ∧ nth L j = h
  pd : ∀ h, pd = some h → live t h = true

theorem Agree.move {t L S : List Int} {pd : Option Int} (h : Agree t L S pd) {j : Nat} (hj : j < L.length) {x : Int} (hx : 0 ≤ x ∧ x < 4096) :
    (moveV t (nth L j) x).2 = 0 ∧ (moveV t (nth L j) x).1.length = t.length ∧ Agree (moveV t (nth L j) x).1 L (S.set j x) pd := by
  obtain ⟨hl, hs, hp⟩ := h.at_ j hj
  obtain ⟨k, hk, hk1, hk2⟩ := live_true hl
  unfold moveV
  rw [if_pos hl, if_pos hx]
  refine ⟨rfl, by simp, by rw [List.length_set, h.len], ?_, h.inj, ?_, ?_⟩
  · intro i hi
    obtain ⟨a, b, c⟩ := h.at_ i hi
    have e : (nth L j - 1).toNat = k := by omega
    dsimp only
    rw [e]
    refine ⟨?_, ?_, c⟩
    · rw [live_set t hk1]
      split
      · simp [hx.1]
      · exact a
    · rw [nth_set (by rw [h.len]; exact hj)]
      by_cases e2 : i = j
      · subst e2
        rw [if_pos rfl, hk, slotV_nat, nth_set_self t hk1]
      · rw [if_neg e2, ← b]
        have : nth L i ≠ nth L j := fun q => e2 (h.inj i j hi hj q)
        obtain ⟨k', q1, q2, q3⟩ := live_true a
        rw [q1, slotV_nat, slotV_nat, nth_set_other t (by omega)]
  · intro y hy hq
    dsimp only at hy
    rw [show (nth L j - 1).toNat = k by omega, live_set t hk1] at hy
    by_cases e : y = (k : Int) + 1
    · exact ⟨j, hj, by omega⟩
    · rw [if_neg e] at hy
      exact h.all y hy hq
  · intro y hy
    dsimp only
    rw [show (nth L j - 1).toNat = k by omega, live_set t hk1]
    split
    · simp [hx.1]
    · exact h.pd y hy
theorem Agree.put {t L S : List Int} {y : Int} (h : Agree t L S (some y)) {i : Nat} (hi : i ≤ L.length) {x : Int} (hx : 0 ≤ x ∧ x < 4096) :
    (moveV t y x).2 = 0 ∧ (moveV t y x).1.length = t.length ∧ Agree (moveV t y x).1 (insI L i y) (insI S i x) none := by
  have hl := h.pd y rfl
  obtain ⟨k, hk, hk1, hk2⟩ := live_true hl
  have hne : ∀ j, j < L.length → nth L j ≠ y := fun j hj e => (h.at_ j hj).2.2 (by rw [e])
  unfold moveV
  rw [if_pos hl, if_pos hx]
  have hiS : i ≤ S.length := by rw [h.len]; exact hi
  have ek : (y - 1).toNat = k := by omega
  refine ⟨rfl, by simp, by rw [insI_len hiS, insI_len hi, h.len], ?_, ?_, ?_, fun _ q => by cases q⟩
  · intro j hj
    dsimp only
    rw [ek]
    refine ⟨?_, ?_, fun q => by cases q⟩
    · rw [live_set t hk1]
      by_cases e : nth (insI L i y) j = (k : Int) + 1
      · rw [if_pos e]; simp [hx.1]
      · rw [if_neg e]
        rw [nth_insI hi] at e ⊢
        rw [insI_len hi] at hj
        by_cases e1 : j < i
        · rw [if_pos e1]; exact (h.at_ j (by omega)).1
        · rw [if_neg e1] at e ⊢
          by_cases e2 : j = i
          · rw [if_pos e2] at e; exact absurd hk e
          · rw [if_neg e2]; exact (h.at_ (j - 1) (by omega)).1
    · rw [insI_len hi] at hj
      have far : ∀ j', j' < L.length → slotV (t.set k x) (nth L j') = nth S j' := fun j' hj' => by
        obtain ⟨a, b, c⟩ := h.at_ j' hj'
        obtain ⟨k', q1, q2, q3⟩ := live_true a
        have := hne j' hj'
        rw [← b, q1, slotV_nat, slotV_nat, nth_set_other t (by omega)]
      rw [nth_insI hi, nth_insI hiS]
      by_cases e1 : j < i
      · rw [if_pos e1, if_pos e1]; exact far j (by omega)
      · rw [if_neg e1, if_neg e1]
        by_cases e2 : j = i
        · rw [if_pos e2, if_pos e2, hk, slotV_nat, nth_set_self t hk1]
        · rw [if_neg e2, if_neg e2]; exact far (j - 1) (by omega)
  · intro a b ha hb
    rw [insI_len hi] at ha hb
    rw [nth_insI hi, nth_insI hi]
    have key : ∀ a, a < L.length + 1 → (a = i ∧ (if a < i then nth L a else if a = i then y else nth L (a - 1)) = y) ∨ (∃ a', a' < L.length ∧ a ≠ i ∧ (a = a' ∧ a < i ∨ a = a' + 1 ∧ i < a) ∧ (if a < i then nth L a else if a = i then y else nth L (a - 1)) = nth L a') := by
      intro a ha
      by_cases a2 : a = i
      · exact .inl ⟨a2, by rw [if_neg (by omega), if_pos a2]⟩
      · by_cases a1 : a < i
        · exact .inr ⟨a, by omega, a2, .inl ⟨rfl, a1⟩, by rw [if_pos a1]⟩
        · exact .inr ⟨a - 1, by omega, a2, .inr ⟨by omega, by omega⟩, by rw [if_neg a1, if_neg a2]⟩
    intro q
    rcases key a ha with ⟨ea, va⟩ | ⟨a', la, na, ca, va⟩ <;> rcases key b hb with ⟨eb, vb⟩ | ⟨b', lb, nb, cb, vb⟩ <;> rw [va, vb] at q
    · omega
    · exact absurd q.symm (hne _ lb)
    · exact absurd q (hne _ la)
    · have := h.inj _ _ la lb q
      omega
  · intro z hz _
    dsimp only at hz
    rw [ek, live_set t hk1] at hz
    by_cases e : z = (k : Int) + 1
    · refine ⟨i, by rw [insI_len hi]; omega, ?_⟩
      rw [nth_insI hi, if_neg (by omega), if_pos rfl]; omega
    · rw [if_neg e] at hz
      obtain ⟨j, hj, rfl⟩ := h.all z hz (fun q => by injection q with q; omega)
      by_cases e1 : j < i
      · exact ⟨j, by rw [insI_len hi]; omega, by rw [nth_insI hi, if_pos e1]⟩
      · exact ⟨j + 1, by rw [insI_len hi]; omega, by rw [nth_insI hi, if_neg (by omega), if_neg (by omega), Nat.add_sub_cancel]⟩
theorem Agree.free {t L S : List Int} (h : Agree t L S none) {j : Nat} (hj : j < L.length) :
    (freeV t (nth L j)).2 = 0 ∧ (freeV t (nth L j)).1.length = t.length ∧ Agree (freeV t (nth L j)).1 (L.eraseIdx j) (S.eraseIdx j) none := by
  obtain ⟨hl, hs, hp⟩ := h.at_ j hj
  obtain ⟨k, hk, hk1, hk2⟩ := live_true hl
  unfold freeV
  rw [if_pos hl]
  have ek : (nth L j - 1).toNat = k := by omega
  have el : (L.eraseIdx j).length = L.length - 1 := by rw [List.length_eraseIdx, if_pos hj]
  have es : (S.eraseIdx j).length = S.length - 1 := by rw [List.length_eraseIdx, if_pos (by rw [h.len]; exact hj)]
  have far : ∀ i, i < L.length → i ≠ j → live (t.set k (-1)) (nth L i) = true ∧ slotV (t.set k (-1)) (nth L i) = nth S i := fun i hi e => by
    obtain ⟨a, b, c⟩ := h.at_ i hi
    obtain ⟨k', q1, q2, q3⟩ := live_true a
    have : nth L i ≠ nth L j := fun q => e (h.inj i j hi hj q)
    refine ⟨?_, ?_⟩
    · rw [live_set t hk1, if_neg (by omega)]; exact a
    · rw [← b, q1, slotV_nat, slotV_nat, nth_set_other t (by omega)]
  refine ⟨rfl, by simp, by rw [el, es, h.len], ?_, ?_, ?_, fun _ q => by cases q⟩
  · intro i hi
    rw [el] at hi
    dsimp only
    rw [ek, nth_erase, nth_erase]
    split
    · exact ⟨(far i (by omega) (by omega)).1, (far i (by omega) (by omega)).2, fun q => by cases q⟩
    · exact ⟨(far (i + 1) (by omega) (by omega)).1, (far (i + 1) (by omega) (by omega)).2, fun q => by cases q⟩
  · intro a b ha hb
    rw [el] at ha hb
    rw [nth_erase, nth_erase]
    split <;> split <;> intro q <;> (have := h.inj _ _ (by omega) (by omega) q; omega)
  · intro z hz _
    dsimp only at hz
    rw [ek, live_set t hk1] at hz
    by_cases e : z = (k : Int) + 1
    · rw [if_pos e] at hz; simp at hz
    · rw [if_neg e] at hz
      obtain ⟨i, hi, rfl⟩ := h.all z hz (fun q => by cases q)
      have : i ≠ j := fun q => by subst q; omega
      rcases Nat.lt_or_gt_of_ne this with c | c
      · exact ⟨i, by rw [el]; omega, by rw [nth_erase, if_pos c]⟩
      · exact ⟨i - 1, by rw [el]; omega, by rw [nth_erase, if_neg (by omega), show i - 1 + 1 = i by omega]⟩
theorem Agree.take {t L S : List Int} (h : Agree t L S none) : Agree (t ++ [0]) L S (some ((t.length : Int) + 1)) := by
  have hn : live t ((t.length : Int) + 1) = false := not_live_next t
  refine ⟨h.len, ?_, h.inj, ?_, ?_⟩
  · intro j hj
    obtain ⟨a, b, _⟩ := h.at_ j hj
    obtain ⟨k, q1, q2, q3⟩ := live_true a
    have hne : nth L j ≠ (t.length : Int) + 1 := by omega
    refine ⟨by rw [live_snoc t (by decide), if_neg hne]; exact a, ?_, fun q => by injection q with q; exact hne q.symm⟩
    rw [← b, q1, slotV_nat, slotV_nat, nth_snoc_lt q2]
  · intro z hz hq
    rw [live_snoc t (by decide), if_neg (fun e => hq (by rw [e]))] at hz
    exact h.all z hz (fun q => by cases q)
  · intro z hz
    injection hz with hz
    rw [live_snoc t (by decide), if_pos hz.symm]
theorem Agree.nil : Agree [] [] [] none := ⟨rfl, fun j h => by simp at h, fun i j h => by simp at h, fun h hl => by
  obtain ⟨k, _, q, _⟩ := live_true hl
  simp at q, fun h q => by cases q⟩
end Go.Proofs.YtaonkbfekadalaaGreatDoor
