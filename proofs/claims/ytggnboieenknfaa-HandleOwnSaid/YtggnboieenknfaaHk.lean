/- HandleSwaps, HandleStays: the plain laws. -/
import Derived.Test.YtggnboieenknfaaHi
namespace Go.Proofs.Ytggnboieenknfaa
open Go.RowKit Go.Maps
set_option linter.unusedVariables false

/-- What a call that is no Take does to the slot of the handle that it names, and tells. -/
def onS (o s v : Int) : Int × Int × Int := if o = 1 then (if 0 ≤ s ∧ s < 4096 then (s, 0, 0) else (v, 0, 10)) else if o = 2 then (-1, 0, 0) else (v, v, 0)
theorem set_nth (q : List Int) (k : Nat) : q.set k (nth q k) = q := by
  apply List.ext_getElem?
  intro j
  rw [List.getElem?_set]
  by_cases e : k = j
  · subst e
    rw [if_pos rfl]
    by_cases hk : k < q.length
    · rw [if_pos hk, nth_eq hk, List.getElem?_eq_getElem hk]
    · rw [if_neg hk, List.getElem?_eq_none (by omega)]
  · rw [if_neg e]
theorem act_form {o : Int} (h : o ≠ 0) (q : List Int) (y s : Int) : actH q o y s = if live q y = true then (q.set (y - 1).toNat (onS o s (slotV q y)).1, (onS o s (slotV q y)).2) else (q, 0, 17) := by
  unfold actH onS
  rw [if_neg h]
  by_cases h1 : o = 1
  · rw [if_pos h1, if_pos h1]
    unfold moveV
    by_cases hl : live q y = true
    · rw [if_pos hl, if_pos hl]
      by_cases hs : 0 ≤ s ∧ s < 4096
      · rw [if_pos hs, if_pos hs]
      · rw [if_neg hs, if_neg hs]
        unfold slotV
        rw [set_nth]
    · rw [if_neg hl, if_neg hl]
  · rw [if_neg h1, if_neg h1]
    by_cases h2 : o = 2
    · rw [if_pos h2, if_pos h2]
      unfold freeV
      by_cases hl : live q y = true
      · rw [if_pos hl, if_pos hl]
      · rw [if_neg hl, if_neg hl]
    · rw [if_neg h2, if_neg h2]
      unfold askV
      by_cases hl : live q y = true
      · rw [if_pos hl, if_pos hl]
        unfold slotV
        rw [set_nth]
      · rw [if_neg hl, if_neg hl]
theorem slotV_set {q : List Int} {k : Nat} {x h : Int} (hl : live q h = true) (e : h ≠ (k : Int) + 1) : slotV (q.set k x) h = slotV q h := by
  obtain ⟨j, rfl, hj, _⟩ := live_true hl
  rw [slotV_nat, slotV_nat, nth_set_other q (by omega)]
/-- A call of another handle leaves this one as it is. -/
theorem act_other {o : Int} (h : o ≠ 0) (q : List Int) (y s : Int) {z : Int} (hz : z ≠ y) : live (actH q o y s).1 z = live q z ∧ (live q z = true → slotV (actH q o y s).1 z = slotV q z) := by
  rw [act_form h]
  by_cases hl : live q y = true
  · rw [if_pos hl]
    obtain ⟨k, rfl, hk, _⟩ := live_true hl
    rw [show ((k : Int) + 1 - 1).toNat = k by omega]
    exact ⟨by rw [live_set q hk, if_neg hz], fun h => slotV_set h hz⟩
  · rw [if_neg hl]
    exact ⟨rfl, fun _ => rfl⟩
theorem swap_told {o0 o1 : Int} (h0 : o0 ≠ 0) (h1 : o1 ≠ 0) (q : List Int) {y0 y1 : Int} (hy : y0 ≠ y1) (s0 s1 : Int) : (actH (actH q o1 y1 s1).1 o0 y0 s0).2 = (actH q o0 y0 s0).2 := by
  obtain ⟨e1, e2⟩ := act_other h1 q y1 s1 hy
  rw [act_form h0, act_form h0 q, e1]
  by_cases hl : live q y0 = true
  · rw [if_pos hl, if_pos hl, e2 hl]
  · rw [if_neg hl, if_neg hl]
theorem swap_list {o0 o1 : Int} (h0 : o0 ≠ 0) (h1 : o1 ≠ 0) (q : List Int) {y0 y1 : Int} (hy : y0 ≠ y1) (s0 s1 : Int) : (actH (actH q o1 y1 s1).1 o0 y0 s0).1 = (actH (actH q o0 y0 s0).1 o1 y1 s1).1 := by
  obtain ⟨e1, e2⟩ := act_other h1 q y1 s1 hy
  obtain ⟨e3, e4⟩ := act_other h0 q y0 s0 (fun e => hy e.symm)
  rw [act_form h0, act_form h1 (actH q o0 y0 s0).1, e1, e3]
  by_cases hl : live q y0 = true
  · rw [if_pos hl, e2 hl]
    by_cases hm : live q y1 = true
    · rw [if_pos hm, e4 hm, act_form h1, act_form h0, if_pos hl, if_pos hm]
      obtain ⟨j, rfl, hj, _⟩ := live_true hl
      obtain ⟨k, rfl, hk, _⟩ := live_true hm
      simp only
      rw [show ((k : Int) + 1 - 1).toNat = k by omega, show ((j : Int) + 1 - 1).toNat = j by omega]
      exact List.set_comm _ _ (by omega)
    · rw [if_neg hm, act_form h1, act_form h0, if_pos hl, if_neg hm]
  · rw [if_neg hl]
    by_cases hm : live q y1 = true
    · rw [if_pos hm, e4 hm, act_form h1, act_form h0, if_neg hl, if_pos hm]
    · rw [if_neg hm, act_form h1, act_form h0, if_neg hl, if_neg hm]

theorem askV_live {q : List Int} {h : Int} (hl : live q h = true) : askV q h = (slotV q h, 0) := by unfold askV; rw [if_pos hl]
theorem askV_dead {q : List Int} {h : Int} (hl : live q h = false) : askV q h = (0, 17) := by unfold askV; rw [if_neg (by simp [hl])]
theorem slotV_snoc {q : List Int} {x h : Int} (hl : live q h = true) : slotV (q ++ [x]) h = slotV q h := by
  obtain ⟨j, rfl, hj, _⟩ := live_true hl
  rw [slotV_nat, slotV_nat, nth_snoc_lt hj]
/-- What a call leaves of a handle that was live: freed; moved; as it was. -/
theorem stay_free {q : List Int} {o y s : Int} (hl : live q y = true) (he : (actH q o y s).2.2 = 0) (ho : o = 2) : askV (actH q o y s).1 y = (0, 17) := by
  subst ho
  refine askV_dead ?_
  rw [act_form (by decide), if_pos hl]
  obtain ⟨k, rfl, hk, _⟩ := live_true hl
  simp only [onS, if_true, show ¬ (2 : Int) = 1 by decide, if_false]
  rw [show ((k : Int) + 1 - 1).toNat = k by omega, live_set q hk, if_pos rfl]
  rfl
theorem stay_move {q : List Int} {o y s : Int} (hl : live q y = true) (he : (actH q o y s).2.2 = 0) (ho : o = 1) : askV (actH q o y s).1 y = (s, 0) := by
  subst ho
  rw [act_form (by decide), if_pos hl] at he ⊢
  obtain ⟨k, rfl, hk, _⟩ := live_true hl
  simp only [onS, if_true] at he ⊢
  by_cases hs : 0 ≤ s ∧ s < 4096
  · rw [if_pos hs]
    simp only
    rw [show ((k : Int) + 1 - 1).toNat = k by omega, askV_live (by rw [live_set q hk, if_pos rfl]; simp [hs.1]), slotV_nat, nth_set_self q hk]
  · rw [if_neg hs] at he
    cases he
theorem stay_same {q : List Int} {o y s h : Int} (hl : live q h = true) (hn : ¬ (h = y ∧ (actH q o y s).2.2 = 0 ∧ (o = 2 ∨ o = 1))) : askV (actH q o y s).1 h = (slotV q h, 0) := by
  by_cases h0 : o = 0
  · subst h0
    unfold actH takeV
    rw [if_pos rfl]
    split
    · rename_i hs
      rw [askV_live, slotV_snoc hl]
      rw [live_snoc q hs.1]
      split
      · rfl
      · exact hl
    · exact askV_live hl
  · by_cases e : h = y
    · subst e
      rw [act_form h0, if_pos hl] at hn ⊢
      have hh : (onS o s (slotV q h)).1 = slotV q h := by
        unfold onS at hn ⊢
        split
        · rename_i h1
          split
          · rename_i hs
            exfalso
            apply hn
            rw [if_pos h1, if_pos hs]
            exact ⟨rfl, rfl, .inr h1⟩
          · rfl
        · rename_i h1
          split
          · rename_i h2
            exfalso
            apply hn
            rw [if_neg h1, if_pos h2]
            exact ⟨rfl, rfl, .inl h2⟩
          · rfl
      simp only
      rw [hh]
      unfold slotV
      rw [set_nth]
      exact askV_live hl
    · obtain ⟨e1, e2⟩ := act_other h0 q y s e
      rw [askV_live (by rw [e1]; exact hl), e2 hl]
/-- What a Take that went well tells, and leaves. -/
theorem took {q : List Int} {o y s : Int} (ho : o = 0) (he : (actH q o y s).2.2 = 0) : actH q o y s = (q ++ [s], (q.length : Int) + 1, 0) ∧ 0 ≤ s := by
  subst ho
  unfold actH takeV at he ⊢
  rw [if_pos rfl] at he ⊢
  by_cases hs : 0 ≤ s ∧ s < 4096
  · rw [if_pos hs]; exact ⟨rfl, hs.1⟩
  · rw [if_neg hs] at he; cases he
theorem not_took {q : List Int} {o y s : Int} (hn : ¬ (o = 0 ∧ (actH q o y s).2.2 = 0)) : (actH q o y s).1.length = q.length := by
  by_cases h0 : o = 0
  · subst h0
    unfold actH takeV at hn ⊢
    rw [if_pos rfl] at hn ⊢
    by_cases hs : 0 ≤ s ∧ s < 4096
    · rw [if_pos hs] at hn; exact absurd ⟨rfl, rfl⟩ hn
    · rw [if_neg hs]
  · rw [act_form h0]
    split
    · simp
    · rfl
end Go.Proofs.Ytggnboieenknfaa
