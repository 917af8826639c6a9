/- HandleOnce: the plain law: what the caller's own row of freed handles is. -/
import Derived.Test.YtggnboieenknfaaHi
namespace Go.Proofs.Ytggnboieenknfaa
open Go.RowKit Go.Maps
set_option linter.unusedVariables false

/-- Was taken, and is no more. -/
def dead (r : List Int) (j : Nat) : Bool := decide (1 ≤ j ∧ j ≤ r.length) && !live r (j : Int)
theorem dead_take {r : List Int} {x : Int} (hx : 0 ≤ x) (j : Nat) : dead (r ++ [x]) j = dead r j := by
  unfold dead
  rw [live_snoc r hx, List.length_append, List.length_singleton]
  by_cases e : j = r.length + 1
  · subst e
    rw [if_pos (by omega), decide_eq_false (p := 1 ≤ r.length + 1 ∧ r.length + 1 ≤ r.length) (by omega)]
    simp
  · rw [if_neg (by omega)]
    congr 1
    simp only [decide_eq_decide]
    omega
theorem dead_set {r : List Int} {k : Nat} {x : Int} (hk : k < r.length) (hl : live r ((k : Int) + 1) = true) (hx : 0 ≤ x) (j : Nat) : dead (r.set k x) j = dead r j := by
  unfold dead
  rw [live_set r hk, List.length_set]
  by_cases e : j = k + 1
  · subst e
    rw [if_pos (by omega), show ((k + 1 : Nat) : Int) = (k : Int) + 1 by omega, hl]
    simp [hx]
  · rw [if_neg (by omega)]
theorem dead_free {r : List Int} {k : Nat} (hk : k < r.length) (j : Nat) : dead (r.set k (-1)) j = if j = k + 1 then true else dead r j := by
  unfold dead
  rw [live_set r hk, List.length_set]
  by_cases e : j = k + 1
  · subst e
    rw [if_pos (by omega), if_pos rfl, decide_eq_true (p := 1 ≤ k + 1 ∧ k + 1 ≤ r.length) (by omega)]
    rfl
  · rw [if_neg (by omega), if_neg e]
theorem dead_mid {r : List Int} {k : Nat} (hk : k < r.length) : dead r (k + 1) = !live r ((k : Int) + 1) := by
  unfold dead
  rw [decide_eq_true (p := 1 ≤ k + 1 ∧ k + 1 ≤ r.length) (by omega), show ((k + 1 : Nat) : Int) = (k : Int) + 1 by omega]
  rfl
def dcells (r : List Int) : Array Value := ((List.range 200).map fun j => Value.bool (dead r j)).toArray
theorem dcells_get (r : List Int) {j : Nat} (h : j < 200) : (dcells r)[j]? = some (.bool (dead r j)) := by
  unfold dcells
  simp [h]
theorem dcells_same {r r' : List Int} (h : ∀ j, dead r' j = dead r j) : dcells r' = dcells r := by
  unfold dcells
  congr 1
  exact List.map_congr_left fun j _ => by rw [h]
theorem dcells_free {r : List Int} {k : Nat} (hk : k < r.length) : (dcells r).setIfInBounds (k + 1) (.bool true) = dcells (r.set k (-1)) := by
  apply Array.ext_getElem?
  intro j
  rw [Array.getElem?_setIfInBounds]
  by_cases hj : j < 200
  · rw [dcells_get _ hj, dcells_get _ hj, dead_free hk]
    by_cases e : k + 1 = j
    · subst e
      rw [if_pos rfl, if_pos rfl, if_pos (by simp [dcells]; omega)]
    · rw [if_neg e, if_neg (by omega)]
  · have e1 : (dcells r)[j]? = none := by simp [dcells]; omega
    have e2 : (dcells (r.set k (-1)))[j]? = none := by simp [dcells]; omega
    rw [e1, e2]
    split
    · rw [if_neg (by simp [dcells]; omega)]
    · rfl
theorem Try.infoB : (Try.prog.info? 4).map (fun i => (i.zero, i.size, i.bytes)) = some (some (.bool false), 1, 1) := by kernel_rfl
theorem make_bools (W : World) : (Instr.makeSlice 41 (.int .i64 200) (.int .i64 200)).run Try.prog W = .ok (.slice (some ⟨W.heap.size, 0, none⟩) 200 200) (W.alloc (.cells (dcells []) 4)) := by
  obtain ⟨i0, hi, hz0, hz1, hz2⟩ := info_parts Try.infoB
  have h := run_make (P := Try.prog) W 41 4 i0 (.bool false) Try.underlying41 hi hz0 .i64 .i64 200 200 (by omega) (by omega) (by rw [hz2]; omega) (by omega)
  rw [h, hz1]
  have e : madeCells (Value.bool false).cells ((200 : Int).toNat * 1) = dcells [] := by
    apply Array.ext_getElem?
    intro j
    by_cases hj : j < 200
    · rw [dcells_get _ hj]
      simp [madeCells, Value.cells, hj, dead, Nat.mod_one]
      omega
    · have e2 : (dcells [])[j]? = none := by simp [dcells]; omega
      rw [e2]
      simp [madeCells]
      omega
  rw [e]
  rfl
theorem live_hi {r : List Int} {y : Int} (h : ¬ y ≤ (r.length : Int)) : live r y = false := by
  unfold live
  rw [decide_eq_false (fun h' => h h'.2)]
  rfl
theorem live_lo {r : List Int} {y : Int} (h : ¬ 1 ≤ y) : live r y = false := by
  unfold live
  rw [decide_eq_false (fun h' => h h'.1)]
  rfl
/-- One that is live stands on the list of all live ones behind those ahead of it. -/
theorem liveTo_prefix (r : List Int) {j n : Nat} (h : j ≤ n) : liveTo r j <+: liveTo r n := by
  induction n with
  | zero => obtain rfl : j = 0 := by omega
            exact List.prefix_rfl
  | succ n ih =>
    by_cases e : j = n + 1
    · subst e; exact List.prefix_rfl
    · rw [liveTo_succ]
      exact (ih (by omega)).trans (List.prefix_append _ _)
theorem liveL_nth {r : List Int} {j : Nat} (hj : j < r.length) (hl : live r ((j : Int) + 1) = true) : (liveTo r j).length < (liveL r).length ∧ nth (liveL r) (liveTo r j).length = (j : Int) + 1 := by
  have hp := liveTo_prefix r (show j + 1 ≤ r.length by omega)
  rw [liveTo_succ, hl, if_pos rfl] at hp
  obtain ⟨t, ht⟩ := hp
  have e : liveL r = liveTo r j ++ ((j : Int) + 1) :: t := by
    unfold liveL
    rw [← ht]
    simp
  rw [e]
  refine ⟨by simp, ?_⟩
  unfold nth
  simp [List.getD]
end Go.Proofs.Ytggnboieenknfaa
