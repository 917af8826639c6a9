/- The document's table: Live, Slots, Take, Move, Free, Slot. -/
import Derived.Test.YtggnboieenknfaaHe
namespace Go.Proofs.Ytggnboieenknfaa
open Go.RowKit Go.Maps
set_option linter.unusedVariables false

/-- The document's table lies at g; its list is one of its own, at base or above. -/
structure RM (w : World) (g base : Nat) (r : List Int) : Prop where
  le : base ≤ g
  v : ∃ v, Boxed w g 29 v ∧ OL w base v r
section
variable {w w' : World} {g base : Nat} {r : List Int}
theorem RM.lt (h : RM w g base r) : g < w.heap.size := by obtain ⟨_, v, h1, _⟩ := h; exact h1.lt
theorem RM.drewN (h : RM w g base r) (n : Nat) : RM (w.drewN n) g base r := ⟨h.le, h.v⟩
theorem RM.below (h : RM w g base r) (hb : Below w.heap.size w w') : RM w' g base r := by
  obtain ⟨h0, v, h1, h2⟩ := h
  exact ⟨h0, v, h1.kept (grown_of_below hb none) (by simp), h2.below hb⟩
theorem RM.alloc (h : RM w g base r) (o : Obj) : RM (w.alloc o) g base r := h.below ((Below.refl _ w).alloc (Nat.le_refl _) _)
theorem OL.turn {v : Value} {p b : Nat} (h : OL w base v r) (hk : Turn p b w w') (h1 : p < base) (h2 : b < base) : OL w' base v r := by
  refine ⟨h.1, ?_⟩
  rcases h.2 with hn | ⟨gg, cap, cur, rfl, hb, hgg, rest⟩
  · exact .inl hn
  · refine .inr ⟨gg, cap, cur, rfl, hb, ?_, rest⟩
    rw [hk.block gg (Array.getElem?_eq_some_iff.1 hgg).1 (by omega) (by omega)]
    exact hgg
theorem RM.turn {p b : Nat} (h : RM w g base r) (hk : Turn p b w w') (h1 : p < base) (h2 : b < base) : RM w' g base r := by
  obtain ⟨h0, v, h3, h4⟩ := h
  exact ⟨h0, v, (hk.block g h3.lt (by omega) (by omega)).trans h3, h4.turn hk h1 h2⟩
end

theorem slots_any (x : Int) (w : World) : Calls Try.prog 33 #[.int .i64 x] w fun e w' => e = .returned (.bool (decide (0 ≤ x ∧ x < 4096))) ∧ w = w' := by
  by_cases h0 : 0 ≤ x
  · by_cases h1 : x < 4096
    · rw [decide_eq_true ⟨h0, h1⟩]
      go_enter Try.func33, Try.ntmps33
      go_wp2_with fail
      go_ret
      exact ⟨rfl, rfl⟩
    · rw [decide_eq_false (fun h => h1 h.2)]
      have t : decide (x < 4096) = false := by simp; omega
      clear h1
      go_enter Try.func33, Try.ntmps33
      go_wp2_with fail
      go_ret
      exact ⟨rfl, rfl⟩
  · rw [decide_eq_false (fun h => h0 h.1)]
    have t : decide (0 ≤ x) = false := by simp; omega
    clear h0
    go_enter Try.func33, Try.ntmps33
    go_wp2_with fail
    go_ret
    exact ⟨rfl, rfl⟩

theorem RLive_any {w : World} {g base : Nat} {r : List Int} (h : RM w g base r) (hr : r.length ≤ 1000000) (x : Int) :
    Calls Try.prog 13 #[.pointer (some ⟨g, 0, none⟩), .int .i64 x] w fun e w' => e = .returned (.bool (live r x)) ∧ w = w' := by
  obtain ⟨h0, v, hv, ho⟩ := h
  obtain ⟨A, cap, rfl, hR⟩ := ho.form
  have c := hv.cell
  by_cases h1 : 1 ≤ x
  · by_cases h2 : x ≤ (r.length : Int)
    · obtain ⟨k, rfl⟩ : ∃ k : Nat, x = (k : Int) + 1 := ⟨(x - 1).toNat, by omega⟩
      have hk : k < r.length := by omega
      obtain ⟨bb, off, rfl, hcell⟩ := hR.at_ hk
      rw [live_nat]
      simp only [hk, decide_true, Bool.true_and]
      have hcell' : w.cell? ⟨bb, off + ((k : Int) + 1 - 1).toNat, none⟩ = some (.int .i64 (nth r k)) := by rw [show ((k : Int) + 1 - 1).toNat = k by omega]; exact hcell
      have i3 : (0 : Int) ≤ (k : Int) := by omega
      have i4 : (k : Int) < (r.length : Int) := by omega
      have i5 : (r.length : Int) ≤ 1000000 := by omega
      generalize r.length = n at *
      generalize nth r k = z at *
      clear hR ho hv
      go_enter Try.func13, Try.ntmps13
      go_wp2_with fail
      go_ret
      exact ⟨rfl, rfl⟩
    · have e : live r x = false := by
        unfold live
        rw [decide_eq_false (fun h => h2 h.2)]
        rfl
      rw [e]
      have t : decide (x ≤ (r.length : Int)) = false := by simp; omega
      clear h2
      go_enter Try.func13, Try.ntmps13
      go_wp2_with fail
      go_ret
      exact ⟨rfl, rfl⟩
  · have e : live r x = false := by
      unfold live
      rw [decide_eq_false (fun h => h1 h.1)]
      rfl
    rw [e]
    have t : decide (1 ≤ x) = false := by simp; omega
    clear h1
    go_enter Try.func13, Try.ntmps13
    go_wp2_with fail
    go_ret
    exact ⟨rfl, rfl⟩

theorem RSlot_any {w : World} {g base : Nat} {r : List Int} (h : RM w g base r) (hr : r.length ≤ 1000000) (x : Int) :
    Calls Try.prog 27 #[.pointer (some ⟨g, 0, none⟩), .int .i64 x] w fun e w' => e = .returned (.tuple #[.int .i64 (askV r x).1, .int .i64 (askV r x).2]) ∧ w = w' := by
  have hl := RLive_any h hr x
  unfold askV
  cases ho : live r x
  · rw [ho] at hl
    simp only [Bool.false_eq_true, if_false] at hl ⊢
    clear ho
    go_enter Try.func27, Try.ntmps27
    go_wp2_with fail
    refine hl.mono ?_
    rintro e w1 ⟨rfl, rfl⟩
    go_wp2_with fail
    go_ret2
    exact ⟨rfl, rfl⟩
  · rw [ho] at hl
    simp only [if_true] at hl ⊢
    obtain ⟨k, rfl, hk, _⟩ := live_true ho
    obtain ⟨h0, v, hv, hoo⟩ := h
    obtain ⟨A, cap, rfl, hR⟩ := hoo.form
    have c := hv.cell
    obtain ⟨bb, off, rfl, hcell⟩ := hR.at_ hk
    rw [slotV_nat]
    have i3 : (0 : Int) ≤ (k : Int) := by omega
    have i4 : (k : Int) < (r.length : Int) := by omega
    have i5 : (r.length : Int) ≤ 1000000 := by omega
    generalize r.length = n at *
    generalize nth r k = z at *
    clear hR hoo hv ho
    go_enter Try.func27, Try.ntmps27
    go_wp2_with fail
    refine hl.mono ?_
    rintro e w1 ⟨rfl, rfl⟩
    go_wp2_with fail
    go_ret2
    exact ⟨rfl, rfl⟩
end Go.Proofs.Ytggnboieenknfaa
