/- What Next, Prev, Nth and Range tell, of the row and of the document's row alike. -/
import Derived.Test.YthjpflhoenljdaaDoorBk
namespace Go.Proofs.YthjpflhoenljdaaDoor
open Go.RowKit
set_option linter.unusedVariables false

theorem first_on (p : Nat → Bool) : ∀ m, (∀ k, k < m → p k = false) ∨ ∃ j, j < m ∧ p j = true ∧ ∀ k, k < j → p k = false
  | 0 => .inl fun k h => by omega
  | m + 1 => by
    rcases first_on p m with h | ⟨j, h1, h2, h3⟩
    · cases hp : p m
      · refine .inl fun k hk => ?_
        rcases Nat.lt_or_ge k m with h4 | h4
        · exact h k h4
        · rw [show k = m by omega]; exact hp
      · exact .inr ⟨m, by omega, hp, h⟩
    · exact .inr ⟨j, by omega, h2, h3⟩
theorem last_on (p : Nat → Bool) : ∀ m, (∀ k, k < m → p k = false) ∨ ∃ j, j < m ∧ p j = true ∧ ∀ k, j < k → k < m → p k = false
  | 0 => .inl fun k h => by omega
  | m + 1 => by
    cases hp : p m
    · rcases last_on p m with h | ⟨j, h1, h2, h3⟩
      · refine .inl fun k hk => ?_
        rcases Nat.lt_or_ge k m with h4 | h4
        · exact h k h4
        · rw [show k = m by omega]; exact hp
      · refine .inr ⟨j, by omega, h2, fun k k1 k2 => ?_⟩
        rcases Nat.lt_or_ge k m with h4 | h4
        · exact h3 k k1 h4
        · rw [show k = m by omega]; exact hp
    · exact .inr ⟨m, by omega, hp, fun k k1 k2 => by omega⟩
theorem next_ex (r : List Bool) (i : Int) : ∃ s, IsNext r i s := by
  rcases first_on (fun k => decide (i ≤ (k : Int)) && on r k) r.length with h | ⟨j, h1, h2, h3⟩
  · refine ⟨-1, .inr ⟨rfl, fun k hk => ?_⟩⟩
    rcases Nat.lt_or_ge k r.length with h4 | h4
    · have := h k h4
      simpa [hk] using this
    · exact on_end h4
  · simp at h2
    refine ⟨j, .inl ⟨j, rfl, h2.1, h2.2, fun k k1 k2 => ?_⟩⟩
    have := h3 k k2
    simpa [k1] using this
theorem prev_ex (r : List Bool) (i : Int) : ∃ s, IsPrev r i s := by
  rcases last_on (fun k => decide ((k : Int) ≤ i) && on r k) r.length with h | ⟨j, h1, h2, h3⟩
  · refine ⟨-1, .inr ⟨rfl, fun k hk => ?_⟩⟩
    rcases Nat.lt_or_ge k r.length with h4 | h4
    · have := h k h4
      simpa [hk] using this
    · exact on_end h4
  · simp at h2
    refine ⟨j, .inl ⟨j, rfl, h2.1, h2.2, fun k k1 k2 => ?_⟩⟩
    rcases Nat.lt_or_ge k r.length with h4 | h4
    · have := h3 k k1 h4
      simpa [k2] using this
    · exact on_end h4
theorem nth_ex (r : List Bool) (i : Int) : ∃ s, IsNth r i s := by
  rcases first_on (fun k => on r k && decide (((cnt r k : Nat) : Int) = i)) r.length with h | ⟨j, h1, h2, h3⟩
  · refine ⟨-1, .inr ⟨rfl, fun k hk he => ?_⟩⟩
    rcases Nat.lt_or_ge k r.length with h4 | h4
    · have := h k h4
      simp [hk, he] at this
    · rw [on_end h4] at hk; cases hk
  · simp at h2
    exact ⟨j, .inl ⟨j, rfl, h2.1, h2.2⟩⟩

theorem next_is {w : World} {p g cap n : Nat} {r : List Bool} {i s : Int} (hs : IsNext r i s) (h : BM w p g cap n r) (hT : Tab w) :
    Calls Tryd.prog 13 #[.pointer (some ⟨p, 0, none⟩), .int .i64 i] w fun e w' => e = .returned (.int .i64 s) ∧ w = w' :=
  (BNext_any h hT i).mono fun e w' ⟨⟨s', he, hs'⟩, hw⟩ => ⟨by rw [he, hs'.uniq hs], hw⟩
theorem prev_is {w : World} {p g cap n : Nat} {r : List Bool} {i s : Int} (hs : IsPrev r i s) (h : BM w p g cap n r) :
    Calls Tryd.prog 15 #[.pointer (some ⟨p, 0, none⟩), .int .i64 i] w fun e w' => e = .returned (.int .i64 s) ∧ w = w' :=
  (BPrev_any h i).mono fun e w' ⟨⟨s', he, hs'⟩, hw⟩ => ⟨by rw [he, hs'.uniq hs], hw⟩
theorem nth_is {w : World} {p g cap n : Nat} {r : List Bool} {i s : Int} (hs : IsNth r i s) (h : BM w p g cap n r) (hT : Tab w) (hi : i ≤ 9223372036854775807) :
    Calls Tryd.prog 17 #[.pointer (some ⟨p, 0, none⟩), .int .i64 i] w fun e w' => e = .returned (.int .i64 s) ∧ w = w' :=
  (BNth_any h hT i hi).mono fun e w' ⟨⟨s', he, hs'⟩, hw⟩ => ⟨by rw [he, hs'.uniq hs], hw⟩
theorem rnext_is {w : World} {g c n : Nat} {r : List Bool} {i s : Int} (hs : IsNext r i s) (h : BB w g r) (hl : r.length = n) (hn : n ≤ 65536) :
    Calls Tryd.prog 14 #[.slice (some ⟨g, 0, none⟩) n c, .int .i64 i] w fun e w' => e = .returned (.int .i64 s) ∧ w = w' :=
  (RNext_any h hl hn i).mono fun e w' ⟨⟨s', he, hs'⟩, hw⟩ => ⟨by rw [he, hs'.uniq hs], hw⟩
theorem rprev_is {w : World} {g c n : Nat} {r : List Bool} {i s : Int} (hs : IsPrev r i s) (h : BB w g r) (hl : r.length = n) (hn : n ≤ 65536) :
    Calls Tryd.prog 16 #[.slice (some ⟨g, 0, none⟩) n c, .int .i64 i] w fun e w' => e = .returned (.int .i64 s) ∧ w = w' :=
  (RPrev_any h hl hn i).mono fun e w' ⟨⟨s', he, hs'⟩, hw⟩ => ⟨by rw [he, hs'.uniq hs], hw⟩
theorem rnth_is {w : World} {g c n : Nat} {r : List Bool} {i s : Int} (hs : IsNth r i s) (h : BB w g r) (hl : r.length = n) (hn : n ≤ 65536) :
    Calls Tryd.prog 18 #[.slice (some ⟨g, 0, none⟩) n c, .int .i64 i] w fun e w' => e = .returned (.int .i64 s) ∧ w = w' :=
  (RNth_any h hl hn i).mono fun e w' ⟨⟨s', he, hs'⟩, hw⟩ => ⟨by rw [he, hs'.uniq hs], hw⟩
end Go.Proofs.YthjpflhoenljdaaDoor
