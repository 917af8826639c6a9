/- What the small functions of the spread come to: between, right, ahead and its closure, Share, Ahead, check. -/
import Derived.Test.YtahmhnbjpgkbbaaK0
namespace Go.Proofs.Ytahmhnbjpgkbbaa
open Go.RowKit
set_option linter.unusedVariables false

/-- Is n within lo and hi? -/
def inB (n lo hi : Int) : Bool := decide (lo ≤ n ∧ n ≤ hi)
theorem inB_true {n lo hi : Int} (h : lo ≤ n ∧ n ≤ hi) : inB n lo hi = true := by simp [inB, h]
theorem inB_false {n lo hi : Int} (h : ¬ (lo ≤ n ∧ n ≤ hi)) : inB n lo hi = false := by simp only [inB, h, decide_false]

theorem between_any (n lo hi : Int) (w : World) :
    Calls Try.prog 27 #[.int .i64 n, .int .i64 lo, .int .i64 hi] w fun e w' => e = .returned (.bool (inB n lo hi)) ∧ w = w' := by
  by_cases h1 : lo ≤ n
  · by_cases h2 : n ≤ hi
    · rw [inB_true ⟨h1, h2⟩]
      go_enter Try.func27, Try.ntmps27
      go_wp2
      go_ret
      exact ⟨rfl, rfl⟩
    · rw [inB_false (by omega)]
      have h3 : hi < n := by omega
      have h4 : decide (n ≤ hi) = false := by simp; omega
      clear h2
      go_enter Try.func27, Try.ntmps27
      go_wp2
      go_ret
      exact ⟨rfl, rfl⟩
  · rw [inB_false (by omega)]
    have h3 : n < lo := by omega
    clear h1
    go_enter Try.func27, Try.ntmps27
    go_wp2
    go_ret
    exact ⟨rfl, rfl⟩

/-- May so many elements be spread into so many segments? -/
def okB (n segs : Int) : Bool := decide (1 ≤ segs ∧ segs ≤ 512 ∧ 0 ≤ n ∧ n ≤ 8 * segs)
theorem okB_true {n segs : Int} (h : okB n segs = true) : 1 ≤ segs ∧ segs ≤ 512 ∧ 0 ≤ n ∧ n ≤ 8 * segs := of_decide_eq_true h
theorem okB_mk {n segs : Int} (h : 1 ≤ segs ∧ segs ≤ 512 ∧ 0 ≤ n ∧ n ≤ 8 * segs) : okB n segs = true := decide_eq_true h
theorem okB_false {n segs : Int} (h : ¬ (1 ≤ segs ∧ segs ≤ 512 ∧ 0 ≤ n ∧ n ≤ 8 * segs)) : okB n segs = false := decide_eq_false h

theorem right_any (n segs : Int) (w : World) :
    Calls Try.prog 26 #[.int .i64 n, .int .i64 segs] w fun e w' => e = .returned (.bool (okB n segs)) ∧ w = w' := by
  by_cases h1 : 1 ≤ segs ∧ segs ≤ 512
  · have a1 : (1 : Int) ≤ segs := h1.1
    have a2 : segs ≤ 512 := h1.2
    have b1 := inB_true h1
    clear h1
    by_cases h2 : 0 ≤ n ∧ n ≤ 8 * segs
    · rw [okB_mk ⟨a1, a2, h2.1, h2.2⟩]
      have b2 := inB_true h2
      clear h2
      go_enter Try.func26, Try.ntmps26
      go_wp2_with fail
      refine (between_any _ _ _ _).mono ?_
      rintro e w' ⟨rfl, rfl⟩
      go_wp2_with fail
      refine (between_any _ _ _ _).mono ?_
      rintro e w' ⟨rfl, rfl⟩
      go_wp2_with fail
      go_ret
      exact ⟨rfl, rfl⟩
    · rw [okB_false (by omega)]
      have b2 := inB_false h2
      clear h2
      go_enter Try.func26, Try.ntmps26
      go_wp2_with fail
      refine (between_any _ _ _ _).mono ?_
      rintro e w' ⟨rfl, rfl⟩
      go_wp2_with fail
      refine (between_any _ _ _ _).mono ?_
      rintro e w' ⟨rfl, rfl⟩
      go_wp2_with fail
      go_ret
      exact ⟨rfl, rfl⟩
  · rw [okB_false (by omega)]
    have b1 := inB_false h1
    clear h1
    go_enter Try.func26, Try.ntmps26
    go_wp2_with fail
    refine (between_any _ _ _ _).mono ?_
    rintro e w' ⟨rfl, rfl⟩
    go_wp2_with fail
    go_ret
    exact ⟨rfl, rfl⟩

/-- How many elements are ahead of a segment. -/
def aZ (n segs seg : Int) : Int := seg * n / segs
theorem mul_bound {a b : Int} (h0 : 0 ≤ a) (h1 : a ≤ 512) (h2 : 0 ≤ b) (h3 : b ≤ 4096) : 0 ≤ a * b ∧ a * b ≤ 2097152 :=
  ⟨Int.mul_nonneg h0 h2, by have := Int.mul_le_mul h1 h3 h2 (by omega : (0 : Int) ≤ 512); omega⟩
theorem div_bound {a b : Int} (h0 : 0 ≤ a) (h1 : a ≤ 2097152) (hb : 1 ≤ b) : 0 ≤ a / b ∧ a / b ≤ 2097152 :=
  ⟨Int.ediv_nonneg h0 (by omega), Int.le_trans (Int.ediv_le_self b h0) h1⟩

theorem ahead_any (n segs : Int) (w : World) :
    Calls Try.prog 28 #[.int .i64 n, .int .i64 segs] w fun e w' => e = .returned (.func (.func 32) #[] #[.pointer (some ⟨w.heap.size, 0, none⟩), .pointer (some ⟨w.heap.size + 1, 0, none⟩)]) ∧
      (w.alloc (.cells #[.int .i64 n] 3)).alloc (.cells #[.int .i64 segs] 3) = w' := by
  have hmf : ∀ (fn : Fn) (first cap : Array Value) (w : World), (Instr.makeFunc fn first cap).run Try.prog w = .ok (.func fn first cap) w := fun _ _ _ _ => rfl
  go_enter Try.func28, Try.ntmps28
  go_wp2
  go_ret
  exact ⟨rfl, rfl⟩

theorem before_any (n segs seg : Int) (B C : Nat) (w : World) (hn : w.cell? ⟨B, 0, none⟩ = some (.int .i64 n)) (hs : w.cell? ⟨C, 0, none⟩ = some (.int .i64 segs)) (h0 : 0 ≤ seg) (h1 : seg ≤ 512) (h2 : 0 ≤ n) (h3 : n ≤ 4096) (h4 : 1 ≤ segs) :
    Calls Try.prog 32 #[.int .i64 seg, .pointer (some ⟨B, 0, none⟩), .pointer (some ⟨C, 0, none⟩)] w fun e w' => e = .returned (.int .i64 (aZ n segs seg)) ∧ w = w' := by
  have m := mul_bound h0 h1 h2 h3
  have d := div_bound m.1 m.2 h4
  have m1 := m.1
  have m2 := m.2
  have d1 := d.1
  have d2 := d.2
  clear m d
  go_enter Try.func32, Try.ntmps32
  go_wp2
  go_ret
  exact ⟨rfl, rfl⟩
end Go.Proofs.Ytahmhnbjpgkbbaa
