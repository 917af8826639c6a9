/- What a nil row tells; l[:at]; words compared. -/
import Derived.Test.YthjpflhoenljdaaDoorBm
import Derived.Laws.Slices
namespace Go.Proofs.YthjpflhoenljdaaDoor
open Go.RowKit
set_option linter.unusedVariables false

theorem slice_to {B : Option Addr} {len lcap a : Nat} {zs : List Act2} (h1 : a ≤ len) (h2 : len ≤ lcap) :
    ∃ B', (∀ W : World, (Instr.slice 22 (.slice B len lcap) none (some (.int .i64 (a : Int))) none).run Tryd.prog W = .ok (.slice B' a lcap) W) ∧ ∀ W, ActsIn W B len zs → ActsIn W B' a (zs.take a) := by
  refine ⟨if lcap = 0 then B else B.map (·.add (0 * 2)), fun W => ?_, fun W hz => ⟨?_, ?_, fun hp => ?_⟩⟩
  · rw [run_slice_h (P := Tryd.prog) (w := W) 22 B len lcap Tryd.underlying22 .i64 (a : Int) (by omega) (by omega)]
    have hs : (sizeOf (Tryd.prog.elem 22)).run Tryd.prog W = .ok 2 W := by simp [go_sem]
    rw [hs]
    simp [sliced, Result.andThen]
  · rw [List.length_take, hz.hl]; omega
  · have := hz.hm; omega
  · obtain ⟨b, off, rfl, hc⟩ := hz.hr (by omega)
    rw [if_neg (by omega)]
    refine ⟨b, off, by simp [Addr.add], fun k hk => ?_⟩
    have e : act (zs.take a) k = act zs k := by
      unfold act
      simp [List.getD, List.getElem?_take_of_lt hk]
    rw [e]
    exact hc k (by omega)

theorem playB_take (r : List Bool) (zs : List Act2) (a : Nat) : ∀ k, k ≤ a → playB r (zs.take a) k = playB r zs k
  | 0, _ => rfl
  | k + 1, h => by
    have e : act (zs.take a) k = act zs k := by
      unfold act
      simp [List.getD, List.getElem?_take_of_lt (show k < a by omega)]
    rw [playB_succ, playB_succ, e, playB_take r zs a k (by omega)]

section
variable (w : World)
theorem nil_Range : Calls Tryd.prog 11 #[.pointer none, .int .i64 0, .int .i64 0] w fun e w' => e = .returned (.tuple #[.int .i64 0, .int .i64 2]) ∧ w = w' := by
  go_enter Tryd.func11, Tryd.ntmps11
  go_wp2_with fail
  go_ret2
  exact ⟨rfl, rfl⟩
theorem nil_Len : Calls Tryd.prog 22 #[.pointer none] w fun e w' => e = .returned (.int .i64 0) ∧ w = w' := by
  go_enter Tryd.func22, Tryd.ntmps22
  go_wp2_with fail
  go_ret
  exact ⟨rfl, rfl⟩
theorem nil_Set : Calls Tryd.prog 20 #[.pointer none, .int .i64 0, .bool true] w fun e w' => e = .returned (.int .i64 2) ∧ w = w' := by
  go_enter Tryd.func20, Tryd.ntmps20
  go_wp2_with fail
  go_ret
  exact ⟨rfl, rfl⟩
theorem nil_Has : Calls Tryd.prog 19 #[.pointer none, .int .i64 0] w fun e w' => e = .returned (.bool false) ∧ w = w' := by
  go_enter Tryd.func19, Tryd.ntmps19
  go_wp2_with fail
  refine (nil_Len w).mono ?_
  rintro e w1 ⟨rfl, rfl⟩
  go_wp2_with fail
  go_ret
  exact ⟨rfl, rfl⟩
theorem nil_ahead : Calls Tryd.prog 28 #[.pointer none, .int .i64 0] w fun e w' => e = .returned (.int .i64 0) ∧ w = w' := by
  go_enter Tryd.func28, Tryd.ntmps28
  go_wp2_with fail
  go_loop [5, 10] (fun a i => a = .int .i64 0 ∧ i = .int .i64 0) (fun _ _ => 0)
  case atStart => exact ⟨rfl, rfl⟩
  case round =>
    obtain ⟨rfl, rfl⟩ := hrel
    go_wp2_with fail
    go_ret
    exact ⟨rfl, rfl⟩
theorem nil_Count : Calls Tryd.prog 23 #[.pointer none] w fun e w' => e = .returned (.int .i64 0) ∧ w = w' := by
  go_enter Tryd.func23, Tryd.ntmps23
  go_wp2_with fail
  refine (nil_Len w).mono ?_
  rintro e w1 ⟨rfl, rfl⟩
  go_wp2_with fail
  refine (nil_ahead w).mono ?_
  rintro e w1 ⟨rfl, rfl⟩
  go_wp2_with fail
  go_ret
  exact ⟨rfl, rfl⟩
theorem nil_Next : Calls Tryd.prog 13 #[.pointer none, .int .i64 0] w fun e w' => e = .returned (.int .i64 (-1)) ∧ w = w' := by
  go_enter Tryd.func13, Tryd.ntmps13
  go_wp2_with fail
  refine (nil_Len w).mono ?_
  rintro e w1 ⟨rfl, rfl⟩
  go_wp2_with fail
  go_ret
  exact ⟨rfl, rfl⟩
theorem nil_Prev : Calls Tryd.prog 15 #[.pointer none, .int .i64 5] w fun e w' => e = .returned (.int .i64 (-1)) ∧ w = w' := by
  go_enter Tryd.func15, Tryd.ntmps15
  go_wp2_with fail
  refine (nil_Len w).mono ?_
  rintro e w1 ⟨rfl, rfl⟩
  go_wp2_with fail
  go_ret
  exact ⟨rfl, rfl⟩
theorem nil_Nth : Calls Tryd.prog 17 #[.pointer none, .int .i64 0] w fun e w' => e = .returned (.int .i64 (-1)) ∧ w = w' := by
  go_enter Tryd.func17, Tryd.ntmps17
  go_wp2_with fail
  go_step3
  go_wp2_with fail
  try rw [Exit.noGoto_ret]
  go_ret
  exact ⟨rfl, rfl⟩
theorem nil_Words : Calls Tryd.prog 25 #[.pointer none] w fun e w' => e = .returned (.slice none 0 0) ∧ w = w' := by
  go_enter Tryd.func25, Tryd.ntmps25
  go_wp2_with fail
  go_ret
  exact ⟨rfl, rfl⟩
theorem nil_Clone : Calls Tryd.prog 27 #[.pointer none] w fun e w' => e = .returned (.pointer none) ∧ w = w' := by
  go_enter Tryd.func27, Tryd.ntmps27
  go_wp2_with fail
  go_ret
  exact ⟨rfl, rfl⟩
end

set_option maxHeartbeats 400000 in
theorem words_same {w : World} {g g' m c c' : Nat} {f : Nat → Nat} (hA : BW w g f m) (hB : BW w g' f m) (hm : m ≤ 4096) :
    Calls Tryd.prog 24 #[.slice (some ⟨g, 0, none⟩) m c, .slice (some ⟨g', 0, none⟩) m c'] w fun e w' => e = .returned (.bool true) ∧ Below w.heap.size w w' := by
  have i2 : (m : Int) ≤ 4096 := by omega
  go_enter Tryd.func24, Tryd.ntmps24
  go_wp2_with fail
  go_loopw [5] (fun i wr => ∃ k d : Nat, k ≤ m ∧ i = .int .i64 k ∧ wr = w.drewN d) (fun i _ => m - (intOf i).toNat)
  case atStart => exact ⟨0, 0, Nat.zero_le _, rfl, by simp [World.drewN]⟩
  case round =>
    obtain ⟨k, d, hk, rfl, rfl⟩ := hrel
    by_cases hlt : k < m
    · have h1 := hA.cell hlt
      have h2 := hB.cell hlt
      have i0 : (0 : Int) ≤ (k : Int) := by omega
      have i1 : (k : Int) < (m : Int) := by omega
      generalize f k = X at *
      go_wp2
      go_quiet (fail)
      go_wp2
      go_roundw
      case rel => exact ⟨k + 1, d + nq, by omega, by go_num, rfl⟩
      case measure => simp [intOf]; omega
    · obtain rfl : k = m := by omega
      go_wp2
      go_ret
      exact ⟨rfl, below_drewN (Below.refl _ _) d⟩
end Go.Proofs.YthjpflhoenljdaaDoor
