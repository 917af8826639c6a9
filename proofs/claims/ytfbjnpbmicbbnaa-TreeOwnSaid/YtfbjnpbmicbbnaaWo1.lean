/- TreeOwn: what a nil tree tells; l[:at]. -/
import Derived.Test.YtfbjnpbmicbbnaaWd
import Derived.Laws.Slices
namespace Go.Proofs.Ytfbjnpbmicbbnaa
open Go.RowKit
set_option linter.unusedVariables false

theorem slice_to {B : Option Addr} {len lcap a : Nat} {zs : List Act3} (h1 : a ≤ len) (h2 : len ≤ lcap) :
    ∃ B', (∀ W : World, (Instr.slice 23 (.slice B len lcap) none (some (.int .i64 (a : Int))) none).run Try.prog W = .ok (.slice B' a lcap) W) ∧ ∀ W, ActsIn W B len zs → ActsIn W B' a (zs.take a) := by
  refine ⟨if lcap = 0 then B else B.map (·.add (0 * 3)), fun W => ?_, fun W hz => ⟨?_, ?_, fun hp => ?_, fun k => ?_⟩⟩
  · rw [run_slice_h (P := Try.prog) (w := W) 23 B len lcap Try.underlying23 .i64 (a : Int) (by omega) (by omega)]
    have hs : (sizeOf (Try.prog.elem 23)).run Try.prog W = .ok 3 W := by simp [go_sem]
    rw [hs]
    simp [sliced, Result.andThen]
  · rw [List.length_take, hz.hl]; omega
  · have := hz.hm; omega
  · obtain ⟨b, off, rfl, hc⟩ := hz.hr (by omega)
    rw [if_neg (by omega)]
    refine ⟨b, off, by simp [Addr.add], fun k hk => ?_⟩
    have e : act (zs.take a) k = act zs k := by
      unfold act
      simp [List.getD, List.getElem?_take_of_lt hk]
    rw [e]
    exact hc k (by omega)
  · by_cases hk : k < a
    · have e : act (zs.take a) k = act zs k := by
        unfold act
        simp [List.getD, List.getElem?_take_of_lt hk]
      rw [e]
      exact hz.hb k
    · have e : act (zs.take a) k = ⟨0, 0, 0⟩ := by
        unfold act
        simp [List.getD, List.getElem?_eq_none (show (zs.take a).length ≤ k by rw [List.length_take]; omega)]
      rw [e]
      simp [inI]

theorem playN_take (r : List Int) (zs : List Act3) (a : Nat) : ∀ k, k ≤ a → playN r (zs.take a) k = playN r zs k
  | 0, _ => rfl
  | k + 1, h => by
    have e : act (zs.take a) k = act zs k := by
      unfold act
      simp [List.getD, List.getElem?_take_of_lt (show k < a by omega)]
    unfold playN
    rw [e, playN_take r zs a k (by omega)]

section
variable (w : World)
theorem nil_Count : Calls Try.prog 13 #[.pointer none, .int .i64 0, .int .i64 0] w fun e w' => e = .returned (.tuple #[.int .i64 0, .int .i64 2]) ∧ w = w' := by
  go_enter Try.func13, Try.ntmps13
  go_wp2_with fail
  go_ret2
  exact ⟨rfl, rfl⟩
theorem nil_Ahead : Calls Try.prog 17 #[.pointer none, .int .i64 0] w fun e w' => e = .returned (.tuple #[.int .i64 0, .int .i64 2]) ∧ w = w' := by
  go_enter Try.func17, Try.ntmps17
  go_wp2_with fail
  go_ret2
  exact ⟨rfl, rfl⟩
theorem nil_Find : Calls Try.prog 15 #[.pointer none, .int .i64 0] w fun e w' => e = .returned (.tuple #[.int .i64 0, .int .i64 0, .int .i64 2]) ∧ w = w' := by
  go_enter Try.func15, Try.ntmps15
  go_wp2_with fail
  go_ret3
  exact ⟨rfl, rfl⟩
theorem nil_Segs : Calls Try.prog 24 #[.pointer none] w fun e w' => e = .returned (.int .i64 0) ∧ w = w' := by
  go_enter Try.func24, Try.ntmps24
  go_wp2_with fail
  go_ret
  exact ⟨rfl, rfl⟩
theorem nil_Total : Calls Try.prog 19 #[.pointer none] w fun e w' => e = .returned (.int .i64 0) ∧ w = w' := by
  go_enter Try.func19, Try.ntmps19
  go_wp2_with fail
  go_ret
  exact ⟨rfl, rfl⟩
theorem nil_Add : Calls Try.prog 26 #[.pointer none, .int .i64 0, .int .i64 1] w fun e w' => e = .returned (.int .i64 2) ∧ w = w' := by
  go_enter Try.func26, Try.ntmps26
  go_wp2
  go_step3
  go_wp2
  try rw [Exit.noGoto_ret]
  go_ret
  exact ⟨rfl, rfl⟩
theorem nil_Set : Calls Try.prog 27 #[.pointer none, .int .i64 0, .int .i64 1] w fun e w' => e = .returned (.int .i64 2) ∧ w = w' := by
  go_enter Try.func27, Try.ntmps27
  go_wp2_with fail
  go_ret
  exact ⟨rfl, rfl⟩
theorem nil_Counts : Calls Try.prog 23 #[.pointer none] w fun e w' => e = .returned (.slice none 0 0) ∧ w = w' := by
  go_enter Try.func23, Try.ntmps23
  go_wp2_with fail
  go_ret
  exact ⟨rfl, rfl⟩
theorem nil_Clone : Calls Try.prog 25 #[.pointer none] w fun e w' => e = .returned (.pointer none) ∧ w = w' := by
  go_enter Try.func25, Try.ntmps25
  go_wp2_with fail
  go_ret
  exact ⟨rfl, rfl⟩
end

section
variable {H : Type} {enc : TypeId × Value → H} {P : Program} {w : World}
open Go.ChangeShapes Go.WideShapes Go.Deep in
theorem slice_caps {t e : TypeId} {A : Option Addr} {len cap : Nat} {d : DataW H} {p : List MemPlace} (ht : P.underlying t = some (.slice e)) (h : DataW.Trod enc P w 0 (fun _ => true) true t (.slice A len cap) d p) :
    len ≤ cap ∧ (A = none → len = 0 ∧ cap = 0) := by
  obtain ⟨fuel, hf⟩ := h
  rcases open_slice ht hf with ⟨hcs, _⟩ | ⟨a, l, c, m, n, D, Pl, hcs, _, hl, hcm, hmm, _, hel⟩
  · simp [Value.cells] at hcs
    obtain ⟨rfl, rfl, rfl⟩ := hcs
    exact ⟨by omega, fun _ => ⟨rfl, rfl⟩⟩
  · simp [Value.cells] at hcs
    obtain ⟨rfl, rfl, rfl⟩ := hcs
    exact ⟨hl, fun h => by cases h⟩
end
end Go.Proofs.Ytfbjnpbmicbbnaa
