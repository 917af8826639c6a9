/- HandleStays: the law. -/
import Derived.Test.YtggnboieenknfaaRows
import Derived.Test.YtggnboieenknfaaWst
import Derived.Test.YtggnboieenknfaaAr2
import Derived.ProofKit
import Derived.OpenShut
import Derived.ChangeOld
import Derived.Lib.SmallJoins
namespace Go.Proofs.Ytggnboieenknfaa
open Go.ChangeShapes Go.WideShapes Go.ChangeAt Go.RowKit
set_option linter.unusedVariables false

theorem HandleStays_own : ownKnob Try.prog.godebug = none := by kernel_rfl
theorem HandleStays_laidOut : laidOutB Try.prog = true := by kernel_rfl

set_option maxRecDepth 100000 in
theorem HandleStays_lifted (os : Os) (started : os.Started) (H : Type) (enc : TypeId × Value → H) :
    ReturnsInHanded {} Try.checked os 6 .any (Rows.handleStaysSpec.pre6 enc Try.prog Try.f6 Rows.handleStaysRow.domain false) (Rows.handleStaysSpec.post enc Try.prog Try.f6 false true false false) := by
  refine returnsInHanded_of_change (C := Try.checked) HandleStays_own started (by kernel_rfl) Try.func6
    (ChangeSpec.witness6 (enc := enc) (C := Try.checked) false ⟨#[], #[.slice none 0 0, .agg #[.int .i64 0, .int .i64 0, .int .i64 0]], []⟩ 8 (by kernel_rfl) (by kernel_rfl) (by kernel_rfl) (by kernel_rfl)) ?_
  intro W base args ds gs before hval0 hW hcnd hsz
  have hval : ∀ (j : Nat) t v, Try.f6.params[j]? = some t → args[j]? = some v → Value.okWide Try.prog W .any base t v := hval0
  have hW' := hW
  obtain ⟨p, q, hA0, hV, rfl, hfz, hnd⟩ := hW
  have hA : DataW.TrodAll enc Try.prog W 0 (fun _ => true) true Try.f6.params.toList args.toList ds p := hA0
  rw [Try.params6] at hA hval
  obtain ⟨v0, vs0, d0, ds0, p0, q0, hargs, rfl, rfl, h0, r0⟩ := trodAll_cons hA
  obtain ⟨v1, vs1, d1, ds1, p1, q1, rfl, rfl, rfl, h1, r1⟩ := trodAll_cons r0
  obtain ⟨rfl, rfl, rfl⟩ := trodAll_nil r1
  obtain rfl : args = #[v0, v1] := by cases args; simp_all
  obtain ⟨rfl, rfl⟩ := trodVars_none hV
  have k0 := h0
  have lt0 : ∀ x ∈ p0, x.block < W.heap.size := by obtain ⟨m, hm⟩ := k0; exact DataW.trod_lt m _ _ _ hm
  have k1 := h1
  have lt1 : ∀ x ∈ p1, x.block < W.heap.size := by obtain ⟨m, hm⟩ := k1; exact DataW.trod_lt m _ _ _ hm
  obtain ⟨A0, len0, cap0, rfl⟩ := okWide_slice Try.underlying22 (hval 0 22 v0 rfl rfl)
  obtain ⟨z0, hz0⟩ := acts_in Try.underlying22 Try.underlying34 Try.underlying3 rfl rfl rfl (by kernel_rfl) (by kernel_rfl) h0
  obtain ⟨c10, c11, c12, y10, y11, y12, m1, rfl, _, _, t10, t11, t12⟩ := Joins.open_agg3 Try.underlying34 (by kernel_rfl) (show Try.prog.cellsOf 34 = 3 by kernel_rfl) (hval 1 34 v1 rfl rfl) h1
  obtain ⟨x10, s10, _, wf10⟩ := DataW.trod_int Try.underlying3 t10
  obtain rfl : c10 = .int .i64 x10 := by simpa using s10
  have bd10 := bounds_i64 wf10
  obtain ⟨x11, s11, _, wf11⟩ := DataW.trod_int Try.underlying3 t11
  obtain rfl : c11 = .int .i64 x11 := by simpa using s11
  have bd11 := bounds_i64 wf11
  obtain ⟨x12, s12, _, wf12⟩ := DataW.trod_int Try.underlying3 t12
  obtain rfl : c12 = .int .i64 x12 := by simpa using s12
  have bd12 := bounds_i64 wf12
  clear hA0 hval0 hcnd hsz
  refine (HandleStays_any A0 len0 cap0 z0 x10 x11 x12 W hz0 bd10 bd11 bd12).mono fun e W' ⟨he, bel⟩ => ?_
  subst he
  exact ⟨_, rfl, _, _, _, [], _, [], hW', trodAll_mk1 (shut_bool Try.underlying4 _), (trodAll_cons_mk (Below.trod HandleStays_laidOut (by kernel_rfl) (of_decide_eq_true (by kernel_rfl)) k0 bel lt0) (trodAll_cons_mk (Below.trod HandleStays_laidOut (by kernel_rfl) (of_decide_eq_true (by kernel_rfl)) k1 bel lt1) trodAll_mk0)), rfl, bel.frame _, fun h => by cases h⟩

theorem HandleStays_over : Rows.handleStaysRow.holds Try.pinned (OpenSpec.ofChange Rows.handleStaysSpec) :=
  OpenClaim.holds_of_wide 6 Try.f6 rfl rfl rfl rfl rfl rfl rfl ⟨rfl, rfl, rfl, rfl, rfl⟩ rfl rfl rfl rfl rfl (by kernel_rfl) Try.func6 (by kernel_rfl)
    (of_decide_eq_true (by kernel_rfl)) (by unfold Func.isWrapper; first | (rw [if_pos (by decide +kernel)]; kernel_rfl) | (rw [if_neg (by decide +kernel)]; exact ⟨rfl, rfl⟩))
    (fun os started H enc _ => HandleStays_lifted os started H enc)

theorem HandleStays_holds : Rows.HandleStaysSaid := HandleStays_over
#print axioms HandleStays_holds
end Go.Proofs.Ytggnboieenknfaa
