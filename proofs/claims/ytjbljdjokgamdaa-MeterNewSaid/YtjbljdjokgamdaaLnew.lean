/- MeterNew: for every number and every call the law answers true, and its arguments read as they did. No condition. -/
import Derived.Test.YtjbljdjokgamdaaRows
import Derived.Test.YtjbljdjokgamdaaMnew
import Derived.ProofKit
import Derived.OpenShut
import Derived.ChangeOld
import Derived.Lib.SmallJoins
namespace Go.Proofs.Ytjbljdjokgamdaa
open Go.ChangeShapes Go.WideShapes Go.ChangeAt Go.RowKit

theorem MeterNew_own : ownKnob Try.prog.godebug = none := by kernel_rfl
theorem MeterNew_laidOut : laidOutB Try.prog = true := by kernel_rfl

set_option maxRecDepth 100000 in
theorem MeterNew_lifted (os : Os) (started : os.Started) (H : Type) (enc : TypeId × Value → H) :
    ReturnsInHanded {} Try.checked os 4 .any (Rows.meterNewSpec.pre6 enc Try.prog Try.f4 Rows.meterNewRow.domain false) (Rows.meterNewSpec.post enc Try.prog Try.f4 false true false false) := by
  refine returnsInHanded_of_change (C := Try.checked) MeterNew_own started (by kernel_rfl) Try.func4
    (ChangeSpec.witness6 (enc := enc) (C := Try.checked) false ⟨#[], #[.int .i64 0, .agg #[.int .i64 0, .int .i64 0, .int .i64 0]], []⟩ 8 (by kernel_rfl) (by kernel_rfl) (by kernel_rfl) (by kernel_rfl)) ?_
  intro W base args ds gs before hval0 hW hcnd hsz
  have hval : ∀ (j : Nat) t v, Try.f4.params[j]? = some t → args[j]? = some v → Value.okWide Try.prog W .any base t v := hval0
  have hW' := hW
  obtain ⟨p, q, hA0, hV, rfl, hfz, hnd⟩ := hW
  have hA : DataW.TrodAll enc Try.prog W 0 (fun _ => true) true Try.f4.params.toList args.toList ds p := hA0
  rw [Try.params4] at hA hval
  obtain ⟨v0, vs0, d0, ds0, p0, q0, hargs, rfl, rfl, h0, r0⟩ := trodAll_cons hA
  obtain ⟨v1, vs1, d1, ds1, p1, q1, rfl, rfl, rfl, h1, r1⟩ := trodAll_cons r0
  obtain ⟨rfl, rfl, rfl⟩ := trodAll_nil r1
  obtain rfl : args = #[v0, v1] := by cases args; simp_all
  obtain ⟨rfl, rfl⟩ := trodVars_none hV
  have k0 := h0
  have lt0 : ∀ x ∈ p0, x.block < W.heap.size := by obtain ⟨m, hm⟩ := k0; exact DataW.trod_lt m _ _ _ hm
  have k1 := h1
  have lt1 : ∀ x ∈ p1, x.block < W.heap.size := by obtain ⟨m, hm⟩ := k1; exact DataW.trod_lt m _ _ _ hm
  obtain ⟨a0, rfl, e0, f0, wf0⟩ := open_int Try.underlying3 (hval 0 3 v0 rfl rfl) h0
  obtain ⟨c10, c11, c12, y10, y11, y12, m1, rfl, _, _, t10, t11, t12⟩ := Joins.open_agg3 Try.underlying30 (by kernel_rfl) (show Try.prog.cellsOf 30 = 3 by kernel_rfl) (hval 1 30 v1 rfl rfl) h1
  obtain ⟨x10, s10, _, wf10⟩ := DataW.trod_int Try.underlying3 t10
  obtain rfl : c10 = .int .i64 x10 := by simpa using s10
  obtain ⟨x11, s11, _, wf11⟩ := DataW.trod_int Try.underlying3 t11
  obtain rfl : c11 = .int .i64 x11 := by simpa using s11
  obtain ⟨x12, s12, _, wf12⟩ := DataW.trod_int Try.underlying3 t12
  obtain rfl : c12 = .int .i64 x12 := by simpa using s12
  clear hA0 hval0 hcnd hsz
  refine (MeterNew_walk a0 x10 x11 x12 W).mono fun e W' ⟨he, bel⟩ => ?_
  subst he
  exact ⟨_, rfl, _, _, _, [], _, [], hW', trodAll_mk1 (shut_bool Try.underlying4 _), (trodAll_cons_mk (Below.trod MeterNew_laidOut (by kernel_rfl) (of_decide_eq_true (by kernel_rfl)) k0 bel lt0) (trodAll_cons_mk (Below.trod MeterNew_laidOut (by kernel_rfl) (of_decide_eq_true (by kernel_rfl)) k1 bel lt1) trodAll_mk0)), rfl, bel.frame _, fun h => by cases h⟩

theorem MeterNew_over : Rows.meterNewRow.holds Try.pinned (OpenSpec.ofChange Rows.meterNewSpec) :=
  OpenClaim.holds_of_wide 4 Try.f4 rfl rfl rfl rfl rfl rfl rfl ⟨rfl, rfl, rfl, rfl, rfl⟩ rfl rfl rfl rfl rfl (by kernel_rfl) Try.func4 (by kernel_rfl)
    (of_decide_eq_true (by kernel_rfl)) (by unfold Func.isWrapper; first | (rw [if_pos (by decide +kernel)]; kernel_rfl) | (rw [if_neg (by decide +kernel)]; exact ⟨rfl, rfl⟩))
    (fun os started H enc _ => MeterNew_lifted os started H enc)

theorem MeterNew_holds : Rows.MeterNewSaid := MeterNew_over
#print axioms MeterNew_holds
end Go.Proofs.Ytjbljdjokgamdaa
