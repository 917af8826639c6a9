/- TreeAsks: the row. -/
import Derived.Test.YtfbjnpbmicbbnaaRows
import Derived.Test.YtfbjnpbmicbbnaaWa
import Derived.Test.YtfbjnpbmicbbnaaAr2
import Derived.ProofKit
import Derived.OpenShut
import Derived.ChangeOld
import Derived.Lib.SmallJoins
namespace Go.Proofs.Ytfbjnpbmicbbnaa
open Go.ChangeShapes Go.WideShapes Go.ChangeAt Go.RowKit
set_option linter.unusedVariables false

theorem TreeAsks_own : ownKnob Try.prog.godebug = none := by kernel_rfl
theorem TreeAsks_laidOut : laidOutB Try.prog = true := by kernel_rfl

set_option maxRecDepth 100000 in
theorem TreeAsks_lifted (os : Os) (started : os.Started) (H : Type) (enc : TypeId × Value → H) :
    ReturnsInHanded {} Try.checked os 3 .any (Rows.treeAsksSpec.pre6 enc Try.prog Try.f3 Rows.treeAsksRow.domain false) (Rows.treeAsksSpec.post enc Try.prog Try.f3 false true false false) := by
  refine returnsInHanded_of_change (C := Try.checked) TreeAsks_own started (by kernel_rfl) Try.func3
    (ChangeSpec.witness6 (enc := enc) (C := Try.checked) false ⟨#[], #[.slice none 0 0, .slice none 0 0, .agg #[.int .i64 0, .int .i64 0, .int .i64 0, .int .i64 0]], []⟩ 8 (by kernel_rfl) (by kernel_rfl) (by kernel_rfl) (by kernel_rfl)) ?_
  intro W base args ds gs before hval0 hW hcnd hsz
  have hval : ∀ (j : Nat) t v, Try.f3.params[j]? = some t → args[j]? = some v → Value.okWide Try.prog W .any base t v := hval0
  have hW' := hW
  obtain ⟨p, q, hA0, hV, rfl, hfz, hnd⟩ := hW
  have hA : DataW.TrodAll enc Try.prog W 0 (fun _ => true) true Try.f3.params.toList args.toList ds p := hA0
  rw [Try.params3] at hA hval
  obtain ⟨v0, vs0, d0, ds0, p0, q0, hargs, rfl, rfl, h0, r0⟩ := trodAll_cons hA
  obtain ⟨v1, vs1, d1, ds1, p1, q1, rfl, rfl, rfl, h1, r1⟩ := trodAll_cons r0
  obtain ⟨v2, vs2, d2, ds2, p2, q2, rfl, rfl, rfl, h2, r2⟩ := trodAll_cons r1
  obtain ⟨rfl, rfl, rfl⟩ := trodAll_nil r2
  obtain rfl : args = #[v0, v1, v2] := by cases args; simp_all
  obtain ⟨rfl, rfl⟩ := trodVars_none hV
  have k0 := h0
  have lt0 : ∀ x ∈ p0, x.block < W.heap.size := by obtain ⟨m, hm⟩ := k0; exact DataW.trod_lt m _ _ _ hm
  have k1 := h1
  have lt1 : ∀ x ∈ p1, x.block < W.heap.size := by obtain ⟨m, hm⟩ := k1; exact DataW.trod_lt m _ _ _ hm
  have k2 := h2
  have lt2 : ∀ x ∈ p2, x.block < W.heap.size := by obtain ⟨m, hm⟩ := k2; exact DataW.trod_lt m _ _ _ hm
  obtain ⟨A0, len0, cap0, rfl⟩ := okWide_slice Try.underlying22 (hval 0 22 v0 rfl rfl)
  obtain ⟨z0, hz0⟩ := ints_in Try.underlying22 Try.underlying3 (by kernel_rfl) h0
  obtain ⟨A1, len1, cap1, rfl⟩ := okWide_slice Try.underlying23 (hval 1 23 v1 rfl rfl)
  obtain ⟨z1, hz1⟩ := acts_in Try.underlying23 Try.underlying33 Try.underlying3 rfl rfl rfl (by kernel_rfl) (by kernel_rfl) h1
  obtain ⟨c20, c21, c22, c23, y20, y21, y22, y23, m2, rfl, _, _, t20, t21, t22, t23⟩ := Joins.open_agg4 Try.underlying25 (by kernel_rfl) (show Try.prog.cellsOf 25 = 4 by kernel_rfl) (hval 2 25 v2 rfl rfl) h2
  obtain ⟨x20, s20, _, wf20⟩ := DataW.trod_int Try.underlying3 t20
  obtain rfl : c20 = .int .i64 x20 := by simpa using s20
  have bd20 := bounds_i64 wf20
  obtain ⟨x21, s21, _, wf21⟩ := DataW.trod_int Try.underlying3 t21
  obtain rfl : c21 = .int .i64 x21 := by simpa using s21
  have bd21 := bounds_i64 wf21
  obtain ⟨x22, s22, _, wf22⟩ := DataW.trod_int Try.underlying3 t22
  obtain rfl : c22 = .int .i64 x22 := by simpa using s22
  have bd22 := bounds_i64 wf22
  obtain ⟨x23, s23, _, wf23⟩ := DataW.trod_int Try.underlying3 t23
  obtain rfl : c23 = .int .i64 x23 := by simpa using s23
  have bd23 := bounds_i64 wf23
  clear hA0 hval0 hcnd hsz
  refine (TreeAsks_walk A0 len0 cap0 z0 A1 len1 cap1 z1 x20 x21 x22 x23 W hz0 hz1 bd20 bd21 bd22 bd23).mono fun e W' ⟨he, bel⟩ => ?_
  subst he
  exact ⟨_, rfl, _, _, _, [], _, [], hW', trodAll_mk1 (shut_bool Try.underlying4 _), (trodAll_cons_mk (Below.trod TreeAsks_laidOut (by kernel_rfl) (of_decide_eq_true (by kernel_rfl)) k0 bel lt0) (trodAll_cons_mk (Below.trod TreeAsks_laidOut (by kernel_rfl) (of_decide_eq_true (by kernel_rfl)) k1 bel lt1) (trodAll_cons_mk (Below.trod TreeAsks_laidOut (by kernel_rfl) (of_decide_eq_true (by kernel_rfl)) k2 bel lt2) trodAll_mk0))), rfl, bel.frame _, fun h => by cases h⟩

theorem TreeAsks_over : Rows.treeAsksRow.holds Try.pinned (OpenSpec.ofChange Rows.treeAsksSpec) :=
  OpenClaim.holds_of_wide 3 Try.f3 rfl rfl rfl rfl rfl rfl rfl ⟨rfl, rfl, rfl, rfl, rfl⟩ rfl rfl rfl rfl rfl (by kernel_rfl) Try.func3 (by kernel_rfl)
    (of_decide_eq_true (by kernel_rfl)) (by unfold Func.isWrapper; first | (rw [if_pos (by decide +kernel)]; kernel_rfl) | (rw [if_neg (by decide +kernel)]; exact ⟨rfl, rfl⟩))
    (fun os started H enc _ => TreeAsks_lifted os started H enc)

theorem TreeAsks_holds : Rows.TreeAsksSaid := TreeAsks_over
#print axioms TreeAsks_holds
end Go.Proofs.Ytfbjnpbmicbbnaa
