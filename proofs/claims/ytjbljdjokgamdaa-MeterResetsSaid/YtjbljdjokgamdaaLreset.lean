/- MeterResets: for every two lists of calls the law answers true, and its argument reads as it did. No condition. -/
import Derived.Test.YtjbljdjokgamdaaRows
import Derived.Test.YtjbljdjokgamdaaMreset
import Derived.Test.YtjbljdjokgamdaaAr2
import Derived.ProofKit
import Derived.OpenShut
import Derived.ChangeOld
import Derived.Lib.SmallJoins
namespace Go.Proofs.Ytjbljdjokgamdaa
open Go.ChangeShapes Go.WideShapes Go.ChangeAt Go.RowKit
set_option linter.unusedVariables false

theorem MeterResets_own : ownKnob Try.prog.godebug = none := by kernel_rfl
theorem MeterResets_laidOut : laidOutB Try.prog = true := by kernel_rfl

set_option maxRecDepth 100000 in
theorem MeterResets_lifted (os : Os) (started : os.Started) (H : Type) (enc : TypeId × Value → H) :
    ReturnsInHanded {} Try.checked os 7 .any (Rows.meterResetsSpec.pre6 enc Try.prog Try.f7 Rows.meterResetsRow.domain false) (Rows.meterResetsSpec.post enc Try.prog Try.f7 false true false false) := by
  refine returnsInHanded_of_change (C := Try.checked) MeterResets_own started (by kernel_rfl) Try.func7
    (ChangeSpec.witness6 (enc := enc) (C := Try.checked) false ⟨#[], #[.agg #[.slice none 0 0, .slice none 0 0]], []⟩ 8 (by kernel_rfl) (by kernel_rfl) (by kernel_rfl) (by kernel_rfl)) ?_
  intro W base args ds gs before hval0 hW hcnd hsz
  have hval : ∀ (j : Nat) t v, Try.f7.params[j]? = some t → args[j]? = some v → Value.okWide Try.prog W .any base t v := hval0
  have hW' := hW
  obtain ⟨p, q, hA0, hV, rfl, hfz, hnd⟩ := hW
  have hA : DataW.TrodAll enc Try.prog W 0 (fun _ => true) true Try.f7.params.toList args.toList ds p := hA0
  rw [Try.params7] at hA hval
  obtain ⟨v0, vs0, d0, ds0, p0, q0, hargs, rfl, rfl, h0, r0⟩ := trodAll_cons hA
  obtain ⟨rfl, rfl, rfl⟩ := trodAll_nil r0
  obtain rfl : args = #[v0] := by cases args; simp_all
  obtain ⟨rfl, rfl⟩ := trodVars_none hV
  have k0 := h0
  have lt0 : ∀ x ∈ p0, x.block < W.heap.size := by obtain ⟨m, hm⟩ := k0; exact DataW.trod_lt m _ _ _ hm
  obtain ⟨c00, c01, m0, y00, y01, rfl, t00, t01⟩ := pair_in Try.underlying42 (by kernel_rfl) (by kernel_rfl) (hval 0 42 v0 rfl rfl) h0
  obtain ⟨A00, len00, cap00, z00, rfl, hz00⟩ := acts_cell Try.underlying22 Try.underlying30 Try.underlying3 rfl rfl rfl (by kernel_rfl) (by kernel_rfl) t00
  obtain ⟨A01, len01, cap01, z01, rfl, hz01⟩ := acts_cell Try.underlying22 Try.underlying30 Try.underlying3 rfl rfl rfl (by kernel_rfl) (by kernel_rfl) t01
  clear hA0 hval0 hcnd hsz
  refine (MeterResets_walk A00 A01 len00 len01 cap00 cap01 z00 z01 W hz00 hz01).mono fun e W' ⟨he, bel⟩ => ?_
  subst he
  exact ⟨_, rfl, _, _, _, [], _, [], hW', trodAll_mk1 (shut_bool Try.underlying4 _), (trodAll_cons_mk (Below.trod MeterResets_laidOut (by kernel_rfl) (of_decide_eq_true (by kernel_rfl)) k0 bel lt0) trodAll_mk0), rfl, bel.frame _, fun h => by cases h⟩

theorem MeterResets_over : Rows.meterResetsRow.holds Try.pinned (OpenSpec.ofChange Rows.meterResetsSpec) :=
  OpenClaim.holds_of_wide 7 Try.f7 rfl rfl rfl rfl rfl rfl rfl ⟨rfl, rfl, rfl, rfl, rfl⟩ rfl rfl rfl rfl rfl (by kernel_rfl) Try.func7 (by kernel_rfl)
    (of_decide_eq_true (by kernel_rfl)) (by unfold Func.isWrapper; first | (rw [if_pos (by decide +kernel)]; kernel_rfl) | (rw [if_neg (by decide +kernel)]; exact ⟨rfl, rfl⟩))
    (fun os started H enc _ => MeterResets_lifted os started H enc)

theorem MeterResets_holds : Rows.MeterResetsSaid := MeterResets_over
#print axioms MeterResets_holds
end Go.Proofs.Ytjbljdjokgamdaa
