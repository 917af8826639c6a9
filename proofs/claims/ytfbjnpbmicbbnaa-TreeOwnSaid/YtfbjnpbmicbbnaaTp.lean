/- A call: what does and plays come to. -/
import Derived.Test.YtfbjnpbmicbbnaaTo
namespace Go.Proofs.Ytfbjnpbmicbbnaa
open Go.RowKit
set_option linter.unusedVariables false

/-- What a call comes to: the counts then, and what it tells. -/
def actV (r : List Int) (o i n : Int) : List Int × Int := if o = 0 then addV r i n else setV r i n
theorem actV_len (r : List Int) (o i n : Int) : (actV r o i n).1.length = r.length := by
  unfold actV
  split
  · exact addV_len r i n
  · exact setV_len r i n
theorem Rt.actV {r : List Int} {L : Nat} (hr : Rt r L) (o i n : Int) : Rt (actV r o i n).1 L := by
  unfold Ytfbjnpbmicbbnaa.actV
  split
  · exact hr.addV _ _
  · exact hr.setV _ _

set_option maxRecDepth 100000 in
theorem does_any {w : World} {p g cap S L : Nat} {r t : List Int} (h : TM w p g cap S r t) (hr : Rt r L) (o i n : Int) :
    Calls Try.prog 21 #[.pointer (some ⟨p, 0, none⟩), .agg #[.int .i64 o, .int .i64 i, .int .i64 n]] w fun e w' => e = .returned (.int .i64 (actV r o i n).2) ∧ (∃ t', TM w' p g cap S (actV r o i n).1 t') ∧ w.grownBy w' (some g) := by
  have h1 := h.alloc (.cells #[.int .i64 o, .int .i64 i, .int .i64 n] 33)
  by_cases ho : o = 0
  · have e : actV r o i n = addV r i n := by unfold actV; rw [if_pos ho]
    have t1 : (o == 0) = true := by simp [ho]
    rw [e]
    clear e ho
    go_enter Try.func21, Try.ntmps21
    go_wp2_with fail
    refine (TAdd_any h1 hr _ _).mono ?_
    rintro e w2 ⟨rfl, ht, hg⟩
    go_wp2_with fail
    go_ret
    exact ⟨rfl, ht, grown_box hg⟩
  · have e : actV r o i n = setV r i n := by unfold actV; rw [if_neg ho]
    have t1 : (o == 0) = false := by simp [ho]
    rw [e]
    clear e ho
    go_enter Try.func21, Try.ntmps21
    go_wp2_with fail
    refine (TSet_any h1 hr _ _).mono ?_
    rintro e w2 ⟨rfl, ht, hg⟩
    go_wp2_with fail
    go_ret
    exact ⟨rfl, ht, grown_box hg⟩

set_option maxRecDepth 100000 in
theorem plays_any {w : World} {g c S L : Nat} {r : List Int} (hS : r.length = S) (hB : BI w g r) (hr : Rt r L) (o i n : Int) :
    Calls Try.prog 12 #[.slice (some ⟨g, 0, none⟩) S c, .agg #[.int .i64 o, .int .i64 i, .int .i64 n]] w fun e w' => e = .returned (.int .i64 (actV r o i n).2) ∧ BI w' g (actV r o i n).1 ∧ w.grownBy w' (some g) := by
  have h1 := hB.alloc (.cells #[.int .i64 o, .int .i64 i, .int .i64 n] 33)
  have hSb := hr.len_le
  have HS := Lib.hid hS
  rw [hS] at hSb
  clear hS
  by_cases ho : o = 0
  · have e : actV r o i n = addV r i n := by unfold actV; rw [if_pos ho]
    have t1 : (o == 0) = true := by simp [ho]
    rw [e]
    clear e ho
    go_enter Try.func12, Try.ntmps12
    go_wp2_with fail
    refine (RAdd_any HS.out h1 hr _ _).mono ?_
    rintro e w2 ⟨rfl, ht, hg⟩
    go_wp2_with fail
    go_ret
    exact ⟨rfl, ht, grown_box hg⟩
  · have e : actV r o i n = setV r i n := by unfold actV; rw [if_neg ho]
    have t1 : (o == 0) = false := by simp [ho]
    rw [e]
    clear e ho
    go_enter Try.func12, Try.ntmps12
    go_wp2_with fail
    refine (RSet_any HS.out h1 _ _ hSb).mono ?_
    rintro e w2 ⟨rfl, ht, hg⟩
    go_wp2_with fail
    go_ret
    exact ⟨rfl, ht, grown_box hg⟩
end Go.Proofs.Ytfbjnpbmicbbnaa
