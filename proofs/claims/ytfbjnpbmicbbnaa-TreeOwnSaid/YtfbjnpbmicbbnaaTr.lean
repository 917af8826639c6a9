/- The tree of counts, behind calls: made. -/
import Derived.Test.YtfbjnpbmicbbnaaTq
import Derived.Test.YtfbjnpbmicbbnaaAr
namespace Go.Proofs.Ytfbjnpbmicbbnaa
open Go.RowKit
set_option linter.unusedVariables false

/-- The counts behind the first k calls. -/
def playN (r : List Int) (zs : List Act3) : Nat → List Int
  | 0 => r
  | k + 1 => (actV (playN r zs k) (act zs k).o (act zs k).i (act zs k).n).1
theorem playN_len (r : List Int) (zs : List Act3) (k : Nat) : (playN r zs k).length = r.length := by
  induction k with
  | zero => rfl
  | succ k ih => rw [playN, actV_len, ih]
theorem Rt.playN {r : List Int} {L : Nat} (hr : Rt r L) (zs : List Act3) (k : Nat) : Rt (playN r zs k) L := by
  induction k with
  | zero => exact hr
  | succ k ih => exact ih.actV _ _ _

set_option maxRecDepth 100000 in
set_option maxHeartbeats 800000 in
theorem made_ok {w : World} {A B : Option Addr} {c c' S L len : Nat} {r : List Int} {zs : List Act3} (hS : r.length = S) (hR : RI w A r) (hr : Rt r L) (hz : ActsIn w B len zs) :
    Calls Try.prog 11 #[.slice A S c, .slice B len c'] w fun e w' => e = .returned (.pointer (some ⟨w.heap.size + 1, 0, none⟩)) ∧ (∃ t, TM w' (w.heap.size + 1) w.heap.size (2 * S) S (playN r zs len) t) ∧ Below w.heap.size w w' := by
  have hlm := hz.hm
  have HS := Lib.hid hS
  clear hS
  go_enter Try.func11, Try.ntmps11
  go_wp2_with fail
  refine (New_ok HS.out hR hr).mono ?_
  rintro e w1 ⟨rfl, ⟨t0, hm⟩, hb1⟩
  go_wp2_with fail
  go_loopw [7] (fun i wr => ∃ k : Nat, k ≤ len ∧ i = .int .i64 k ∧ (∃ t, TM wr (w.heap.size + 1) w.heap.size (2 * S) S (playN r zs k) t) ∧ Below w.heap.size w wr) (fun i _ => len - (intOf i).toNat)
  case atStart => exact ⟨0, Nat.zero_le _, rfl, ⟨t0, hm⟩, hb1⟩
  case round =>
    obtain ⟨k, hk, rfl, ⟨t, ht⟩, hb⟩ := hrel
    by_cases hlt : k < len
    · obtain ⟨b, off, rfl, q0, q1, q2⟩ := (hz.below hb).at_ hlt
      have i1 : (0 : Int) ≤ (k : Int) := by omega
      have i2 : (k : Int) < (len : Int) := by omega
      have hstep : playN r zs (k + 1) = (actV (playN r zs k) (act zs k).o (act zs k).i (act zs k).n).1 := rfl
      have HST := Lib.hid hstep
      have hsz := hb.size
      clear hstep
      go_wp2_with fail
      refine (does_any ht (hr.playN zs k) _ _ _).mono ?_
      rintro e w2 ⟨rfl, ht2, hg2⟩
      go_wp2_with fail
      go_roundw
      case rel => exact ⟨k + 1, by omega, by go_num, by rw [HST.out]; exact ht2, hb.grown hg2 hsz (row_some (Nat.le_refl _))⟩
      case measure => simp [intOf]; omega
    · obtain rfl : k = len := by omega
      go_wp2_with fail
      go_ret
      exact ⟨rfl, ⟨t, ht⟩, hb⟩

theorem made_arg {w : World} {A B : Option Addr} {c c' n len : Nat} (hp : powB n = false) (hn : n ≤ 4611686018427387904) :
    Calls Try.prog 11 #[.slice A n c, .slice B len c'] w fun e w' => e = .returned (.pointer none) ∧ w = w' := by
  go_enter Try.func11, Try.ntmps11
  go_wp2_with fail
  refine (New_arg hp hn).mono ?_
  rintro e w1 ⟨rfl, rfl⟩
  go_wp2_with fail
  go_ret
  exact ⟨rfl, rfl⟩
theorem made_range {w : World} {A B : Option Addr} {c c' n len : Nat} {r : List Int} (hl : r.length = n) (hR : RI w A r) (hp : powB n = true) (hno : ¬ Smalls r) :
    Calls Try.prog 11 #[.slice A n c, .slice B len c'] w fun e w' => e = .returned (.pointer none) ∧ w = w' := by
  have HL := Lib.hid hl
  have HN := Lib.hid hno
  clear hl hno
  go_enter Try.func11, Try.ntmps11
  go_wp2_with fail
  refine (New_range HL.out hR hp HN.out).mono ?_
  rintro e w1 ⟨rfl, rfl⟩
  go_wp2_with fail
  go_ret
  exact ⟨rfl, rfl⟩
end Go.Proofs.Ytfbjnpbmicbbnaa
