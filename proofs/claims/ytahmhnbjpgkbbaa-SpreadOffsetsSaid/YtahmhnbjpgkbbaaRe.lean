/- What the document's Even comes to. -/
import Derived.Test.YtahmhnbjpgkbbaaEv
namespace Go.Proofs.Ytahmhnbjpgkbbaa
open Go.RowKit
set_option linter.unusedVariables false

set_option maxRecDepth 100000 in
set_option maxHeartbeats 800000 in
theorem REven_ok (A : Option Addr) (c n : Nat) (xs : List Int) (w : World) (hl : xs.length = n) (hR : RI w A xs) (hbig : n ≤ 4611686018427387904) (hb : I64s xs) :
    Calls Try.prog 22 #[.slice A n c] w fun e w' => e = .returned (.bool (evB xs)) ∧ ∃ d, w' = w.drewN d := by
  have HB := Lib.hid hb
  clear hb
  go_enter Try.func22, Try.ntmps22
  go_wp2
  go_loopw [3] (fun i wr => ∃ p d : Nat, p ≤ n ∧ i = .int .i64 p ∧ (∀ i j, i < p → j < n → nth xs i ≤ nth xs j + 1) ∧ wr = w.drewN d) (fun i _ => n - (intOf i).toNat)
  case atStart => exact ⟨0, 0, Nat.zero_le _, rfl, fun i j hi => absurd hi (Nat.not_lt_zero _), by simp [World.drewN]⟩
  case round =>
    obtain ⟨p, d, hp, rfl, hA, rfl⟩ := hrel
    have HA := Lib.hid hA
    clear hA
    by_cases hpt : p < n
    · have i1 : (0 : Int) ≤ (p : Int) := by omega
      have i2 : (p : Int) < (n : Int) := by omega
      go_wp2_with fail
      go_loopw [4] (fun i wr => ∃ q d : Nat, q ≤ n ∧ i = .int .i64 q ∧ (∀ j, j < q → nth xs p ≤ nth xs j + 1) ∧ wr = w.drewN d) (fun i _ => n - (intOf i).toNat)
      case atStart => exact ⟨0, d, Nat.zero_le _, rfl, fun j hj => absurd hj (Nat.not_lt_zero _), rfl⟩
      case round =>
        obtain ⟨q, d, hq, rfl, hA2, rfl⟩ := hrel
        have HA2 := Lib.hid hA2
        clear hA2
        by_cases hqt : q < n
        · obtain ⟨b, off, rfl, hc⟩ := hR (by omega)
          have c1 := hc p (by omega)
          have c2 := hc q (by omega)
          have b1 := (HB.out p (by omega)).1
          have b2 := (HB.out p (by omega)).2
          have b3 := (HB.out q (by omega)).1
          clear hc
          have j1 : (0 : Int) ≤ (q : Int) := by omega
          have j2 : (q : Int) < (n : Int) := by omega
          generalize hx : nth xs p = x at c1 b1 b2
          generalize hy : nth xs q = y at c2 b3
          have HX := Lib.hid hx
          have HY := Lib.hid hy
          clear hx hy
          by_cases hgt : y < x
          · have t1 : decide (y < x) = true := by simp; omega
            have n1 : IntKind.i64.wrap (x - 1) = x - 1 := IntWalk.i64_in _ (by omega)
            by_cases hne : x - 1 = y
            · have t2 : (x - 1 != y) = false := by simp; omega
              have HN := Lib.hid hne
              clear hne hgt
              go_wp2_with fail
              go_quiet (fail)
              go_wp2_with fail
              go_roundw
              case rel =>
                refine ⟨q + 1, d + nq, by omega, by go_num, ?_, by first | rfl | rw [World.drewN_drewN]⟩
                intro j hj
                rcases Nat.lt_or_ge j q with h | h
                · exact HX.out ▸ HA2.out j h
                · obtain rfl : j = q := by omega
                  have := HN.out
                  rw [HY.out]; omega
              case measure => simp [intOf]; omega
            · have t2 : (x - 1 != y) = true := by simp; omega
              have HN := Lib.hid hne
              have HG := Lib.hid hgt
              clear hne hgt
              go_wp2_with fail
              go_quiet (fail)
              go_wp2_with fail
              go_ret
              refine ⟨ret_bool ?_, d + nq, by first | rfl | rw [World.drewN_drewN]⟩
              refine Eq.symm ?_
              rw [← Bool.not_eq_true, evB_iff]
              intro h
              have h1 := h p q (by omega) (by omega)
              rw [HX.out, HY.out] at h1
              have := HN.out
              have := HG.out
              omega
          · have t1 : decide (y < x) = false := by simp; omega
            have HG := Lib.hid hgt
            clear hgt
            go_wp2_with fail
            go_quiet (fail)
            go_wp2_with fail
            go_roundw
            case rel =>
              refine ⟨q + 1, d + nq, by omega, by go_num, ?_, by first | rfl | rw [World.drewN_drewN]⟩
              intro j hj
              rcases Nat.lt_or_ge j q with h | h
              · exact HX.out ▸ HA2.out j h
              · obtain rfl : j = q := by omega
                have := HG.out
                rw [HY.out]; omega
            case measure => simp [intOf]; omega
        · obtain rfl : q = n := by omega
          go_wp2_with fail
          go_roundw
          case rel =>
            refine ⟨p + 1, d, by omega, by go_num, ?_, rfl⟩
            intro i j hi hj
            rcases Nat.lt_or_ge i p with h | h
            · exact HA.out i j h hj
            · obtain rfl : i = p := by omega
              exact HA2.out j hj
          case measure => simp [intOf]; omega
    · obtain rfl : p = n := by omega
      go_wp2_with fail
      go_ret
      refine ⟨ret_bool ?_, d, rfl⟩
      refine Eq.symm ?_
      rw [evB_iff]
      intro i j hi hj
      exact HA.out i j (by omega) (by omega)
end Go.Proofs.Ytahmhnbjpgkbbaa
