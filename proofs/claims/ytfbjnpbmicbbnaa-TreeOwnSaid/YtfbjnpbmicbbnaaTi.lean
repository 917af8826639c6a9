/- What slices.ContainsFunc comes to at New's test, and New where there is no tree. -/
import Derived.Test.YtfbjnpbmicbbnaaTh
namespace Go.Proofs.Ytfbjnpbmicbbnaa
open Go.RowKit
set_option linter.unusedVariables false

theorem wrong_true {n : Int} (h : ¬ (0 ≤ n ∧ n ≤ 8)) (w : World) : Calls Try.prog 33 #[.int .i64 n] w fun e w' => e = .returned (.bool true) ∧ w = w' := by
  go_enter Try.func33, Try.ntmps33
  have H := Lib.hid h
  clear h
  go_wp2_with (go_at_call 34; refine (may_false H.out _).mono ?_; rintro e w' ⟨rfl, rfl⟩)
  go_ret
  exact ⟨rfl, rfl⟩
theorem wrong_false {n : Int} (h0 : 0 ≤ n) (h8 : n ≤ 8) (w : World) : Calls Try.prog 33 #[.int .i64 n] w fun e w' => e = .returned (.bool false) ∧ w = w' := by
  go_enter Try.func33, Try.ntmps33
  go_wp2_with (go_at_call 34; refine (may_true h0 h8 _).mono ?_; rintro e w' ⟨rfl, rfl⟩)
  go_ret
  exact ⟨rfl, rfl⟩

set_option maxRecDepth 100000 in
theorem Index_none {w : World} {A : Option Addr} {c n : Nat} {r : List Int} (hl : r.length = n) (hR : RI w A r) (hs : Smalls r) (hn : n ≤ 4611686018427387904) :
    Calls Try.prog 38 #[.slice A n c, .func (.func 33) #[] #[]] w fun e w' => e = .returned (.int .i64 (-1)) ∧ w = w' := by
  have HS := Lib.hid hl
  have HSM := Lib.hid hs
  clear hl hs
  go_enter Try.func38, Try.ntmps38
  go_wp2_with fail
  go_loop [8] (fun i => ∃ q : Nat, q ≤ n ∧ i = .int .i64 q) (fun i => n - (intOf i).toNat)
  case atStart => exact ⟨0, Nat.zero_le _, rfl⟩
  case round =>
    obtain ⟨q, hq, rfl⟩ := hrel
    by_cases hlt : q < n
    · obtain ⟨g, off, rfl, hc⟩ := hR (by rw [HS.out]; omega)
      have c0 := hc q (by rw [HS.out]; exact hlt)
      have bd := HSM.out q (by rw [HS.out]; exact hlt)
      have hw := fun W => wrong_false bd.1 bd.2 W
      have j1 : (0 : Int) ≤ (q : Int) := by omega
      have j2 : (q : Int) < (n : Int) := by omega
      clear hc bd
      generalize nth r q = y at *
      go_wp2_with fail
      refine (hw _).mono ?_
      rintro e w1 ⟨rfl, rfl⟩
      go_wp2_with fail
      go_round
      case rel => exact ⟨q + 1, by omega, by go_num⟩
      case measure => simp [intOf]; omega
    · obtain rfl : q = n := by omega
      go_wp2_with fail
      go_ret
      exact ⟨rfl, rfl⟩

set_option maxRecDepth 100000 in
theorem Index_some {w : World} {A : Option Addr} {c n : Nat} {r : List Int} (hl : r.length = n) (hR : RI w A r) (hs : ¬ Smalls r) (hn : n ≤ 4611686018427387904) :
    Calls Try.prog 38 #[.slice A n c, .func (.func 33) #[] #[]] w fun e w' => (∃ i : Nat, e = .returned (.int .i64 i)) ∧ w = w' := by
  have HS := Lib.hid hl
  have HSM := Lib.hid hs
  clear hl hs
  go_enter Try.func38, Try.ntmps38
  go_wp2_with fail
  go_loop [8] (fun i => ∃ q : Nat, q ≤ n ∧ i = .int .i64 q ∧ ∀ j, j < q → 0 ≤ nth r j ∧ nth r j ≤ 8) (fun i => n - (intOf i).toNat)
  case atStart => exact ⟨0, Nat.zero_le _, rfl, fun j hj => absurd hj (Nat.not_lt_zero _)⟩
  case round =>
    obtain ⟨q, hq, rfl, hA⟩ := hrel
    have HA := Lib.hid hA
    clear hA
    by_cases hlt : q < n
    · obtain ⟨g, off, rfl, hc⟩ := hR (by rw [HS.out]; omega)
      have c0 := hc q (by rw [HS.out]; exact hlt)
      have j1 : (0 : Int) ≤ (q : Int) := by omega
      have j2 : (q : Int) < (n : Int) := by omega
      clear hc
      generalize hy : nth r q = y at c0
      have HY := Lib.hid hy
      clear hy
      by_cases hb : 0 ≤ y ∧ y ≤ 8
      · have hw := fun W => wrong_false hb.1 hb.2 W
        have HB := Lib.hid hb
        clear hb
        go_wp2_with fail
        refine (hw _).mono ?_
        rintro e w1 ⟨rfl, rfl⟩
        go_wp2_with fail
        go_round
        case rel =>
          refine ⟨q + 1, by omega, by go_num, fun j hj => ?_⟩
          by_cases h2 : j < q
          · exact HA.out j h2
          · obtain rfl : j = q := by omega
            rw [HY.out]; exact HB.out
        case measure => simp [intOf]; omega
      · have hw := fun W => wrong_true hb W
        have HB := Lib.hid hb
        clear hb
        go_wp2_with fail
        refine (hw _).mono ?_
        rintro e w1 ⟨rfl, rfl⟩
        go_wp2_with fail
        go_ret
        exact ⟨⟨q, rfl⟩, rfl⟩
    · obtain rfl : q = n := by omega
      exact absurd (fun j hj => HA.out j (by rw [HS.out] at hj; exact hj)) HSM.out

theorem Contains_no {w : World} {A : Option Addr} {c n : Nat} {r : List Int} (hl : r.length = n) (hR : RI w A r) (hs : Smalls r) (hn : n ≤ 4611686018427387904) :
    Calls Try.prog 32 #[.slice A n c, .func (.func 33) #[] #[]] w fun e w' => e = .returned (.bool false) ∧ w = w' := by
  have HS := Lib.hid hl
  clear hl
  go_enter Try.func32, Try.ntmps32
  go_wp2_with fail
  refine (Index_none HS.out hR hs hn).mono ?_
  rintro e w1 ⟨rfl, rfl⟩
  go_wp2_with fail
  go_ret
  exact ⟨rfl, rfl⟩
theorem Contains_yes {w : World} {A : Option Addr} {c n : Nat} {r : List Int} (hl : r.length = n) (hR : RI w A r) (hs : ¬ Smalls r) (hn : n ≤ 4611686018427387904) :
    Calls Try.prog 32 #[.slice A n c, .func (.func 33) #[] #[]] w fun e w' => e = .returned (.bool true) ∧ w = w' := by
  have HS := Lib.hid hl
  have HSM := Lib.hid hs
  clear hl hs
  go_enter Try.func32, Try.ntmps32
  go_wp2_with fail
  refine (Index_some HS.out hR HSM.out hn).mono ?_
  rintro e w1 ⟨⟨i, rfl⟩, rfl⟩
  have i0 : (0 : Int) ≤ (i : Int) := by omega
  go_wp2_with fail
  go_ret
  exact ⟨ret_bool (by simp), rfl⟩

theorem and_all : ∀ n : Fin 513, 1 ≤ n.1 → (bits BinOp.and IntKind.i64 (n.1 : Int) ((n.1 : Int) - 1) != 0) = !powB n.1 := by decide +kernel
theorem and_pow {n : Nat} (h1 : 1 ≤ n) (h2 : n ≤ 512) : (bits BinOp.and IntKind.i64 (n : Int) ((n : Int) - 1) != 0) = !powB n := and_all ⟨n, by omega⟩ h1

set_option maxRecDepth 100000 in
theorem New_arg {w : World} {A : Option Addr} {c n : Nat} (hp : powB n = false) (hn : n ≤ 4611686018427387904) :
    Calls Try.prog 20 #[.slice A n c] w fun e w' => e = .returned (.tuple #[.pointer none, .int .i64 1]) ∧ w = w' := by
  by_cases h1 : n < 1
  · have h1' : (n : Int) < 1 := by omega
    go_enter Try.func20, Try.ntmps20
    go_wp2_with fail
    go_ret2
    exact ⟨rfl, rfl⟩
  · by_cases h2 : 512 < n
    · have h1' : (1 : Int) ≤ (n : Int) := by omega
      have h2' : (512 : Int) < (n : Int) := by omega
      go_enter Try.func20, Try.ntmps20
      go_wp2_with fail
      go_ret2
      exact ⟨rfl, rfl⟩
    · have h1' : (1 : Int) ≤ (n : Int) := by omega
      have h2' : (n : Int) ≤ 512 := by omega
      have ta := and_pow (n := n) (by omega) (by omega)
      rw [hp] at ta
      clear h1 h2
      go_enter Try.func20, Try.ntmps20
      go_wp2_with fail
      go_ret2
      exact ⟨rfl, rfl⟩

set_option maxRecDepth 100000 in
theorem New_range {w : World} {A : Option Addr} {c n : Nat} {r : List Int} (hl : r.length = n) (hR : RI w A r) (hp : powB n = true) (hno : ¬ Smalls r) :
    Calls Try.prog 20 #[.slice A n c] w fun e w' => e = .returned (.tuple #[.pointer none, .int .i64 10]) ∧ w = w' := by
  obtain ⟨e, he, hpw⟩ := powB_true.1 hp
  have hb1 := pow_pos2 e
  have hb2 := pow_le he
  rw [← hpw] at hb1 hb2
  have h1' : (1 : Int) ≤ (n : Int) := by omega
  have h2' : (n : Int) ≤ 512 := by omega
  have ta := and_pow (n := n) (by omega) (by omega)
  rw [hp] at ta
  have HL := Lib.hid hl
  have HN := Lib.hid hno
  clear hl hno hpw
  go_enter Try.func20, Try.ntmps20
  go_wp2_with fail
  refine (Contains_yes HL.out hR HN.out (by omega)).mono ?_
  rintro e w1 ⟨rfl, rfl⟩
  go_wp2_with fail
  go_ret2
  exact ⟨rfl, rfl⟩
end Go.Proofs.Ytfbjnpbmicbbnaa
