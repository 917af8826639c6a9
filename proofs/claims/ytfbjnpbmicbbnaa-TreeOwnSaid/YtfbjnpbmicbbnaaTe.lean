/- The document's Wrong, Set, Add, Count. -/
import Derived.Test.YtfbjnpbmicbbnaaTd
namespace Go.Proofs.Ytfbjnpbmicbbnaa
open Go.RowKit
set_option linter.unusedVariables false

/-- No count is below 0, none above 8. -/
def Smalls (r : List Int) : Prop := ∀ j, j < r.length → 0 ≤ nth r j ∧ nth r j ≤ 8
theorem Rt.mk' {r : List Int} (h1 : powB r.length = true) (h2 : Smalls r) : ∃ L, Rt r L := by
  obtain ⟨e, he, hp⟩ := powB_true.1 h1
  exact ⟨e, he, hp, h2⟩
theorem Rt.powB {r : List Int} {L : Nat} (h : Rt r L) : powB r.length = true := powB_true.2 ⟨L, h.le, h.pow⟩

theorem Wrong_arg {w : World} {A : Option Addr} {c n : Nat} (h : powB n = false) (hn : n ≤ 4611686018427387904) :
    Calls Try.prog 9 #[.slice A n c] w fun e w' => e = .returned (.int .i64 1) ∧ w = w' := by
  go_enter Try.func9, Try.ntmps9
  go_wp2_with fail
  refine (RSegs_any _ _).mono ?_
  rw [h]
  rintro e w1 ⟨rfl, rfl⟩
  go_wp2_with fail
  go_ret
  exact ⟨rfl, rfl⟩

set_option maxRecDepth 100000 in
theorem Wrong_ok {w : World} {A : Option Addr} {c n L : Nat} {r : List Int} (hl : r.length = n) (hR : RI w A r) (hr : Rt r L) :
    Calls Try.prog 9 #[.slice A n c] w fun e w' => e = .returned (.int .i64 0) ∧ w = w' := by
  have hs1 := hr.len_pos
  have hs2 := hr.len_le
  have hp := hr.powB
  obtain ⟨g, off, rfl, hc⟩ := hR (by omega)
  have HC := Lib.hid hc
  have HS := Lib.hid hl
  rw [hl] at hs1 hs2 hp
  clear hc hl
  go_enter Try.func9, Try.ntmps9
  go_wp2_with fail
  refine (RSegs_any _ _).mono ?_
  rw [hp]
  rintro e w1 ⟨rfl, rfl⟩
  go_wp2_with fail
  go_loop [3] (fun i => ∃ q : Nat, q ≤ n ∧ i = .int .i64 q) (fun i => n - (intOf i).toNat)
  case atStart => exact ⟨0, Nat.zero_le _, rfl⟩
  case round =>
    obtain ⟨q, hq, rfl⟩ := hrel
    by_cases hlt : q < n
    · have c0 := HC.out q (by rw [HS.out]; exact hlt)
      have bd := hr.small q (by rw [HS.out]; exact hlt)
      have b0 := bd.1
      have b1 := bd.2
      have j1 : (0 : Int) ≤ (q : Int) := by omega
      have j2 : (q : Int) < (n : Int) := by omega
      clear bd
      generalize nth r q = y at c0 b0 b1
      go_wp2
      go_round
      case rel => exact ⟨q + 1, by omega, by go_num⟩
      case measure => simp [intOf]; omega
    · obtain rfl : q = n := by omega
      go_wp2
      go_ret
      exact ⟨rfl, rfl⟩

set_option maxRecDepth 100000 in
theorem Wrong_range {w : World} {A : Option Addr} {c n : Nat} {r : List Int} (hl : r.length = n) (hR : RI w A r) (hp : powB n = true) (hno : ¬ Smalls r) (hn : n ≤ 4611686018427387904) :
    Calls Try.prog 9 #[.slice A n c] w fun e w' => e = .returned (.int .i64 10) ∧ w = w' := by
  have HS := Lib.hid hl
  have HN := Lib.hid hno
  clear hl hno
  go_enter Try.func9, Try.ntmps9
  go_wp2_with fail
  refine (RSegs_any _ _).mono ?_
  rw [hp]
  rintro e w1 ⟨rfl, rfl⟩
  go_wp2_with fail
  go_loop [3] (fun i => ∃ q : Nat, q ≤ n ∧ i = .int .i64 q ∧ ∀ j, j < q → 0 ≤ nth r j ∧ nth r j ≤ 8) (fun i => n - (intOf i).toNat)
  case atStart => exact ⟨0, Nat.zero_le _, rfl, fun j hj => absurd hj (Nat.not_lt_zero _)⟩
  case round =>
    obtain ⟨q, hq, rfl, hA⟩ := hrel
    have HA := Lib.hid hA
    clear hA
    by_cases hlt : q < n
    · obtain ⟨g, off, rfl, hc⟩ := hR (by rw [HS.out]; omega)
      have c0 := hc q (by rw [HS.out]; exact hlt)
      have j1 : (0 : Int) ≤ (q : Int) := by omega
      have j2 : (q : Int) < (n : Int) := by omega
      clear hc
      generalize hy : nth r q = y at c0
      have HY := Lib.hid hy
      clear hy
      by_cases h0 : y < 0
      · go_wp2
        go_ret
        exact ⟨rfl, rfl⟩
      · have h0' : 0 ≤ y := by omega
        by_cases h8 : 8 < y
        · clear h0
          go_wp2
          go_ret
          exact ⟨rfl, rfl⟩
        · have h8' : y ≤ 8 := by omega
          clear h0 h8
          go_wp2
          go_round
          case rel =>
            refine ⟨q + 1, by omega, by go_num, fun j hj => ?_⟩
            by_cases h2 : j < q
            · exact HA.out j h2
            · obtain rfl : j = q := by omega
              rw [HY.out]; exact ⟨h0', h8'⟩
          case measure => simp [intOf]; omega
    · obtain rfl : q = n := by omega
      exact absurd (fun j hj => HA.out j (by rw [HS.out] at hj; exact hj)) HN.out

/-- What a Set comes to: the counts then, and what it tells. -/
def setV (r : List Int) (seg n : Int) : List Int × Int := if (0 ≤ seg ∧ seg < r.length) ∧ 0 ≤ n ∧ n ≤ 8 then (r.set seg.toNat n, 0) else (r, 10)
/-- What an Add comes to. -/
def addV (r : List Int) (seg n : Int) : List Int × Int := if (0 ≤ seg ∧ seg < r.length) ∧ -8 ≤ n ∧ n ≤ 8 then setV r seg (nth r seg.toNat + n) else (r, 10)
theorem setV_len (r : List Int) (seg n : Int) : (setV r seg n).1.length = r.length := by unfold setV; split <;> simp
theorem addV_len (r : List Int) (seg n : Int) : (addV r seg n).1.length = r.length := by unfold addV; split <;> simp [setV_len]
theorem Rt.setV {r : List Int} {L : Nat} (hr : Rt r L) (seg n : Int) : Rt (setV r seg n).1 L := by
  unfold Ytfbjnpbmicbbnaa.setV
  split
  · rename_i h; exact hr.set _ h.2.1 h.2.2
  · exact hr
theorem Rt.addV {r : List Int} {L : Nat} (hr : Rt r L) (seg n : Int) : Rt (addV r seg n).1 L := by
  unfold Ytfbjnpbmicbbnaa.addV
  split
  · exact hr.setV _ _
  · exact hr
theorem setV_ok {r : List Int} {s : Nat} {n : Int} (hs : s < r.length) (h0 : 0 ≤ n) (h8 : n ≤ 8) : setV r s n = (r.set s n, 0) := by
  unfold setV
  rw [if_pos ⟨⟨by omega, by omega⟩, h0, h8⟩, Int.toNat_natCast]
theorem setV_bad {r : List Int} {seg n : Int} (h : ¬ ((0 ≤ seg ∧ seg < r.length) ∧ 0 ≤ n ∧ n ≤ 8)) : setV r seg n = (r, 10) := by unfold setV; rw [if_neg h]
theorem addV_ok {r : List Int} {s : Nat} {n : Int} (hs : s < r.length) (h0 : -8 ≤ n) (h8 : n ≤ 8) : addV r s n = setV r s (nth r s + n) := by
  unfold addV
  rw [if_pos ⟨⟨by omega, by omega⟩, h0, h8⟩, Int.toNat_natCast]
theorem addV_bad {r : List Int} {seg n : Int} (h : ¬ ((0 ≤ seg ∧ seg < r.length) ∧ -8 ≤ n ∧ n ≤ 8)) : addV r seg n = (r, 10) := by unfold addV; rw [if_neg h]

set_option maxRecDepth 100000 in
theorem RSet_any {w : World} {g c S : Nat} {r : List Int} (hS : r.length = S) (hB : BI w g r) (seg n : Int) (hSb : S ≤ 512) :
    Calls Try.prog 30 #[.slice (some ⟨g, 0, none⟩) S c, .int .i64 seg, .int .i64 n] w fun e w' => e = .returned (.int .i64 (setV r seg n).2) ∧ BI w' g (setV r seg n).1 ∧ w.grownBy w' (some g) := by
  have i3 : (S : Int) ≤ 512 := by omega
  by_cases h1 : seg < 0
  · rw [setV_bad (by omega)]
    go_enter Try.func30, Try.ntmps30
    go_wp2
    go_ret
    exact ⟨rfl, hB, World.grownBy.refl w _⟩
  · have h1' : 0 ≤ seg := by omega
    by_cases h2 : (S : Int) ≤ seg
    · rw [setV_bad (by rw [hS]; omega)]
      clear h1 hS
      go_enter Try.func30, Try.ntmps30
      go_wp2
      go_ret
      exact ⟨rfl, hB, World.grownBy.refl w _⟩
    · have h2' : seg < (S : Int) := by omega
      by_cases h3 : n < 0
      · rw [setV_bad (by omega)]
        clear h1 h2 hS
        go_enter Try.func30, Try.ntmps30
        go_wp2
        go_ret
        exact ⟨rfl, hB, World.grownBy.refl w _⟩
      · have h3' : 0 ≤ n := by omega
        by_cases h4 : 8 < n
        · rw [setV_bad (by omega)]
          clear h1 h2 h3 hS
          go_enter Try.func30, Try.ntmps30
          go_wp2
          go_ret
          exact ⟨rfl, hB, World.grownBy.refl w _⟩
        · have h4' : n ≤ 8 := by omega
          obtain ⟨s, rfl⟩ := Int.eq_ofNat_of_zero_le h1'
          rw [setV_ok (by rw [hS]; omega) h3' h4']
          have c0 := hB.cell (k := s) (by rw [hS]; omega)
          have f0 := hB.frozen s
          clear h1 h2 h3 h4 hS
          go_enter Try.func30, Try.ntmps30
          go_wp2
          go_ret
          exact ⟨rfl, hB.put s n, grown_put w g s _⟩

set_option maxRecDepth 100000 in
theorem RAdd_any {w : World} {g c S L : Nat} {r : List Int} (hS : r.length = S) (hB : BI w g r) (hr : Rt r L) (seg n : Int) :
    Calls Try.prog 29 #[.slice (some ⟨g, 0, none⟩) S c, .int .i64 seg, .int .i64 n] w fun e w' => e = .returned (.int .i64 (addV r seg n).2) ∧ BI w' g (addV r seg n).1 ∧ w.grownBy w' (some g) := by
  have hSb := hr.len_le
  rw [hS] at hSb
  have i3 : (S : Int) ≤ 512 := by omega
  by_cases h1 : seg < 0
  · rw [addV_bad (by omega)]
    go_enter Try.func29, Try.ntmps29
    go_wp2
    go_ret
    exact ⟨rfl, hB, World.grownBy.refl w _⟩
  · have h1' : 0 ≤ seg := by omega
    by_cases h2 : (S : Int) ≤ seg
    · rw [addV_bad (by rw [hS]; omega)]
      clear h1 hS
      go_enter Try.func29, Try.ntmps29
      go_wp2
      go_ret
      exact ⟨rfl, hB, World.grownBy.refl w _⟩
    · have h2' : seg < (S : Int) := by omega
      by_cases h3 : 8 < n
      · rw [addV_bad (by omega)]
        clear h1 h2 hS
        go_enter Try.func29, Try.ntmps29
        go_wp2
        go_ret
        exact ⟨rfl, hB, World.grownBy.refl w _⟩
      · have h3' : n ≤ 8 := by omega
        by_cases h4 : n < -8
        · rw [addV_bad (by omega)]
          clear h1 h2 h3 hS
          go_enter Try.func29, Try.ntmps29
          go_wp2
          go_ret
          exact ⟨rfl, hB, World.grownBy.refl w _⟩
        · have h4' : -8 ≤ n := by omega
          obtain ⟨s, rfl⟩ := Int.eq_ofNat_of_zero_le h1'
          rw [addV_ok (by rw [hS]; omega) h4' h3']
          have c0 := hB.cell (k := s) (by rw [hS]; omega)
          have bd := hr.small s (by rw [hS]; omega)
          have b0 := bd.1
          have b1 := bd.2
          have HS := Lib.hid hS
          clear h1 h2 h3 h4 hS bd
          go_enter Try.func29, Try.ntmps29
          go_wp2_with fail
          refine (RSet_any HS.out hB _ _ hSb).mono ?_
          rintro e w1 ⟨rfl, hB1, hg1⟩
          go_wp2_with fail
          go_ret
          exact ⟨rfl, hB1, hg1⟩
end Go.Proofs.Ytfbjnpbmicbbnaa
