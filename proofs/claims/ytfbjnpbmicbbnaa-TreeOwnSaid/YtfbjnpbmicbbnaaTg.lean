/- What Add comes to where it does nothing; Set; both at every input. -/
import Derived.Test.YtfbjnpbmicbbnaaTf
import Derived.StillTailTactics
namespace Go.Proofs.Ytfbjnpbmicbbnaa
open Go.RowKit
set_option linter.unusedVariables false

section
variable {w : World} {p g cap S L : Nat} {r t : List Int}
set_option maxRecDepth 1000000 in
set_option maxHeartbeats 400000 in
theorem TAdd_bad (h : TM w p g cap S r t) (hr : Rt r L) (seg : Int) (n : Int) (hb : ¬ ((0 ≤ seg ∧ seg < S) ∧ (-8 ≤ n ∧ n ≤ 8) ∧ (0 ≤ nth r seg.toNat + n ∧ nth r seg.toNat + n ≤ 8))) :
    Calls Try.prog 26 #[.pointer (some ⟨p, 0, none⟩), .int .i64 seg, .int .i64 n] w fun e w' => e = .returned (.int .i64 10) ∧ ∃ d, w' = w.drewN d := by
  have hS := h.hS
  have hs1 := hr.len_pos
  have hs2 := hr.len_le
  rw [hS] at hs1 hs2
  have c0 := h.c0
  have c1 := h.c1
  have i2 : (S : Int) ≤ 512 := by omega
  by_cases h1 : seg < 0
  · have t1 : decide (seg < 0) = true := by simp; omega
    clear hb hS
    go_enter Try.func26, Try.ntmps26
    go_wp2
    go_step3
    go_wp2
    go_quiet (fail)
    go_wp2
    try rw [Exit.noGoto_ret]
    go_ret
    exact ⟨rfl, nq, rfl⟩
  · have h1' : 0 ≤ seg := by omega
    have t1 : decide (seg < 0) = false := by simp; omega
    by_cases h2 : (S : Int) ≤ seg
    · have t2 : decide ((S : Int) ≤ seg) = true := by simp; omega
      clear hb hS h1
      go_enter Try.func26, Try.ntmps26
      go_wp2
      go_step3
      go_wp2
      go_quiet (fail)
      go_wp2
      try rw [Exit.noGoto_ret]
      go_ret
      exact ⟨rfl, nq, rfl⟩
    · have h2' : seg < (S : Int) := by omega
      have t2 : decide ((S : Int) ≤ seg) = false := by simp; omega
      by_cases h3 : n < -8
      · have t3 : decide (n < -8) = true := by simp; omega
        clear hb hS h1 h2
        go_enter Try.func26, Try.ntmps26
        go_wp2
        go_step3
        go_wp2
        go_quiet (fail)
        go_wp2
        try rw [Exit.noGoto_ret]
        go_ret
        exact ⟨rfl, nq, rfl⟩
      · have t3 : decide (n < -8) = false := by simp; omega
        have h3' : -8 ≤ n := by omega
        by_cases h4 : 8 < n
        · have t4 : decide (8 < n) = true := by simp; omega
          clear hb hS h1 h2 h3
          go_enter Try.func26, Try.ntmps26
          go_wp2
          go_step3
          go_wp2
          go_quiet (fail)
          go_wp2
          try rw [Exit.noGoto_ret]
          go_ret
          exact ⟨rfl, nq, rfl⟩
        · have t4 : decide (8 < n) = false := by simp; omega
          have h4' : n ≤ 8 := by omega
          obtain ⟨s, rfl⟩ := Int.eq_ofNat_of_zero_le h1'
          rw [Int.toNat_natCast] at hb
          have ca : w.cell? ⟨g, S + s, none⟩ = some (.int .i64 (nth r s)) := by
            have := h.ti.leaf s (by omega)
            rw [hS] at this
            rw [← this]; exact h.at_ (by omega)
          have bd := hr.small s (by omega)
          have b0 := bd.1
          have b1 := bd.2
          have hno : ¬ (0 ≤ nth r s + n ∧ nth r s + n ≤ 8) := fun h => hb ⟨⟨h1', h2'⟩, ⟨h3', h4'⟩, h⟩
          have hmay := fun W => may_false hno W
          have n7 : IntKind.i64.wrap (nth r s + n) = nth r s + n := IntWalk.i64_in _ (by omega)
          have n8 : IntKind.i64.wrap ((S : Int) + (s : Int)) = (S : Int) + (s : Int) := IntWalk.i64_in _ (by omega)
          have n9 : ((S : Int) + (s : Int)).toNat = S + s := by omega
          have t2' : decide (S ≤ s) = false := by simp; omega
          clear hb hS h1 h2 h3 h4 hno bd
          generalize nth r s = y at *
          go_enter Try.func26, Try.ntmps26
          go_wp2
          go_step3
          go_wp2
          go_quiet ((go_at_call 34; exact (hmay _).mono fun _ _ h => ⟨h.1, _, h.2.symm⟩))
          go_wp2
          try rw [Exit.noGoto_ret]
          go_ret
          exact ⟨rfl, nq, rfl⟩

/-- ADD, AT EVERY INPUT. -/
theorem TAdd_any (h : TM w p g cap S r t) (hr : Rt r L) (seg n : Int) :
    Calls Try.prog 26 #[.pointer (some ⟨p, 0, none⟩), .int .i64 seg, .int .i64 n] w fun e w' => e = .returned (.int .i64 (addV r seg n).2) ∧ (∃ t', TM w' p g cap S (addV r seg n).1 t') ∧ w.grownBy w' (some g) := by
  by_cases hc : (0 ≤ seg ∧ seg < S) ∧ (-8 ≤ n ∧ n ≤ 8) ∧ (0 ≤ nth r seg.toNat + n ∧ nth r seg.toNat + n ≤ 8)
  · obtain ⟨⟨h1, h2⟩, h3, h4⟩ := hc
    obtain ⟨s, rfl⟩ := Int.eq_ofNat_of_zero_le h1
    rw [Int.toNat_natCast] at h4
    have hs : s < r.length := by rw [h.hS]; omega
    rw [addV_ok hs h3.1 h3.2, setV_ok hs h4.1 h4.2]
    exact TAdd_ok h hr s n (by omega) h3 h4
  · have e : addV r seg n = (r, 10) := by
      unfold addV
      by_cases h1 : (0 ≤ seg ∧ seg < r.length) ∧ -8 ≤ n ∧ n ≤ 8
      · rw [if_pos h1, setV_bad (fun h2 => hc ⟨by rw [← h.hS]; exact h1.1, h1.2, h2.2⟩)]
      · rw [if_neg h1]
    rw [e]
    refine (TAdd_bad h hr seg n hc).mono ?_
    rintro e w' ⟨rfl, d, rfl⟩
    exact ⟨rfl, ⟨t, h.drewN d⟩, grown_drewN (World.grownBy.refl w _) d⟩
end
end Go.Proofs.Ytfbjnpbmicbbnaa
