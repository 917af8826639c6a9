/- Joined texts: Tg, Th, Ti. -/
import Derived.StillTailTactics
import Derived.Test.YtaonkbfekadalaaGreatDoorM03
/- What Add comes to where it does nothing; Set; both at every input. -/
namespace Go.Proofs.YtaonkbfekadalaaGreatDoor
open Go.RowKit
set_option linter.unusedVariables false

section
variable {w : World} {p g cap S L : Nat} {r t : List Int}
set_option maxRecDepth 1000000 in
set_option maxHeartbeats 400000 in
theorem TAdd_bad (h : TM w p g cap S r t) (hr : Rt r L) (seg : Int) (n : Int) (hb : ¬ ((0 ≤ seg ∧ seg < S) ∧ (-8 ≤ n ∧ n ≤ 8) ∧ (0 ≤ nth r seg.toNat + n ∧ nth r seg.toNat + n ≤ 8))) :
    Calls Tryz.prog 76 #[.pointer (some ⟨p, 0, none⟩), .int .i64 seg, .int .i64 n] w fun e w' => e = .returned (.int .i64 10) ∧ ∃ d, w' = w.drewN d := by
  have hS := h.hS
  have hs1 := hr.len_pos
  have hs2 := hr.len_le
  rw [hS] at hs1 hs2
  have c0 := h.c0
  have c1 := h.c1
  have i2 : (S : Int) ≤ 512 := by omega
  by_cases h1 : seg < 0
  · have t1 : decide (seg < 0) = true := by simp; omega
    clear hb hS
    go_enter Tryz.func76, Tryz.ntmps76
    go_wp2
    go_step3
    go_wp2
    go_quiet (fail)
    go_wp2
    try rw [Exit.noGoto_ret]
    go_ret
    exact ⟨rfl, nq, rfl⟩
  · have h1' : 0 ≤ seg := by omega
    have t1 : decide (seg < 0) = false := by simp; omega
    by_cases h2 : (S : Int) ≤ seg
    · have t2 : decide ((S : Int) ≤ seg) = true := by simp; omega
      clear hb hS h1
      go_enter Tryz.func76, Tryz.ntmps76
      go_wp2
      go_step3
      go_wp2
      go_quiet (fail)
      go_wp2
      try rw [Exit.noGoto_ret]
      go_ret
      exact ⟨rfl, nq, rfl⟩
    · have h2' : seg < (S : Int) := by omega
      have t2 : decide ((S : Int) ≤ seg) = false := by simp; omega
      by_cases h3 : n < -8
      · have t3 : decide (n < -8) = true := by simp; omega
        clear hb hS h1 h2
        go_enter Tryz.func76, Tryz.ntmps76
        go_wp2
        go_step3
        go_wp2
        go_quiet (fail)
        go_wp2
        try rw [Exit.noGoto_ret]
        go_ret
        exact ⟨rfl, nq, rfl⟩
      · have t3 : decide (n < -8) = false := by simp; omega
        have h3' : -8 ≤ n := by omega
        by_cases h4 : 8 < n
        · have t4 : decide (8 < n) = true := by simp; omega
          clear hb hS h1 h2 h3
          go_enter Tryz.func76, Tryz.ntmps76
          go_wp2
          go_step3
          go_wp2
          go_quiet (fail)
          go_wp2
          try rw [Exit.noGoto_ret]
          go_ret
          exact ⟨rfl, nq, rfl⟩
        · have t4 : decide (8 < n) = false := by simp; omega
          have h4' : n ≤ 8 := by omega
          obtain ⟨s, rfl⟩ := Int.eq_ofNat_of_zero_le h1'
          rw [Int.toNat_natCast] at hb
          have ca : w.cell? ⟨g, S + s, none⟩ = some (.int .i64 (nth r s)) := by
            have := h.ti.leaf s (by omega)
            rw [hS] at this
            rw [← this]; exact h.at_ (by omega)
          have bd := hr.small s (by omega)
          have b0 := bd.1
          have b1 := bd.2
          have hno : ¬ (0 ≤ nth r s + n ∧ nth r s + n ≤ 8) := fun h => hb ⟨⟨h1', h2'⟩, ⟨h3', h4'⟩, h⟩
          have hmay := fun W => may_false hno W
          have n7 : IntKind.i64.wrap (nth r s + n) = nth r s + n := IntWalk.i64_in _ (by omega)
          have n8 : IntKind.i64.wrap ((S : Int) + (s : Int)) = (S : Int) + (s : Int) := IntWalk.i64_in _ (by omega)
          have n9 : ((S : Int) + (s : Int)).toNat = S + s := by omega
          have t2' : decide (S ≤ s) = false := by simp; omega
          clear hb hS h1 h2 h3 h4 hno bd
          generalize nth r s = y at *
          go_enter Tryz.func76, Tryz.ntmps76
          go_wp2
          go_step3
          go_wp2
          go_quiet ((go_at_call 126; exact (hmay _).mono fun _ _ h => ⟨h.1, _, h.2.symm⟩))
          go_wp2
          try rw [Exit.noGoto_ret]
          go_ret
          exact ⟨rfl, nq, rfl⟩

/-- ADD, AT EVERY INPUT. -/
theorem TAdd_any (h : TM w p g cap S r t) (hr : Rt r L) (seg n : Int) :
    Calls Tryz.prog 76 #[.pointer (some ⟨p, 0, none⟩), .int .i64 seg, .int .i64 n] w fun e w' => e = .returned (.int .i64 (addV r seg n).2) ∧ (∃ t', TM w' p g cap S (addV r seg n).1 t') ∧ w.grownBy w' (some g) := by
  by_cases hc : (0 ≤ seg ∧ seg < S) ∧ (-8 ≤ n ∧ n ≤ 8) ∧ (0 ≤ nth r seg.toNat + n ∧ nth r seg.toNat + n ≤ 8)
  · obtain ⟨⟨h1, h2⟩, h3, h4⟩ := hc
    obtain ⟨s, rfl⟩ := Int.eq_ofNat_of_zero_le h1
    rw [Int.toNat_natCast] at h4
    have hs : s < r.length := by rw [h.hS]; omega
    rw [addV_ok hs h3.1 h3.2, setV_ok hs h4.1 h4.2]
    exact TAdd_ok h hr s n (by omega) h3 h4
  · have e : addV r seg n = (r, 10) := by
      unfold addV
      by_cases h1 : (0 ≤ seg ∧ seg < r.length) ∧ -8 ≤ n ∧ n ≤ 8
      · rw [if_pos h1, setV_bad (fun h2 => hc ⟨by rw [← h.hS]; exact h1.1, h1.2, h2.2⟩)]
      · rw [if_neg h1]
    rw [e]
    refine (TAdd_bad h hr seg n hc).mono ?_
    rintro e w' ⟨rfl, d, rfl⟩
    exact ⟨rfl, ⟨t, h.drewN d⟩, grown_drewN (World.grownBy.refl w _) d⟩
end
end Go.Proofs.YtaonkbfekadalaaGreatDoor
/- What Set comes to, at every input. -/
namespace Go.Proofs.YtaonkbfekadalaaGreatDoor
open Go.RowKit
set_option linter.unusedVariables false

section
variable {w : World} {p g cap S L : Nat} {r t : List Int}
set_option maxRecDepth 1000000 in
set_option maxHeartbeats 400000 in
theorem TSet_ok (h : TM w p g cap S r t) (hr : Rt r L) (s : Nat) (n : Int) (hs : s < S) (hn : 0 ≤ n ∧ n ≤ 8) :
    Calls Tryz.prog 131 #[.pointer (some ⟨p, 0, none⟩), .int .i64 s, .int .i64 n] w fun e w' => e = .returned (.int .i64 0) ∧ (∃ t', TM w' p g cap S (r.set s n) t') ∧ w.grownBy w' (some g) := by
  have hS := h.hS
  have hs2 := hr.len_le
  rw [hS] at hs2
  have c0 := h.c0
  have c1 := h.c1
  have i2 : (S : Int) ≤ 512 := by omega
  have i0 : (0 : Int) ≤ (s : Int) := by omega
  have i1 : (s : Int) < (S : Int) := by omega
  have ca : w.cell? ⟨g, S + s, none⟩ = some (.int .i64 (nth r s)) := by
    have := h.ti.leaf s (by omega)
    rw [hS] at this
    rw [← this]; exact h.at_ (by omega)
  have bd := hr.small s (by omega)
  have b0 := bd.1
  have b1 := bd.2
  have hmay := fun W => may_true hn.1 hn.2 W
  have n0 := hn.1
  have n1 := hn.2
  have n7 : IntKind.i64.wrap (n - nth r s) = n - nth r s := IntWalk.i64_in _ (by omega)
  have n8 : IntKind.i64.wrap ((S : Int) + (s : Int)) = (S : Int) + (s : Int) := IntWalk.i64_in _ (by omega)
  have n9 : ((S : Int) + (s : Int)).toNat = S + s := by omega
  have t1 : decide ((s : Int) < 0) = false := by simp
  have t2 : decide ((S : Int) ≤ (s : Int)) = false := by simp; omega
  have t2' : decide (S ≤ s) = false := by simp; omega
  have i5 : (0 : Int) ≤ (S : Int) + (s : Int) := by omega
  have i6 : (S : Int) + (s : Int) < 2 * (S : Int) := by omega
  have i7 : S + s < 2 * S := by omega
  have hadd := fun d => TAdd_any (h.drewN d) hr s (n - nth r s)
  have e : addV r (s : Int) (n - nth r s) = (r.set s n, 0) := by
    rw [addV_ok (by omega) (by omega) (by omega), setV_ok (by omega) (by omega) (by omega)]
    congr 2
    omega
  rw [e] at hadd
  clear e bd hn hS
  generalize nth r s = y at *
  go_enter Tryz.func131, Tryz.ntmps131
  go_wp2_with fail
  refine (hmay _).mono ?_
  rintro e w1 ⟨rfl, rfl⟩
  go_wp2_with fail
  go_still_tail 16, (by kernel_rfl)
  change wpList _ _ _ _ _ w.drew
  have hadd1 := hadd 1
  have hgr : w.grownBy (w.drewN 1) (some g) := grown_drewN (World.grownBy.refl w _) 1
  have hdr : w.drew = w.drewN 1 := rfl
  rw [hdr]
  clear hadd c0 c1 ca hdr h
  generalize w.drewN 1 = w2 at *
  go_wp2_with fail
  refine hadd1.mono ?_
  rintro e w3 ⟨rfl, ht, hg3⟩
  go_wp2_with fail
  go_ret
  exact ⟨rfl, ht, grown_trans hgr hg3⟩

end
end Go.Proofs.YtaonkbfekadalaaGreatDoor
/- What slices.ContainsFunc comes to at New's test, and New where there is no tree. -/
namespace Go.Proofs.YtaonkbfekadalaaGreatDoor
open Go.RowKit
set_option linter.unusedVariables false

theorem wrong_false {n : Int} (h0 : 0 ≤ n) (h8 : n ≤ 8) (w : World) : Calls Tryz.prog 172 #[.int .i64 n] w fun e w' => e = .returned (.bool false) ∧ w = w' := by
  go_enter Tryz.func172, Tryz.ntmps172
  go_wp2_with (go_at_call 126; refine (may_true h0 h8 _).mono ?_; rintro e w' ⟨rfl, rfl⟩)
  go_ret
  exact ⟨rfl, rfl⟩

set_option maxRecDepth 100000 in
theorem Index_none {w : World} {A : Option Addr} {c n : Nat} {r : List Int} (hl : r.length = n) (hR : RI w A r) (hs : Smalls r) (hn : n ≤ 4611686018427387904) :
    Calls Tryz.prog 209 #[.slice A n c, .func (.func 172) #[] #[]] w fun e w' => e = .returned (.int .i64 (-1)) ∧ w = w' := by
  have HS := Lib.hid hl
  have HSM := Lib.hid hs
  clear hl hs
  go_enter Tryz.func209, Tryz.ntmps209
  go_wp2_with fail
  go_loop [8] (fun i => ∃ q : Nat, q ≤ n ∧ i = .int .i64 q) (fun i => n - (intOf i).toNat)
  case atStart => exact ⟨0, Nat.zero_le _, rfl⟩
  case round =>
    obtain ⟨q, hq, rfl⟩ := hrel
    by_cases hlt : q < n
    · obtain ⟨g, off, rfl, hc⟩ := hR (by rw [HS.out]; omega)
      have c0 := hc q (by rw [HS.out]; exact hlt)
      have bd := HSM.out q (by rw [HS.out]; exact hlt)
      have hw := fun W => wrong_false bd.1 bd.2 W
      have j1 : (0 : Int) ≤ (q : Int) := by omega
      have j2 : (q : Int) < (n : Int) := by omega
      clear hc bd
      generalize nth r q = y at *
      go_wp2_with fail
      refine (hw _).mono ?_
      rintro e w1 ⟨rfl, rfl⟩
      go_wp2_with fail
      go_round
      case rel => exact ⟨q + 1, by omega, by go_num⟩
      case measure => simp [intOf]; omega
    · obtain rfl : q = n := by omega
      go_wp2_with fail
      go_ret
      exact ⟨rfl, rfl⟩

theorem Contains_no {w : World} {A : Option Addr} {c n : Nat} {r : List Int} (hl : r.length = n) (hR : RI w A r) (hs : Smalls r) (hn : n ≤ 4611686018427387904) :
    Calls Tryz.prog 171 #[.slice A n c, .func (.func 172) #[] #[]] w fun e w' => e = .returned (.bool false) ∧ w = w' := by
  have HS := Lib.hid hl
  clear hl
  go_enter Tryz.func171, Tryz.ntmps171
  go_wp2_with fail
  refine (Index_none HS.out hR hs hn).mono ?_
  rintro e w1 ⟨rfl, rfl⟩
  go_wp2_with fail
  go_ret
  exact ⟨rfl, rfl⟩
theorem and_all : ∀ n : Fin 513, 1 ≤ n.1 → (bits BinOp.and IntKind.i64 (n.1 : Int) ((n.1 : Int) - 1) != 0) = !powB n.1 := by decide +kernel
theorem and_pow {n : Nat} (h1 : 1 ≤ n) (h2 : n ≤ 512) : (bits BinOp.and IntKind.i64 (n : Int) ((n : Int) - 1) != 0) = !powB n := and_all ⟨n, by omega⟩ h1

end Go.Proofs.YtaonkbfekadalaaGreatDoor
