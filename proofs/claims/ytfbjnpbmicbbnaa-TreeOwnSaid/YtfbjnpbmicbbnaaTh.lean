/- What Set comes to, at every input. -/
import Derived.Test.YtfbjnpbmicbbnaaTg
namespace Go.Proofs.Ytfbjnpbmicbbnaa
open Go.RowKit
set_option linter.unusedVariables false

section
variable {w : World} {p g cap S L : Nat} {r t : List Int}
set_option maxRecDepth 1000000 in
set_option maxHeartbeats 400000 in
theorem TSet_bad (h : TM w p g cap S r t) (hr : Rt r L) (seg : Int) (n : Int) (hb : ¬ ((0 ≤ seg ∧ seg < S) ∧ (0 ≤ n ∧ n ≤ 8))) :
    Calls Try.prog 27 #[.pointer (some ⟨p, 0, none⟩), .int .i64 seg, .int .i64 n] w fun e w' => e = .returned (.int .i64 10) ∧ w = w' := by
  have hS := h.hS
  have hs2 := hr.len_le
  rw [hS] at hs2
  have c0 := h.c0
  have i2 : (S : Int) ≤ 512 := by omega
  by_cases h1 : seg < 0
  · clear hb hS
    go_enter Try.func27, Try.ntmps27
    go_wp2_with fail
    go_ret
    exact ⟨rfl, rfl⟩
  · have h1' : 0 ≤ seg := by omega
    by_cases h2 : (S : Int) ≤ seg
    · clear hb hS h1
      go_enter Try.func27, Try.ntmps27
      go_wp2_with fail
      go_ret
      exact ⟨rfl, rfl⟩
    · have h2' : seg < (S : Int) := by omega
      have hmay := fun W => may_false (fun h => hb ⟨⟨h1', h2'⟩, h⟩) W
      have t1 : decide (seg < 0) = false := by simp; omega
      have t2 : decide ((S : Int) ≤ seg) = false := by simp; omega
      clear hb hS h1 h2
      go_enter Try.func27, Try.ntmps27
      go_wp2_with (go_at_call 34; refine (hmay _).mono ?_; rintro e w' ⟨rfl, rfl⟩)
      go_ret
      exact ⟨rfl, rfl⟩

set_option maxRecDepth 1000000 in
set_option maxHeartbeats 400000 in
theorem TSet_ok (h : TM w p g cap S r t) (hr : Rt r L) (s : Nat) (n : Int) (hs : s < S) (hn : 0 ≤ n ∧ n ≤ 8) :
    Calls Try.prog 27 #[.pointer (some ⟨p, 0, none⟩), .int .i64 s, .int .i64 n] w fun e w' => e = .returned (.int .i64 0) ∧ (∃ t', TM w' p g cap S (r.set s n) t') ∧ w.grownBy w' (some g) := by
  have hS := h.hS
  have hs2 := hr.len_le
  rw [hS] at hs2
  have c0 := h.c0
  have c1 := h.c1
  have i2 : (S : Int) ≤ 512 := by omega
  have i0 : (0 : Int) ≤ (s : Int) := by omega
  have i1 : (s : Int) < (S : Int) := by omega
  have ca : w.cell? ⟨g, S + s, none⟩ = some (.int .i64 (nth r s)) := by
    have := h.ti.leaf s (by omega)
    rw [hS] at this
    rw [← this]; exact h.at_ (by omega)
  have bd := hr.small s (by omega)
  have b0 := bd.1
  have b1 := bd.2
  have hmay := fun W => may_true hn.1 hn.2 W
  have n0 := hn.1
  have n1 := hn.2
  have n7 : IntKind.i64.wrap (n - nth r s) = n - nth r s := IntWalk.i64_in _ (by omega)
  have n8 : IntKind.i64.wrap ((S : Int) + (s : Int)) = (S : Int) + (s : Int) := IntWalk.i64_in _ (by omega)
  have n9 : ((S : Int) + (s : Int)).toNat = S + s := by omega
  have t1 : decide ((s : Int) < 0) = false := by simp
  have t2 : decide ((S : Int) ≤ (s : Int)) = false := by simp; omega
  have t2' : decide (S ≤ s) = false := by simp; omega
  have i5 : (0 : Int) ≤ (S : Int) + (s : Int) := by omega
  have i6 : (S : Int) + (s : Int) < 2 * (S : Int) := by omega
  have i7 : S + s < 2 * S := by omega
  have hadd := fun d => TAdd_any (h.drewN d) hr s (n - nth r s)
  have e : addV r (s : Int) (n - nth r s) = (r.set s n, 0) := by
    rw [addV_ok (by omega) (by omega) (by omega), setV_ok (by omega) (by omega) (by omega)]
    congr 2
    omega
  rw [e] at hadd
  clear e bd hn hS
  generalize nth r s = y at *
  go_enter Try.func27, Try.ntmps27
  go_wp2_with fail
  refine (hmay _).mono ?_
  rintro e w1 ⟨rfl, rfl⟩
  go_wp2_with fail
  go_still_tail 16, (by kernel_rfl)
  change wpList _ _ _ _ _ w.drew
  have hadd1 := hadd 1
  have hgr : w.grownBy (w.drewN 1) (some g) := grown_drewN (World.grownBy.refl w _) 1
  have hdr : w.drew = w.drewN 1 := rfl
  rw [hdr]
  clear hadd c0 c1 ca hdr h
  generalize w.drewN 1 = w2 at *
  go_wp2_with fail
  refine hadd1.mono ?_
  rintro e w3 ⟨rfl, ht, hg3⟩
  go_wp2_with fail
  go_ret
  exact ⟨rfl, ht, grown_trans hgr hg3⟩

/-- SET, AT EVERY INPUT. -/
theorem TSet_any (h : TM w p g cap S r t) (hr : Rt r L) (seg n : Int) :
    Calls Try.prog 27 #[.pointer (some ⟨p, 0, none⟩), .int .i64 seg, .int .i64 n] w fun e w' => e = .returned (.int .i64 (setV r seg n).2) ∧ (∃ t', TM w' p g cap S (setV r seg n).1 t') ∧ w.grownBy w' (some g) := by
  by_cases hc : (0 ≤ seg ∧ seg < S) ∧ (0 ≤ n ∧ n ≤ 8)
  · obtain ⟨⟨h1, h2⟩, h3⟩ := hc
    obtain ⟨s, rfl⟩ := Int.eq_ofNat_of_zero_le h1
    rw [setV_ok (by rw [h.hS]; omega) h3.1 h3.2]
    exact TSet_ok h hr s n (by omega) h3
  · rw [setV_bad (fun h1 => hc ⟨by rw [← h.hS]; exact h1.1, h1.2⟩)]
    refine (TSet_bad h hr seg n hc).mono ?_
    rintro e w' ⟨rfl, rfl⟩
    exact ⟨rfl, ⟨t, h⟩, World.grownBy.refl w _⟩
end
end Go.Proofs.Ytfbjnpbmicbbnaa
