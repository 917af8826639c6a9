/- What Count comes to where there is no such window; the document's Count. -/
import Derived.Test.YtfbjnpbmicbbnaaTm
namespace Go.Proofs.Ytfbjnpbmicbbnaa
open Go.RowKit
set_option linter.unusedVariables false

/-- Is there such a window? -/
def Win (S : Nat) (level n : Int) : Prop := ∃ lv k : Nat, level = lv ∧ n = k ∧ (k + 1) * 2 ^ lv ≤ S

set_option maxRecDepth 1000000 in
set_option maxHeartbeats 400000 in
theorem TCount_bad {w : World} {p g cap S L : Nat} {r t : List Int} (h : TM w p g cap S r t) (hr : Rt r L) (level n : Int) (hno : ¬ Win S level n) :
    Calls Try.prog 13 #[.pointer (some ⟨p, 0, none⟩), .int .i64 level, .int .i64 n] w fun e w' => e = .returned (.tuple #[.int .i64 0, .int .i64 10]) ∧ w = w' := by
  have hS := h.hS
  have hs1 := hr.len_pos
  have hs2 := hr.len_le
  have hpow := hr.pow
  rw [hS] at hs1 hs2 hpow
  have c0 := h.c0
  have hL9 := hr.le
  have i1 : (1 : Int) ≤ (S : Int) := by omega
  have i2 : (S : Int) ≤ 512 := by omega
  have hlen : ((Lib.bitLen ((S : Int)).toNat : Nat) : Int) = (L : Int) + 1 := by rw [Int.toNat_natCast, hpow, len_pow hL9]; rfl
  have hbl := fun W => bits_Len (S : Int) W (by omega) (by omega)
  rw [hlen] at hbl
  by_cases h1 : level < 0
  · clear hno hpow hS h
    go_enter Try.func13, Try.ntmps13
    go_wp2_with fail
    go_ret2
    exact ⟨rfl, rfl⟩
  · have h1' : 0 ≤ level := by omega
    by_cases h2 : (L : Int) + 1 ≤ level
    · clear hno hpow hS h h1
      go_enter Try.func13, Try.ntmps13
      go_wp2_with (go_at_call 31; refine (hbl _).mono ?_; rintro e w' ⟨rfl, rfl⟩)
      go_ret2
      exact ⟨rfl, rfl⟩
    · have h2' : level < (L : Int) + 1 := by omega
      by_cases h3 : n < 0
      · clear hno hpow hS h h1 h2
        go_enter Try.func13, Try.ntmps13
        go_wp2_with (go_at_call 31; refine (hbl _).mono ?_; rintro e w' ⟨rfl, rfl⟩)
        go_ret2
        exact ⟨rfl, rfl⟩
      · have h3' : 0 ≤ n := by omega
        obtain ⟨lv, rfl⟩ := Int.eq_ofNat_of_zero_le h1'
        have hq : (S : Int) / 2 ^ lv = ((2 ^ (L - lv) : Nat) : Int) := by
          have hsp : 2 ^ L = 2 ^ (L - lv) * 2 ^ lv := pow_split (by omega)
          rw [hpow, hsp, Int.natCast_mul, show ((2 ^ lv : Nat) : Int) = (2 : Int) ^ lv by push_cast; rfl]
          exact Int.mul_ediv_cancel _ (Int.ne_of_gt (Int.pow_pos (by decide)))
        have hge : ((2 ^ (L - lv) : Nat) : Int) ≤ n := by
          obtain ⟨k, rfl⟩ := Int.eq_ofNat_of_zero_le h3'
          rcases Nat.lt_or_ge k (2 ^ (L - lv)) with hlt | hge
          · refine absurd ⟨lv, k, rfl, rfl, ?_⟩ hno
            rw [hpow, show 2 ^ L = 2 ^ (L - lv) * 2 ^ lv from pow_split (by omega)]
            exact Nat.mul_le_mul_right _ hlt
          · exact Int.ofNat_le.2 hge
        generalize 2 ^ (L - lv) = E at hq hge
        have i4 : (lv : Int) ≤ 9 := by omega
        have i5 : (0 : Int) ≤ (E : Int) := by omega
        clear hno hpow hS h h1 h2 h3
        go_enter Try.func13, Try.ntmps13
        go_wp2_with (go_at_call 31; refine (hbl _).mono ?_; rintro e w' ⟨rfl, rfl⟩)
        go_ret2
        exact ⟨rfl, rfl⟩
end Go.Proofs.Ytfbjnpbmicbbnaa
