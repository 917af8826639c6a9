/- What Count comes to, the tree's and the document's. -/
import Derived.Test.YtfbjnpbmicbbnaaTl2
namespace Go.Proofs.Ytfbjnpbmicbbnaa
open Go.RowKit
set_option linter.unusedVariables false

theorem len_all : ∀ L : Fin 10, Lib.bitLen (2 ^ L.1) = L.1 + 1 := by decide +kernel
theorem len_pow {L : Nat} (h : L ≤ 9) : Lib.bitLen (2 ^ L) = L + 1 := len_all ⟨L, by omega⟩

/-- A window there is: it ends within the segments. -/
theorem win_ok {L lv k : Nat} (h : (k + 1) * 2 ^ lv ≤ 2 ^ L) : lv ≤ L ∧ k < 2 ^ (L - lv) := by
  have h1 : 2 ^ lv ≤ 2 ^ L := Nat.le_trans (by have := Nat.mul_le_mul_right (2 ^ lv) (show 1 ≤ k + 1 by omega); rwa [Nat.one_mul] at this) h
  have h2 : lv ≤ L := (Nat.pow_le_pow_iff_right (by decide)).1 h1
  refine ⟨h2, ?_⟩
  have hsp : 2 ^ L = 2 ^ (L - lv) * 2 ^ lv := pow_split (by omega)
  rw [hsp] at h
  have := Nat.le_of_mul_le_mul_right h (Nat.lt_of_lt_of_le Nat.zero_lt_one (pow_pos2 lv))
  omega

set_option maxRecDepth 1000000 in
set_option maxHeartbeats 400000 in
theorem TCount_ok {w : World} {p g cap S L : Nat} {r t : List Int} (h : TM w p g cap S r t) (hr : Rt r L) (lv k : Nat) (hk : (k + 1) * 2 ^ lv ≤ S) :
    Calls Try.prog 13 #[.pointer (some ⟨p, 0, none⟩), .int .i64 lv, .int .i64 k] w fun e w' => e = .returned (.tuple #[.int .i64 (sumR r (k * 2 ^ lv) (2 ^ lv)), .int .i64 0]) ∧ ∃ d, w' = w.drewN d := by
  have hS := h.hS
  have hs1 := hr.len_pos
  have hs2 := hr.len_le
  have hpow := hr.pow
  rw [hS] at hs1 hs2 hpow
  rw [hpow] at hk
  obtain ⟨hlv, hkl⟩ := win_ok hk
  have c0 := h.c0
  have c1 := h.c1
  have hL9 := hr.le
  have i1 : (1 : Int) ≤ (S : Int) := by omega
  have i2 : (S : Int) ≤ 512 := by omega
  have i3 : (0 : Int) ≤ (lv : Int) := by omega
  have i4 : (lv : Int) ≤ 9 := by omega
  have i5 : (0 : Int) ≤ (k : Int) := by omega
  have hlen : ((Lib.bitLen ((S : Int)).toNat : Nat) : Int) = (L : Int) + 1 := by rw [Int.toNat_natCast, hpow, len_pow hL9]; rfl
  have hbl := fun W => bits_Len (S : Int) W (by omega) (by omega)
  rw [hlen] at hbl
  have i6 : (lv : Int) < (L : Int) + 1 := by omega
  have hq : (S : Int) / 2 ^ lv = ((2 ^ (L - lv) : Nat) : Int) := by
    have hsp : 2 ^ L = 2 ^ (L - lv) * 2 ^ lv := pow_split (by omega)
    rw [hpow, hsp, Int.natCast_mul, show ((2 ^ lv : Nat) : Int) = (2 : Int) ^ lv by push_cast; rfl]
    exact Int.mul_ediv_cancel _ (Int.ne_of_gt (Int.pow_pos (by decide)))
  have hES : 2 ^ (L - lv) ≤ S := by rw [hpow]; exact Nat.pow_le_pow_right (by decide) (by omega)
  have hnode := winL h.ti hr (e := L - lv) (l := lv) (k := k) (by omega) hkl
  have ca := h.at_ (k := 2 ^ (L - lv) + k) (by omega)
  rw [hnode] at ca
  generalize 2 ^ (L - lv) = E at hq hES ca hkl
  have j1 : (k : Int) < (E : Int) := by omega
  have j2 : (E : Int) ≤ (S : Int) := by omega
  have n1 : IntKind.i64.wrap ((E : Int) + (k : Int)) = (E : Int) + (k : Int) := IntWalk.i64_in _ (by omega)
  have n2 : ((E : Int) + (k : Int)).toNat = E + k := by omega
  have n3 : (0 : Int) ≤ (E : Int) + (k : Int) := by omega
  have n4 : (E : Int) + (k : Int) < 2 * (S : Int) := by omega
  have HS := Lib.hid hS
  have HP := Lib.hid hpow
  clear hS hpow hk hnode
  go_enter Try.func13, Try.ntmps13
  go_wp2_with (go_at_call 31; refine (hbl _).mono ?_; rintro e w' ⟨rfl, rfl⟩)
  go_quiet (fail)
  go_wp2
  go_ret2
  exact ⟨rfl, _, rfl⟩
end Go.Proofs.Ytfbjnpbmicbbnaa
