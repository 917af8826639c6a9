/- What OnesCount64, TrailingZeros64 and Len64 come to. -/
import Derived.Laws.Bits64b
import Derived.Lib.Strings
import Derived.Lib.Slices
import Derived.Lib.Small
import Derived.Lib.Walk
import Derived.Test.YtaonkbfekadalaaGreatDoorM02
import Derived.Test.YtaonkbfekadalaaGreatDoorM03
namespace Go.Proofs.YtaonkbfekadalaaGreatDoor
open Go.RowKit
set_option linter.unusedVariables false

theorem bits_and_i64_nat (a b : Nat) (ha : a < 9223372036854775808) (hb : b < 9223372036854775808) :
    bits .and .i64 (a : Int) (b : Int) = ((a &&& b : Nat) : Int) := by
  have hx : a &&& b < 2 ^ 63 := Nat.and_lt_two_pow _ (by omega)
  have h1 : (BitVec.ofInt 64 (a : Int)).toNat = a := by
    rw [BitVec.ofInt_natCast, BitVec.toNat_ofNat]; exact Nat.mod_eq_of_lt (by omega)
  have h2 : (BitVec.ofInt 64 (b : Int)).toNat = b := by
    rw [BitVec.ofInt_natCast, BitVec.toNat_ofNat]; exact Nat.mod_eq_of_lt (by omega)
  show IntKind.i64.wrap ((BitVec.ofInt 64 (a : Int) &&& BitVec.ofInt 64 (b : Int)).toNat : Int) = _
  rw [BitVec.toNat_and, h1, h2]
  exact IntWalk.i64_in _ (by omega)
theorem u64_in (x : Nat) (hx : x < 18446744073709551616) : IntKind.u64.wrap (x : Int) = (x : Int) := by
  rw [IntKind.wrap_u64]; omega
theorem s1_lt (x : Nat) : s1 8 x < 18446744073709551616 := by
  have h1 : x / 2 &&& rep 85 8 ≤ rep 85 8 := Nat.and_le_right
  have h2 : x &&& rep 85 8 ≤ rep 85 8 := Nat.and_le_right
  have e : rep 85 8 = 6148914691236517205 := by decide
  unfold s1
  omega
theorem s2_lt (x : Nat) : s2 8 x < 7378697629483820647 := by
  have h1 : x / 4 &&& rep 51 8 ≤ rep 51 8 := Nat.and_le_right
  have h2 : x &&& rep 51 8 ≤ rep 51 8 := Nat.and_le_right
  have e : rep 51 8 = 3689348814741910323 := by decide
  unfold s2
  omega
theorem s3_lt (x : Nat) : s3 8 x < 18446744073709551616 := by
  have h1 : (x / 16 + x) &&& rep 15 8 ≤ rep 15 8 := Nat.and_le_right
  have e : rep 15 8 = 1085102592571150095 := by decide
  unfold s3
  omega
theorem and_u64 (a b : Nat) (c : Int) (hc : c = (b : Int)) (ha : a < 18446744073709551616) (hb : b < 18446744073709551616) : bits .and .u64 (a : Int) c = ((a &&& b : Nat) : Int) := by
  rw [hc]; exact bits_and_u64_nat a b ha hb

set_option maxRecDepth 100000 in
theorem Ones_ok (x : Nat) (hx : x < 18446744073709551616) (w : World) :
    Calls Tryz.prog 210 #[.int .u64 (x : Nat)] w fun e w' => e = .returned (.int .i64 (popN x 64)) ∧ w = w' := by
  obtain ⟨c0, c1, c2, c3, c4, c5, c6, c7, hc, hs, hp⟩ := ones_eq x hx
  have h3 := (s_all 8 x).2
  obtain ⟨b6, b4, b5, h6⟩ := sum8 c0 c1 c2 c3 c4 c5 c6 c7 hc (sums x 8) _ _ _ hs rfl rfl rfl
  rw [← hp, ← h3] at h6
  rw [← h3] at b4 b5 b6
  clear hc hs hp h3
  have k1 : IntKind.u64.wrap (bits .and .u64 ((x : Int) / 2) 6148914691236517205 + bits .and .u64 (x : Int) 6148914691236517205) = ((s1 8 x : Nat) : Int) := by
    rw [show (x : Int) / 2 = ((x / 2 : Nat) : Int) by omega, and_u64 (x / 2) 6148914691236517205 6148914691236517205 rfl (by omega) (by decide), and_u64 x 6148914691236517205 6148914691236517205 rfl hx (by decide)]
    have := u64_in _ (s1_lt x)
    unfold s1 at this
    rw [show rep 85 8 = 6148914691236517205 by decide] at this
    push_cast at this
    exact this
  have l1 := s1_lt x
  generalize s1 8 x = y1 at *
  have k2 : IntKind.u64.wrap (bits .and .u64 ((y1 : Int) / 4) 3689348814741910323 + bits .and .u64 (y1 : Int) 3689348814741910323) = ((s2 8 y1 : Nat) : Int) := by
    rw [show (y1 : Int) / 4 = ((y1 / 4 : Nat) : Int) by omega, and_u64 (y1 / 4) 3689348814741910323 3689348814741910323 rfl (by omega) (by decide), and_u64 y1 3689348814741910323 3689348814741910323 rfl l1 (by decide)]
    have := u64_in (s2 8 y1) (by have := s2_lt y1; omega)
    unfold s2 at this
    rw [show rep 51 8 = 3689348814741910323 by decide] at this
    push_cast at this
    exact this
  have l2 := s2_lt y1
  generalize s2 8 y1 = y2 at *
  have k3 : bits .and .u64 (IntKind.u64.wrap ((y2 : Int) / 16 + (y2 : Int))) 1085102592571150095 = ((s3 8 y2 : Nat) : Int) := by
    rw [show (y2 : Int) / 16 + (y2 : Int) = ((y2 / 16 + y2 : Nat) : Int) by omega, u64_in _ (by omega), and_u64 _ 1085102592571150095 1085102592571150095 rfl (by omega) (by decide)]
    rfl
  have l3 := s3_lt y2
  generalize s3 8 y2 = y3 at *
  have k4 : IntKind.u64.wrap ((y3 : Int) + (y3 : Int) / 256) = ((y3 + y3 / 256 : Nat) : Int) := by
    rw [show (y3 : Int) + (y3 : Int) / 256 = ((y3 + y3 / 256 : Nat) : Int) by omega]
    exact u64_in _ b4
  generalize y3 + y3 / 256 = y4 at *
  have k5 : IntKind.u64.wrap ((y4 : Int) + (y4 : Int) / 65536) = ((y4 + y4 / 65536 : Nat) : Int) := by
    rw [show (y4 : Int) + (y4 : Int) / 65536 = ((y4 + y4 / 65536 : Nat) : Int) by omega]
    exact u64_in _ b5
  generalize y4 + y4 / 65536 = y5 at *
  have k6 : IntKind.u64.wrap ((y5 : Int) + (y5 : Int) / 4294967296) = ((y5 + y5 / 4294967296 : Nat) : Int) := by
    rw [show (y5 : Int) + (y5 : Int) / 4294967296 = ((y5 + y5 / 4294967296 : Nat) : Int) by omega]
    exact u64_in (y5 + y5 / 4294967296) (by omega)
  generalize y5 + y5 / 4294967296 = y6 at *
  have k7 : IntKind.i64.wrap (y6 : Int) = (y6 : Int) := IntWalk.i64_in _ (by omega)
  have k8 : bits .and .i64 (y6 : Int) 127 = ((popN x 64 : Nat) : Int) := by
    have := bits_and_i64_nat y6 127 b6 (by decide)
    rw [show (127 : Nat) = 2 ^ 7 - 1 by decide, Nat.and_two_pow_sub_one_eq_mod, show (2 : Nat) ^ 7 = 128 by decide, h6] at this
    exact this
  clear h6 b4 b5 b6 l1 l2 l3
  go_enter Tryz.func210, Tryz.ntmps210
  go_wp2
  go_ret
  exact ⟨rfl, rfl⟩

theorem tz64_key (x a : Nat) (hx : x < 18446744073709551616) (hx0 : x ≠ 0) (hlow : x &&& (18446744073709551616 - x) = a) :
    IntKind.u64.wrap (bits BinOp.and IntKind.u64 (x : Int) (IntKind.u64.wrap (-(x : Int))) * 285870213051353865) / 288230376151711744 = ((a * 285870213051353865 % 18446744073709551616 / 288230376151711744 : Nat) : Int) := by
  have e1 : IntKind.u64.wrap (-(x : Int)) = ((18446744073709551616 - x : Nat) : Int) := by rw [IntKind.wrap_u64]; omega
  rw [e1, bits_and_u64_nat x _ hx (by omega), hlow, IntKind.wrap_u64]
  omega

/-- The library's table in its variable. -/
def Tab (w : World) : Prop := ∀ j, j < 64 → w.cell? ⟨2, j, none⟩ = some (.int .u8 (Lib.deBruijn64tab.getD j 0 : Nat))
theorem Tab.below {w w' : World} (h : Tab w) (hb : Below w.heap.size w w') : Tab w' := fun j hj => by
  have h1 := h j hj
  have : 2 < w.heap.size := World.block_lt_of_cell? w ⟨2, j, none⟩ h1
  rw [hb.cell (p := ⟨2, j, none⟩) this, h1]
theorem Tab.pos {w : World} (h : Tab w) : 2 < w.heap.size := World.block_lt_of_cell? w ⟨2, 0, none⟩ (h 0 (by decide))

set_option maxHeartbeats 1000000 in
theorem tz64_core (x k idx : Nat) (w : World) (hx0 : ((x : Int) == 0) = false)
    (key : IntKind.u64.wrap (bits BinOp.and IntKind.u64 (x : Int) (IntKind.u64.wrap (-(x : Int))) * 285870213051353865) / 288230376151711744 = (idx : Int))
    (hi : idx < 64) (hk : k < 64) (hcell : w.cell? ⟨2, idx, none⟩ = some (.int .u8 k)) :
    Calls Tryz.prog 241 #[.int .u64 x] w fun e w' => e = .returned (.int .i64 k) ∧ w = w' := by
  go_enter Tryz.func241, Tryz.ntmps241
  go_wp2_with (simp only [key])
  go_ret
  exact ⟨rfl, rfl⟩

/-- TrailingZeros64, where a bit is on. -/
theorem Ctz_ok (x : Nat) (hx : x < 18446744073709551616) (h0 : x ≠ 0) (w : World) (hT : Tab w) :
    Calls Tryz.prog 241 #[.int .u64 x] w fun e w' => e = .returned (.int .i64 (Lib.ctz 64 x)) ∧ w = w' := by
  obtain ⟨hlow, hk⟩ := Lib.lowest_bit 64 x h0 (by simpa using hx)
  obtain ⟨hi, htab⟩ := Lib.deBruijn64_at _ hk
  have hcell := hT _ hi
  rw [htab] at hcell
  exact tz64_core x _ _ w (by simp; omega) (tz64_key x _ hx h0 (by simpa using hlow)) hi hk hcell
end Go.Proofs.YtaonkbfekadalaaGreatDoor
