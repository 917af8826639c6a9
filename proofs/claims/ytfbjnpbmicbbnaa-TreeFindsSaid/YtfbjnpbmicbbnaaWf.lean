/- TreeFinds: the walk of the law. -/
import Derived.Test.YtfbjnpbmicbbnaaTr
namespace Go.Proofs.Ytfbjnpbmicbbnaa
open Go.RowKit
set_option linter.unusedVariables false

set_option maxRecDepth 1000000 in
set_option maxHeartbeats 1600000 in
theorem TreeFinds_in {A B : Option Addr} {nc cap len lcap : Nat} {r : List Int} {zs : List Act3} {n : Int} {w : World} {L : Nat} (hl : r.length = nc) (hR : RI w A r) (hr : Rt r L) (hz : ActsIn w B len zs) (h60 : (len : Int) ≤ 60) :
    Calls Try.prog 4 #[.slice A nc cap, .slice B len lcap, .int .i64 n] w fun e w' => e = .returned (.bool true) ∧ Below w.heap.size w w' := by
  have hs2 := hr.len_le
  have hr' := hr.playN zs len
  have hs2' := hr'.len_le
  rw [hl] at hs2
  have i1 : (nc : Int) ≤ 512 := by omega
  have HL := Lib.hid hl
  clear hl hs2'
  go_enter Try.func4, Try.ntmps4
  go_wp2_with fail
  refine (made_ok HL.out hR hr hz).mono ?_
  rintro e w1 ⟨rfl, ⟨t, hm⟩, hb1⟩
  have hlen : (playN r zs len).length = nc := by rw [playN_len, HL.out]
  generalize playN r zs len = q at hm hr' hlen
  have HQ := Lib.hid hlen
  clear hlen
  by_cases hn : 0 ≤ n ∧ n < sumR q 0 nc
  · have n0 := hn.1
    have n1 := hn.2
    have HN := Lib.hid hn
    clear hn
    go_wp2_with fail
    refine (TFind_ok hm hr' n HN.out).mono ?_
    rintro e w2 ⟨⟨s, k, rfl, hat⟩, rfl⟩
    have hslt := hat.lt
    rw [HQ.out] at hslt
    have hke := hat.eq
    have hk0 := hat.ge
    have hk1 := hat.own
    have hsm := hr'.small s hat.lt
    have hsb := sumR_bd hr' 0 s (by rw [HQ.out]; omega)
    have hsu : sumR q 0 (s + 1) = sumR q 0 s + nth q s := by rw [sumR_succ, Nat.zero_add]
    have hc1 : sumR q (s * 2 ^ 0) (2 ^ 0) = nth q s := by simp [sumR]
    have ha2 := fun W (h : TM W (w.heap.size + 1) w.heap.size (2 * nc) nc q t) => TAhead_ok h hr' (s + 1) (by omega)
    have hcn := TCount_ok hm hr' 0 s (by rw [Nat.pow_zero]; omega)
    rw [hsu] at ha2
    rw [hc1] at hcn
    have HSU := Lib.hid hsu
    clear hsu hc1 hat
    push_cast at ha2 hcn
    generalize hx : sumR q 0 s = x at *
    generalize hy : nth q s = y at *
    have HX := Lib.hid hx
    clear hx hy
    have s0 : (0 : Int) ≤ (s : Int) := by omega
    have s1 : (s : Int) < (nc : Int) := by omega
    have b0 := hsm.1
    have b1 := hsm.2
    have b2 := hsb.1
    have b3 : x ≤ 4096 := by omega
    clear hsm hsb
    go_wp2_with fail
    refine (TTotal_ok hm hr').mono ?_
    rintro e w2 ⟨rfl, rfl⟩
    go_wp2_with fail
    refine (TAhead_ok hm hr' s (by omega)).mono ?_
    rw [HX.out]
    rintro e w2 ⟨rfl, rfl⟩
    go_wp2_with fail
    refine (ha2 _ hm).mono ?_
    rintro e w2 ⟨rfl, rfl⟩
    go_wp2_with fail
    refine hcn.mono ?_
    rintro e w2 ⟨rfl, d, rfl⟩
    have t1 : decide (x ≤ n) = true := by simp; omega
    have t2 : decide (n < x + y) = true := by simp; omega
    have t3 : (k == n - x) = true := by simp; omega
    have t4 : (y == x + y - x) = true := by simp; omega
    have t5 : decide (k < y) = true := by simp; omega
    have n7 : IntKind.i64.wrap (n - x) = n - x := IntWalk.i64_in _ (by omega)
    have n8 : IntKind.i64.wrap (x + y - x) = x + y - x := IntWalk.i64_in _ (by omega)
    go_wp2_with fail
    refine (awake_any _).mono ?_
    rintro e w9 ⟨rfl, hb9⟩
    go_wp2_with fail
    go_ret
    exact ⟨rfl, below_ge (below_drewN hb1 d) hb9 (Nat.le_refl _)⟩
  · have HN := Lib.hid hn
    by_cases hneg : n < 0
    · clear hn
      go_wp2_with fail
      refine (TFind_none hm hr' n HN.out).mono ?_
      rintro e w2 ⟨rfl, rfl⟩
      go_wp2_with fail
      refine (awake_any _).mono ?_
      rintro e w9 ⟨rfl, hb9⟩
      go_wp2_with fail
      go_ret
      exact ⟨rfl, below_ge hb1 hb9 (Nat.le_refl _)⟩
    · have hge : sumR q 0 nc ≤ n := by omega
      have hn0 : 0 ≤ n := by omega
      clear hn hneg
      go_wp2_with fail
      refine (TFind_none hm hr' n HN.out).mono ?_
      rintro e w2 ⟨rfl, rfl⟩
      go_wp2_with fail
      refine (TTotal_ok hm hr').mono ?_
      rintro e w2 ⟨rfl, rfl⟩
      go_wp2_with fail
      refine (awake_any _).mono ?_
      rintro e w9 ⟨rfl, hb9⟩
      go_wp2_with fail
      go_ret
      exact ⟨rfl, below_ge hb1 hb9 (Nat.le_refl _)⟩

theorem TreeFinds_walk (A : Option Addr) (nc cap : Nat) (r : List Int) (B : Option Addr) (len lcap : Nat) (zs : List Act3) (n : Int) (w : World) (hs : IntsIn w A nc r) (hz : ActsIn w B len zs) (hbn : -9223372036854775808 ≤ n ∧ n ≤ 9223372036854775807) :
    Calls Try.prog 4 #[.slice A nc cap, .slice B len lcap, .int .i64 n] w fun e w' => e = .returned (.bool true) ∧ Below w.heap.size w w' := by
  have hm1 := hs.hm
  have hm2 := hz.hm
  have HL := Lib.hid hs.hl
  by_cases h600 : (nc : Int) ≤ 600
  · by_cases h60 : (len : Int) ≤ 60
    · by_cases hp : powB nc = true
      · by_cases hsm : Smalls r
        · obtain ⟨L, hr⟩ := Rt.mk' (by rw [HL.out]; exact hp) hsm
          exact TreeFinds_in HL.out hs.hr hr hz h60
        · have HSM := Lib.hid hsm
          clear hsm
          go_enter Try.func4, Try.ntmps4
          go_wp2_with fail
          refine (made_range HL.out hs.hr hp HSM.out).mono ?_
          rintro e w1 ⟨rfl, rfl⟩
          go_wp2_with fail
          refine (awake_any _).mono ?_
          rintro e w9 ⟨rfl, hb9⟩
          go_wp2_with fail
          go_ret
          exact ⟨rfl, hb9⟩
      · have hp' : powB nc = false := by simpa using hp
        clear hp
        go_enter Try.func4, Try.ntmps4
        go_wp2_with fail
        refine (made_arg hp' (by omega)).mono ?_
        rintro e w1 ⟨rfl, rfl⟩
        go_wp2_with fail
        refine (awake_any _).mono ?_
        rintro e w9 ⟨rfl, hb9⟩
        go_wp2_with fail
        go_ret
        exact ⟨rfl, hb9⟩
    · have h60' : 60 < (len : Int) := by omega
      clear h60
      go_enter Try.func4, Try.ntmps4
      go_wp2_with fail
      refine (awake_any _).mono ?_
      rintro e w9 ⟨rfl, hb9⟩
      go_wp2_with fail
      go_ret
      exact ⟨rfl, hb9⟩
  · have h600' : 600 < (nc : Int) := by omega
    clear h600
    go_enter Try.func4, Try.ntmps4
    go_wp2_with fail
    refine (awake_any _).mono ?_
    rintro e w9 ⟨rfl, hb9⟩
    go_wp2_with fail
    go_ret
    exact ⟨rfl, hb9⟩
end Go.Proofs.Ytfbjnpbmicbbnaa
