/- TreeHalves: the walk of the law. -/
import Derived.Test.YtfbjnpbmicbbnaaWp
namespace Go.Proofs.Ytfbjnpbmicbbnaa
open Go.RowKit
set_option linter.unusedVariables false

/-- A window's count, of a level, the k-th one. -/
def wn (r : List Int) (lv k : Nat) : Int := sumR r (k * 2 ^ lv) (2 ^ lv)
theorem wn_zero (r : List Int) (k : Nat) : wn r 0 k = nth r k := by simp [wn, sumR]
theorem wn_half (r : List Int) (lv k : Nat) : wn r (lv + 1) k = wn r lv (2 * k) + wn r lv (2 * k + 1) := by
  unfold wn
  have h2 : 2 ^ (lv + 1) = 2 * 2 ^ lv := by rw [Nat.pow_succ, Nat.mul_comm]
  rw [h2, Nat.two_mul (2 ^ lv), sumR_add, show k * (2 ^ lv + 2 ^ lv) = 2 * k * 2 ^ lv by rw [← Nat.two_mul, Nat.mul_comm 2 k, Nat.mul_assoc]]
  congr 2
  rw [Nat.add_mul, Nat.one_mul]
theorem wn_bd {r : List Int} {L S lv k : Nat} (hr : Rt r L) (hS : r.length = S) (hk : (k + 1) * 2 ^ lv ≤ S) : 0 ≤ wn r lv k ∧ wn r lv k ≤ 4096 := by
  have hle := hr.len_le
  rw [Nat.add_mul, Nat.one_mul] at hk
  have := sumR_bd hr (k * 2 ^ lv) (2 ^ lv) (by rw [hS]; exact hk)
  unfold wn
  generalize 2 ^ lv = K at *
  omega
theorem wn_all {r : List Int} {L S : Nat} (hr : Rt r L) (hS : r.length = S) : wn r L 0 = sumR r 0 S := by
  unfold wn
  rw [Nat.zero_mul, ← hr.pow, hS]

section
variable {a : World} {P G c S g' L : Nat} {x y : List Int} {W : World}
theorem Two.drewN (h : Two a P G c S g' x y W) (d : Nat) : Two a P G c S g' x y (W.drewN d) := by
  obtain ⟨⟨t, ht⟩, hB, hb⟩ := h
  exact ⟨⟨t, ht.drewN d⟩, hB.drewN d, below_drewN hb d⟩
theorem two_count (h : Two a P G c S g' x y W) (hr : Rt x L) (lv k : Nat) (hk : (k + 1) * 2 ^ lv ≤ S) :
    Calls Try.prog 13 #[.pointer (some ⟨P, 0, none⟩), .int .i64 lv, .int .i64 k] W fun e w' => e = .returned (.tuple #[.int .i64 (wn x lv k), .int .i64 0]) ∧ Two a P G c S g' x y w' := by
  obtain ⟨t, ht⟩ := h.tm
  refine (TCount_ok ht hr lv k hk).mono ?_
  rintro e w' ⟨rfl, d, rfl⟩
  exact ⟨rfl, h.drewN d⟩
theorem two_over (h : Two a P G c S g' x y W) (hr : Rt x L) (lv k : Int) (hk : ¬ Win S lv k) :
    Calls Try.prog 13 #[.pointer (some ⟨P, 0, none⟩), .int .i64 lv, .int .i64 k] W fun e w' => e = .returned (.tuple #[.int .i64 0, .int .i64 10]) ∧ Two a P G c S g' x y w' := by
  obtain ⟨t, ht⟩ := h.tm
  refine (TCount_bad ht hr lv k hk).mono ?_
  rintro e w' ⟨rfl, rfl⟩
  exact ⟨rfl, h⟩
end
theorem over_of {S lv k : Nat} (h : S < (k + 1) * 2 ^ lv) : ¬ Win S lv k := by
  rintro ⟨lv', k', e1, e2, h'⟩
  obtain rfl : lv = lv' := by omega
  obtain rfl : k = k' := by omega
  omega

set_option maxRecDepth 1000000 in
set_option maxHeartbeats 3200000 in
theorem TreeHalves_in {A B : Option Addr} {nc cap len lcap : Nat} {r : List Int} {zs : List Act3} {w : World} {L : Nat} (hl : r.length = nc) (hR : RI w A r) (hr : Rt r L) (hz : ActsIn w B len zs) (h60 : (len : Int) ≤ 60) :
    Calls Try.prog 6 #[.slice A nc cap, .slice B len lcap] w fun e w' => e = .returned (.bool true) ∧ Below w.heap.size w w' := by
  have hs1 := hr.len_pos
  have hs2 := hr.len_le
  have hpw := hr.pow
  rw [hl] at hs1 hs2 hpw
  have hL9 := hr.le
  have i1 : (nc : Int) ≤ 512 := by omega
  have i1' : (1 : Int) ≤ nc := by omega
  have HL := Lib.hid hl
  have HPW := Lib.hid hpw
  clear hl hpw
  go_enter Try.func6, Try.ntmps6
  go_wp2_with fail
  refine (made_ok HL.out hR hr hz).mono ?_
  generalize w.heap.size + 1 = P
  generalize hG : w.heap.size = G
  have HG := Lib.hid hG
  clear hG
  rintro e w1 ⟨rfl, ⟨t, hm⟩, hb1⟩
  rw [← HG.out] at hb1
  have hr' := hr.playN zs len
  have hlen : (playN r zs len).length = nc := by rw [playN_len, HL.out]
  generalize playN r zs len = q at hm hr' hlen
  have HQ := Lib.hid hlen
  clear hlen
  go_wp2_with fail
  refine (TCounts_ok hm hr').mono ?_
  rintro e w2 ⟨⟨gc, cc, rfl, hgc, hBc⟩, hb2⟩
  have hT : Two w P G (2 * nc) nc gc q q w2 := ⟨⟨t, hm.below' hb2⟩, hBc, below_ge hb1 hb2 (Nat.le_refl _)⟩
  go_wp2_with fail
  refine (TSegs_ok (hm.below' hb2)).mono ?_
  rintro e w3 ⟨rfl, rfl⟩
  clear hm hBc hb2 hb1
  go_wp2_with fail
  go_loopw [10, 11] (fun l s wr => ∃ e : Nat, e ≤ L + 1 ∧ l = .int .i64 e ∧ s = .int .i64 ((2 ^ e : Nat) : Int) ∧ Two w P G (2 * nc) nc gc q q wr) (fun l _ _ => L + 1 - (intOf l).toNat)
  case atStart => exact ⟨0, by omega, rfl, rfl, hT⟩
  case round =>
    obtain ⟨e, he, rfl, rfl, hTe⟩ := hrel
    by_cases hle : e ≤ L
    · have hsplit : 2 ^ (L - e) * 2 ^ e = nc := by rw [HPW.out, ← Nat.pow_add]; congr 1; omega
      have hover : ¬ Win nc (e : Nat) ((2 ^ (L - e) : Nat) : Int) := over_of (by rw [Nat.add_mul, hsplit]; have := pow_pos2 e; omega)
      have hwin : ∀ k, k < 2 ^ (L - e) → (k + 1) * 2 ^ e ≤ nc := fun k hk => by rw [← hsplit]; exact Nat.mul_le_mul_right _ hk
      have hwin' : ∀ k e', k < 2 ^ (L - e) → e = e' + 1 → (2 * k + 1) * 2 ^ e' ≤ nc ∧ (2 * k + 1 + 1) * 2 ^ e' ≤ nc := fun k e' hk h => by
        have h1 := hwin k hk
        subst h
        rw [Nat.pow_succ, ← Nat.mul_assoc, Nat.mul_right_comm, Nat.add_mul, Nat.one_mul, Nat.mul_comm k 2] at h1
        exact ⟨Nat.le_trans (Nat.mul_le_mul_right _ (by omega)) h1, h1⟩
      have hnext : 2 ^ (e + 1) = 2 * 2 ^ e := by rw [Nat.pow_succ, Nat.mul_comm]
      have hk1 := pow_pos2 e
      have hk2 : 2 ^ e ≤ nc := by rw [← hsplit]; exact Nat.le_mul_of_pos_left _ (pow_pos2 _)
      have hm2 : 2 ^ (L - e) ≤ nc := by rw [← hsplit]; exact Nat.le_mul_of_pos_right _ (pow_pos2 _)
      have hdiv : nc / 2 ^ e = 2 ^ (L - e) := by rw [← hsplit]; exact Nat.mul_div_cancel _ (pow_pos2 e)
      have HNX := Lib.hid hnext
      clear hnext hsplit
      generalize hM : 2 ^ (L - e) = M at *
      generalize hK : 2 ^ e = K at *
      have HW := Lib.hid hwin
      have HW' := Lib.hid hwin'
      have HO := Lib.hid hover
      have HKK := Lib.hid hK
      have hq : ((nc : Int)).tdiv (K : Int) = (M : Int) := by rw [Int.tdiv_eq_ediv_of_nonneg (by omega), ← hdiv]; rfl
      clear hwin hwin' hover hM hK hdiv
      have j1 : (1 : Int) ≤ (K : Int) := by omega
      have j2 : (K : Int) ≤ (nc : Int) := by omega
      have j3 : (M : Int) ≤ (nc : Int) := by omega
      have j4 : ((K : Int) == 0) = false := by simp; omega
      have j5 : (e : Int) ≤ 9 := by omega
      have j6 : IntKind.i64.wrap (M : Int) = (M : Int) := IntWalk.i64_in _ (by omega)
      obtain ⟨wo, rfl⟩ : ∃ wo : World, wo = wr := ⟨_, rfl⟩
      go_wp2_with fail
      go_loopw [12] (fun i wr => ∃ k : Nat, k ≤ M ∧ i = .int .i64 k ∧ Two w P G (2 * nc) nc gc q q wr) (fun i _ => M - (intOf i).toNat)
      case atStart => exact ⟨0, Nat.zero_le _, rfl, hTe⟩
      case round =>
        obtain ⟨k, hk, rfl, hTk⟩ := hrel
        by_cases hlt : k < M
        · have hc1 := two_count hTk hr' e k (by rw [HKK.out]; exact HW.out k hlt)
          have hb1 := wn_bd hr' HQ.out (lv := e) (k := k) (by rw [HKK.out]; exact HW.out k hlt)
          have j7 : (0 : Int) ≤ (k : Int) := by omega
          have j8 : (k : Int) < (M : Int) := by omega
          have j9 : (k : Int) < (nc : Int) := by omega
          by_cases he0 : e = 0
          · have v0 : wn q e k = nth q k := by rw [he0, wn_zero]
            have t0 : ((e : Int) == 0) = true := by simp; omega
            rw [v0] at hc1 hb1
            clear v0 he0
            go_wp2_with fail
            refine hc1.mono ?_
            rintro e1 w5 ⟨rfl, hT5⟩
            have hcell := hT5.bi.cell (k := k) (by rw [HQ.out]; omega)
            go_wp2_with fail
            go_roundw
            case rel => exact ⟨k + 1, by omega, by go_num, hT5⟩
            case measure => simp [intOf]; omega
          · obtain ⟨e', hes⟩ : ∃ e', e = e' + 1 := ⟨e - 1, by omega⟩
            obtain ⟨hw1, hw2⟩ := HW'.out k e' hlt hes
            have v0 : wn q e k = wn q e' (2 * k) + wn q e' (2 * k + 1) := by rw [hes, wn_half]
            have t0 : ((e : Int) == 0) = false := by simp; omega
            have t1 : (e : Int) - 1 = (e' : Int) := by omega
            have bx := wn_bd hr' HQ.out hw1
            have bz := wn_bd hr' HQ.out hw2
            have hcx : ∀ W, Two w P G (2 * nc) nc gc q q W → _ := fun W h => two_count (W := W) h hr' e' (2 * k) hw1
            have hcz : ∀ W, Two w P G (2 * nc) nc gc q q W → _ := fun W h => two_count (W := W) h hr' e' (2 * k + 1) hw2
            push_cast at hcx hcz
            rw [v0] at hc1 hb1
            clear v0 he0 hw1 hw2
            have HES := Lib.hid hes
            clear hes
            generalize wn q e' (2 * k) = X at *
            generalize wn q e' (2 * k + 1) = Z at *
            have j10 : (0 : Int) ≤ (e' : Int) := by omega
            have bx1 := bx.1
            have bx2 := bx.2
            have bz1 := bz.1
            have bz2 := bz.2
            have wx : IntKind.i64.wrap (X + Z) = X + Z := IntWalk.i64_in _ (by omega)
            clear bx bz hb1
            go_wp2_with fail
            refine hc1.mono ?_
            rintro e1 w5 ⟨rfl, hT5⟩
            go_wp2_with fail
            refine (hcx _ hT5).mono ?_
            rintro e1 w6 ⟨rfl, hT6⟩
            go_wp2_with fail
            refine (hcz _ hT6).mono ?_
            rintro e1 w7 ⟨rfl, hT7⟩
            go_wp2_with fail
            go_roundw
            case rel => exact ⟨k + 1, by omega, by go_num, hT7⟩
            case measure => simp [intOf]; omega
        · obtain rfl : k = M := by omega
          have ho := two_over hTk hr' _ _ HO.out
          go_wp2_with fail
          refine ho.mono ?_
          rintro e1 w5 ⟨rfl, hT5⟩
          go_wp2_with fail
          go_roundw
          case rel => exact ⟨e + 1, by omega, by go_num, by rw [HNX.out]; go_num, hT5⟩
          case measure => simp [intOf]; omega
    · obtain rfl : e = L + 1 := by omega
      have hgt : nc < 2 ^ (L + 1) := by rw [HPW.out, Nat.pow_succ]; have := pow_pos2 L; omega
      have hall : wn q L 0 = sumR q 0 nc := wn_all hr' HQ.out
      have hc1 := two_count hTe hr' L 0 (by rw [Nat.zero_add, Nat.one_mul, ← HPW.out]; exact Nat.le_refl _)
      have ho : ∀ W, Two w P G (2 * nc) nc gc q q W → _ := fun W h => two_over (W := W) h hr' ((L + 1 : Nat) : Int) ((0 : Nat) : Int) (over_of (by omega))
      have hsb := sumR_bd hr' 0 nc (by rw [HQ.out]; omega)
      rw [hall] at hc1
      generalize 2 ^ (L + 1) = K at hgt ⊢
      have j1 : (nc : Int) < (K : Int) := by omega
      push_cast at hc1 ho
      clear hall hgt
      have j2 : (L : Int) ≤ 9 := by omega
      have j3 : (0 : Int) ≤ (L : Int) := by omega
      go_wp2_with fail
      refine hc1.mono ?_
      rintro e1 w5 ⟨rfl, hT5⟩
      go_wp2_with fail
      refine (ho _ hT5).mono ?_
      rintro e1 w6 ⟨rfl, hT6⟩
      obtain ⟨t6, hm6⟩ := hT6.tm
      have hb6 := hT6.be
      go_wp2_with fail
      refine (TTotal_ok hm6 hr').mono ?_
      rintro e1 w7 ⟨rfl, rfl⟩
      go_wp2_with fail
      refine (awake_any _).mono ?_
      rintro e1 w9 ⟨rfl, hb9⟩
      go_wp2_with fail
      go_ret
      exact ⟨rfl, below_ge hb6 hb9 (Nat.le_refl _)⟩

set_option maxRecDepth 100000 in
theorem TreeHalves_walk (A : Option Addr) (nc cap : Nat) (r : List Int) (B : Option Addr) (len lcap : Nat) (zs : List Act3) (w : World) (hs : IntsIn w A nc r) (hz : ActsIn w B len zs) :
    Calls Try.prog 6 #[.slice A nc cap, .slice B len lcap] w fun e w' => e = .returned (.bool true) ∧ Below w.heap.size w w' := by
  have hm1 := hs.hm
  have hm2 := hz.hm
  have HL := Lib.hid hs.hl
  by_cases h600 : (nc : Int) ≤ 600
  · by_cases h60 : (len : Int) ≤ 60
    · by_cases hp : powB nc = true
      · by_cases hsm : Smalls r
        · obtain ⟨L, hr⟩ := Rt.mk' (by rw [HL.out]; exact hp) hsm
          exact TreeHalves_in HL.out hs.hr hr hz h60
        · have HSM := Lib.hid hsm
          clear hsm
          go_enter Try.func6, Try.ntmps6
          go_wp2_with fail
          refine (made_range HL.out hs.hr hp HSM.out).mono ?_
          rintro e w1 ⟨rfl, rfl⟩
          go_wp2_with fail
          refine (New_range HL.out hs.hr hp HSM.out).mono ?_
          rintro e w1 ⟨rfl, rfl⟩
          go_wp2_with fail
          refine (awake_any _).mono ?_
          rintro e w9 ⟨rfl, hb9⟩
          go_wp2_with fail
          go_ret
          exact ⟨rfl, hb9⟩
      · have hp' : powB nc = false := by simpa using hp
        clear hp
        go_enter Try.func6, Try.ntmps6
        go_wp2_with fail
        refine (made_arg hp' (by omega)).mono ?_
        rintro e w1 ⟨rfl, rfl⟩
        go_wp2_with fail
        refine (New_arg hp' (by omega)).mono ?_
        rintro e w1 ⟨rfl, rfl⟩
        go_wp2_with fail
        refine (awake_any _).mono ?_
        rintro e w9 ⟨rfl, hb9⟩
        go_wp2_with fail
        go_ret
        exact ⟨rfl, hb9⟩
    · have h60' : 60 < (len : Int) := by omega
      clear h60
      go_enter Try.func6, Try.ntmps6
      go_wp2_with fail
      refine (awake_any _).mono ?_
      rintro e w9 ⟨rfl, hb9⟩
      go_wp2_with fail
      go_ret
      exact ⟨rfl, hb9⟩
  · have h600' : 600 < (nc : Int) := by omega
    clear h600
    go_enter Try.func6, Try.ntmps6
    go_wp2_with fail
    refine (awake_any _).mono ?_
    rintro e w9 ⟨rfl, hb9⟩
    go_wp2_with fail
    go_ret
    exact ⟨rfl, hb9⟩
end Go.Proofs.Ytfbjnpbmicbbnaa
