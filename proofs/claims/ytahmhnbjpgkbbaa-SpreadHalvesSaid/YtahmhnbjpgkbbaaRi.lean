/- SpreadRises: slots rise, each segment has as many of them as is its share, and elements of one segment stand at its offsets: the walk of the law. -/
import Derived.Test.YtahmhnbjpgkbbaaAw
namespace Go.Proofs.Ytahmhnbjpgkbbaa
open Go.RowKit
set_option linter.unusedVariables false

theorem nth_prefix {a b : List Int} (h : a <+: b) {i : Nat} (hi : i < a.length) : nth b i = nth a i := by
  obtain ⟨t, rfl⟩ := h
  unfold nth
  simp only [List.getD]
  rw [List.getElem?_append_left hi]
theorem nth_right (a b : List Int) (i : Nat) : nth (a ++ b) (a.length + i) = nth b i := by
  unfold nth
  simp only [List.getD]
  rw [List.getElem?_append_right (by omega), Nat.add_sub_cancel_left]
theorem nth_pl {n first segs : Int} {k j : Nat} (hk : (k : Int) < segs) (hj : j < sN n segs k) : nth (pl n first segs) ((plTo n first segs k).length + j) = 8 * (first + k) + ((j * 8 / sN n segs k : Nat) : Int) := by
  have h1 : plTo n first segs (k + 1) <+: pl n first segs := plTo_prefix n first segs (by omega)
  rw [plTo_succ] at h1
  rw [nth_prefix h1 (by rw [List.length_append, seg_length]; omega), nth_right, nth_seg hj]
theorem plTo_le {n first segs : Int} {k : Nat} (hk : (k : Int) < segs) : (plTo n first segs k).length + sN n segs k ≤ (pl n first segs).length := by
  have h1 : plTo n first segs (k + 1) <+: pl n first segs := plTo_prefix n first segs (by omega)
  rw [plTo_succ] at h1
  have := h1.length_le
  rwa [List.length_append, seg_length] at this

theorem RI.cell0 {w : World} {b : Nat} {xs : List Int} (h : RI w (some ⟨b, 0, none⟩) xs) {k : Nat} (hk : k < xs.length) : w.cell? ⟨b, k, none⟩ = some (.int .i64 (nth xs k)) := by
  obtain ⟨b', off, e, hc⟩ := h (by omega)
  injection e with e
  injection e with e1 e2
  subst e1 e2
  have := hc k hk
  rwa [Nat.zero_add] at this
theorem offs_bd {m j : Nat} (hj : j < m) (hm : m ≤ 8) : 0 ≤ nth (offs m) j ∧ nth (offs m) j ≤ 7 := by
  rw [nth_offs hj]
  have : j * 8 / m < 8 := Nat.div_lt_of_lt_mul (by rw [Nat.mul_comm m 8, Nat.mul_comm j 8]; exact Nat.mul_lt_mul_of_pos_left hj (by decide))
  generalize j * 8 / m = q at this ⊢
  omega
theorem offs_rise {m j : Nat} (hj : j < m) (h0 : 0 < j) (hm : m ≤ 8) : nth (offs m) (j - 1) < nth (offs m) j := by
  rw [nth_offs hj, nth_offs (by omega)]
  have : (j - 1) * 8 / m < j * 8 / m := by
    have h1 : (j - 1) * 8 + m ≤ j * 8 := by omega
    have h2 := Nat.div_le_div_right (c := m) h1
    rw [Nat.add_div_right _ (by omega)] at h2
    omega
  omega

set_option maxRecDepth 100000 in
set_option maxHeartbeats 1600000 in
theorem SpreadRises_walk (n first segs : Int) (w : World) :
    Calls Try.prog 3 #[.int .i64 n, .int .i64 first, .int .i64 segs] w fun e w' => e = .returned (.bool true) ∧ Below w.heap.size w w' := by
  by_cases hok : okB n segs = true
  · by_cases hr : 0 ≤ first ∧ first ≤ 512 - segs
    · obtain ⟨p1, p2, p3, p4⟩ := okB_true hok
      obtain ⟨N, rfl⟩ := Int.eq_ofNat_of_zero_le p3
      have hpl : (pl (N : Int) first segs).length = N := by have := pl_length (first := first) hok; omega
      have HPL := Lib.hid hpl
      have r1 := hr.1
      have r2 := hr.2
      clear hpl
      go_enter Try.func3, Try.ntmps3
      go_wp2_with fail
      refine (Places_ok N first segs _ hok hr).mono ?_
      rintro e w1 ⟨rfl, hr1, hb1⟩
      go_wp2_with fail
      go_loopw [9, 10] (fun a i wr => ∃ k : Nat, (k : Int) ≤ segs ∧ i = .int .i64 k ∧ a = .int .i64 ((plTo N first segs k).length : Nat) ∧ RI wr (some ⟨w.heap.size, 0, none⟩) (pl N first segs) ∧ Below w.heap.size w wr) (fun _ i _ => (segs - intOf i).toNat)
      case atStart => exact ⟨0, by omega, rfl, rfl, hr1, hb1⟩
      case round =>
        clear hr1 hb1
        obtain ⟨k, hk, rfl, rfl, hR, hb⟩ := hrel
        by_cases hlt : (k : Int) < segs
        · have i1 : (0 : Int) ≤ (k : Int) := by omega
          have hle := plTo_le (n := (N : Int)) (first := first) hlt
          rw [HPL.out] at hle
          have hm := sN_eq hok k
          have hm8 := sN_le hok k
          go_wp2_with fail
          refine (Share_ok _ _ _ _ hok ⟨i1, by omega⟩).mono ?_
          rw [← hm]
          rintro e w2 ⟨rfl, hb2⟩
          have hR2 := hR.below hb2 (Nat.le_refl _)
          have hb2' := below_ge hb hb2 (Nat.le_refl _)
          clear hm
          go_wp2_with fail
          refine (Offsets_ok _ _ hm8).mono ?_
          rintro e w3 ⟨rfl, hk3, hs3, hb3⟩
          have HS3 := Lib.hid hs3
          have hR3 := hR2.below hb3 (Nat.le_refl _)
          have hb3' := below_ge hb2' hb3 (Nat.le_refl _)
          have hO3 := RI_of_blk hk3
          clear hs3 hR hb hb2 hR2 hb2' hk3 hb3
          generalize hL : (plTo (N : Int) first segs k).length = a at hle ⊢
          generalize hM : sN (N : Int) segs k = m at hle hm8 hO3 ⊢
          have HL := Lib.hid hL
          have HM := Lib.hid hM
          clear hL hM
          have j1 : (a : Int) + (m : Int) ≤ (N : Int) := by omega
          have j2 : (0 : Int) ≤ (a : Int) := by omega
          have j3 : (0 : Int) ≤ (m : Int) := by omega
          have j4 : (m : Int) ≤ 8 := by omega
          go_wp2_with fail
          obtain ⟨wo, rfl⟩ : ∃ wo : World, wo = wr := ⟨_, rfl⟩
          go_loopw [15] (fun i wr => ∃ j d : Nat, j ≤ m ∧ i = .int .i64 j ∧ wr = w3.drewN d) (fun i _ => m - (intOf i).toNat)
          case atStart => exact ⟨0, 0, Nat.zero_le _, rfl, by simp [World.drewN]⟩
          case round =>
            obtain ⟨j, d, hj, rfl, rfl⟩ := hrel
            by_cases hjt : j < m
            · have c0 := hR3.cell0 (k := a + j) (by rw [HPL.out]; omega)
              have c1 := hO3.cell0 (k := j) (by rw [offs_length]; exact hjt)
              have hv : nth (pl (N : Int) first segs) (a + j) = 8 * (first + k) + nth (offs m) j := by
                have := nth_pl (n := (N : Int)) (first := first) hlt (j := j) (by rw [HM.out]; exact hjt)
                rw [HL.out, HM.out] at this
                rw [this, nth_offs hjt]
              have ob := offs_bd hjt hm8
              rw [hv] at c0
              have k1 : (0 : Int) ≤ (j : Int) := by omega
              have k2 : (j : Int) < (m : Int) := by omega
              by_cases hj0 : 0 < j
              · have c2 := hO3.cell0 (k := j - 1) (by rw [offs_length]; omega)
                have rise := offs_rise hjt hj0 hm8
                generalize nth (offs m) j = x at *
                generalize nth (offs m) (j - 1) = y at *
                have n1 : IntKind.i64.wrap ((a : Int) + (j : Int)) = (a : Int) + (j : Int) := IntWalk.i64_in _ (by omega)
                have n2 : (0 : Int) ≤ (a : Int) + (j : Int) := by omega
                have n3 : ((a : Int) + (j : Int)).toNat = a + j := by omega
                have n4 : (a : Int) + (j : Int) < (N : Int) := by omega
                have n5 : IntKind.i64.wrap (first + (k : Int)) = first + (k : Int) := IntWalk.i64_in _ (by omega)
                have n6 : IntKind.i64.wrap (8 * (first + (k : Int))) = 8 * (first + (k : Int)) := IntWalk.i64_in _ (by omega)
                have n7 : IntKind.i64.wrap (8 * (first + (k : Int)) + x) = 8 * (first + (k : Int)) + x := IntWalk.i64_in _ (by omega)
                have n8 : IntKind.i64.wrap ((j : Int) - 1) = (j : Int) - 1 := IntWalk.i64_in _ (by omega)
                have n9 : (0 : Int) ≤ (j : Int) - 1 := by omega
                have n9' : (1 : Int) ≤ (j : Int) := by omega
                have n10 : ((j : Int) - 1).toNat = j - 1 := by omega
                have n11 : (j : Int) - 1 < (m : Int) := by omega
                have t0 : ((8 * (first + (k : Int)) + x) != (8 * (first + (k : Int)) + x)) = false := by simp
                have t1 : decide (x < 0) = false := by simp; omega
                have t2 : decide (7 < x) = false := by simp; omega
                have t3 : decide ((0 : Int) < (j : Int)) = true := by simp; omega
                have t3' : decide (0 < j) = true := by simp; omega
                have t4 : decide (x ≤ y) = false := by simp; omega
                go_wp2_with fail
                go_quiet (fail)
                go_wp2_with fail
                go_roundw
                case rel => exact ⟨j + 1, d + nq, by omega, by go_num, by first | rfl | rw [World.drewN_drewN]⟩
                case measure => simp [intOf]; omega
              · generalize nth (offs m) j = x at *
                have n1 : IntKind.i64.wrap ((a : Int) + (j : Int)) = (a : Int) + (j : Int) := IntWalk.i64_in _ (by omega)
                have n2 : (0 : Int) ≤ (a : Int) + (j : Int) := by omega
                have n3 : ((a : Int) + (j : Int)).toNat = a + j := by omega
                have n4 : (a : Int) + (j : Int) < (N : Int) := by omega
                have n5 : IntKind.i64.wrap (first + (k : Int)) = first + (k : Int) := IntWalk.i64_in _ (by omega)
                have n6 : IntKind.i64.wrap (8 * (first + (k : Int))) = 8 * (first + (k : Int)) := IntWalk.i64_in _ (by omega)
                have n7 : IntKind.i64.wrap (8 * (first + (k : Int)) + x) = 8 * (first + (k : Int)) + x := IntWalk.i64_in _ (by omega)
                have t0 : ((8 * (first + (k : Int)) + x) != (8 * (first + (k : Int)) + x)) = false := by simp
                have t1 : decide (x < 0) = false := by simp; omega
                have t2 : decide (7 < x) = false := by simp; omega
                have t3 : decide ((0 : Int) < (j : Int)) = false := by simp; omega
                have t3' : decide (0 < j) = false := by simp; omega
                go_wp2_with fail
                go_quiet (fail)
                go_wp2_with fail
                go_roundw
                case rel => exact ⟨j + 1, d + nq, by omega, by go_num, by first | rfl | rw [World.drewN_drewN]⟩
                case measure => simp [intOf]; omega
            · obtain rfl : j = m := by omega
              go_wp2_with fail
              go_roundw
              case rel => exact ⟨k + 1, by omega, by go_num, by rw [plTo_succ, List.length_append, seg_length, HL.out, HM.out]; go_num, hR3.drewN d, below_drewN hb3' d⟩
              case measure => simp [intOf]; omega
        · obtain rfl : (k : Int) = segs := by omega
          have ha : (plTo (N : Int) first (k : Int) k).length = N := by
            have := HPL.out
            unfold pl at this
            simpa using this
          rw [ha]
          have t1 : ((N : Int) == (N : Int)) = true := by simp
          go_wp2_with fail
          refine (awake_any _).mono ?_
          rintro e w2 ⟨rfl, hb2⟩
          go_wp2_with fail
          go_ret
          exact ⟨rfl, below_ge hb hb2 (Nat.le_refl _)⟩
    · go_enter Try.func3, Try.ntmps3
      have HR := Lib.hid hr
      clear hr
      go_wp2_with fail
      refine (Places_range _ _ _ _ hok HR.out).mono ?_
      rintro e w1 ⟨rfl, rfl⟩
      go_wp2_with fail
      refine (awake_any _).mono ?_
      rintro e w2 ⟨rfl, hb2⟩
      go_wp2_with fail
      go_ret
      exact ⟨rfl, hb2⟩
  · have hok' : okB n segs = false := by simpa using hok
    clear hok
    go_enter Try.func3, Try.ntmps3
    go_wp2_with fail
    refine (Places_arg _ _ _ _ hok').mono ?_
    rintro e w1 ⟨rfl, rfl⟩
    go_wp2_with fail
    refine (awake_any _).mono ?_
    rintro e w2 ⟨rfl, hb2⟩
    go_wp2_with fail
    go_ret
    exact ⟨rfl, hb2⟩
end Go.Proofs.Ytahmhnbjpgkbbaa
