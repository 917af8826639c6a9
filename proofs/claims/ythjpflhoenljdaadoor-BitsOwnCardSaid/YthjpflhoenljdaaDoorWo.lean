/- BitsOwn: the walk of the law. -/
import Derived.Test.YthjpflhoenljdaaDoorBo
namespace Go.Proofs.YthjpflhoenljdaaDoor
open Go.RowKit
set_option linter.unusedVariables false

set_option maxRecDepth 1000000 in
set_option maxHeartbeats 6400000 in
theorem BitsOwn_walk (n : Int) (B : Option Addr) (len lcap : Nat) (zs : List Act2) (at_ : Int) (w : World) (hT : Tab w) (bn : -9223372036854775808 ≤ n ∧ n ≤ 9223372036854775807) (hz : ActsIn w B len zs)
    (bd : -9223372036854775808 ≤ at_ ∧ at_ ≤ 9223372036854775807) (hcb : len ≤ lcap ∧ (B = none → len = 0 ∧ lcap = 0)) :
    Calls Tryd.prog 8 #[.int .i64 n, .slice B len lcap, .int .i64 at_] w fun e w' => e = .returned (.bool true) ∧ Below w.heap.size w w' := by
  have hm2 := hz.hm
  have HCB := Lib.hid hcb
  clear hcb
  go_enter Tryd.func8, Tryd.ntmps8
  go_wp2_with fail
  refine (nil_Range w).mono ?_
  rintro e w1 ⟨rfl, rfl⟩
  go_wp2_with fail
  refine (nil_Len w).mono ?_
  rintro e w1 ⟨rfl, rfl⟩
  go_wp2_with fail
  refine (nil_Set w).mono ?_
  rintro e w1 ⟨rfl, rfl⟩
  go_wp2_with fail
  refine (nil_Has w).mono ?_
  rintro e w1 ⟨rfl, rfl⟩
  go_wp2_with fail
  refine (nil_Count w).mono ?_
  rintro e w1 ⟨rfl, rfl⟩
  go_wp2_with fail
  refine (nil_Next w).mono ?_
  rintro e w1 ⟨rfl, rfl⟩
  go_wp2_with fail
  refine (nil_Prev w).mono ?_
  rintro e w1 ⟨rfl, rfl⟩
  go_wp2_with fail
  refine (nil_Nth w).mono ?_
  rintro e w1 ⟨rfl, rfl⟩
  go_wp2_with fail
  refine (nil_Words w).mono ?_
  rintro e w1 ⟨rfl, rfl⟩
  go_wp2_with fail
  refine (nil_Clone w).mono ?_
  rintro e w1 ⟨rfl, rfl⟩
  by_cases hin : ((1 ≤ n ∧ n ≤ 300) ∧ (len : Int) ≤ 60) ∧ 0 ≤ at_ ∧ at_ ≤ len
  · obtain ⟨⟨⟨i1, i2⟩, i2'⟩, i3, i4⟩ := hin
    obtain ⟨a, rfl⟩ := Int.eq_ofNat_of_zero_le i3
    obtain ⟨N, rfl⟩ := Int.eq_ofNat_of_zero_le (show 0 ≤ n by omega)
    have ha : a ≤ len := by omega
    obtain ⟨B', hsl, hzs⟩ := slice_to (B := B) (zs := zs) ha HCB.out.1
    have j0 : decide ((N : Int) < 1) = false := by simp; omega
    have j1 : decide (300 < (N : Int)) = false := by simp; omega
    have j2 : decide (60 < (len : Int)) = false := by simp; omega
    have j3 : decide ((a : Int) < 0) = false := by simp
    have j4 : decide ((len : Int) < (a : Int)) = false := by simp; omega
    have j5 : decide (len < a) = false := by simp; omega
    have ia : (a : Int) ≤ (len : Int) := by omega
    have hN1 : 1 ≤ N := by omega
    have hN2 : N ≤ 65536 := by omega
    have hnw := nw_bd ⟨hN1, hN2⟩
    have HA := Lib.hid ha
    clear ha i3 i4
    go_wp2_with fail
    refine (made_ok hN1 hN2 (hzs _ hz)).mono ?_
    rw [playB_take _ zs a a (Nat.le_refl _)]
    generalize w.heap.size + 1 = P1
    generalize hG : w.heap.size = G1
    have HG1 := Lib.hid hG
    clear hG
    rintro e w1 ⟨Q1, -, rfl, hD1, -, -⟩
    have hm1 := hD1.bm
    have hb1 : Below w.heap.size w w1 := hD1.be
    clear hD1
    have o1 := hm1.hp.lt
    have o2 := hm1.hg.lt
    go_wp2_with fail
    refine (made_ok hN1 hN2 (hzs _ (hz.below hb1))).mono ?_
    rw [playB_take _ zs a a (Nat.le_refl _)]
    generalize w1.heap.size + 1 = P2
    generalize hG : w1.heap.size = G2 at o1 o2 ⊢
    have HG2 := Lib.hid hG
    clear hG
    rintro e w2 ⟨Q2, -, rfl, hD2, -, -⟩
    have hm2' := hD2.bm
    have hb2 : Below w1.heap.size w1 w2 := hD2.be
    clear hD2
    have hm12 := hm1.below hb2
    have hb12 := below_ge hb1 hb2 (Nat.le_refl _)
    go_wp2_with fail
    refine (made_ok hN1 hN2 (hz.below hb12)).mono ?_
    generalize w2.heap.size + 1 = P3
    generalize hG : w2.heap.size = G3
    have HG3 := Lib.hid hG
    clear hG
    rintro e w3 ⟨Q3, -, rfl, hD3, -, -⟩
    have hm33 := hD3.bm
    have hb3 : Below w2.heap.size w2 w3 := hD3.be
    clear hD3
    have hm13 := hm12.below hb3
    have hm23 := hm2'.below hb3
    have hb13 := below_ge hb12 hb3 (Nat.le_refl _)
    clear hm1 hm2' hm12 hb1 hb2 hb3 hb12 hsl
    go_wp2_with fail
    refine (BClone_ok hm13).mono ?_
    rintro e w4 ⟨⟨P4, G4, c4, rfl, o3, o4, hc4⟩, hb4⟩
    go_wp2_with fail
    refine (BWords_ok hc4).mono ?_
    rintro e w5 ⟨⟨g5, cap5, rfl, -, hB5⟩, hb5⟩
    have hb45 := below_ge hb4 hb5 (Nat.le_refl _)
    have hc5 := hc4.below hb5
    go_wp2_with fail
    refine (BWords_ok (hm13.below hb45)).mono ?_
    rintro e w6 ⟨⟨g6, cap6, rfl, -, hB6⟩, hb6⟩
    have hb46 := below_ge hb45 hb6 (Nat.le_refl _)
    have hc6 := hc5.below hb6
    have hB56 := hB5.below hb6 hB5.lt
    go_wp2_with fail
    refine (words_same hB56 hB6 (by omega)).mono ?_
    rintro e w7 ⟨rfl, hb7⟩
    have hb47 := below_ge hb46 hb7 (Nat.le_refl _)
    have hc7 := hc6.below hb7
    clear hc4 hc5 hc6 hB5 hB6 hB56 hb4 hb5 hb6 hb7 hb45 hb46
    go_wp2_with fail
    refine (BLen_ok hc7).mono ?_
    rintro e w8 ⟨rfl, rfl⟩
    go_wp2_with fail
    go_loopw [17] (fun i wr => ∃ k : Nat, a ≤ k ∧ k ≤ len ∧ i = .int .i64 k ∧ BM wr P4 G4 c4 N (playB (offs N) zs k) ∧ Below w3.heap.size w3 wr) (fun i _ => len - (intOf i).toNat)
    case atStart => exact ⟨a, Nat.le_refl _, HA.out, rfl, hc7, hb47⟩
    case round =>
      obtain ⟨k, hak, hk, rfl, hck, hb⟩ := hrel
      by_cases hlt : k < len
      · obtain ⟨ab, aoff, rfl, q0, q1⟩ := (hz.below (below_ge hb13 hb (Nat.le_refl _))).at_ hlt
        have l1 : (0 : Int) ≤ (k : Int) := by omega
        have l2 : (k : Int) < (len : Int) := by omega
        have HPS := Lib.hid (playB_succ (offs N) zs k)
        have hset := BSet_any (hck.drewN 1) (act zs k).i (act zs k).b
        have hbd := below_drewN hb 1
        go_wp2_with fail
        go_still_tail 11, (by kernel_rfl)
        change wpList _ _ _ _ _ wr.drew
        have hdr : wr.drew = wr.drewN 1 := rfl
        rw [hdr]
        clear hdr hck hb
        generalize wr.drewN 1 = w8 at *
        go_wp2_with fail
        refine hset.mono ?_
        rintro e w9 ⟨rfl, hc9, hg9⟩
        go_wp2_with fail
        go_roundw
        case rel => exact ⟨k + 1, by omega, by omega, by go_num, by rw [HPS.out]; exact hc9, hbd.grown hg9 hbd.size (row_some o4)⟩
        case measure => simp [intOf]; omega
      · obtain rfl : k = len := by omega
        obtain ⟨wo, rfl⟩ : ∃ wo : World, wo = wr := ⟨_, rfl⟩
        have hmA := hm13.below hb
        have hmB := hm23.below hb
        have hmC := hm33.below hb
        have hbw := below_ge hb13 hb (Nat.le_refl _)
        generalize playB (offs N) zs a = q at *
        generalize playB (offs N) zs k = qa at *
        clear hm13 hm23 hm33 hb13 hb47 hc7 hb
        go_wp2_with fail
        refine (BWords_ok hmA).mono ?_
        rintro e w8 ⟨⟨gw, capw, rfl, o5, hBw⟩, hb8⟩
        generalize hM : nw N = M at *
        have HM := Lib.hid hM
        have iM : (M : Int) ≤ 1024 := by omega
        clear hM
        go_wp2_with fail
        go_loopw [19] (fun i wr => ∃ (j : Nat) (f : Nat → Nat), j ≤ M ∧ i = .int .i64 j ∧ BW wr gw f M ∧ Below wo.heap.size wo wr) (fun i _ => M - (intOf i).toNat)
        case atStart => exact ⟨0, _, Nat.zero_le _, rfl, hBw, hb8⟩
        case round =>
          obtain ⟨j, f, hj, rfl, hBj, hbj⟩ := hrel
          by_cases hlt : j < M
          · have cg := hBj.cell hlt
            have fg := hBj.frozen j
            have l1 : (0 : Int) ≤ (j : Int) := by omega
            have l2 : (j : Int) < (M : Int) := by omega
            have hput := hBj.put j 18446744073709551615
            go_wp2_with fail
            go_roundw
            case rel => exact ⟨j + 1, _, by omega, by go_num, hput, hbj.setCell o5 _⟩
            case measure => simp [intOf]; omega
          · obtain rfl : j = M := by omega
            have hA2 := hmA.below hbj
            have hB2 := hmB.below hbj
            have hC2 := hmC.below hbj
            have hD2 := hck.below hbj
            have hb2 := below_ge hbw hbj (Nat.le_refl _)
            clear hmA hmB hmC hck hbw hbj hBj hBw hb8
            go_wp2_with fail
            refine (BWords_ok hA2).mono ?_
            rintro e v1 ⟨⟨g1, cap1, rfl, -, hW1⟩, e1⟩
            go_wp2_with fail
            refine (BWords_ok (hB2.below e1)).mono ?_
            rintro e v2 ⟨⟨g2, cap2, rfl, -, hW2⟩, e2⟩
            have hW12 := hW1.below e2 hW1.lt
            rw [HM.out] at hW12 hW2 ⊢
            go_wp2_with fail
            refine (words_same hW12 hW2 (by omega)).mono ?_
            rintro e v3 ⟨rfl, e3⟩
            have f3 := below_ge (below_ge e1 e2 (Nat.le_refl _)) e3 (Nat.le_refl _)
            go_wp2_with fail
            refine (BWords_ok (hD2.below f3)).mono ?_
            rintro e v4 ⟨⟨g4, cap4, rfl, -, hW4⟩, e4⟩
            have f4 := below_ge f3 e4 (Nat.le_refl _)
            go_wp2_with fail
            refine (BWords_ok (hC2.below f4)).mono ?_
            rintro e v5 ⟨⟨g5, cap5, rfl, -, hW5⟩, e5⟩
            have f5 := below_ge f4 e5 (Nat.le_refl _)
            have hW45 := hW4.below e5 hW4.lt
            rw [HM.out] at hW45 hW5 ⊢
            go_wp2_with fail
            refine (words_same hW45 hW5 (by omega)).mono ?_
            rintro e v6 ⟨rfl, e6⟩
            have f6 := below_ge f5 e6 (Nat.le_refl _)
            have hb6 := below_ge hb2 f6 (Nat.le_refl _)
            go_wp2_with fail
            refine (awake_any _ (hT.below hb6)).mono ?_
            rintro e v7 ⟨rfl, e7⟩
            go_wp2_with fail
            go_ret
            exact ⟨rfl, below_ge hb6 e7 (Nat.le_refl _)⟩
  · by_cases h1 : 1 ≤ n
    · by_cases h2 : n ≤ 300
      · by_cases h3 : (len : Int) ≤ 60
        · by_cases h4 : 0 ≤ at_
          · have h5 : (len : Int) < at_ := by omega
            clear hin
            go_wp2_with fail
            refine (awake_any _ hT).mono ?_
            rintro e w9 ⟨rfl, hb9⟩
            go_wp2_with fail
            go_ret
            exact ⟨rfl, hb9⟩
          · have h4' : at_ < 0 := by omega
            clear hin h4
            go_wp2_with fail
            refine (awake_any _ hT).mono ?_
            rintro e w9 ⟨rfl, hb9⟩
            go_wp2_with fail
            go_ret
            exact ⟨rfl, hb9⟩
        · have h3' : 60 < (len : Int) := by omega
          clear hin h3
          go_wp2_with fail
          refine (awake_any _ hT).mono ?_
          rintro e w9 ⟨rfl, hb9⟩
          go_wp2_with fail
          go_ret
          exact ⟨rfl, hb9⟩
      · have h2' : 300 < n := by omega
        clear hin h2
        go_wp2_with fail
        refine (awake_any _ hT).mono ?_
        rintro e w9 ⟨rfl, hb9⟩
        go_wp2_with fail
        go_ret
        exact ⟨rfl, hb9⟩
    · have h1' : n < 1 := by omega
      clear hin h1
      go_wp2_with fail
      refine (awake_any _ hT).mono ?_
      rintro e w9 ⟨rfl, hb9⟩
      go_wp2_with fail
      go_ret
      exact ⟨rfl, hb9⟩
end Go.Proofs.YthjpflhoenljdaaDoor
