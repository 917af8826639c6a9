/- BitsPlays: the walk of the law. -/
import Derived.Test.YthjpflhoenljdaaDoorBp
namespace Go.Proofs.YthjpflhoenljdaaDoor
open Go.RowKit
set_option linter.unusedVariables false

set_option maxRecDepth 1000000 in
set_option maxHeartbeats 3200000 in
theorem BitsPlays_in {B : Option Addr} {c' N len : Nat} {zs : List Act2} {i : Int} {w : World} (hT : Tab w) (h1 : 1 ≤ N) (h300 : N ≤ 300) (hl : len ≤ 100) (hz : ActsIn w B len zs) :
    Calls Tryd.prog 6 #[.int .i64 (N : Nat), .slice B len c', .int .i64 i] w fun e w' => e = .returned (.bool true) ∧ Below w.heap.size w w' := by
  have i1 : (1 : Int) ≤ (N : Int) := by omega
  have i2 : (N : Int) ≤ 300 := by omega
  have i3 : (len : Int) ≤ 100 := by omega
  have g1 : decide ((N : Int) < 1) = false := by simp; omega
  have g2 : decide (300 < (N : Int)) = false := by simp; omega
  have g3 : decide (100 < (len : Int)) = false := by simp; omega
  have hmk := make_bools N (by omega)
  have hnw := nw_bd ⟨h1, (by omega : N ≤ 65536)⟩
  go_enter Tryd.func6, Tryd.ntmps6
  go_wp2_with fail
  refine (BNew_ok N h1 (by omega) w).mono ?_
  generalize hP : w.heap.size + 1 = P
  generalize hG : w.heap.size = G
  have HG := Lib.hid hG
  have hGP : G ≤ P := by omega
  clear hG hP
  rintro e w1 ⟨rfl, hm, hb⟩
  rw [← HG.out] at hb
  have hGa : w.heap.size ≤ G := by rw [HG.out]; exact Nat.le_refl _
  have hPl := hm.hp.lt
  have hGl := hm.hg.lt
  have hD : Duo w P G w1.heap.size N (offs N) (offs N) (w1.alloc (.cells (falses N) 4)) := ⟨hm.alloc _, BB_offs (Blk.made w1 4 (falses N)), hb.alloc hb.size _⟩
  have hsz := hb.size
  generalize hQ : w1.heap.size = Q at *
  have HQ := Lib.hid hQ
  have hQa : w.heap.size ≤ Q := by omega
  have n1 : Q ≠ G := by omega
  have n2 : Q ≠ P := by omega
  clear hm hb hQ
  go_wp2_with fail
  rw [HQ.out]
  generalize w1.alloc (.cells (falses N) 4) = w2 at hD ⊢
  go_loopw [10] (fun j wr => ∃ k : Nat, k ≤ len ∧ j = .int .i64 k ∧ Duo w P G Q N (playB (offs N) zs k) (playB (offs N) zs k) wr) (fun j _ => len - (intOf j).toNat)
  case atStart => exact ⟨0, Nat.zero_le _, rfl, hD⟩
  case round =>
    obtain ⟨k, hk, rfl, hDk⟩ := hrel
    by_cases hlt : k < len
    · have hzk := hz.below hDk.be
      obtain ⟨ab, aoff, rfl, q0, q1⟩ := hzk.at_ hlt
      have j0 : (0 : Int) ≤ (k : Int) := by omega
      have j1 : (k : Int) < (len : Int) := by omega
      have hyl : (playB (offs N) zs k).length = N := by rw [playB_len, offs_len]
      have HPS := Lib.hid (playB_succ (offs N) zs k)
      have HYL := Lib.hid hyl
      clear hyl hzk
      generalize playB (offs N) zs k = y at *
      by_cases hin : 0 ≤ (act zs k).i ∧ (act zs k).i < (N : Int)
      · obtain ⟨I, hI⟩ := Int.eq_ofNat_of_zero_le hin.1
        have es : setB y (act zs k).i (act zs k).b = (y.set I (act zs k).b, 0) := by
          unfold setB
          rw [HYL.out, if_pos hin, hI, Int.toNat_natCast]
        have hst := HPS.out
        rw [es] at hst
        have HST := Lib.hid hst
        have b1 : (I : Int) < (N : Int) := by rw [← hI]; exact hin.2
        have b0 : (0 : Int) ≤ (I : Int) := by omega
        clear hst hin
        have hyl2 : (y.set I (act zs k).b).length = N := by rw [List.length_set, HYL.out]
        have HYL2 := Lib.hid hyl2
        clear hyl2
        have hDp := (hDk.drewN 1).put (fun e => n1 e.symm) (fun e => n2 e.symm) hQa (i := I) (by rw [HYL.out]; omega) (act zs k).b
        have fq := (hDk.drewN 1).bb.frozen I
        have cq := (hDk.drewN 1).bb.cell (k := I) (by rw [HYL.out]; omega)
        rw [hI] at q0 es
        have HES := Lib.hid es
        have HI := Lib.hid hI
        clear hI es
        go_wp2_with fail
        go_still_tail 12, (by kernel_rfl)
        change wpList _ _ _ _ _ wr.drew
        have hdr : wr.drew = wr.drewN 1 := rfl
        rw [hdr]
        clear hdr
        have q0' : (wr.drewN 1).cell? ⟨ab, aoff + k * 2, none⟩ = some (.int .i64 (I : Int)) := q0
        have q1' : (wr.drewN 1).cell? ⟨ab, aoff + k * 2 + 1, none⟩ = some (.bool (act zs k).b) := q1
        clear hDk q0 q1
        generalize wr.drewN 1 = w3 at *
        have hq4 := hz.same hDp.be hlt
        rw [HI.out] at hq4
        have HQ4 := Lib.hid hq4
        clear hq4
        have l0 := (hz.below (hDp.be)).at_ hlt
        clear l0
        go_wp2_with fail
        generalize w3.setCell ⟨Q, I, none⟩ (.bool (act zs k).b) = w4 at *
        obtain ⟨q0, q1⟩ := HQ4.out
        have hD4 : Duo w P G Q N y (y.set I (act zs k).b) w4.drew := hDp.drewN 1
        have hset := duo_set hD4 n1 hGa (I : Int) (act zs k).b
        rw [HES.out] at hset
        generalize y.set I (act zs k).b = y2 at *
        have hrg : ∀ W, BB W Q y2 → Calls Tryd.prog 12 #[.slice (some ⟨Q, 0, none⟩) N N, .int .i64 0, .int .i64 (N : Nat)] W fun e w' => e = .returned (.int .i64 (cnt y2 N : Nat)) ∧ W = w' := fun W h => by
          have := RRange_ok (c := N) h HYL2.out (by omega) 0 N (Nat.zero_le _) (Nat.le_refl _)
          rw [show cnt y2 0 = 0 from rfl, Nat.sub_zero] at this
          exact this
        clear hDp fq cq
        go_region_held3 (fun W => W.cell? ⟨ab, aoff + k * 2, none⟩ = some (.int .i64 (I : Int)) ∧ W.cell? ⟨ab, aoff + k * 2 + 1, none⟩ = some (.bool (act zs k).b))
          (first | exact ⟨q0, q1⟩ | exact ⟨p0, p1⟩)
          (first
            | (go_at_call 20; refine hset.mono ?_; rintro e w5 ⟨rfl, hD5⟩; have hq5 := hz.same hD5.be hlt; rw [HI.out] at hq5; have p0 := hq5.1; have p1 := hq5.2)
            | (go_at_call 23; refine (BCount_ok hD5.bm).mono ?_; rintro e w6 ⟨rfl, rfl⟩)
            | (go_at_call 12; refine (hrg _ hD5.bb).mono ?_; rintro e w6 ⟨rfl, rfl⟩))
        all_goals go_wp2_with fail
        all_goals go_roundw
        all_goals first
          | (simp [intOf]; omega)
          | exact ⟨k + 1, by omega, by go_num, by rw [HST.out]; exact hD5⟩
      · have es : setB y (act zs k).i (act zs k).b = (y, 10) := by
          unfold setB
          rw [HYL.out, if_neg hin]
        have hst := HPS.out
        rw [es] at hst
        have HST := Lib.hid hst
        have hD4 : Duo w P G Q N y y wr.drew := hDk.drewN 1
        have hset := duo_set hD4 n1 hGa (act zs k).i (act zs k).b
        rw [es] at hset
        have hrg : ∀ W, BB W Q y → Calls Tryd.prog 12 #[.slice (some ⟨Q, 0, none⟩) N N, .int .i64 0, .int .i64 (N : Nat)] W fun e w' => e = .returned (.int .i64 (cnt y N : Nat)) ∧ W = w' := fun W h => by
          have := RRange_ok (c := N) h HYL.out (by omega) 0 N (Nat.zero_le _) (Nat.le_refl _)
          rw [show cnt y 0 = 0 from rfl, Nat.sub_zero] at this
          exact this
        clear es hst
        by_cases hneg : (act zs k).i < 0
        · have t1 : decide (0 ≤ (act zs k).i) = false := by simp; omega
          clear hin hneg
          go_wp2_with fail
          go_region_held3 (fun W => W.cell? ⟨ab, aoff + k * 2, none⟩ = some (.int .i64 (act zs k).i) ∧ W.cell? ⟨ab, aoff + k * 2 + 1, none⟩ = some (.bool (act zs k).b))
            (first | exact ⟨q0, q1⟩ | exact hq5)
            (first
              | (go_at_call 20; refine hset.mono ?_; rintro e w5 ⟨rfl, hD5⟩; have hq5 := hz.same hD5.be hlt)
              | (go_at_call 23; refine (BCount_ok hD5.bm).mono ?_; rintro e w6 ⟨rfl, rfl⟩)
              | (go_at_call 12; refine (hrg _ hD5.bb).mono ?_; rintro e w6 ⟨rfl, rfl⟩))
          all_goals go_wp2_with fail
          all_goals go_roundw
          all_goals first
            | (simp [intOf]; omega)
            | exact ⟨k + 1, by omega, by go_num, by rw [HST.out]; exact hD5⟩
        · have t1 : decide (0 ≤ (act zs k).i) = true := by simp; omega
          have t2 : decide ((act zs k).i < (N : Int)) = false := by simp; omega
          clear hin hneg
          go_wp2_with fail
          go_region_held3 (fun W => W.cell? ⟨ab, aoff + k * 2, none⟩ = some (.int .i64 (act zs k).i) ∧ W.cell? ⟨ab, aoff + k * 2 + 1, none⟩ = some (.bool (act zs k).b))
            (first | exact ⟨q0, q1⟩ | exact hq5)
            (first
              | (go_at_call 20; refine hset.mono ?_; rintro e w5 ⟨rfl, hD5⟩; have hq5 := hz.same hD5.be hlt)
              | (go_at_call 23; refine (BCount_ok hD5.bm).mono ?_; rintro e w6 ⟨rfl, rfl⟩)
              | (go_at_call 12; refine (hrg _ hD5.bb).mono ?_; rintro e w6 ⟨rfl, rfl⟩))
          all_goals go_wp2_with fail
          all_goals go_roundw
          all_goals first
            | (simp [intOf]; omega)
            | exact ⟨k + 1, by omega, by go_num, by rw [HST.out]; exact hD5⟩
    · obtain rfl : k = len := by omega
      have hrl : (playB (offs N) zs k).length = N := by rw [playB_len, offs_len]
      generalize playB (offs N) zs k = r at *
      have HRL := Lib.hid hrl
      obtain ⟨hbm, hbb, hbe⟩ := hDk
      have hhas := BHas_any hbm i
      have hlen := BLen_ok hbm
      clear hrl
      by_cases hi : 0 ≤ i ∧ i < (N : Int)
      · obtain ⟨I, hI⟩ := Int.eq_ofNat_of_zero_le hi.1
        subst hI
        have b1 := hi.2
        have b0 := hi.1
        rw [hasB_nat] at hhas
        have cI := hbb.cell (k := I) (by rw [HRL.out]; omega)
        clear hi
        cases ho : on r I
        · rw [ho] at hhas cI
          have HO := Lib.hid ho
          clear ho
          go_wp2_with fail
          refine hlen.mono ?_
          rintro e w3 ⟨rfl, rfl⟩
          go_wp2_with fail
          refine hhas.mono ?_
          rintro e w3 ⟨rfl, rfl⟩
          go_wp2_with fail
          refine (BWords_ok hbm).mono ?_
          rintro e v1 ⟨⟨g1, cap1, rfl, -, hW1⟩, e1⟩
          go_wp2_with fail
          refine (RWords_ok (c := N) (hbb.below e1) HRL.out h1 (by omega)).mono ?_
          rintro e v2 ⟨⟨g2, cap2, rfl, -, hW2⟩, e2⟩
          have hW12 := hW1.below e2 hW1.lt
          go_wp2_with fail
          refine (words_same hW12 hW2 (by omega)).mono ?_
          rintro e v3 ⟨rfl, e3⟩
          have f3 := below_ge (below_ge e1 e2 (Nat.le_refl _)) e3 (Nat.le_refl _)
          have hb3 := below_ge hbe f3 (Nat.le_refl _)
          go_wp2_with fail
          refine (awake_any _ (hT.below hb3)).mono ?_
          rintro e v7 ⟨rfl, e7⟩
          go_wp2_with fail
          go_ret
          exact ⟨rfl, below_ge hb3 e7 (Nat.le_refl _)⟩
        · rw [ho] at hhas cI
          have HO := Lib.hid ho
          clear ho
          go_wp2_with fail
          refine hlen.mono ?_
          rintro e w3 ⟨rfl, rfl⟩
          go_wp2_with fail
          refine hhas.mono ?_
          rintro e w3 ⟨rfl, rfl⟩
          go_wp2_with fail
          refine (BWords_ok hbm).mono ?_
          rintro e v1 ⟨⟨g1, cap1, rfl, -, hW1⟩, e1⟩
          go_wp2_with fail
          refine (RWords_ok (c := N) (hbb.below e1) HRL.out h1 (by omega)).mono ?_
          rintro e v2 ⟨⟨g2, cap2, rfl, -, hW2⟩, e2⟩
          have hW12 := hW1.below e2 hW1.lt
          go_wp2_with fail
          refine (words_same hW12 hW2 (by omega)).mono ?_
          rintro e v3 ⟨rfl, e3⟩
          have f3 := below_ge (below_ge e1 e2 (Nat.le_refl _)) e3 (Nat.le_refl _)
          have hb3 := below_ge hbe f3 (Nat.le_refl _)
          go_wp2_with fail
          refine (awake_any _ (hT.below hb3)).mono ?_
          rintro e v7 ⟨rfl, e7⟩
          go_wp2_with fail
          go_ret
          exact ⟨rfl, below_ge hb3 e7 (Nat.le_refl _)⟩
      · have hho : hasB r i = false := by
          unfold hasB
          by_cases h0 : 0 ≤ i
          · rw [on_end (by rw [HRL.out]; omega)]; simp
          · rw [decide_eq_false h0]; rfl
        rw [hho] at hhas
        clear hho
        by_cases hneg : i < 0
        · have t1 : decide (0 ≤ i) = false := by simp; omega
          clear hi hneg
          go_wp2_with fail
          refine hlen.mono ?_
          rintro e w3 ⟨rfl, rfl⟩
          go_wp2_with fail
          refine hhas.mono ?_
          rintro e w3 ⟨rfl, rfl⟩
          go_wp2_with fail
          refine (BWords_ok hbm).mono ?_
          rintro e v1 ⟨⟨g1, cap1, rfl, -, hW1⟩, e1⟩
          go_wp2_with fail
          refine (RWords_ok (c := N) (hbb.below e1) HRL.out h1 (by omega)).mono ?_
          rintro e v2 ⟨⟨g2, cap2, rfl, -, hW2⟩, e2⟩
          have hW12 := hW1.below e2 hW1.lt
          go_wp2_with fail
          refine (words_same hW12 hW2 (by omega)).mono ?_
          rintro e v3 ⟨rfl, e3⟩
          have f3 := below_ge (below_ge e1 e2 (Nat.le_refl _)) e3 (Nat.le_refl _)
          have hb3 := below_ge hbe f3 (Nat.le_refl _)
          go_wp2_with fail
          refine (awake_any _ (hT.below hb3)).mono ?_
          rintro e v7 ⟨rfl, e7⟩
          go_wp2_with fail
          go_ret
          exact ⟨rfl, below_ge hb3 e7 (Nat.le_refl _)⟩
        · have t1 : decide (0 ≤ i) = true := by simp; omega
          have t2 : decide (i < (N : Int)) = false := by simp; omega
          clear hi hneg
          go_wp2_with fail
          refine hlen.mono ?_
          rintro e w3 ⟨rfl, rfl⟩
          go_wp2_with fail
          refine hhas.mono ?_
          rintro e w3 ⟨rfl, rfl⟩
          go_wp2_with fail
          refine (BWords_ok hbm).mono ?_
          rintro e v1 ⟨⟨g1, cap1, rfl, -, hW1⟩, e1⟩
          go_wp2_with fail
          refine (RWords_ok (c := N) (hbb.below e1) HRL.out h1 (by omega)).mono ?_
          rintro e v2 ⟨⟨g2, cap2, rfl, -, hW2⟩, e2⟩
          have hW12 := hW1.below e2 hW1.lt
          go_wp2_with fail
          refine (words_same hW12 hW2 (by omega)).mono ?_
          rintro e v3 ⟨rfl, e3⟩
          have f3 := below_ge (below_ge e1 e2 (Nat.le_refl _)) e3 (Nat.le_refl _)
          have hb3 := below_ge hbe f3 (Nat.le_refl _)
          go_wp2_with fail
          refine (awake_any _ (hT.below hb3)).mono ?_
          rintro e v7 ⟨rfl, e7⟩
          go_wp2_with fail
          go_ret
          exact ⟨rfl, below_ge hb3 e7 (Nat.le_refl _)⟩

set_option maxRecDepth 100000 in
theorem BitsPlays_walk (n : Int) (B : Option Addr) (len lcap : Nat) (zs : List Act2) (i : Int) (w : World) (hT : Tab w) (bn : -9223372036854775808 ≤ n ∧ n ≤ 9223372036854775807) (hz : ActsIn w B len zs)
    (bi : -9223372036854775808 ≤ i ∧ i ≤ 9223372036854775807) :
    Calls Tryd.prog 6 #[.int .i64 n, .slice B len lcap, .int .i64 i] w fun e w' => e = .returned (.bool true) ∧ Below w.heap.size w w' := by
  by_cases h1 : 1 ≤ n
  · by_cases h2 : n ≤ 300
    · by_cases h3 : (len : Int) ≤ 100
      · obtain ⟨N, rfl⟩ := Int.eq_ofNat_of_zero_le (show 0 ≤ n by omega)
        exact BitsPlays_in hT (by omega) (by omega) (by omega) hz
      · have h3' : 100 < (len : Int) := by omega
        clear h3
        go_enter Tryd.func6, Tryd.ntmps6
        go_wp2_with fail
        refine (awake_any _ hT).mono ?_
        rintro e w9 ⟨rfl, hb9⟩
        go_wp2_with fail
        go_ret
        exact ⟨rfl, hb9⟩
    · have h2' : 300 < n := by omega
      clear h2
      go_enter Tryd.func6, Tryd.ntmps6
      go_wp2_with fail
      refine (awake_any _ hT).mono ?_
      rintro e w9 ⟨rfl, hb9⟩
      go_wp2_with fail
      go_ret
      exact ⟨rfl, hb9⟩
  · have h1' : n < 1 := by omega
    clear h1
    go_enter Tryd.func6, Tryd.ntmps6
    go_wp2_with fail
    refine (awake_any _ hT).mono ?_
    rintro e w9 ⟨rfl, hb9⟩
    go_wp2_with fail
    go_ret
    exact ⟨rfl, hb9⟩
end Go.Proofs.YthjpflhoenljdaaDoor
