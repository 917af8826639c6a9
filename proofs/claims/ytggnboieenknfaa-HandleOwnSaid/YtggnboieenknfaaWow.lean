/- HandleOwn: the walk of the law. -/
import Derived.Test.YtggnboieenknfaaHo
namespace Go.Proofs.Ytggnboieenknfaa
open Go.RowKit Go.Maps
set_option linter.unusedVariables false

set_option maxRecDepth 1000000 in
set_option maxHeartbeats 1600000 in
theorem HandleOwn_in {B : Option Addr} {len lcap m : Nat} {zs : List Act3} {w : World} (hz : ActsIn w B len zs) (h60 : (len : Int) ≤ 60) (hm : m ≤ len) :
    Calls Try.prog 7 #[.slice B len lcap, .int .i64 m] w fun e w' => e = .returned (.bool true) ∧ Below w.heap.size w w' := by
  have m1 : (0 : Int) ≤ (m : Int) := by omega
  have m2 : (m : Int) ≤ (len : Int) := by omega
  have m3 : decide ((m : Int) < 0) = false := by simp
  have m4 : decide ((len : Int) < (m : Int)) = false := by simp; omega
  go_enter Try.func7, Try.ntmps7
  go_wp2_with fail
  refine (HTake_nil _ _).mono ?_
  rintro e w1 ⟨rfl, rfl⟩
  go_wp2_with fail
  refine (HSlot_nil _ _).mono ?_
  rintro e w1 ⟨rfl, rfl⟩
  go_wp2_with fail
  refine (HMove_nil _ _ _).mono ?_
  rintro e w1 ⟨rfl, rfl⟩
  go_wp2_with fail
  refine (HFree_nil _ _).mono ?_
  rintro e w1 ⟨rfl, rfl⟩
  go_wp2_with fail
  refine (HLive_nil _ _).mono ?_
  rintro e w1 ⟨rfl, rfl⟩
  go_wp2_with fail
  refine (HLen_nil _).mono ?_
  rintro e w1 ⟨rfl, rfl⟩
  go_wp2_with fail
  refine (HTaken_nil _).mono ?_
  rintro e w1 ⟨rfl, rfl⟩
  go_wp2_with fail
  refine (HAll_nil _).mono ?_
  rintro e w1 ⟨rfl, rfl⟩
  go_wp2_with fail
  refine (HClone_nil _).mono ?_
  rintro e w1 ⟨rfl, rfl⟩
  go_wp2_with fail
  refine (HNew_ok _).mono ?_
  generalize hP : w.heap.size + 1 = P
  generalize hG : w.heap.size = G
  have hGP : G < P := by omega
  have HG := Lib.hid hG
  clear hG hP
  rintro e w1 ⟨rfl, ht1, hb1⟩
  rw [← HG.out] at hb1
  have hP1 := ht1.hp.lt
  have hGa : w.heap.size ≤ G := by rw [HG.out]; exact Nat.le_refl _
  go_wp2_with fail
  refine (HNew_ok _).mono ?_
  generalize hP2 : w1.heap.size + 1 = P2
  generalize hG2 : w1.heap.size = G2 at *
  have hGP2 : G2 < P2 := by omega
  have HG2 := Lib.hid hG2
  clear hG2 hP2
  rintro e w2 ⟨rfl, ht2, hb2⟩
  rw [← HG2.out] at hb2
  have hBi : Bi w P G P2 G2 [] [] w2 := ⟨ht1.below hb2, ht2, hb1.trans (hb2.mono hb1.size)⟩
  clear ht1 ht2 hb1 hb2
  go_wp2_with fail
  go_loopw [12] (fun i wr => ∃ k : Nat, k ≤ len ∧ i = .int .i64 k ∧ Bi w P G P2 G2 (playF [] zs (min k m)) (playF [] zs k) wr) (fun i _ => len - (intOf i).toNat)
  case atStart => exact ⟨0, Nat.zero_le _, rfl, by rw [Nat.zero_min]; exact hBi⟩
  case round =>
    clear hBi
    obtain ⟨k, hk, rfl, hT⟩ := hrel
    by_cases hlt : k < len
    · obtain ⟨ab, aoff, rfl, q0, q1, q2⟩ := (hz.below hT.be).at_ hlt
      have j1 : (0 : Int) ≤ (k : Int) := by omega
      have j2 : (k : Int) < (len : Int) := by omega
      have hstep : playF [] zs (k + 1) = (actH (playF [] zs k) (act zs k).o (act zs k).i (act zs k).n).1 := rfl
      have HST := Lib.hid hstep
      have hql := playF_len [] zs k
      have hq1 : (playF [] zs k).length ≤ 1000000 := by simp at hql; omega
      have hin : inB (act zs k).i := (hz.hb k).2.1
      clear hstep hql
      by_cases hkm : k < m
      · have j3 : (k : Int) < (m : Int) := by omega
        rw [Nat.min_eq_left (by omega)] at hT
        have hmin : playF [] zs (min (k + 1) m) = playF [] zs (k + 1) := by rw [Nat.min_eq_left (by omega)]
        have HMN := Lib.hid hmin
        clear hmin
        generalize playF [] zs k = q at *
        go_wp2_with fail
        refine (hT.does1 hq1 hGa hGP hP1 hGP2 _ hin _).mono ?_
        rintro e w4 ⟨rfl, hT4⟩
        obtain ⟨q0', q1', q2'⟩ := hT4.acts hz hlt
        go_wp2_with fail
        refine (hT4.does2 hq1 hGa hGP hP1 hGP2 _ hin _).mono ?_
        rintro e w5 ⟨rfl, hT5⟩
        go_wp2_with fail
        go_roundw
        case rel => exact ⟨k + 1, by omega, by go_num, by rw [HMN.out, HST.out]; exact hT5⟩
        case measure => simp [intOf]; omega
      · have j3 : decide ((k : Int) < (m : Int)) = false := by simp; omega
        rw [Nat.min_eq_right (by omega)] at hT
        have hmin : playF [] zs (min (k + 1) m) = playF [] zs m := by rw [Nat.min_eq_right (by omega)]
        have HMN := Lib.hid hmin
        clear hmin
        generalize playF [] zs k = q at *
        go_wp2_with fail
        refine (hT.does2 hq1 hGa hGP hP1 hGP2 _ hin _).mono ?_
        rintro e w5 ⟨rfl, hT5⟩
        go_wp2_with fail
        go_roundw
        case rel => exact ⟨k + 1, by omega, by go_num, by rw [HMN.out, HST.out]; exact hT5⟩
        case measure => simp [intOf]; omega
    · obtain rfl : k = len := by omega
      rw [Nat.min_eq_right hm] at hT
      have hqm := playF_len [] zs m
      have hqk := playF_len [] zs k
      simp only [List.length_nil, Nat.zero_add] at hqm hqk
      have hql : (playF [] zs k).length ≤ 60 := by omega
      have hqL : (playF [] zs m).length ≤ 60 := by omega
      have HS := Lib.hid (rfl : playF [] zs m = playF [] zs m)
      generalize hfull : playF [] zs k = full at *
      generalize hpart : playF [] zs m = part at *
      have HF := Lib.hid hfull
      have HPT := Lib.hid hpart
      clear hfull hpart HS hqm hqk
      go_wp2_with fail
      refine (HClone_ok hT.t1).mono ?_
      have hwz := hT.t2.hp.lt
      generalize hP3 : wr.heap.size + 1 = P3
      generalize hG3 : wr.heap.size = G3 at *
      have hGP3 : G3 < P3 := by omega
      have HG3 := Lib.hid hG3
      clear hG3 hP3
      rintro e w3 ⟨rfl, ht3, hb3⟩
      rw [← HG3.out] at hb3
      have g1 := hT.t1.below hb3
      have g2 := hT.t2.below hb3
      have g3 := hT.be.trans (hb3.mono hT.be.size)
      clear hT hb3
      go_wp2_with fail
      refine (HAll_ok g1 (by omega)).mono ?_
      have hP3w := ht3.hp.lt
      generalize hbase : w3.heap.size = base at *
      have HB := Lib.hid hbase
      clear hbase
      rintro e w4 ⟨⟨v, rfl, hol⟩, hb4⟩
      obtain ⟨A, cap, rfl, _⟩ := hol.form
      have hT4 : Tri w P G P2 G2 P3 G3 base part full part (.slice A (liveL part).length cap) (liveL part) w4 := by
        rw [← HB.out] at hb4
        exact ⟨g1.below hb4, g2.below hb4, ht3.below hb4, hol, g3.trans (hb4.mono g3.size)⟩
      rw [liveL_length] at hT4 ⊢
      clear hol hb4 g1 g2 g3 ht3
      have hll := liveL_length part
      have hcl := cntL_le part
      have hlf := liveL_length full
      have hcf := cntL_le full
      go_wp2_with fail
      refine (HAll_n hT4.t3 (by omega)).mono ?_
      rintro e w5 ⟨⟨A5, c5, rfl, hR5⟩, hb5⟩
      have hT5 := hT4.below hb5
      clear hT4 hb5
      go_wp2_with fail
      refine (ints_same hll hR5 hT5.ol.ri (by omega)).mono ?_
      rintro e w6 ⟨rfl, hb6⟩
      have hT6 := hT5.below hb6
      clear hT5 hb6 hR5
      go_wp2_with fail
      refine (HTaken_ok hT6.t3).mono ?_
      rintro e w7 ⟨rfl, rfl⟩
      go_wp2_with fail
      refine (HTaken_ok hT6.t1).mono ?_
      rintro e w7 ⟨rfl, rfl⟩
      go_wp2_with fail
      go_loopw [15] (fun i wv => ∃ k' : Nat, m ≤ k' ∧ k' ≤ k ∧ i = .int .i64 k' ∧ Tri w P G P2 G2 P3 G3 base part full (playF [] zs k') (.slice A (cntL part) cap) (liveL part) wv) (fun i _ => k - (intOf i).toNat)
      case atStart => exact ⟨m, Nat.le_refl _, hm, rfl, by rw [HPT.out]; exact hT6⟩
      case round =>
        clear hT6
        obtain ⟨k', hmk, hk', rfl, hT⟩ := hrel
        by_cases hlt : k' < k
        · obtain ⟨ab, aoff, rfl, q0, q1, q2⟩ := (hz.below hT.be).at_ hlt
          have j1 : (0 : Int) ≤ (k' : Int) := by omega
          have j2 : (k' : Int) < (k : Int) := by omega
          have hstep : playF [] zs (k' + 1) = (actH (playF [] zs k') (act zs k').o (act zs k').i (act zs k').n).1 := rfl
          have HST := Lib.hid hstep
          have hql := playF_len [] zs k'
          have hq1 : (playF [] zs k').length ≤ 1000000 := by simp at hql; omega
          have hin : inB (act zs k').i := (hz.hb k').2.1
          clear hstep hql
          generalize playF [] zs k' = q at *
          go_wp2_with fail
          refine (hT.does3 hq1 hGa hGP hP1 hGP2 hwz hGP3 hP3w _ hin _).mono ?_
          rintro e w8 ⟨rfl, hT8⟩
          go_wp2_with fail
          go_roundw
          case rel => exact ⟨k' + 1, by omega, by omega, by go_num, by rw [HST.out]; exact hT8⟩
          case measure => simp [intOf]; omega
        · obtain rfl : k' = k := by omega
          rw [HF.out] at hT
          go_wp2_with fail
          refine (HAll_n hT.t3 (by omega)).mono ?_
          rintro e w8 ⟨⟨A8, c8, rfl, hR8⟩, hb8⟩
          have hT8 := hT.below hb8
          clear hT
          go_wp2_with fail
          refine (HAll_n hT8.t2 (by omega)).mono ?_
          rintro e w9 ⟨⟨A9, c9, rfl, hR9⟩, hb9⟩
          have hT9 := hT8.below hb9
          have hR8' := hR8.below hb9 (Nat.le_refl _)
          clear hT8 hR8 hb8
          go_wp2_with fail
          refine (ints_same hlf hR8' hR9 (by omega)).mono ?_
          rintro e w10 ⟨rfl, hb10⟩
          have hT10 := hT9.below hb10
          clear hT9 hR8' hR9 hb9 hb10
          go_wp2_with fail
          refine (HTaken_ok hT10.t3).mono ?_
          rintro e w11 ⟨rfl, rfl⟩
          go_wp2_with fail
          refine (HTaken_ok hT10.t2).mono ?_
          rintro e w11 ⟨rfl, rfl⟩
          go_wp2_with fail
          refine (HAll_n hT10.t1 (by omega)).mono ?_
          rintro e w11 ⟨⟨A11, c11, rfl, hR11⟩, hb11⟩
          have hT11 := hT10.below hb11
          clear hT10 hb11
          go_wp2_with fail
          refine (ints_same hll hR11 hT11.ol.ri (by omega)).mono ?_
          rintro e w12 ⟨rfl, hb12⟩
          have hT12 := hT11.below hb12
          clear hT11 hR11 hb12
          go_wp2_with fail
          refine (HTaken_ok hT12.t1).mono ?_
          rintro e w13 ⟨rfl, rfl⟩
          go_wp2_with fail
          refine (HAll_ok hT12.t1 (by omega)).mono ?_
          rintro e w13 ⟨⟨v2, rfl, hol2⟩, hb13⟩
          obtain ⟨A13, c13, rfl, _⟩ := hol2.form
          rw [liveL_length] at hol2 ⊢
          have hcc : cntL (part ++ [9]) = cntL part + 1 := by rw [cntL_snoc]; rfl
          have HCC := Lib.hid hcc
          clear hcc
          have HLL := Lib.hid hll
          clear hll hlf hcf
          go_wp2_with fail
          go_loopw [18] (fun i wv => ∃ j : Nat, j ≤ cntL part ∧ i = .int .i64 j ∧ Below w12.heap.size w12 wv ∧ ∃ zs2 : List Int, zs2.length = cntL part ∧ OL wv w12.heap.size (.slice A13 (cntL part) c13) zs2) (fun i _ => cntL part - (intOf i).toNat)
          case atStart => exact ⟨0, Nat.zero_le _, rfl, hb13, liveL part, HLL.out, hol2⟩
          case round =>
            clear hol2 hb13
            obtain ⟨j, hj, rfl, hb, zs2, hzl, ho⟩ := hrel
            have i5 : ((cntL part : Nat) : Int) ≤ 60 := by omega
            by_cases hlj : j < cntL part
            · obtain ⟨gb, cap', hv, hbg, hgl⟩ := ho.shape (by omega)
              injection hv with hv1 hv2 hv3
              subst hv1
              have hor := ho
              unfold OL at hor
              rw [hzl] at hor
              have hcell := World.ownsRow.cellAt hor j (by omega)
              have hfr := World.ownsRow.frozenAt hor j
              rw [List.getElem?_map, List.getElem?_eq_getElem (by omega : j < zs2.length)] at hcell
              simp only [Option.map_some] at hcell
              have hput := ho.put (k := j) (-1)
              have j1 : (0 : Int) ≤ (j : Int) := by omega
              have j2 : (j : Int) < (cntL part : Nat) := by omega
              clear hor ho hv2 hv3
              go_wp2_with fail
              go_roundw
              case rel => exact ⟨j + 1, by omega, by go_num, hb.setCell (p := ⟨gb, j, none⟩) hbg _, zs2.set j (-1), by rw [List.length_set]; exact hzl, hput⟩
              case measure => simp [intOf]; omega
            · obtain rfl : j = cntL part := by omega
              have hTv := hT12.below hb
              clear hT12
              have e9 : takeV part 9 = (part ++ [9], (part.length : Int) + 1, 0) := by simp [takeV]
              have i6 : (part.length : Int) ≤ 60 := by omega
              have hTk := HTake_any hTv.t1 (by omega) 9
              rw [e9] at hTk
              clear e9 hb ho
              go_wp2_with fail
              refine hTk.mono ?_
              rintro e w14 ⟨rfl, ht14, hk14⟩
              have hbe := hk14.below hTv.be hTv.be.size (by omega) hGa
              have hAl := HAll_n ht14 (by simp; omega)
              rw [HCC.out] at hAl
              generalize cntL part = c at *
              clear hTk hk14 hTv
              go_wp2_with fail
              refine hAl.mono ?_
              rintro e w15 ⟨⟨A15, c15, rfl, hR15⟩, hb15⟩
              have hbe15 := hbe.trans (hb15.mono hbe.size)
              clear hAl hR15
              go_wp2_with fail
              refine (awake_any _).mono ?_
              rintro e w16 ⟨rfl, hb16⟩
              go_wp2_with fail
              go_ret
              exact ⟨rfl, hbe15.trans (hb16.mono hbe15.size)⟩

set_option maxRecDepth 1000000 in
set_option maxHeartbeats 1600000 in
theorem HandleOwn_any (B : Option Addr) (len lcap : Nat) (zs : List Act3) (at_ : Int) (w : World) (hz : ActsIn w B len zs) (ha : -9223372036854775808 ≤ at_ ∧ at_ ≤ 9223372036854775807) :
    Calls Try.prog 7 #[.slice B len lcap, .int .i64 at_] w fun e w' => e = .returned (.bool true) ∧ Below w.heap.size w w' := by
  by_cases h : (len : Int) ≤ 60
  · by_cases h0 : at_ < 0
    · have t : decide (at_ < 0) = true := by simpa using h0
      go_enter Try.func7, Try.ntmps7
      go_wp2_with fail
      refine (HTake_nil _ _).mono ?_
      rintro e w1 ⟨rfl, rfl⟩
      go_wp2_with fail
      refine (HSlot_nil _ _).mono ?_
      rintro e w1 ⟨rfl, rfl⟩
      go_wp2_with fail
      refine (HMove_nil _ _ _).mono ?_
      rintro e w1 ⟨rfl, rfl⟩
      go_wp2_with fail
      refine (HFree_nil _ _).mono ?_
      rintro e w1 ⟨rfl, rfl⟩
      go_wp2_with fail
      refine (HLive_nil _ _).mono ?_
      rintro e w1 ⟨rfl, rfl⟩
      go_wp2_with fail
      refine (HLen_nil _).mono ?_
      rintro e w1 ⟨rfl, rfl⟩
      go_wp2_with fail
      refine (HTaken_nil _).mono ?_
      rintro e w1 ⟨rfl, rfl⟩
      go_wp2_with fail
      refine (HAll_nil _).mono ?_
      rintro e w1 ⟨rfl, rfl⟩
      go_wp2_with fail
      refine (HClone_nil _).mono ?_
      rintro e w1 ⟨rfl, rfl⟩
      go_wp2_with fail
      refine (awake_any _).mono ?_
      rintro e w8 ⟨rfl, hb8⟩
      go_wp2_with fail
      go_ret
      exact ⟨rfl, hb8⟩
    · have t0 : decide (at_ < 0) = false := by simpa using h0
      by_cases h1 : (len : Int) < at_
      · have t : decide ((len : Int) < at_) = true := by simpa using h1
        go_enter Try.func7, Try.ntmps7
        go_wp2_with fail
        refine (HTake_nil _ _).mono ?_
        rintro e w1 ⟨rfl, rfl⟩
        go_wp2_with fail
        refine (HSlot_nil _ _).mono ?_
        rintro e w1 ⟨rfl, rfl⟩
        go_wp2_with fail
        refine (HMove_nil _ _ _).mono ?_
        rintro e w1 ⟨rfl, rfl⟩
        go_wp2_with fail
        refine (HFree_nil _ _).mono ?_
        rintro e w1 ⟨rfl, rfl⟩
        go_wp2_with fail
        refine (HLive_nil _ _).mono ?_
        rintro e w1 ⟨rfl, rfl⟩
        go_wp2_with fail
        refine (HLen_nil _).mono ?_
        rintro e w1 ⟨rfl, rfl⟩
        go_wp2_with fail
        refine (HTaken_nil _).mono ?_
        rintro e w1 ⟨rfl, rfl⟩
        go_wp2_with fail
        refine (HAll_nil _).mono ?_
        rintro e w1 ⟨rfl, rfl⟩
        go_wp2_with fail
        refine (HClone_nil _).mono ?_
        rintro e w1 ⟨rfl, rfl⟩
        go_wp2_with fail
        refine (awake_any _).mono ?_
        rintro e w8 ⟨rfl, hb8⟩
        go_wp2_with fail
        go_ret
        exact ⟨rfl, hb8⟩
      · obtain ⟨m, rfl⟩ : ∃ m : Nat, at_ = (m : Int) := ⟨at_.toNat, by omega⟩
        exact HandleOwn_in hz h (by omega)
  · have t : decide (60 < (len : Int)) = true := by simp; omega
    clear h
    go_enter Try.func7, Try.ntmps7
    go_wp2_with fail
    refine (HTake_nil _ _).mono ?_
    rintro e w1 ⟨rfl, rfl⟩
    go_wp2_with fail
    refine (HSlot_nil _ _).mono ?_
    rintro e w1 ⟨rfl, rfl⟩
    go_wp2_with fail
    refine (HMove_nil _ _ _).mono ?_
    rintro e w1 ⟨rfl, rfl⟩
    go_wp2_with fail
    refine (HFree_nil _ _).mono ?_
    rintro e w1 ⟨rfl, rfl⟩
    go_wp2_with fail
    refine (HLive_nil _ _).mono ?_
    rintro e w1 ⟨rfl, rfl⟩
    go_wp2_with fail
    refine (HLen_nil _).mono ?_
    rintro e w1 ⟨rfl, rfl⟩
    go_wp2_with fail
    refine (HTaken_nil _).mono ?_
    rintro e w1 ⟨rfl, rfl⟩
    go_wp2_with fail
    refine (HAll_nil _).mono ?_
    rintro e w1 ⟨rfl, rfl⟩
    go_wp2_with fail
    refine (HClone_nil _).mono ?_
    rintro e w1 ⟨rfl, rfl⟩
    go_wp2_with fail
    refine (awake_any _).mono ?_
    rintro e w8 ⟨rfl, hb8⟩
    go_wp2_with fail
    go_ret
    exact ⟨rfl, hb8⟩
end Go.Proofs.Ytggnboieenknfaa
