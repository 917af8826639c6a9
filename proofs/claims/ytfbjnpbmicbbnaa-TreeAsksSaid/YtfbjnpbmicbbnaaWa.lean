/- TreeAsks: the walk of the law. -/
import Derived.Test.YtfbjnpbmicbbnaaTr
namespace Go.Proofs.Ytfbjnpbmicbbnaa
open Go.RowKit
set_option linter.unusedVariables false

/-- What Count tells, of the tree and of the document's row alike. -/
theorem both_count {w : World} {p g cap S L : Nat} {r t : List Int} {A : Option Addr} {c : Nat} (h : TM w p g cap S r t) (hr : Rt r L) (hS : r.length = S) (level n : Int) :
    ∃ a e : Int, (Calls Try.prog 13 #[.pointer (some ⟨p, 0, none⟩), .int .i64 level, .int .i64 n] w fun x w' => x = .returned (.tuple #[.int .i64 a, .int .i64 e]) ∧ ∃ d, w' = w.drewN d) ∧
      ∀ W, RI W A r → Calls Try.prog 14 #[.slice A S c, .int .i64 level, .int .i64 n] W fun x w' => x = .returned (.tuple #[.int .i64 a, .int .i64 e]) ∧ W = w' := by
  have hs2 := hr.len_le
  rw [hS] at hs2
  by_cases hno : Win S level n
  · obtain ⟨lv, k, rfl, rfl, hk⟩ := hno
    exact ⟨_, _, TCount_ok h hr lv k hk, fun W hR => RCount_ok hS hR hr lv k hk⟩
  · refine ⟨_, _, (TCount_bad h hr level n hno).mono ?_, fun W _ => RCount_bad hs2 level n hno⟩
    rintro x w' ⟨rfl, rfl⟩
    exact ⟨rfl, 0, by simp [World.drewN]⟩

/-- Each element has a segment. -/
theorem at_exists {r : List Int} {L S : Nat} (hr : Rt r L) (hS : r.length = S) {n : Int} (hn : 0 ≤ n ∧ n < sumR r 0 S) : ∃ (s : Nat) (k : Int), At r n s k := by
  subst hS
  have key : ∀ m : Nat, m ≤ r.length → n < sumR r 0 m → ∃ (s : Nat) (k : Int), At r n s k := by
    intro m
    induction m with
    | zero => intro _ h; rw [sumR_zero] at h; omega
    | succ m ih =>
      intro hm h
      by_cases hc : n < sumR r 0 m
      · exact ih (by omega) hc
      · rw [sumR_succ, Nat.zero_add] at h
        exact ⟨m, n - sumR r 0 m, by omega, rfl, by omega, by omega⟩
  exact key r.length (Nat.le_refl _) hn.2

/-- What Find tells, of the tree and of the document's row alike. -/
theorem both_find {p g cap S L : Nat} {r t : List Int} {A : Option Addr} {c : Nat} (hr : Rt r L) (hS : r.length = S) (n : Int) (hn : n ≤ 9223372036854775807) :
    ∃ s k e : Int, (∀ W, TM W p g cap S r t → Calls Try.prog 15 #[.pointer (some ⟨p, 0, none⟩), .int .i64 n] W fun x w' => x = .returned (.tuple #[.int .i64 s, .int .i64 k, .int .i64 e]) ∧ W = w') ∧
      ∀ W, RI W A r → Calls Try.prog 16 #[.slice A S c, .int .i64 n] W fun x w' => x = .returned (.tuple #[.int .i64 s, .int .i64 k, .int .i64 e]) ∧ W = w' := by
  by_cases hin : 0 ≤ n ∧ n < sumR r 0 S
  · obtain ⟨s, k, hat⟩ := at_exists hr hS hin
    refine ⟨s, k, 0, fun W h => ?_, fun W hR => ?_⟩
    · refine (TFind_ok h hr n hin).mono ?_
      rintro x w' ⟨⟨s', k', rfl, hat'⟩, hw⟩
      obtain ⟨rfl, rfl⟩ := hat.uniq hr hat'
      exact ⟨rfl, hw⟩
    · refine (RFind_ok hS hR hr n hin).mono ?_
      rintro x w' ⟨⟨s', k', rfl, hat'⟩, hw⟩
      obtain ⟨rfl, rfl⟩ := hat.uniq hr hat'
      exact ⟨rfl, hw⟩
  · exact ⟨_, _, _, fun W h => TFind_none h hr n hin, fun W hR => RFind_none hS hR hr n hn hin⟩

set_option maxRecDepth 1000000 in
set_option maxHeartbeats 3200000 in
theorem TreeAsks_in {A B : Option Addr} {nc cap len lcap : Nat} {r : List Int} {zs : List Act3} {x1 x2 x3 x4 : Int} {w : World} {L : Nat} (hl : r.length = nc) (hR : RI w A r) (hr : Rt r L) (hz : ActsIn w B len zs) (h60 : (len : Int) ≤ 60)
    (hx4 : x4 ≤ 9223372036854775807) :
    Calls Try.prog 3 #[.slice A nc cap, .slice B len lcap, .agg #[.int .i64 x1, .int .i64 x2, .int .i64 x3, .int .i64 x4]] w fun e w' => e = .returned (.bool true) ∧ Below w.heap.size w w' := by
  have hs1 := hr.len_pos
  have hs2 := hr.len_le
  rw [hl] at hs1 hs2
  obtain ⟨b, off, rfl, _⟩ := hR (by omega)
  obtain ⟨i0, hi, hzI0, hzI1, hzI2⟩ := info_parts Try.infoI
  have i1 : (nc : Int) ≤ 512 := by omega
  have i1' : (1 : Int) ≤ nc := by omega
  have HL := Lib.hid hl
  clear hl
  have k0 := Blk.made w 25 #[.int .i64 x1, .int .i64 x2, .int .i64 x3, .int .i64 x4]
  have hb0 : Below w.heap.size w (w.alloc (.cells #[.int .i64 x1, .int .i64 x2, .int .i64 x3, .int .i64 x4] 25)) := (Below.refl _ w).alloc (Nat.le_refl _) _
  have hR0 := hR.below hb0 (Nat.le_refl _)
  have hz0 := hz.below hb0
  go_enter Try.func3, Try.ntmps3
  go_wp2_with fail
  generalize w.alloc (.cells #[.int .i64 x1, .int .i64 x2, .int .i64 x3, .int .i64 x4] 25) = w0 at *
  refine (Wrong_ok HL.out hR0 hr).mono ?_
  rintro e w1 ⟨rfl, rfl⟩
  go_wp2_with fail
  refine (made_ok HL.out hR0 hr hz0).mono ?_
  generalize w0.heap.size + 1 = P
  generalize hG : w0.heap.size = G
  have HG := Lib.hid hG
  clear hG
  rintro e w1 ⟨rfl, ⟨t, hm⟩, hb1⟩
  rw [← HG.out] at hb1
  have hb01 : Below w.heap.size w w1 := below_ge hb0 hb1 (Nat.le_refl _)
  have hR1 : RI w1 (some ⟨b, off, none⟩) r := hR0.below hb1 (Nat.le_refl _)
  have hR2 : RI (w1.alloc (.cells #[] 3)) (some ⟨b, off, none⟩) r := hR1.below ((Below.refl w1.heap.size w1).alloc (Nat.le_refl _) _) (Nat.le_refl _)
  have hz1 := hz0.below hb1
  have k1 := k0.below hb1 k0.lt
  clear hR0 hz0 k0 hb0 hb1
  go_wp2_with (at_builtin; refine wpList_append_own_at _ rfl _ _ 22 rfl w1.heap.size 3 i0 (.int .i64 0) 1 8 Try.underlying22 hi hzI0 hzI1 hzI2 rfl (by decide) (.slice (some ⟨w1.heap.size, 0, none⟩) 0 0) 0 [] rfl (World.ownsRow_made w1 #[] 0 (Nat.le_refl _) (by decide) rfl) ⟨b, off, none⟩ nc cap (r.map (Value.int .i64)) rfl ?c0 (src_of_RI hR2) ?c2 ?c3 ?c4 ?c5 ?_)
  case c0 => rw [List.length_map, HL.out]; omega
  case c2 => intro u hu; obtain ⟨x, _, rfl⟩ := List.mem_map.1 hu; rfl
  case c3 => unfold maxLen; omega
  case c4 => omega
  case c5 => simp
  intro v' w3 hown hg3 _ hat
  obtain ⟨g', cap', rfl, hbg, hc1, hc2, hB⟩ := BI_of_own hown (by omega)
  have hb3 := ((Below.refl w1.heap.size w1).alloc (Nat.le_refl _) (.cells #[] 3)).grown hg3 (by simp) (fun k e => by injection e with e; simp at e; omega)
  clear hR2 hat hown hg3
  go_wp2_with fail
  go_loopw [9] (fun i wr => ∃ k : Nat, k ≤ len ∧ i = .int .i64 k ∧ BI wr g' (playN r zs k) ∧ Below w1.heap.size w1 wr) (fun i _ => len - (intOf i).toNat)
  case atStart => exact ⟨0, Nat.zero_le _, rfl, hB, hb3⟩
  case round =>
    obtain ⟨k, hk, rfl, hBk, hb⟩ := hrel
    by_cases hlt : k < len
    · obtain ⟨ab, aoff, rfl, q0, q1, q2⟩ := (hz1.below hb).at_ hlt
      have j1 : (0 : Int) ≤ (k : Int) := by omega
      have j2 : (k : Int) < (len : Int) := by omega
      have hstep : playN r zs (k + 1) = (actV (playN r zs k) (act zs k).o (act zs k).i (act zs k).n).1 := rfl
      have HST := Lib.hid hstep
      have hsz := hb.size
      clear hstep
      go_wp2_with fail
      refine (plays_any (by rw [playN_len]; exact HL.out) hBk (hr.playN zs k) _ _ _).mono ?_
      rintro e w4 ⟨rfl, hB4, hg4⟩
      go_wp2_with fail
      go_roundw
      case rel => exact ⟨k + 1, by omega, by go_num, by rw [HST.out]; exact hB4, hb.grown hg4 hsz (row_some hbg)⟩
      case measure => simp [intOf]; omega
    · obtain rfl : k = len := by omega
      have hm4 := hm.below' hb
      have k4 := k1.below hb k1.lt
      have hbw : Below w.heap.size w wr := below_ge hb01 hb (Nat.le_refl _)
      have hr' := hr.playN zs k
      have hlen : (playN r zs k).length = nc := by rw [playN_len, HL.out]
      generalize playN r zs k = q at hm4 hr' hlen hBk
      have HQ := Lib.hid hlen
      clear hlen
      obtain ⟨a, e1, hcn1, hcn2⟩ := both_count (A := some ⟨g', 0, none⟩) (c := cap') hm4 hr' HQ.out x1 x2
      obtain ⟨s, kk, e2, hf1, hf2⟩ := both_find (p := P) (g := G) (cap := 2 * nc) (t := t) (A := some ⟨g', 0, none⟩) (c := cap') hr' HQ.out x4 hx4
      have q0 : wr.cell? ⟨w.heap.size, 0, none⟩ = some (.int .i64 x1) := by rw [k4.cell]; rfl
      have q1 : wr.cell? ⟨w.heap.size, 1, none⟩ = some (.int .i64 x2) := by rw [k4.cell]; rfl
      clear hm hz1 k1 hb hb01 hb3 hB hR1
      go_wp2_with fail
      refine hcn1.mono ?_
      rintro e w5 ⟨rfl, d, rfl⟩
      replace hm4 := hm4.drewN d
      replace k4 := k4.drewN d
      replace hbw := below_drewN hbw d
      replace hBk := hBk.drewN d
      clear q0 q1 hcn1
      generalize wr.drewN d = w5 at hm4 k4 hbw hBk ⊢
      have q0 : w5.cell? ⟨w.heap.size, 0, none⟩ = some (.int .i64 x1) := by rw [k4.cell]; rfl
      have q1 : w5.cell? ⟨w.heap.size, 1, none⟩ = some (.int .i64 x2) := by rw [k4.cell]; rfl
      have q2 : w5.cell? ⟨w.heap.size, 2, none⟩ = some (.int .i64 x3) := by rw [k4.cell]; rfl
      have q3 : w5.cell? ⟨w.heap.size, 3, none⟩ = some (.int .i64 x4) := by rw [k4.cell]; rfl
      go_wp2_with fail
      refine (hcn2 _ (RI_of_BI hBk)).mono ?_
      rintro e w6 ⟨rfl, rfl⟩
      go_wp2_with fail
      refine (hf1 _ hm4).mono ?_
      rintro e w6 ⟨rfl, rfl⟩
      go_wp2_with fail
      refine (hf2 _ (RI_of_BI hBk)).mono ?_
      rintro e w6 ⟨rfl, rfl⟩
      by_cases hx : 0 ≤ x3 ∧ x3 ≤ nc
      · have hx0 := hx.1
        have hx1 := hx.2
        obtain ⟨S3, rfl⟩ := Int.eq_ofNat_of_zero_le hx0
        have hs3 : S3 ≤ nc := by omega
        have hah := TAhead_ok hm4 hr' S3 hs3
        have hsm := RSum_ok (c := cap') HQ.out (RI_of_BI hBk) hr' 0 S3 (Nat.zero_le _) hs3
        rw [Nat.sub_zero] at hsm
        clear hx hs3
        go_wp2_with fail
        refine hah.mono ?_
        rintro e w6 ⟨rfl, rfl⟩
        go_wp2_with fail
        refine hsm.mono ?_
        rintro e w6 ⟨rfl, rfl⟩
        go_wp2_with fail
        refine (awake_any _).mono ?_
        rintro e w9 ⟨rfl, hb9⟩
        go_wp2_with fail
        go_ret
        exact ⟨rfl, below_ge hbw hb9 (Nat.le_refl _)⟩
      · have hah := TAhead_range hm4 x3 hx
        have HX := Lib.hid hx
        by_cases hneg : x3 < 0
        · clear hx
          go_wp2_with fail
          refine hah.mono ?_
          rintro e w6 ⟨rfl, rfl⟩
          go_wp2_with fail
          refine (awake_any _).mono ?_
          rintro e w9 ⟨rfl, hb9⟩
          go_wp2_with fail
          go_ret
          exact ⟨rfl, below_ge hbw hb9 (Nat.le_refl _)⟩
        · have hn0 : 0 ≤ x3 := by omega
          have hgt : (nc : Int) < x3 := by omega
          clear hx hneg
          go_wp2_with fail
          refine hah.mono ?_
          rintro e w6 ⟨rfl, rfl⟩
          go_wp2_with fail
          refine (awake_any _).mono ?_
          rintro e w9 ⟨rfl, hb9⟩
          go_wp2_with fail
          go_ret
          exact ⟨rfl, below_ge hbw hb9 (Nat.le_refl _)⟩

set_option maxRecDepth 100000 in
theorem TreeAsks_walk (A : Option Addr) (nc cap : Nat) (r : List Int) (B : Option Addr) (len lcap : Nat) (zs : List Act3) (x1 x2 x3 x4 : Int) (w : World) (hs : IntsIn w A nc r) (hz : ActsIn w B len zs)
    (b1 : -9223372036854775808 ≤ x1 ∧ x1 ≤ 9223372036854775807) (b2 : -9223372036854775808 ≤ x2 ∧ x2 ≤ 9223372036854775807) (b3 : -9223372036854775808 ≤ x3 ∧ x3 ≤ 9223372036854775807) (b4 : -9223372036854775808 ≤ x4 ∧ x4 ≤ 9223372036854775807) :
    Calls Try.prog 3 #[.slice A nc cap, .slice B len lcap, .agg #[.int .i64 x1, .int .i64 x2, .int .i64 x3, .int .i64 x4]] w fun e w' => e = .returned (.bool true) ∧ Below w.heap.size w w' := by
  have hm1 := hs.hm
  have hm2 := hz.hm
  have HL := Lib.hid hs.hl
  have hR0 := hs.hr
  have hb0 : Below w.heap.size w (w.alloc (.cells #[.int .i64 x1, .int .i64 x2, .int .i64 x3, .int .i64 x4] 25)) := (Below.refl _ w).alloc (Nat.le_refl _) _
  replace hR0 := hR0.below hb0 (Nat.le_refl _)
  by_cases h600 : (nc : Int) ≤ 600
  · by_cases h60 : (len : Int) ≤ 60
    · by_cases hp : powB nc = true
      · by_cases hsm : Smalls r
        · obtain ⟨L, hr⟩ := Rt.mk' (by rw [HL.out]; exact hp) hsm
          exact TreeAsks_in HL.out hs.hr hr hz h60 b4.2
        · have HSM := Lib.hid hsm
          clear hsm
          go_enter Try.func3, Try.ntmps3
          go_wp2_with fail
          refine (Wrong_range HL.out hR0 hp HSM.out (by omega)).mono ?_
          rintro e w1 ⟨rfl, rfl⟩
          go_wp2_with fail
          refine (awake_any _).mono ?_
          rintro e w9 ⟨rfl, hb9⟩
          go_wp2_with fail
          go_ret
          exact ⟨rfl, below_ge hb0 hb9 (Nat.le_refl _)⟩
      · have hp' : powB nc = false := by simpa using hp
        clear hp
        go_enter Try.func3, Try.ntmps3
        go_wp2_with fail
        refine (Wrong_arg hp' (by omega)).mono ?_
        rintro e w1 ⟨rfl, rfl⟩
        go_wp2_with fail
        refine (awake_any _).mono ?_
        rintro e w9 ⟨rfl, hb9⟩
        go_wp2_with fail
        go_ret
        exact ⟨rfl, below_ge hb0 hb9 (Nat.le_refl _)⟩
    · have h60' : 60 < (len : Int) := by omega
      clear h60
      go_enter Try.func3, Try.ntmps3
      go_wp2_with fail
      refine (awake_any _).mono ?_
      rintro e w9 ⟨rfl, hb9⟩
      go_wp2_with fail
      go_ret
      exact ⟨rfl, below_ge hb0 hb9 (Nat.le_refl _)⟩
  · have h600' : 600 < (nc : Int) := by omega
    clear h600
    go_enter Try.func3, Try.ntmps3
    go_wp2_with fail
    refine (awake_any _).mono ?_
    rintro e w9 ⟨rfl, hb9⟩
    go_wp2_with fail
    go_ret
    exact ⟨rfl, below_ge hb0 hb9 (Nat.le_refl _)⟩
end Go.Proofs.Ytfbjnpbmicbbnaa
