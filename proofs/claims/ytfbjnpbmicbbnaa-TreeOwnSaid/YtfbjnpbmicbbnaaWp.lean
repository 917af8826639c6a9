/- TreePlays: the walk of the law. -/
import Derived.Test.YtfbjnpbmicbbnaaTr
namespace Go.Proofs.Ytfbjnpbmicbbnaa
open Go.RowKit
set_option linter.unusedVariables false

theorem ints_same {A B : Option Addr} {n ca cb : Nat} {xs : List Int} {w : World} (hn : xs.length = n) (hA : RI w A xs) (hB : RI w B xs) (hx : n ≤ 4611686018427387904) :
    Calls Try.prog 22 #[.slice A n ca, .slice B n cb] w fun e w' => e = .returned (.bool true) ∧ Below w.heap.size w w' := by
  refine (ints_b A B n n ca cb xs xs w hn hn hA hB hx).mono ?_
  rintro e w' ⟨rfl, hb⟩
  exact ⟨by rw [decide_eq_true (rfl : xs = xs)], hb⟩

/-- The tree and the document's row beside each other: what a call of either leaves. -/
structure Two (a : World) (P G c S g' : Nat) (x y : List Int) (W : World) : Prop where
  tm : ∃ t, TM W P G c S x t
  bi : BI W g' y
  be : Below a.heap.size a W
theorem two_does {a : World} {P G c S g' L : Nat} {x y : List Int} {W : World} (h : Two a P G c S g' x y W) (hr : Rt x L) (hne : G ≠ g') (hG : a.heap.size ≤ G) (o i n : Int) :
    Calls Try.prog 21 #[.pointer (some ⟨P, 0, none⟩), .agg #[.int .i64 o, .int .i64 i, .int .i64 n]] W fun e w' => e = .returned (.int .i64 (actV x o i n).2) ∧ Two a P G c S g' (actV x o i n).1 y w' := by
  obtain ⟨⟨t, ht⟩, hB, hb⟩ := h
  refine (does_any ht hr o i n).mono ?_
  rintro e w' ⟨rfl, ht', hg⟩
  exact ⟨rfl, ht', hB.grown hg (fun e => by injection e with e; exact hne e.symm), hb.grown hg hb.size (row_some hG)⟩
theorem two_plays {a : World} {P G c S g' L cap' : Nat} {x y : List Int} {W : World} (h : Two a P G c S g' x y W) (hr : Rt y L) (hS : y.length = S) (hne : G ≠ g') (hnp : P ≠ g') (hG : a.heap.size ≤ g') (o i n : Int) :
    Calls Try.prog 12 #[.slice (some ⟨g', 0, none⟩) S cap', .agg #[.int .i64 o, .int .i64 i, .int .i64 n]] W fun e w' => e = .returned (.int .i64 (actV y o i n).2) ∧ Two a P G c S g' x (actV y o i n).1 w' := by
  obtain ⟨⟨t, ht⟩, hB, hb⟩ := h
  refine (plays_any hS hB hr o i n).mono ?_
  rintro e w' ⟨rfl, hB', hg⟩
  exact ⟨rfl, ⟨t, ht.grown hg (fun e => by injection e with e; exact hnp e) (fun e => by injection e with e; exact hne e)⟩, hB', hb.grown hg hb.size (row_some hG)⟩
theorem Two.drew {a : World} {P G c S g' : Nat} {x y : List Int} {W : World} (h : Two a P G c S g' x y W) : Two a P G c S g' x y W.drew := by
  obtain ⟨⟨t, ht⟩, hB, hb⟩ := h
  exact ⟨⟨t, ht.drewN 1⟩, hB.drewN 1, below_drewN hb 1⟩
theorem Two.acts {a w0 : World} {P G c S g' len k b off : Nat} {x y : List Int} {zs : List Act3} {W : World} (h : Two a P G c S g' x y W) (hz : ActsIn a (some ⟨b, off, none⟩) len zs) (hk : k < len) :
    W.cell? ⟨b, off + k * 3, none⟩ = some (.int .i64 (act zs k).o) ∧ W.cell? ⟨b, off + k * 3 + 1, none⟩ = some (.int .i64 (act zs k).i) ∧ W.cell? ⟨b, off + k * 3 + 2, none⟩ = some (.int .i64 (act zs k).n) := by
  obtain ⟨b', off', e, h0, h1, h2⟩ := (hz.below h.be).at_ hk
  injection e with e
  injection e with e1 e2
  subst e1 e2
  exact ⟨h0, h1, h2⟩

set_option maxRecDepth 1000000 in
set_option maxHeartbeats 3200000 in
theorem TreePlays_in {A B : Option Addr} {nc cap len lcap : Nat} {r : List Int} {zs : List Act3} {w : World} {L : Nat} (hl : r.length = nc) (hR : RI w A r) (hr : Rt r L) (hz : ActsIn w B len zs) (h100 : (len : Int) ≤ 100) :
    Calls Try.prog 5 #[.slice A nc cap, .slice B len lcap] w fun e w' => e = .returned (.bool true) ∧ Below w.heap.size w w' := by
  have hs1 := hr.len_pos
  have hs2 := hr.len_le
  rw [hl] at hs1 hs2
  obtain ⟨b, off, rfl, _⟩ := hR (by omega)
  obtain ⟨i0, hi, hzI0, hzI1, hzI2⟩ := info_parts Try.infoI
  have i1 : (nc : Int) ≤ 512 := by omega
  have i1' : (1 : Int) ≤ nc := by omega
  have HL := Lib.hid hl
  clear hl
  go_enter Try.func5, Try.ntmps5
  go_wp2_with fail
  refine (New_ok HL.out hR hr).mono ?_
  generalize hP : w.heap.size + 1 = P
  generalize hG : w.heap.size = G
  have hGP : G ≤ P := by omega
  have HG := Lib.hid hG
  clear hG hP
  rintro e w1 ⟨rfl, ⟨t, hm⟩, hb1⟩
  rw [← HG.out] at hb1
  have hR1 : RI w1 (some ⟨b, off, none⟩) r := hR.below hb1 (Nat.le_refl _)
  have hR2 : RI (w1.alloc (.cells #[] 3)) (some ⟨b, off, none⟩) r := hR1.below ((Below.refl w1.heap.size w1).alloc (Nat.le_refl _) _) (Nat.le_refl _)
  have hP1 := hm.hp.lt
  have hG1 := hm.hg.lt
  go_wp2_with fail
  refine (Wrong_ok HL.out hR1 hr).mono ?_
  rintro e w2 ⟨rfl, rfl⟩
  go_wp2_with (at_builtin; refine wpList_append_own_at _ rfl _ _ 22 rfl w1.heap.size 3 i0 (.int .i64 0) 1 8 Try.underlying22 hi hzI0 hzI1 hzI2 rfl (by decide) (.slice (some ⟨w1.heap.size, 0, none⟩) 0 0) 0 [] rfl (World.ownsRow_made w1 #[] 0 (Nat.le_refl _) (by decide) rfl) ⟨b, off, none⟩ nc cap (r.map (Value.int .i64)) rfl ?c0 (src_of_RI hR2) ?c2 ?c3 ?c4 ?c5 ?_)
  case c0 => rw [List.length_map, HL.out]; omega
  case c2 => intro u hu; obtain ⟨x, _, rfl⟩ := List.mem_map.1 hu; rfl
  case c3 => unfold maxLen; omega
  case c4 => omega
  case c5 => simp
  intro v' w3 hown hg3 _ hat
  obtain ⟨g', cap', rfl, hbg, hc1, hc2, hB⟩ := BI_of_own hown (by omega)
  have hb3 := ((Below.refl w1.heap.size w1).alloc (Nat.le_refl _) (.cells #[] 3)).grown hg3 (by simp) (fun k e => by injection e with e; simp at e; omega)
  have hT3 : Two w P G (2 * nc) nc g' r r w3 := ⟨⟨t, hm.below' hb3⟩, hB, below_ge hb1 hb3 (Nat.le_refl _)⟩
  have hne : G ≠ g' := by omega
  have hnp : P ≠ g' := by omega
  have hGa : w.heap.size ≤ G := by rw [HG.out]; exact Nat.le_refl _
  have hga : w.heap.size ≤ g' := by have := hb1.size; omega
  clear hR2 hat hown hg3 hR1 hb1 hb3 hB hm
  go_wp2_with fail
  go_loopw [9] (fun i wr => ∃ k : Nat, k ≤ len ∧ i = .int .i64 k ∧ Two w P G (2 * nc) nc g' (playN r zs k) (playN r zs k) wr) (fun i _ => len - (intOf i).toNat)
  case atStart => exact ⟨0, Nat.zero_le _, rfl, hT3⟩
  case round =>
    obtain ⟨k, hk, rfl, hT⟩ := hrel
    by_cases hlt : k < len
    · obtain ⟨ab, aoff, rfl, q0, q1, q2⟩ := (hz.below hT.be).at_ hlt
      have j1 : (0 : Int) ≤ (k : Int) := by omega
      have j2 : (k : Int) < (len : Int) := by omega
      have hstep : playN r zs (k + 1) = (actV (playN r zs k) (act zs k).o (act zs k).i (act zs k).n).1 := rfl
      have HST := Lib.hid hstep
      have hrk := hr.playN zs k
      have hlk : (playN r zs k).length = nc := by rw [playN_len, HL.out]
      have HLK := Lib.hid hlk
      have HTD := hT.drew
      clear hstep hlk
      generalize playN r zs k = q at *
      go_wp2_with fail
      go_region_held3 (fun W => W.cell? ⟨ab, aoff + k * 3, none⟩ = some (.int .i64 (act zs k).o) ∧ W.cell? ⟨ab, aoff + k * 3 + 1, none⟩ = some (.int .i64 (act zs k).i) ∧ W.cell? ⟨ab, aoff + k * 3 + 2, none⟩ = some (.int .i64 (act zs k).n))
        (first | exact ⟨q0, q1, q2⟩ | assumption)
        (first
          | (go_at_call 21; refine (two_does (by assumption) hrk hne hGa _ _ _).mono ?_; rintro e w4 ⟨rfl, hT4⟩; have hq4 := hT4.acts (w0 := w) hz hlt)
          | (go_at_call 12; refine (two_plays (by assumption) hrk HLK.out hne hnp hga _ _ _).mono ?_; rintro e w5 ⟨rfl, hT5⟩; have hq5 := hT5.acts (w0 := w) hz hlt))
      all_goals go_wp2_with fail
      all_goals go_roundw
      all_goals first
        | (simp [intOf]; omega)
        | exact ⟨k + 1, by omega, by go_num, by rw [HST.out]; exact hT5⟩
        | exact ⟨k + 1, by omega, by go_num, by rw [HST.out]; exact hT4⟩
    · obtain rfl : k = len := by omega
      obtain ⟨⟨t', hm⟩, hB, hbw⟩ := hT
      have hr' := hr.playN zs k
      have hlen : (playN r zs k).length = nc := by rw [playN_len, HL.out]
      generalize playN r zs k = q at *
      have HQ := Lib.hid hlen
      clear hlen
      have hsm := fun W (h : RI W (some ⟨g', 0, none⟩) q) => RSum_ok (c := cap') HQ.out h hr' 0 nc (Nat.zero_le _) (Nat.le_refl _)
      rw [Nat.sub_zero] at hsm
      go_wp2_with fail
      refine (TCounts_ok hm hr').mono ?_
      rintro e w4 ⟨⟨c1, c2, rfl, hc1g, hBc⟩, hb4⟩
      have hm4 := hm.below' hb4
      have hB4 := hB.below hb4 hB.lt
      have hbw4 := below_ge hbw hb4 (Nat.le_refl _)
      clear hm hB hbw hb4
      go_wp2_with fail
      refine (ints_same HQ.out (RI_of_BI hBc) (RI_of_BI hB4) (by omega)).mono ?_
      rintro e w5 ⟨rfl, hb5⟩
      have hm5 := hm4.below' hb5
      have hB5 := hB4.below hb5 hB4.lt
      have hbw5 := below_ge hbw4 hb5 (Nat.le_refl _)
      clear hm4 hB4 hbw4 hb5
      go_wp2_with fail
      refine (TSegs_ok hm5).mono ?_
      rintro e w6 ⟨rfl, rfl⟩
      go_wp2_with fail
      refine (TTotal_ok hm5 hr').mono ?_
      rintro e w6 ⟨rfl, rfl⟩
      go_wp2_with fail
      refine (hsm _ (RI_of_BI hB5)).mono ?_
      rintro e w6 ⟨rfl, rfl⟩
      go_wp2_with fail
      refine (awake_any _).mono ?_
      rintro e w9 ⟨rfl, hb9⟩
      go_wp2_with fail
      go_ret
      exact ⟨rfl, below_ge hbw5 hb9 (Nat.le_refl _)⟩

set_option maxRecDepth 100000 in
theorem TreePlays_walk (A : Option Addr) (nc cap : Nat) (r : List Int) (B : Option Addr) (len lcap : Nat) (zs : List Act3) (w : World) (hs : IntsIn w A nc r) (hz : ActsIn w B len zs) :
    Calls Try.prog 5 #[.slice A nc cap, .slice B len lcap] w fun e w' => e = .returned (.bool true) ∧ Below w.heap.size w w' := by
  have hm1 := hs.hm
  have hm2 := hz.hm
  have HL := Lib.hid hs.hl
  by_cases h600 : (nc : Int) ≤ 600
  · by_cases h60 : (len : Int) ≤ 100
    · by_cases hp : powB nc = true
      · by_cases hsm : Smalls r
        · obtain ⟨L, hr⟩ := Rt.mk' (by rw [HL.out]; exact hp) hsm
          exact TreePlays_in HL.out hs.hr hr hz h60
        · have HSM := Lib.hid hsm
          clear hsm
          go_enter Try.func5, Try.ntmps5
          go_wp2_with fail
          refine (New_range HL.out hs.hr hp HSM.out).mono ?_
          rintro e w1 ⟨rfl, rfl⟩
          go_wp2_with fail
          refine (Wrong_range HL.out hs.hr hp HSM.out (by omega)).mono ?_
          rintro e w1 ⟨rfl, rfl⟩
          go_wp2_with fail
          refine (awake_any _).mono ?_
          rintro e w9 ⟨rfl, hb9⟩
          go_wp2_with fail
          go_ret
          exact ⟨rfl, hb9⟩
      · have hp' : powB nc = false := by simpa using hp
        clear hp
        go_enter Try.func5, Try.ntmps5
        go_wp2_with fail
        refine (New_arg hp' (by omega)).mono ?_
        rintro e w1 ⟨rfl, rfl⟩
        go_wp2_with fail
        refine (Wrong_arg hp' (by omega)).mono ?_
        rintro e w1 ⟨rfl, rfl⟩
        go_wp2_with fail
        refine (awake_any _).mono ?_
        rintro e w9 ⟨rfl, hb9⟩
        go_wp2_with fail
        go_ret
        exact ⟨rfl, hb9⟩
    · have h60' : 100 < (len : Int) := by omega
      clear h60
      go_enter Try.func5, Try.ntmps5
      go_wp2_with fail
      refine (awake_any _).mono ?_
      rintro e w9 ⟨rfl, hb9⟩
      go_wp2_with fail
      go_ret
      exact ⟨rfl, hb9⟩
  · have h600' : 600 < (nc : Int) := by omega
    clear h600
    go_enter Try.func5, Try.ntmps5
    go_wp2_with fail
    refine (awake_any _).mono ?_
    rintro e w9 ⟨rfl, hb9⟩
    go_wp2_with fail
    go_ret
    exact ⟨rfl, hb9⟩
end Go.Proofs.Ytfbjnpbmicbbnaa
