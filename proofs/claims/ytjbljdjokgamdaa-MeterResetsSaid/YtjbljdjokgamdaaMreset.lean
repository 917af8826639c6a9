/- MeterResets: behind a Reset all goes on as in a meter that is new: the walk of the law. -/
import Derived.Test.YtjbljdjokgamdaaMplay
import Derived.Deep.CutBlock
namespace Go.Proofs.Ytjbljdjokgamdaa
open Go.RowKit
set_option linter.unusedVariables false

/-- What no call on the first meter turns: the second meter, the variable that holds the argument, all that was there. -/
structure Duo (w : World) (bx : Array Value) (us : List Int) (W : World) : Prop where
  u : Met W (w.heap.size + 4) (w.heap.size + 3) us
  x : Blk W w.heap.size 42 bx
  b : Below w.heap.size w W
section
variable {w W W' : World} {bx : Array Value} {us : List Int}
theorem Duo.drew (h : Duo w bx us W) : Duo w bx us W.drew := ⟨h.u.drew, h.x.drew, h.b.drew⟩
theorem Duo.alloc (h : Duo w bx us W) (o : Obj) : Duo w bx us (W.alloc o) := ⟨h.u.alloc o, h.x.alloc o, h.b.alloc h.b.size o⟩
theorem Duo.below (h : Duo w bx us W) (hb : Below W.heap.size W W') : Duo w bx us W' := ⟨h.u.below hb h.u.st.lt h.u.row.lt, h.x.below hb h.x.lt, h.b.trans (hb.mono h.b.size)⟩
theorem Duo.grown (h : Duo w bx us W) (hg : W.grownBy W' (some (w.heap.size + 1))) : Duo w bx us W' :=
  ⟨h.u.grown hg (by simp) (by simp), h.x.grown hg (by simp), h.b.grown hg h.b.size (row_some (by omega))⟩
theorem Duo.grownU (h : Duo w bx us W) {us' : List Int} (hu : Met W' (w.heap.size + 4) (w.heap.size + 3) us') (hg : W.grownBy W' (some (w.heap.size + 3))) : Duo w bx us' W' :=
  ⟨hu, h.x.grown hg (by simp), h.b.grown hg h.b.size (row_some (by omega))⟩
theorem Duo.c0 {v0 v1 : Value} (h : Duo w #[v0, v1] us W) : W.cell? ⟨w.heap.size, 0, none⟩ = some v0 := by rw [h.x.cell]; rfl
theorem Duo.c1 {v0 v1 : Value} (h : Duo w #[v0, v1] us W) : W.cell? ⟨w.heap.size, 1, none⟩ = some v1 := by rw [h.x.cell]; rfl
end

set_option maxRecDepth 100000 in
set_option maxHeartbeats 1600000 in
theorem MeterResets_walk (A0 A1 : Option Addr) (len0 len1 cap0 cap1 : Nat) (z0 z1 : List Act3) (w : World) (h0 : ActsIn w A0 len0 z0) (h1 : ActsIn w A1 len1 z1) :
    Calls Try.prog 7 #[.agg #[.slice A0 len0 cap0, .slice A1 len1 cap1]] w fun e w' => e = .returned (.bool true) ∧ Below w.heap.size w w' := by
  by_cases hl : (len0 : Int) ≤ 60 ∧ (len1 : Int) ≤ 60
  · have a1 : (len0 : Int) ≤ 60 := hl.1
    have a2 : (len1 : Int) ≤ 60 := hl.2
    clear hl
    have hbx := Blk.made w 42 #[.slice A0 len0 cap0, .slice A1 len1 cap1]
    have hb0 := (Below.refl w.heap.size w).alloc (Nat.le_refl _) (.cells #[.slice A0 len0 cap0, .slice A1 len1 cap1] 42)
    go_enter Try.func7, Try.ntmps7
    go_wp2_with fail
    refine (New_ok 5 _ (by decide) (by decide)).mono ?_
    rintro e w1 ⟨rfl, hm1, hs1, hb1⟩
    rw [World.size_alloc] at hm1 hs1 hb1
    have hx1 := hbx.below hb1 (by omega)
    have hb1' := hb0.trans (hb1.mono (by omega))
    have HS1 := Lib.hid hs1
    go_wp2_with fail
    refine (New_ok 5 _ (by decide) (by decide)).mono ?_
    rw [hs1]
    rintro e w2 ⟨rfl, hm2, hs2, hb2⟩
    have HS2 := Lib.hid hs2
    have hx2 := hx1.below hb2 (by omega)
    have hb2' := hb1'.trans (hb2.mono (by omega))
    have hm := hm1.below hb2 (by omega) (by omega)
    have hD : Duo w #[.slice A0 len0 cap0, .slice A1 len1 cap1] (zeros 5) w2 := ⟨hm2, hx2, hb2'⟩
    clear hs1 hs2 hbx hb0 hm1 hb1 hx1 hb1' HS1 hm2 hb2 HS2 hx2 hb2'
    go_wp2_with fail
    go_loopw [7] (fun i wr => ∃ (k : Nat) (P : List Int), k ≤ len0 ∧ i = .int .i64 k ∧ P.length = 5 ∧ Met wr (w.heap.size + 2) (w.heap.size + 1) P ∧ Duo w #[.slice A0 len0 cap0, .slice A1 len1 cap1] (zeros 5) wr) (fun i _ => len0 - (intOf i).toNat)
    case atStart => exact ⟨0, zeros 5, Nat.zero_le _, rfl, zeros_length 5, hm, hD⟩
    case round =>
      clear hm hD
      obtain ⟨k, P, hk, rfl, hP, hm, hD⟩ := hrel
      have HP := Lib.hid hP
      clear hP
      have b0 := hD.c0
      by_cases hlt : k < len0
      · obtain ⟨b, off, rfl, c0, c1, c2⟩ := (h0.below hD.b).at_ hlt
        have i1 : (0 : Int) ≤ (k : Int) := by omega
        have i2 : (k : Int) < (len0 : Int) := by omega
        go_wp2_with fail
        refine (does_any _ _ _ _ _ _ _ hm).mono ?_
        rintro e w3 ⟨rfl, hm3, hg3⟩
        go_wp2_with fail
        go_roundw
        case rel => exact ⟨k + 1, _, by omega, by go_num, (doesS_length _ _ _ _).trans HP.out, hm3, hD.grown hg3⟩
        case measure => simp [intOf]; omega
      · obtain ⟨wo, rfl⟩ : ∃ wo : World, wo = wr := ⟨_, rfl⟩
        go_wp2_with fail
        refine (All_any _ _ _ _ hm (by rw [HP.out]; omega)).mono ?_
        rw [HP.out]
        rintro e w2 ⟨rfl, hk2, hs2, hb2⟩
        have HS2 := Lib.hid hs2
        clear hs2
        have hD2 := hD.below hb2
        have hm2 := hm.below hb2 hm.st.lt hm.row.lt
        have hmk : ∀ W : World, (Instr.makeSlice 23 (.int .i64 5) (.int .i64 5)).run Try.prog W = .ok (.slice (some ⟨W.heap.size, 0, none⟩) 5 5) (W.alloc (.cells (cells (zeros 5)) 3)) := make_ints 5 (by decide)
        have HZ := Lib.hid (zeros_length 5)
        have hzo : w.heap.size + 4 < wo.heap.size := hD.u.st.lt
        clear b0 hD hm
        have tok1 : True := trivial
        have tok2 : True := trivial
        go_wp2_with fail
        go_upto_region 12 with fail
        go_cut [74] (fun b W => b = .bool false ∧ Duo w #[.slice A0 len0 cap0, .slice A1 len1 cap1] (zeros 5) W ∧ Met W (w.heap.size + 2) (w.heap.size + 1) (zeros 5))
        case first =>
          go_region_held3 (Duo w #[.slice A0 len0 cap0, .slice A1 len1 cap1] (zeros 5))
            (first | with_reducible exact hD2.drew | with_reducible exact Duo.grown (by assumption) (by assumption) | with_reducible exact Duo.below (by assumption) (by assumption) | with_reducible exact Duo.alloc (by assumption) _)
            (first
            | (go_at_call 14; have _t := tok1; refine (Reset_any _ _ P _ hm2.drew (by rw [HP.out]; omega)).mono ?_; rw [HP.out]; rintro e w3 ⟨rfl, hk3, hs3, hm3, hg3⟩; have HS3 := Lib.hid hs3; clear hs3 tok1)
            | (go_at_call 11; have _t := tok2; refine (ints_b _ _ 5 5 _ _ P P _ HP.out HP.out (RI_of_blk hk3) (RI_of_blk (hk2.drew.grown hg3 (by simp; omega))) (by omega) (by omega)).mono ?_; rintro e w4 ⟨rfl, hb4⟩; have hm4 := hm3.below hb4 hm3.st.lt hm3.row.lt; have hz4 := hm4.st.lt; clear tok2)
            | (go_at_call 14; refine (Reset_any (w.heap.size + 2) (w.heap.size + 1) (zeros 5) _ (by first | with_reducible exact hm4 | with_reducible exact hm4.alloc _) (by rw [HZ.out]; omega)).mono ?_; rw [HZ.out]; rintro e w5 ⟨rfl, hk5, hs5, hm5, hg5⟩; have HS5 := Lib.hid hs5; clear hs5)
            | (go_at_call 11; refine (ints_b _ _ 5 5 _ _ (zeros 5) (zeros 5) _ HZ.out HZ.out ?_ ?_ (by omega) (by omega)).mono ?_; (first | with_reducible exact RI_of_blk hk5 | with_reducible exact RI_of_blk (hk5.alloc _) | exact RI_of_blk (by simpa using hk5)); (first | with_reducible exact RI_of_blk (Blk.made _ 3 _) | exact RI_of_blk ((Blk.made w4 3 (cells (zeros 5))).grown hg5 (by simp; omega))); rintro e w6 ⟨rfl, hb6⟩; (first | (have hm6 : Met w6 (w.heap.size + 2) (w.heap.size + 1) (zeros 5) := hm5.grown (grown_of_below hb6 none) (by simp) (by simp)) | (have hm6 : Met w6 (w.heap.size + 2) (w.heap.size + 1) (zeros 5) := (hm5.alloc _).grown (grown_of_below hb6 none) (by simp) (by simp)))))
          all_goals go_wp2_with fail
          all_goals go_meet
          all_goals exact ⟨rfl, by assumption, hm6⟩
        case rest =>
          obtain ⟨rfl, hD3, hm3⟩ := hcut
          clear hk2 hb2 HS2 hD2 hm2 HP hk hlt tok1 tok2 hmk
          have hP : (zeros 5).length = 5 := HZ.out
          clear HZ
          go_wp2_with fail
          go_loopw [9] (fun i wr => ∃ (k : Nat) (P : List Int), k ≤ len1 ∧ i = .int .i64 k ∧ P.length = 5 ∧ Met wr (w.heap.size + 2) (w.heap.size + 1) P ∧ Duo w #[.slice A0 len0 cap0, .slice A1 len1 cap1] P wr) (fun i _ => len1 - (intOf i).toNat)
          case atStart => exact ⟨0, zeros 5, Nat.zero_le _, rfl, hP, hm3, hD3⟩
          case round =>
            clear hm3 hD3 hP
            obtain ⟨k, P, hk, rfl, hP, hm, hD⟩ := hrel
            have HP := Lib.hid hP
            clear hP
            have b1 := hD.c1
            by_cases hlt : k < len1
            · obtain ⟨b, off, hA, c0, c1, c2⟩ := (h1.below hD.b).at_ hlt
              subst hA
              have i1 : (0 : Int) ≤ (k : Int) := by omega
              have i2 : (k : Int) < (len1 : Int) := by omega
              go_wp2_with fail
              refine (does_any _ _ _ _ _ _ _ hm).mono ?_
              rintro e w3 ⟨rfl, hm3, hg3⟩
              have hD3 := hD.grown hg3
              clear b1 c0 c1 c2
              have b1 := hD3.c1
              obtain ⟨b', off', hA, c0, c1, c2⟩ := (h1.below hD3.b).at_ hlt
              obtain ⟨rfl, rfl⟩ : b = b' ∧ off = off' := by simpa using hA
              clear hA
              go_wp2_with fail
              refine (does_any _ _ _ _ _ _ _ hD3.u).mono ?_
              rintro e w4 ⟨rfl, hm4, hg4⟩
              have hD4 := hD3.grownU hm4 hg4
              have hm5 := hm3.grown hg4 (by simp) (by simp)
              go_wp2_with fail
              go_roundw
              case rel => exact ⟨k + 1, _, by omega, by go_num, (doesS_length _ _ _ _).trans HP.out, hm5, hD4⟩
              case measure => simp [intOf]; omega
            · go_wp2_with fail
              refine (All_any _ _ _ _ hm (by rw [HP.out]; omega)).mono ?_
              rw [HP.out]
              rintro e w3 ⟨rfl, hk3, hs3, hb3⟩
              have HS3 := Lib.hid hs3
              clear hs3
              have hD3 := hD.below hb3
              clear b1
              go_wp2_with fail
              refine (All_any _ _ _ _ hD3.u (by rw [HP.out]; omega)).mono ?_
              rw [HP.out]
              rintro e w4 ⟨rfl, hk4, hs4, hb4⟩
              have HS4 := Lib.hid hs4
              clear hs4
              have hD4 := hD3.below hb4
              go_wp2_with fail
              refine (ints_b _ _ _ _ _ _ P P _ HP.out HP.out (RI_of_blk (hk3.below hb4 hk3.lt)) (RI_of_blk hk4) (by omega) (by omega)).mono ?_
              rintro e w5 ⟨rfl, hb5⟩
              have hD5 := hD4.below hb5
              go_wp2_with fail
              refine (awake_any _).mono ?_
              rintro e w6 ⟨rfl, hb6⟩
              go_wp2_with fail
              go_ret
              exact ⟨rfl, (hD5.below hb6).b⟩
  · by_cases h1' : (60 : Int) < (len0 : Int)
    · clear hl h0 h1
      have hb0 := (Below.refl w.heap.size w).alloc (Nat.le_refl _) (.cells #[.slice A0 len0 cap0, .slice A1 len1 cap1] 42)
      go_enter Try.func7, Try.ntmps7
      go_wp2_with fail
      refine (awake_any _).mono ?_
      rintro e w' ⟨rfl, hb⟩
      go_wp2_with fail
      go_ret
      exact ⟨rfl, hb0.trans (hb.mono (by simp))⟩
    · have h1a : (len0 : Int) ≤ 60 := by omega
      have h2a : (60 : Int) < (len1 : Int) := by omega
      clear hl h0 h1 h1'
      have hb0 := (Below.refl w.heap.size w).alloc (Nat.le_refl _) (.cells #[.slice A0 len0 cap0, .slice A1 len1 cap1] 42)
      go_enter Try.func7, Try.ntmps7
      go_wp2_with fail
      refine (awake_any _).mono ?_
      rintro e w' ⟨rfl, hb⟩
      go_wp2_with fail
      go_ret
      exact ⟨rfl, hb0.trans (hb.mono (by simp))⟩
end Go.Proofs.Ytjbljdjokgamdaa
