/- SpreadPlaces: the walk of the law. -/
import Derived.Test.YtahmhnbjpgkbbaaRh
import Derived.Test.YtahmhnbjpgkbbaaPd
namespace Go.Proofs.Ytahmhnbjpgkbbaa
open Go.RowKit
set_option linter.unusedVariables false

theorem ints_same (A B : Option Addr) (n m ca cb : Nat) (xs : List Int) (w : World) (hn : xs.length = n) (hm : xs.length = m) (hA : RI w A xs) (hB : RI w B xs)
    (hx : n ≤ 4611686018427387904) :
    Calls Try.prog 18 #[.slice A n ca, .slice B m cb] w fun e w' => e = .returned (.bool true) ∧ Below w.heap.size w w' :=
  (ints_b A B n m ca cb xs xs w hn hm hA hB hx).mono fun e w' ⟨he, hb⟩ => ⟨by rw [he]; simp, hb⟩

set_option maxRecDepth 100000 in
set_option maxHeartbeats 1600000 in
theorem SpreadPlaces_walk (n first segs i : Int) (w : World) :
    Calls Try.prog 6 #[.int .i64 n, .agg #[.int .i64 first, .int .i64 segs], .int .i64 i] w fun e w' => e = .returned (.bool true) ∧ Below w.heap.size w w' := by
  have hb0 : Below w.heap.size w (w.alloc (.cells #[.int .i64 first, .int .i64 segs] 35)) := (Below.refl _ _).alloc (Nat.le_refl _) _
  by_cases hs : smallB n segs = true
  · by_cases hok : okB n segs = true
    · obtain ⟨p1, p2, p3, p4⟩ := okB_true hok
      by_cases hr : 0 ≤ first ∧ first ≤ 512 - segs
      · obtain ⟨N, rfl⟩ := Int.eq_ofNat_of_zero_le p3
        obtain ⟨S, rfl⟩ := Int.eq_ofNat_of_zero_le (by omega : 0 ≤ segs)
        have r1 := hr.1
        have r2 := hr.2
        have hpl : (pl (N : Int) first S).length = N := by have := pl_length (first := first) hok; omega
        have HPL := Lib.hid hpl
        have HR := Lib.hid hr
        clear hr hpl
        by_cases hi : 0 ≤ i ∧ i ≤ (N : Int) - 1
        · obtain ⟨I, rfl⟩ := Int.eq_ofNat_of_zero_le hi.1
          have i1 : (0 : Int) ≤ (I : Int) := by omega
          have i2 : (I : Int) < (N : Int) := by omega
          clear hi
          go_enter Try.func6, Try.ntmps6
          go_wp2_with fail
          refine (Small_any _ _ _).mono ?_
          rw [hs]
          rintro e w1 ⟨rfl, rfl⟩
          go_wp2_with fail
          refine (Places_ok _ _ _ _ hok HR.out).mono ?_
          rintro e w1 ⟨rfl, hR1, hb1⟩
          rw [World.size_alloc] at hR1
          replace hb1 := below_ge hb0 hb1 (Nat.le_refl _)
          go_wp2_with fail
          refine (Place_ok _ _ _ I _ hok HR.out (by omega)).mono ?_
          rintro e w2 ⟨rfl, hb2⟩
          have hR2 := hR1.below hb2 (Nat.le_refl _)
          replace hb2 := below_ge hb1 hb2 (Nat.le_refl _)
          clear hb1 hR1
          go_wp2_with fail
          refine (Right_any _ _ _).mono ?_
          rw [hok]
          rintro e w3 ⟨rfl, rfl⟩
          go_wp2_with fail
          refine (RPlaces_ok _ _ _ _ hok r1 (by omega)).mono ?_
          rintro e w3 ⟨⟨A, cap, rfl, hR3⟩, hb3⟩
          have hRp := hR2.below hb3 (Nat.le_refl _)
          replace hb3 := below_ge hb2 hb3 (Nat.le_refl _)
          clear hb2 hR2
          go_wp2_with fail
          refine (ints_same _ _ _ _ _ _ (pl (N : Int) first S) _ HPL.out HPL.out hRp hR3 (by omega)).mono ?_
          rintro e w4 ⟨rfl, hb4⟩
          have hR4 := hR3.below hb4 (Nat.le_refl _)
          replace hb4 := below_ge hb3 hb4 (Nat.le_refl _)
          obtain ⟨b, off, rfl, hc⟩ := hR4.at_ (k := I) (by rw [HPL.out]; omega)
          clear hRp hR3 hR4 hb3
          have t1 : (nth (pl (N : Int) first S) I == nth (pl (N : Int) first S) I) = true := by simp
          go_wp2_with fail
          refine (awake_any _).mono ?_
          rintro e w5 ⟨rfl, hb5⟩
          go_wp2_with fail
          go_ret
          exact ⟨rfl, below_ge hb4 hb5 (Nat.le_refl _)⟩
        · have hno : ¬ ((0 ≤ first ∧ first ≤ 512 - (S : Int)) ∧ (0 ≤ i ∧ i ≤ (N : Int) - 1)) := fun h => hi h.2
          have HN := Lib.hid hno
          have HI := Lib.hid hi
          clear hi hno
          by_cases hneg : i < 0
          · go_enter Try.func6, Try.ntmps6
            go_wp2_with fail
            refine (Small_any _ _ _).mono ?_
            rw [hs]
            rintro e w1 ⟨rfl, rfl⟩
            go_wp2_with fail
            refine (Places_ok _ _ _ _ hok HR.out).mono ?_
            rintro e w1 ⟨rfl, hR1, hb1⟩
            rw [World.size_alloc] at hR1
            replace hb1 := below_ge hb0 hb1 (Nat.le_refl _)
            go_wp2_with fail
            refine (Place_range _ _ _ _ _ hok HN.out).mono ?_
            rintro e w2 ⟨rfl, hb2⟩
            have hR2 := hR1.below hb2 (Nat.le_refl _)
            replace hb2 := below_ge hb1 hb2 (Nat.le_refl _)
            clear hb1 hR1
            go_wp2_with fail
            refine (Right_any _ _ _).mono ?_
            rw [hok]
            rintro e w3 ⟨rfl, rfl⟩
            go_wp2_with fail
            refine (RPlaces_ok _ _ _ _ hok r1 (by omega)).mono ?_
            rintro e w3 ⟨⟨A, cap, rfl, hR3⟩, hb3⟩
            have hRp := hR2.below hb3 (Nat.le_refl _)
            replace hb3 := below_ge hb2 hb3 (Nat.le_refl _)
            clear hb2 hR2
            go_wp2_with fail
            refine (ints_same _ _ _ _ _ _ (pl (N : Int) first S) _ HPL.out HPL.out hRp hR3 (by omega)).mono ?_
            rintro e w4 ⟨rfl, hb4⟩
            replace hb4 := below_ge hb3 hb4 (Nat.le_refl _)
            clear hRp hR3 hb3
            go_wp2_with fail
            refine (awake_any _).mono ?_
            rintro e w5 ⟨rfl, hb5⟩
            go_wp2_with fail
            go_ret
            exact ⟨rfl, below_ge hb4 hb5 (Nat.le_refl _)⟩
          · have hge : (N : Int) ≤ i := by have := HI.out; omega
            go_enter Try.func6, Try.ntmps6
            go_wp2_with fail
            refine (Small_any _ _ _).mono ?_
            rw [hs]
            rintro e w1 ⟨rfl, rfl⟩
            go_wp2_with fail
            refine (Places_ok _ _ _ _ hok HR.out).mono ?_
            rintro e w1 ⟨rfl, hR1, hb1⟩
            rw [World.size_alloc] at hR1
            replace hb1 := below_ge hb0 hb1 (Nat.le_refl _)
            go_wp2_with fail
            refine (Place_range _ _ _ _ _ hok HN.out).mono ?_
            rintro e w2 ⟨rfl, hb2⟩
            have hR2 := hR1.below hb2 (Nat.le_refl _)
            replace hb2 := below_ge hb1 hb2 (Nat.le_refl _)
            clear hb1 hR1
            go_wp2_with fail
            refine (Right_any _ _ _).mono ?_
            rw [hok]
            rintro e w3 ⟨rfl, rfl⟩
            go_wp2_with fail
            refine (RPlaces_ok _ _ _ _ hok r1 (by omega)).mono ?_
            rintro e w3 ⟨⟨A, cap, rfl, hR3⟩, hb3⟩
            have hRp := hR2.below hb3 (Nat.le_refl _)
            replace hb3 := below_ge hb2 hb3 (Nat.le_refl _)
            clear hb2 hR2
            go_wp2_with fail
            refine (ints_same _ _ _ _ _ _ (pl (N : Int) first S) _ HPL.out HPL.out hRp hR3 (by omega)).mono ?_
            rintro e w4 ⟨rfl, hb4⟩
            replace hb4 := below_ge hb3 hb4 (Nat.le_refl _)
            clear hRp hR3 hb3
            go_wp2_with fail
            refine (awake_any _).mono ?_
            rintro e w5 ⟨rfl, hb5⟩
            go_wp2_with fail
            go_ret
            exact ⟨rfl, below_ge hb4 hb5 (Nat.le_refl _)⟩
      · have hno : ¬ ((0 ≤ first ∧ first ≤ 512 - segs) ∧ (0 ≤ i ∧ i ≤ n - 1)) := fun h => hr h.1
        have HN := Lib.hid hno
        have HR := Lib.hid hr
        clear hr hno
        by_cases hneg : first < 0
        · go_enter Try.func6, Try.ntmps6
          go_wp2_with fail
          refine (Small_any _ _ _).mono ?_
          rw [hs]
          rintro e w1 ⟨rfl, rfl⟩
          go_wp2_with fail
          refine (Places_range _ _ _ _ hok HR.out).mono ?_
          rintro e w1 ⟨rfl, rfl⟩
          go_wp2_with fail
          refine (Place_range _ _ _ _ _ hok HN.out).mono ?_
          rintro e w2 ⟨rfl, hb2⟩
          replace hb2 := below_ge hb0 hb2 (Nat.le_refl _)
          go_wp2_with fail
          refine (Right_any _ _ _).mono ?_
          rw [hok]
          rintro e w3 ⟨rfl, rfl⟩
          go_wp2_with fail
          refine (awake_any _).mono ?_
          rintro e w5 ⟨rfl, hb5⟩
          go_wp2_with fail
          go_ret
          exact ⟨rfl, below_ge hb2 hb5 (Nat.le_refl _)⟩
        · have hge : 512 - segs < first := by have := HR.out; omega
          go_enter Try.func6, Try.ntmps6
          go_wp2_with fail
          refine (Small_any _ _ _).mono ?_
          rw [hs]
          rintro e w1 ⟨rfl, rfl⟩
          go_wp2_with fail
          refine (Places_range _ _ _ _ hok HR.out).mono ?_
          rintro e w1 ⟨rfl, rfl⟩
          go_wp2_with fail
          refine (Place_range _ _ _ _ _ hok HN.out).mono ?_
          rintro e w2 ⟨rfl, hb2⟩
          replace hb2 := below_ge hb0 hb2 (Nat.le_refl _)
          go_wp2_with fail
          refine (Right_any _ _ _).mono ?_
          rw [hok]
          rintro e w3 ⟨rfl, rfl⟩
          go_wp2_with fail
          refine (awake_any _).mono ?_
          rintro e w5 ⟨rfl, hb5⟩
          go_wp2_with fail
          go_ret
          exact ⟨rfl, below_ge hb2 hb5 (Nat.le_refl _)⟩
    · have hok' : okB n segs = false := by simpa using hok
      clear hok
      go_enter Try.func6, Try.ntmps6
      go_wp2_with fail
      refine (Small_any _ _ _).mono ?_
      rw [hs]
      rintro e w1 ⟨rfl, rfl⟩
      go_wp2_with fail
      refine (Places_arg _ _ _ _ hok').mono ?_
      rintro e w1 ⟨rfl, rfl⟩
      go_wp2_with fail
      refine (Place_arg _ _ _ _ _ hok').mono ?_
      rintro e w2 ⟨rfl, hb2⟩
      replace hb2 := below_ge hb0 hb2 (Nat.le_refl _)
      go_wp2_with fail
      refine (Right_any _ _ _).mono ?_
      rw [hok']
      rintro e w3 ⟨rfl, rfl⟩
      go_wp2_with fail
      refine (awake_any _).mono ?_
      rintro e w5 ⟨rfl, hb5⟩
      go_wp2_with fail
      go_ret
      exact ⟨rfl, below_ge hb2 hb5 (Nat.le_refl _)⟩
  · have hs' : smallB n segs = false := by simpa using hs
    clear hs
    go_enter Try.func6, Try.ntmps6
    go_wp2_with fail
    refine (Small_any _ _ _).mono ?_
    rw [hs']
    rintro e w1 ⟨rfl, rfl⟩
    go_wp2_with fail
    refine (awake_any _).mono ?_
    rintro e w5 ⟨rfl, hb5⟩
    go_wp2_with fail
    go_ret
    exact ⟨rfl, below_ge hb0 hb5 (Nat.le_refl _)⟩
end Go.Proofs.Ytahmhnbjpgkbbaa
