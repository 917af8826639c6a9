/- SpreadHalves: the walk of the law. -/
import Derived.Test.YtahmhnbjpgkbbaaHf
import Derived.Test.YtahmhnbjpgkbbaaWp
namespace Go.Proofs.Ytahmhnbjpgkbbaa
open Go.RowKit
set_option linter.unusedVariables false

set_option maxRecDepth 100000 in
theorem halves_out {n segs first : Int} {w : World} (h : segs < 1 ∨ 256 < segs ∨ first < 0 ∨ (1 ≤ segs ∧ segs ≤ 256 ∧ 512 - 2 * segs < first)) :
    Calls Try.prog 5 #[.int .i64 n, .int .i64 segs, .int .i64 first] w fun e w' => e = .returned (.bool true) ∧ Below w.heap.size w w' := by
  by_cases c1 : segs < 1
  · clear h
    go_enter Try.func5, Try.ntmps5
    go_wp2_with fail
    refine (awake_any _).mono ?_
    rintro e w5 ⟨rfl, hb5⟩
    go_wp2_with fail
    go_ret
    exact ⟨rfl, hb5⟩
  · have d1 : 1 ≤ segs := by omega
    by_cases c2 : 256 < segs
    · clear h c1
      go_enter Try.func5, Try.ntmps5
      go_wp2_with fail
      refine (awake_any _).mono ?_
      rintro e w5 ⟨rfl, hb5⟩
      go_wp2_with fail
      go_ret
      exact ⟨rfl, hb5⟩
    · have d2 : segs ≤ 256 := by omega
      by_cases c3 : first < 0
      · clear h c1 c2
        go_enter Try.func5, Try.ntmps5
        go_wp2_with fail
        refine (awake_any _).mono ?_
        rintro e w5 ⟨rfl, hb5⟩
        go_wp2_with fail
        go_ret
        exact ⟨rfl, hb5⟩
      · have d3 : 0 ≤ first := by omega
        have d4 : 512 - 2 * segs < first := by omega
        clear h c1 c2 c3
        go_enter Try.func5, Try.ntmps5
        go_wp2_with fail
        refine (awake_any _).mono ?_
        rintro e w5 ⟨rfl, hb5⟩
        go_wp2_with fail
        go_ret
        exact ⟨rfl, hb5⟩

theorem mem_nth {xs : List Int} {k : Nat} (h : k < xs.length) : nth xs k ∈ xs := by rw [nth_eq h]; exact List.getElem_mem h
theorem pl_bd {n first segs : Int} (hok : okB n segs = true) {i : Nat} (h : i < (pl n first segs).length) (hf : 0 ≤ first) : 8 * first ≤ nth (pl n first segs) i ∧ nth (pl n first segs) i ≤ 8 * (first + segs) := by
  obtain ⟨p1, p2, p3, p4⟩ := okB_true hok
  have hm := mem_nth h
  revert hm
  generalize nth (pl n first segs) i = x
  intro hm
  unfold pl plTo at hm
  obtain ⟨k, hk, hx⟩ := List.mem_flatMap.1 hm
  unfold seg at hx
  obtain ⟨o, ho, rfl⟩ := List.mem_map.1 hx
  obtain ⟨j, hj, rfl⟩ := List.mem_iff_getElem.1 ho
  rw [offs_length] at hj
  have := offs_bd hj (sN_le hok k)
  rw [nth_eq (by rw [offs_length]; exact hj)] at this
  have hk' : k < segs.toNat := List.mem_range.1 hk
  omega

set_option maxRecDepth 100000 in
set_option maxHeartbeats 1600000 in
theorem SpreadHalves_walk (n segs first : Int) (w : World) :
    Calls Try.prog 5 #[.int .i64 n, .int .i64 segs, .int .i64 first] w fun e w' => e = .returned (.bool true) ∧ Below w.heap.size w w' := by
  by_cases hin : (1 ≤ segs ∧ segs ≤ 256) ∧ (0 ≤ first ∧ first ≤ 512 - 2 * segs)
  · have d1 := hin.1.1
    have d2 := hin.1.2
    have d3 := hin.2.1
    have d4 := hin.2.2
    clear hin
    by_cases hok : okB n (2 * segs) = true
    · obtain ⟨p1, p2, p3, p4⟩ := okB_true hok
      obtain ⟨N, rfl⟩ := Int.eq_ofNat_of_zero_le p3
      obtain ⟨S, rfl⟩ := Int.eq_ofNat_of_zero_le (by omega : 0 ≤ segs)
      have hpl : ∀ f, (pl (N : Int) f (2 * S)).length = N := fun f => by have := pl_length (first := f) hok; omega
      have HPL := Lib.hid hpl
      clear hpl
      obtain ⟨H, hH⟩ : ∃ H : Nat, N / 2 = H := ⟨_, rfl⟩
      have hmid : aZ (N : Int) (2 * (S : Int)) S = (H : Int) := by rw [aZ_mid (n := (N : Int)) d1]; omega
      have h1 : 2 * (H : Int) ≤ (N : Int) := by omega
      have h2 : (N : Int) ≤ 2 * (H : Int) + 1 := by omega
      have HH := Lib.hid hH
      clear hH
      have t9 : ((N : Int) != (N : Int)) = false := by simp
      go_enter Try.func5, Try.ntmps5
      go_wp2_with fail
      refine (Places_ok _ _ _ _ hok ⟨d3, d4⟩).mono ?_
      rintro e w1 ⟨rfl, hR1, hb1⟩
      go_wp2_with fail
      refine (Ahead_ok _ _ _ _ hok ⟨by omega, by omega⟩).mono ?_
      rw [hmid]
      rintro e w2 ⟨rfl, hb2⟩
      have hR2 := hR1.below hb2 (Nat.le_refl _)
      replace hb2 := below_ge hb1 hb2 (Nat.le_refl _)
      clear hR1 hb1
      have m0 : (0 : Int) ≤ (H : Int) := by omega
      have m1 : (H : Int) ≤ (N : Int) := by omega
      go_wp2_with fail
      refine (Places_ok _ _ _ _ hok ⟨by omega, by omega⟩).mono ?_
      rintro e w3 ⟨rfl, hR3, hb3⟩
      have hL3 := hR2.below hb3 (Nat.le_refl _)
      replace hb3 := below_ge hb2 hb3 (Nat.le_refl _)
      clear hR2 hb2
      go_wp2_with fail
      go_loopw [13] (fun i wr => ∃ j d : Nat, j ≤ N ∧ i = .int .i64 j ∧ wr = w3.drewN d) (fun i _ => N - (intOf i).toNat)
      case atStart => exact ⟨0, 0, Nat.zero_le _, rfl, by simp [World.drewN]⟩
      case round =>
        obtain ⟨j, d, hj, rfl, rfl⟩ := hrel
        by_cases hjt : j < N
        · have c0 := hL3.cell0 (k := j) (by rw [HPL.out]; exact hjt)
          have c1 := hR3.cell0 (k := j) (by rw [HPL.out]; exact hjt)
          rw [nth_pl_shift (by rw [HPL.out]; exact hjt)] at c0
          have bd := pl_bd hok (first := 0) (by rw [HPL.out]; exact hjt) (Int.le_refl _)
          generalize nth (pl (N : Int) 0 (2 * S)) j = x at c0 c1 bd
          have k1 : (0 : Int) ≤ (j : Int) := by omega
          have k2 : (j : Int) < (N : Int) := by omega
          have n1 : IntKind.i64.wrap (8 * first) = 8 * first := IntWalk.i64_in _ (by omega)
          have n2 : IntKind.i64.wrap (x + 8 * first) = x + 8 * first := IntWalk.i64_in _ (by omega)
          have t2 : ((x + 8 * first) != (x + 8 * first)) = false := by simp
          go_wp2_with fail
          go_quiet (fail)
          go_wp2_with fail
          go_roundw
          case rel => exact ⟨j + 1, d + nq, by omega, by go_num, by first | rfl | rw [World.drewN_drewN]⟩
          case measure => simp [intOf]; omega
        · obtain rfl : j = N := by omega
          have hb3d := below_drewN hb3 d
          have hL3d := hL3.drewN d
          generalize w3.drewN d = w4 at hb3d hL3d ⊢
          by_cases hpar : (j : Int) = 2 * (H : Int)
          · have e1 : (j : Int).tmod 2 = 0 := by rw [Int.tmod_eq_emod_of_nonneg (by omega)]; omega
            have e2 : (j : Int).tdiv 2 = (H : Int) := by rw [Int.tdiv_eq_ediv_of_nonneg (by omega)]; omega
            have hokH : okB (H : Int) (S : Int) = true := okB_half (by rw [← hpar]; exact hok) d2
            have hcut : pl (j : Int) first (2 * (S : Int)) = pl H first S ++ pl H (first + S) S := by rw [hpar]; exact pl_halves d1
            rw [hcut] at hL3d
            have hla : (pl (H : Int) first S).length = H := by have := pl_length (first := first) hokH; omega
            have hlb : (pl (H : Int) (first + S) S).length = H := by have := pl_length (first := first + S) hokH; omega
            have HLa := Lib.hid hla
            have HLb := Lib.hid hlb
            have HP := Lib.hid hpar
            clear hpar hcut hla hlb
            go_wp2_with fail
            refine (Places_ok _ _ _ _ hokH ⟨d3, by omega⟩).mono ?_
            rintro e w5 ⟨rfl, hA5, hb5⟩
            have hL5 := hL3d.below hb5 (Nat.le_refl _)
            replace hb5 := below_ge hb3d hb5 (Nat.le_refl _)
            go_wp2_with fail
            refine (Places_ok _ _ _ _ hokH ⟨by omega, by omega⟩).mono ?_
            rintro e w6 ⟨rfl, hB6, hb6⟩
            have hL6 := hL5.below hb6 (Nat.le_refl _)
            have hA6 := hA5.below hb6 (Nat.le_refl _)
            replace hb6 := below_ge hb5 hb6 (Nat.le_refl _)
            have t8 : ((H : Int) != (H : Int)) = false := by simp
            clear hL5 hA5 hb5
            go_wp2_with fail
            refine (ints_same _ _ _ _ _ _ (pl (H : Int) first S) _ HLa.out HLa.out hL6.left hA6 (by omega)).mono ?_
            rintro e w7 ⟨rfl, hb7⟩
            have hL7 := hL6.below hb7 (Nat.le_refl _)
            have hB7 := hB6.below hb7 (Nat.le_refl _)
            replace hb7 := below_ge hb6 hb7 (Nat.le_refl _)
            go_wp2_with fail
            · rename_i hjH
              have hz : H = 0 := by have := HP.out; omega
              refine (ints_same _ _ _ _ _ _ (pl (H : Int) (first + S) S) _ (by rw [HLb.out, hz]) HLb.out (fun hx => absurd hx (by rw [HLb.out]; omega)) hB7 (by omega)).mono ?_
              rintro e w8 ⟨rfl, hb8⟩
              replace hb8 := below_ge hb7 hb8 (Nat.le_refl _)
              go_wp2_with fail
              refine (awake_any _).mono ?_
              rintro e w9 ⟨rfl, hb9⟩
              go_wp2_with fail
              go_ret
              exact ⟨rfl, below_ge hb8 hb9 (Nat.le_refl _)⟩
            · rename_i hjH
              have hR7 : RI w7 (some ⟨w.heap.size, H, none⟩) (pl (H : Int) (first + S) S) := by
                have := hL7.right
                rwa [HLa.out, Nat.zero_add] at this
              refine (ints_same _ _ _ _ _ _ (pl (H : Int) (first + S) S) _ (by rw [HLb.out]; have := HP.out; omega) HLb.out hR7 hB7 (by omega)).mono ?_
              rintro e w8 ⟨rfl, hb8⟩
              replace hb8 := below_ge hb7 hb8 (Nat.le_refl _)
              go_wp2_with fail
              refine (awake_any _).mono ?_
              rintro e w9 ⟨rfl, hb9⟩
              go_wp2_with fail
              go_ret
              exact ⟨rfl, below_ge hb8 hb9 (Nat.le_refl _)⟩
          · have e1 : (j : Int).tmod 2 = 1 := by rw [Int.tmod_eq_emod_of_nonneg (by omega)]; omega
            have HP := Lib.hid hpar
            clear hpar
            go_wp2_with fail
            refine (awake_any _).mono ?_
            rintro e w5 ⟨rfl, hb5⟩
            go_wp2_with fail
            go_ret
            exact ⟨rfl, below_ge hb3d hb5 (Nat.le_refl _)⟩
    · have hok' : okB n (2 * segs) = false := by simpa using hok
      clear hok
      go_enter Try.func5, Try.ntmps5
      go_wp2_with fail
      refine (Places_arg _ _ _ _ hok').mono ?_
      rintro e w1 ⟨rfl, rfl⟩
      go_wp2_with fail
      refine (awake_any _).mono ?_
      rintro e w5 ⟨rfl, hb5⟩
      go_wp2_with fail
      go_ret
      exact ⟨rfl, hb5⟩
  · exact halves_out (by omega)
end Go.Proofs.Ytahmhnbjpgkbbaa
