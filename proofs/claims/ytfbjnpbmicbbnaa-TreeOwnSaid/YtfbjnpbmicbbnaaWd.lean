/- TreeAdds: the walk of the law. -/
import Derived.Test.YtfbjnpbmicbbnaaWh
namespace Go.Proofs.Ytfbjnpbmicbbnaa
open Go.RowKit
set_option linter.unusedVariables false

theorem sumR_put {r : List Int} {s : Nat} (hs : s < r.length) (x : Int) (a m : Nat) : sumR (r.set s x) a m = sumR r a m + (if a ≤ s ∧ s < a + m then x - nth r s else 0) := by
  induction m with
  | zero => rw [sumR_zero, sumR_zero, if_neg (by omega)]; rfl
  | succ m ih =>
    rw [sumR_succ, sumR_succ, ih]
    by_cases h : s = a + m
    · subst h
      rw [nth_set_self r hs, if_neg (by omega), if_pos (by omega)]
      omega
    · rw [nth_set_other r h]
      by_cases h2 : a ≤ s ∧ s < a + m
      · rw [if_pos h2, if_pos (by omega)]; omega
      · rw [if_neg h2, if_neg (by omega)]; omega
theorem div_iff {s K k : Nat} (hK : 0 < K) : (k * K ≤ s ∧ s < k * K + K) ↔ s / K = k := by
  have h1 := Nat.le_div_iff_mul_le (x := k) (y := s) hK
  have h2 := Nat.div_lt_iff_lt_mul (x := s) (y := k + 1) hK
  rw [Nat.add_mul, Nat.one_mul] at h2
  constructor
  · rintro ⟨a, b⟩
    have := h1.2 a
    have := h2.2 b
    omega
  · intro h
    exact ⟨h1.1 (by omega), h2.1 (by omega)⟩
theorem wn_put {r : List Int} {s : Nat} (hs : s < r.length) (n : Int) (lv k : Nat) : wn (r.set s (nth r s + n)) lv k = wn r lv k + (if s / 2 ^ lv = k then n else 0) := by
  unfold wn
  rw [sumR_put hs]
  by_cases h : s / 2 ^ lv = k
  · rw [if_pos ((div_iff (pow_pos2 lv)).2 h), if_pos h]; omega
  · rw [if_neg (fun h' => h ((div_iff (pow_pos2 lv)).1 h')), if_neg h]

theorem no_acts (w : World) : ActsIn w none 0 [] := ⟨rfl, by omega, fun h => absurd h (by omega), fun k => by simp [act, inI]⟩

/-- Three trees beside each other, and the counts handed in. -/
structure Tri (a : World) (A : Option Addr) (P G P2 G2 P3 G3 c S : Nat) (q r : List Int) (W : World) : Prop where
  t : ∃ t, TM W P G (2 * S) S q t
  u : ∃ t, TM W P2 G2 (2 * S) S r t
  c : ∃ t, TM W P3 G3 c S r t
  ri : RI W A r
  be : Below a.heap.size a W
section
variable {a : World} {A : Option Addr} {P G P2 G2 P3 G3 c S L : Nat} {q r : List Int} {W W' : World}
theorem Tri.drewN (h : Tri a A P G P2 G2 P3 G3 c S q r W) (d : Nat) : Tri a A P G P2 G2 P3 G3 c S q r (W.drewN d) := by
  obtain ⟨⟨t, ht⟩, ⟨u, hu⟩, ⟨v, hv⟩, hR, hb⟩ := h
  exact ⟨⟨t, ht.drewN d⟩, ⟨u, hu.drewN d⟩, ⟨v, hv.drewN d⟩, hR.drewN d, below_drewN hb d⟩
theorem tri_t (h : Tri a A P G P2 G2 P3 G3 c S q r W) (hr : Rt q L) (lv k : Nat) (hk : (k + 1) * 2 ^ lv ≤ S) :
    Calls Try.prog 13 #[.pointer (some ⟨P, 0, none⟩), .int .i64 lv, .int .i64 k] W fun e w' => e = .returned (.tuple #[.int .i64 (wn q lv k), .int .i64 0]) ∧ Tri a A P G P2 G2 P3 G3 c S q r w' := by
  obtain ⟨t, ht⟩ := h.t
  refine (TCount_ok ht hr lv k hk).mono ?_
  rintro e w' ⟨rfl, d, rfl⟩
  exact ⟨rfl, h.drewN d⟩
theorem tri_c (h : Tri a A P G P2 G2 P3 G3 c S q r W) (hr : Rt r L) (lv k : Nat) (hk : (k + 1) * 2 ^ lv ≤ S) :
    Calls Try.prog 13 #[.pointer (some ⟨P3, 0, none⟩), .int .i64 lv, .int .i64 k] W fun e w' => e = .returned (.tuple #[.int .i64 (wn r lv k), .int .i64 0]) ∧ Tri a A P G P2 G2 P3 G3 c S q r w' := by
  obtain ⟨t, ht⟩ := h.c
  refine (TCount_ok ht hr lv k hk).mono ?_
  rintro e w' ⟨rfl, d, rfl⟩
  exact ⟨rfl, h.drewN d⟩
end

set_option maxRecDepth 1000000 in
set_option maxHeartbeats 3200000 in
theorem TreeAdds_bad {A : Option Addr} {nc cap : Nat} {r : List Int} {seg n : Int} {w : World} {L : Nat} (hl : r.length = nc) (hR : RI w A r) (hr : Rt r L) (hno : addV r seg n = (r, 10)) :
    Calls Try.prog 7 #[.slice A nc cap, .int .i64 seg, .int .i64 n] w fun e w' => e = .returned (.bool true) ∧ Below w.heap.size w w' := by
  have hs1 := hr.len_pos
  have hs2 := hr.len_le
  rw [hl] at hs1 hs2
  have i1 : (nc : Int) ≤ 512 := by omega
  have i1' : (1 : Int) ≤ nc := by omega
  have HL := Lib.hid hl
  have HNO := Lib.hid hno
  clear hl hno
  go_enter Try.func7, Try.ntmps7
  go_wp2_with fail
  refine (made_ok HL.out hR hr (no_acts w)).mono ?_
  generalize w.heap.size + 1 = P
  generalize hG : w.heap.size = G
  have HG := Lib.hid hG
  clear hG
  rintro e w1 ⟨rfl, ⟨t, hm⟩, hb1⟩
  rw [← HG.out] at hb1
  replace hm : TM w1 P G (2 * nc) nc r t := hm
  go_wp2_with fail
  refine (made_ok HL.out (hR.below hb1 (Nat.le_refl _)) hr (no_acts w1)).mono ?_
  rintro e w2 ⟨rfl, -, hb2⟩
  have hm2 := hm.below' hb2
  have hb12 := below_ge hb1 hb2 (Nat.le_refl _)
  go_wp2_with fail
  refine (TClone_ok hm2 hr).mono ?_
  rintro e w3 ⟨⟨p3, g3, c3, rfl, -, -, -⟩, hb3⟩
  have hm3 := hm2.below' hb3
  have hb13 := below_ge hb12 hb3 (Nat.le_refl _)
  go_wp2_with fail
  refine (TAdd_any hm3 hr seg n).mono ?_
  rw [HNO.out]
  rintro e w4 ⟨rfl, ⟨t4, hm4⟩, hg4⟩
  have hb14 := hb13.grown hg4 hb13.size (row_some (by rw [HG.out]; exact Nat.le_refl _))
  have hR4 := hR.below hb14 (Nat.le_refl _)
  go_wp2_with fail
  refine (TCounts_ok hm4 hr).mono ?_
  rintro e w5 ⟨⟨gc, cc, rfl, -, hBc⟩, hb5⟩
  have hb15 := below_ge hb14 hb5 (Nat.le_refl _)
  go_wp2_with fail
  refine (ints_same HL.out (RI_of_BI hBc) (hR.below hb15 (Nat.le_refl _)) (by omega)).mono ?_
  rintro e w6 ⟨rfl, hb6⟩
  have hb16 := below_ge hb15 hb6 (Nat.le_refl _)
  go_wp2_with fail
  refine (awake_any _).mono ?_
  rintro e w9 ⟨rfl, hb9⟩
  go_wp2_with fail
  go_ret
  exact ⟨rfl, below_ge hb16 hb9 (Nat.le_refl _)⟩

set_option maxRecDepth 1000000 in
set_option maxHeartbeats 3200000 in
theorem TreeAdds_ok {A : Option Addr} {nc cap s : Nat} {r : List Int} {n : Int} {w : World} {L : Nat} (hl : r.length = nc) (hR : RI w A r) (hr : Rt r L) (hs : s < nc) (hn : -8 ≤ n ∧ n ≤ 8) (hx : 0 ≤ nth r s + n ∧ nth r s + n ≤ 8) :
    Calls Try.prog 7 #[.slice A nc cap, .int .i64 (s : Nat), .int .i64 n] w fun e w' => e = .returned (.bool true) ∧ Below w.heap.size w w' := by
  have hs1 := hr.len_pos
  have hs2 := hr.len_le
  have hpw := hr.pow
  rw [hl] at hs1 hs2 hpw
  have hL9 := hr.le
  have i1 : (nc : Int) ≤ 512 := by omega
  have i1' : (1 : Int) ≤ nc := by omega
  have hsr : s < r.length := by omega
  have e1 : addV r s n = (r.set s (nth r s + n), 0) := by rw [addV_ok hsr hn.1 hn.2, setV_ok hsr hx.1 hx.2]
  have e2 : setV r s (nth r s + n) = (r.set s (nth r s + n), 0) := setV_ok hsr hx.1 hx.2
  have hq : Rt (r.set s (nth r s + n)) L := hr.set s hx.1 hx.2
  have hql : (r.set s (nth r s + n)).length = nc := by rw [List.length_set, hl]
  have hwn : ∀ lv k, wn (r.set s (nth r s + n)) lv k = wn r lv k + (if s / 2 ^ lv = k then n else 0) := fun lv k => wn_put hsr n lv k
  have hsm := hr.small s hsr
  generalize r.set s (nth r s + n) = q at *
  have HL := Lib.hid hl
  have HPW := Lib.hid hpw
  have HQ := Lib.hid hql
  have H1 := Lib.hid e1
  have H2 := Lib.hid e2
  have HWN := Lib.hid hwn
  have x0 := hx.1
  have x1 := hx.2
  have n0 := hn.1
  have n1 := hn.2
  have s0 : (0 : Int) ≤ (s : Int) := by omega
  have s1 : (s : Int) < (nc : Int) := by omega
  have m0 := hsm.1
  have m1 := hsm.2
  have g1 : decide (nc ≤ s) = false := by simp; omega
  have g2 : decide ((s : Int) < 0) = false := by simp
  have g3 : decide ((nc : Int) ≤ (s : Int)) = false := by simp; omega
  clear hl hpw hql e1 e2 hwn hx hn hsm
  obtain ⟨b, off, rfl, _⟩ := hR (by rw [HL.out]; omega)
  go_enter Try.func7, Try.ntmps7
  go_wp2_with fail
  refine (made_ok HL.out hR hr (no_acts w)).mono ?_
  generalize w.heap.size + 1 = P
  generalize hG : w.heap.size = G
  have HG := Lib.hid hG
  clear hG
  rintro e w1 ⟨rfl, ⟨t, hm⟩, hb1⟩
  rw [← HG.out] at hb1
  replace hm : TM w1 P G (2 * nc) nc r t := hm
  have hP := hm.hp.lt
  have hG' := hm.hg.lt
  go_wp2_with fail
  refine (made_ok HL.out (hR.below hb1 (Nat.le_refl _)) hr (no_acts w1)).mono ?_
  have hP2 : w1.heap.size ≤ w1.heap.size + 1 := by omega
  have hG2 : w1.heap.size ≤ w1.heap.size := Nat.le_refl _
  generalize w1.heap.size + 1 = P2 at hP2 ⊢
  generalize hG1 : w1.heap.size = G2 at hP hG' hP2 hG2 ⊢
  have HG1 := Lib.hid hG1
  clear hG1
  rintro e w2 ⟨rfl, ⟨u, hu⟩, hb2⟩
  rw [← HG1.out] at hb2
  replace hu : TM w2 P2 G2 (2 * nc) nc r u := hu
  have hm2 := hm.below' hb2
  have hb12 := below_ge hb1 hb2 (Nat.le_refl _)
  go_wp2_with fail
  refine (TClone_ok hm2 hr).mono ?_
  rintro e w3 ⟨⟨P3, G3, c3, rfl, hp3, hg3, hc3⟩, hb3⟩
  have hP2' := hu.hp.lt
  have hG2' := hu.hg.lt
  have hPw := hm2.hp.lt
  have hGw := hm2.hg.lt
  have hm3 := hm2.below' hb3
  have hu3 := hu.below' hb3
  have hb13 := below_ge hb12 hb3 (Nat.le_refl _)
  go_wp2_with fail
  refine (TAdd_any hm3 hr s n).mono ?_
  rw [H1.out]
  rintro e w4 ⟨rfl, ⟨t4, hm4⟩, hg4⟩
  have hb14 := hb13.grown hg4 hb13.size (row_some (by rw [HG.out]; exact Nat.le_refl _))
  have ne1 : some P2 ≠ some G := fun h => by injection h with h; omega
  have ne2 : some G2 ≠ some G := fun h => by injection h with h; omega
  have ne3 : some P3 ≠ some G := fun h => by injection h with h; omega
  have ne4 : some G3 ≠ some G := fun h => by injection h with h; omega
  have hT : Tri w (some ⟨b, off, none⟩) P G P2 G2 P3 G3 c3 nc q r w4 := ⟨⟨t4, hm4⟩, ⟨u, hu3.grown hg4 ne1 ne2⟩, ⟨t, hc3.grown hg4 ne3 ne4⟩, hR.below hb14 (Nat.le_refl _), hb14⟩
  have nf1 : some P ≠ some G2 := fun h => by injection h with h; omega
  have nf2 : some G ≠ some G2 := fun h => by injection h with h; omega
  clear hm hm2 hm3 hm4 hu hu3 hc3 hb1 hb12 hb13 hb14 hb2 hb3 hg4 ne1 ne2 ne3 ne4
  go_wp2_with fail
  go_loopw [11, 12] (fun l z wr => ∃ e : Nat, e ≤ L + 1 ∧ l = .int .i64 e ∧ z = .int .i64 ((2 ^ e : Nat) : Int) ∧ Tri w (some ⟨b, off, none⟩) P G P2 G2 P3 G3 c3 nc q r wr) (fun l _ _ => L + 1 - (intOf l).toNat)
  case atStart => exact ⟨0, by omega, rfl, rfl, hT⟩
  case round =>
    obtain ⟨e, he, rfl, rfl, hTe⟩ := hrel
    by_cases hle : e ≤ L
    · have hsplit : 2 ^ (L - e) * 2 ^ e = nc := by rw [HPW.out, ← Nat.pow_add]; congr 1; omega
      have hwin : ∀ k, k < 2 ^ (L - e) → (k + 1) * 2 ^ e ≤ nc := fun k hk => by rw [← hsplit]; exact Nat.mul_le_mul_right _ hk
      have hnext : 2 ^ (e + 1) = 2 * 2 ^ e := by rw [Nat.pow_succ, Nat.mul_comm]
      have hk1 := pow_pos2 e
      have hk2 : 2 ^ e ≤ nc := by rw [← hsplit]; exact Nat.le_mul_of_pos_left _ (pow_pos2 _)
      have hm2 : 2 ^ (L - e) ≤ nc := by rw [← hsplit]; exact Nat.le_mul_of_pos_right _ (pow_pos2 _)
      have hdiv : nc / 2 ^ e = 2 ^ (L - e) := by rw [← hsplit]; exact Nat.mul_div_cancel _ (pow_pos2 e)
      have hwne := HWN.out e
      have HNX := Lib.hid hnext
      clear hnext hsplit
      generalize hM : 2 ^ (L - e) = M at *
      generalize hK : 2 ^ e = K at *
      have HW := Lib.hid hwin
      have HKK := Lib.hid hK
      have HWE := Lib.hid hwne
      have hq1 : ((nc : Int)).tdiv (K : Int) = (M : Int) := by rw [Int.tdiv_eq_ediv_of_nonneg (by omega), ← hdiv]; rfl
      have hq2 : ((s : Int)).tdiv (K : Int) = ((s / K : Nat) : Int) := by rw [Int.tdiv_eq_ediv_of_nonneg (by omega)]; rfl
      have hD : s / K ≤ s := Nat.div_le_self _ _
      generalize s / K = D at *
      clear hwin hM hK hdiv hwne
      have j1 : (1 : Int) ≤ (K : Int) := by omega
      have j2 : (K : Int) ≤ (nc : Int) := by omega
      have j3 : (M : Int) ≤ (nc : Int) := by omega
      have j4 : ((K : Int) == 0) = false := by simp; omega
      have j5 : (e : Int) ≤ 9 := by omega
      have j6 : IntKind.i64.wrap (M : Int) = (M : Int) := IntWalk.i64_in _ (by omega)
      have j6' : IntKind.i64.wrap (D : Int) = (D : Int) := IntWalk.i64_in _ (by omega)
      obtain ⟨wo, rfl⟩ : ∃ wo : World, wo = wr := ⟨_, rfl⟩
      go_wp2_with fail
      go_loopw [13] (fun i wr => ∃ k : Nat, k ≤ M ∧ i = .int .i64 k ∧ Tri w (some ⟨b, off, none⟩) P G P2 G2 P3 G3 c3 nc q r wr) (fun i _ => M - (intOf i).toNat)
      case atStart => exact ⟨0, Nat.zero_le _, rfl, hTe⟩
      case round =>
        obtain ⟨k, hk, rfl, hTk⟩ := hrel
        by_cases hlt : k < M
        · have hkk : (k + 1) * 2 ^ e ≤ nc := by rw [HKK.out]; exact HW.out k hlt
          have hc1 := tri_c hTk hr e k hkk
          have hc2 := fun W h => tri_t (W := W) (a := w) (A := some ⟨b, off, none⟩) (P := P) (G := G) (P2 := P2) (G2 := G2) (P3 := P3) (G3 := G3) (c := c3) (r := r) h hq e k hkk
          have hb1 := wn_bd hr HL.out hkk
          have hv := HWE.out k
          rw [hv] at hc2
          clear hkk hv
          have j7 : (0 : Int) ≤ (k : Int) := by omega
          have j8 : (k : Int) < (M : Int) := by omega
          generalize wn r e k = X at *
          have bx1 := hb1.1
          have bx2 := hb1.2
          have wx : IntKind.i64.wrap (X + n) = X + n := IntWalk.i64_in _ (by omega)
          by_cases hdk : D = k
          · rw [if_pos hdk] at hc2
            have t0 : ((D : Int) == (k : Int)) = true := by simp; omega
            clear hb1 hdk
            go_wp2_with fail
            refine hc1.mono ?_
            rintro e1 w5 ⟨rfl, hT5⟩
            go_wp2_with fail
            refine (hc2 _ hT5).mono ?_
            rintro e1 w6 ⟨rfl, hT6⟩
            go_wp2_with fail
            go_roundw
            case rel => exact ⟨k + 1, by omega, by go_num, hT6⟩
            case measure => simp [intOf]; omega
          · rw [if_neg hdk, Int.add_zero] at hc2
            have t0 : ((D : Int) == (k : Int)) = false := by simp; omega
            clear hb1 hdk
            go_wp2_with fail
            refine hc1.mono ?_
            rintro e1 w5 ⟨rfl, hT5⟩
            go_wp2_with fail
            refine (hc2 _ hT5).mono ?_
            rintro e1 w6 ⟨rfl, hT6⟩
            go_wp2_with fail
            go_roundw
            case rel => exact ⟨k + 1, by omega, by go_num, hT6⟩
            case measure => simp [intOf]; omega
        · obtain rfl : k = M := by omega
          go_wp2_with fail
          go_roundw
          case rel => exact ⟨e + 1, by omega, by go_num, by rw [HNX.out]; go_num, hTk⟩
          case measure => simp [intOf]; omega
    · obtain rfl : e = L + 1 := by omega
      have hgt : nc < 2 ^ (L + 1) := by rw [HPW.out, Nat.pow_succ]; have := pow_pos2 L; omega
      generalize 2 ^ (L + 1) = K at hgt ⊢
      have j1 : (nc : Int) < (K : Int) := by omega
      clear hgt
      obtain ⟨⟨t5, hm5⟩, ⟨u5, hu5⟩, -, hR5, hb5⟩ := hTe
      have hcell := hR5.cellN (k := s) (by rw [HL.out]; omega)
      have wx : IntKind.i64.wrap (nth r s + n) = nth r s + n := IntWalk.i64_in _ (by omega)
      go_wp2_with fail
      refine (TSet_any hu5 hr s (nth r s + n)).mono ?_
      rw [H2.out]
      rintro e1 w6 ⟨rfl, ⟨u6, hu6⟩, hg6⟩
      have hm6 := hm5.grown hg6 nf1 nf2
      have hb6 := hb5.grown hg6 hb5.size (row_some (by have := hm5.hp.lt; have := HG1.out; have := HG.out; omega))
      go_wp2_with fail
      refine (TCounts_ok hu6 hq).mono ?_
      rintro e1 w7 ⟨⟨ga, ca, rfl, -, hBa⟩, hb7⟩
      have hm7 := hm6.below' hb7
      have hu7 := hu6.below' hb7
      have hb7' := below_ge hb6 hb7 (Nat.le_refl _)
      go_wp2_with fail
      refine (TCounts_ok hm7 hq).mono ?_
      rintro e1 w8 ⟨⟨gb, cb, rfl, -, hBb⟩, hb8⟩
      have hm8 := hm7.below' hb8
      have hu8 := hu7.below' hb8
      have hb8' := below_ge hb7' hb8 (Nat.le_refl _)
      have hBa8 := hBa.below hb8 hBa.lt
      go_wp2_with fail
      refine (ints_same HQ.out (RI_of_BI hBa8) (RI_of_BI hBb) (by omega)).mono ?_
      rintro e1 w9 ⟨rfl, hb9⟩
      have hm9 := hm8.below' hb9
      have hu9 := hu8.below' hb9
      have hb9' := below_ge hb8' hb9 (Nat.le_refl _)
      go_wp2_with fail
      refine (TTotal_ok hu9 hq).mono ?_
      rintro e1 w10 ⟨rfl, rfl⟩
      go_wp2_with fail
      refine (TTotal_ok hm9 hq).mono ?_
      rintro e1 w10 ⟨rfl, rfl⟩
      go_wp2_with fail
      refine (awake_any _).mono ?_
      rintro e1 w11 ⟨rfl, hb11⟩
      go_wp2_with fail
      go_ret
      exact ⟨rfl, below_ge hb9' hb11 (Nat.le_refl _)⟩

set_option maxRecDepth 100000 in
theorem TreeAdds_walk (A : Option Addr) (nc cap : Nat) (r : List Int) (seg n : Int) (w : World) (hs : IntsIn w A nc r)
    (b1 : -9223372036854775808 ≤ seg ∧ seg ≤ 9223372036854775807) (b2 : -9223372036854775808 ≤ n ∧ n ≤ 9223372036854775807) :
    Calls Try.prog 7 #[.slice A nc cap, .int .i64 seg, .int .i64 n] w fun e w' => e = .returned (.bool true) ∧ Below w.heap.size w w' := by
  have hm1 := hs.hm
  have HL := Lib.hid hs.hl
  by_cases h600 : (nc : Int) ≤ 600
  · by_cases hp : powB nc = true
    · by_cases hsm : Smalls r
      · obtain ⟨L, hr⟩ := Rt.mk' (by rw [HL.out]; exact hp) hsm
        by_cases hc : (0 ≤ seg ∧ seg < nc) ∧ (-8 ≤ n ∧ n ≤ 8) ∧ (0 ≤ nth r seg.toNat + n ∧ nth r seg.toNat + n ≤ 8)
        · obtain ⟨⟨h1, h2⟩, h3, h4⟩ := hc
          obtain ⟨s, rfl⟩ := Int.eq_ofNat_of_zero_le h1
          exact TreeAdds_ok HL.out hs.hr hr (by omega) h3 (by simpa using h4)
        · refine TreeAdds_bad HL.out hs.hr hr ?_
          unfold addV setV
          rw [HL.out]
          by_cases h1 : (0 ≤ seg ∧ seg < (nc : Int)) ∧ -8 ≤ n ∧ n ≤ 8
          · rw [if_pos h1, if_neg (fun h2 => hc ⟨h1.1, h1.2, h2.2⟩)]
          · rw [if_neg h1]
      · have HSM := Lib.hid hsm
        clear hsm
        go_enter Try.func7, Try.ntmps7
        go_wp2_with fail
        refine (made_range HL.out hs.hr hp HSM.out).mono ?_
        rintro e w1 ⟨rfl, rfl⟩
        go_wp2_with fail
        refine (made_range HL.out hs.hr hp HSM.out).mono ?_
        rintro e w1 ⟨rfl, rfl⟩
        go_wp2_with fail
        refine (awake_any _).mono ?_
        rintro e w9 ⟨rfl, hb9⟩
        go_wp2_with fail
        go_ret
        exact ⟨rfl, hb9⟩
    · have hp' : powB nc = false := by simpa using hp
      clear hp
      go_enter Try.func7, Try.ntmps7
      go_wp2_with fail
      refine (made_arg hp' (by omega)).mono ?_
      rintro e w1 ⟨rfl, rfl⟩
      go_wp2_with fail
      refine (made_arg hp' (by omega)).mono ?_
      rintro e w1 ⟨rfl, rfl⟩
      go_wp2_with fail
      refine (awake_any _).mono ?_
      rintro e w9 ⟨rfl, hb9⟩
      go_wp2_with fail
      go_ret
      exact ⟨rfl, hb9⟩
  · have h600' : 600 < (nc : Int) := by omega
    clear h600
    go_enter Try.func7, Try.ntmps7
    go_wp2_with fail
    refine (awake_any _).mono ?_
    rintro e w9 ⟨rfl, hb9⟩
    go_wp2_with fail
    go_ret
    exact ⟨rfl, hb9⟩
end Go.Proofs.Ytfbjnpbmicbbnaa
