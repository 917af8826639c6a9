/- TreeOwn: the walk of the law. -/
import Derived.Test.YtfbjnpbmicbbnaaWo1
import Derived.Laws.AppendOwnNone
namespace Go.Proofs.Ytfbjnpbmicbbnaa
open Go.RowKit
set_option linter.unusedVariables false

theorem own_shape {w : World} {base n : Nat} {v : Value} {xs : List Value} (h : w.ownsRow base 3 1 v n xs) : ∃ A' c', v = .slice A' n c' := by
  obtain ⟨hl, hh⟩ := h
  rcases hh with ⟨h1, h0⟩ | ⟨g, cap, cur, hv, _⟩
  · subst h0
    exact ⟨_, _, h1⟩
  · exact ⟨_, _, hv⟩

theorem nth_put_bd {xs : List Int} {m k : Nat} {y : Int} (h : ∀ j, 0 ≤ nth xs j ∧ nth xs j ≤ (m : Int)) (hy : 0 ≤ y ∧ y ≤ (m : Int) + 1) (j : Nat) : 0 ≤ nth (xs.set k y) j ∧ nth (xs.set k y) j ≤ ((m + 1 : Nat) : Int) := by
  have hj := h j
  by_cases e : k = j
  · subst e
    by_cases hk : k < xs.length
    · rw [nth_set_self xs hk]; omega
    · have : nth (xs.set k y) k = 0 := by unfold nth; simp [List.getD, List.getElem?_eq_none (show (xs.set k y).length ≤ k by rw [List.length_set]; omega)]
      rw [this]; omega
  · rw [nth_set_other xs e]; omega
theorem Rt.bd {r : List Int} {L : Nat} (h : Rt r L) (j : Nat) : 0 ≤ nth r j ∧ nth r j ≤ ((8 : Nat) : Int) := by
  by_cases hj : j < r.length
  · exact h.small j hj
  · have : nth r j = 0 := by unfold nth; simp [List.getD, List.getElem?_eq_none (show r.length ≤ j by omega)]
    rw [this]; omega

/-- Four trees, what was handed in and what was told, beside each other. -/
structure Four (a : World) (P1 G1 P2 G2 P3 G3 P4 G4 c4 S gh gt m : Nat) (q qa : List Int) (W : World) : Prop where
  t : ∃ t, TM W P1 G1 (2 * S) S q t
  v : ∃ t, TM W P2 G2 (2 * S) S q t
  u : ∃ t, TM W P3 G3 (2 * S) S qa t
  x : ∃ t, TM W P4 G4 c4 S qa t
  h : ∃ xs, xs.length = S ∧ BI W gh xs
  o : ∃ xs, xs.length = S ∧ BI W gt xs ∧ ∀ k, 0 ≤ nth xs k ∧ nth xs k ≤ (m : Int)
  be : Below a.heap.size a W
section
variable {a : World} {P1 G1 P2 G2 P3 G3 P4 G4 c4 S gh gt m : Nat} {q qa : List Int} {W W' : World}
theorem Four.put_o (f : Four a P1 G1 P2 G2 P3 G3 P4 G4 c4 S gh gt m q qa W) (h : ∀ b ∈ [P1, G1, P2, G2, P3, G3, P4, G4, gh], b < gt) (hg : a.heap.size ≤ gt) (k : Nat) {y : Int} (hy : 0 ≤ y ∧ y ≤ (m : Int) + 1) :
    Four a P1 G1 P2 G2 P3 G3 P4 G4 c4 S gh gt (m + 1) q qa (W.setCell ⟨gt, k, none⟩ (.int .i64 y)) := by
  obtain ⟨⟨t, ht⟩, ⟨v, hv⟩, ⟨u, hu⟩, ⟨x, hx⟩, ⟨hs, hl, hh⟩, ⟨os, ol, oo, om⟩, hb⟩ := f
  simp only [List.mem_cons, List.not_mem_nil, or_false, forall_eq_or_imp, forall_eq] at h
  obtain ⟨h1, h2, h3, h4, h5, h6, h7, h8, h9⟩ := h
  refine ⟨⟨t, ht.far ?_ ?_ _⟩, ⟨v, hv.far ?_ ?_ _⟩, ⟨u, hu.far ?_ ?_ _⟩, ⟨x, hx.far ?_ ?_ _⟩, ⟨hs, hl, hh.far ?_ _⟩, ⟨_, by rw [List.length_set, ol], oo.put k y, fun j => nth_put_bd om hy j⟩, hb.setCell hg _⟩
  all_goals simp only []; omega
theorem Four.put_h (f : Four a P1 G1 P2 G2 P3 G3 P4 G4 c4 S gh gt m q qa W) (h : ∀ b ∈ [P1, G1, P2, G2, P3, G3, P4, G4, gt], gh < b) (hg : a.heap.size ≤ gh) (k : Nat) (y : Int) :
    Four a P1 G1 P2 G2 P3 G3 P4 G4 c4 S gh gt m q qa (W.setCell ⟨gh, k, none⟩ (.int .i64 y)) := by
  obtain ⟨⟨t, ht⟩, ⟨v, hv⟩, ⟨u, hu⟩, ⟨x, hx⟩, ⟨hs, hl, hh⟩, ⟨os, ol, oo, om⟩, hb⟩ := f
  simp only [List.mem_cons, List.not_mem_nil, or_false, forall_eq_or_imp, forall_eq] at h
  obtain ⟨h1, h2, h3, h4, h5, h6, h7, h8, h9⟩ := h
  refine ⟨⟨t, ht.far ?_ ?_ _⟩, ⟨v, hv.far ?_ ?_ _⟩, ⟨u, hu.far ?_ ?_ _⟩, ⟨x, hx.far ?_ ?_ _⟩, ⟨_, by rw [List.length_set, hl], hh.put k y⟩, ⟨os, ol, oo.far ?_ _, om⟩, hb.setCell hg _⟩
  all_goals simp only []; omega
theorem Four.below (f : Four a P1 G1 P2 G2 P3 G3 P4 G4 c4 S gh gt m q qa W) (hb : Below W.heap.size W W') : Four a P1 G1 P2 G2 P3 G3 P4 G4 c4 S gh gt m q qa W' := by
  obtain ⟨⟨t, ht⟩, ⟨v, hv⟩, ⟨u, hu⟩, ⟨x, hx⟩, ⟨hs, hl, hh⟩, ⟨os, ol, oo, om⟩, hbb⟩ := f
  exact ⟨⟨t, ht.below' hb⟩, ⟨v, hv.below' hb⟩, ⟨u, hu.below' hb⟩, ⟨x, hx.below' hb⟩, ⟨hs, hl, hh.below hb hh.lt⟩, ⟨os, ol, oo.below hb oo.lt, om⟩, below_ge hbb hb (Nat.le_refl _)⟩
end

set_option maxRecDepth 1000000 in
set_option maxHeartbeats 6400000 in
theorem TreeOwn_walk (A : Option Addr) (nc cap : Nat) (r : List Int) (B : Option Addr) (len lcap : Nat) (zs : List Act3) (at_ : Int) (w : World) (hs : IntsIn w A nc r) (hz : ActsIn w B len zs)
    (bd : -9223372036854775808 ≤ at_ ∧ at_ ≤ 9223372036854775807) (hca : nc ≤ cap ∧ (A = none → nc = 0 ∧ cap = 0)) (hcb : len ≤ lcap ∧ (B = none → len = 0 ∧ lcap = 0)) :
    Calls Try.prog 8 #[.slice A nc cap, .slice B len lcap, .int .i64 at_] w fun e w' => e = .returned (.bool true) ∧ Below w.heap.size w w' := by
  have hm1 := hs.hm
  have hm2 := hz.hm
  have HL := Lib.hid hs.hl
  have HCA := Lib.hid hca
  have HCB := Lib.hid hcb
  clear hca hcb
  go_enter Try.func8, Try.ntmps8
  go_wp2_with fail
  refine (nil_Count w).mono ?_
  rintro e w1 ⟨rfl, rfl⟩
  go_wp2_with fail
  refine (nil_Ahead w).mono ?_
  rintro e w1 ⟨rfl, rfl⟩
  go_wp2_with fail
  refine (nil_Find w).mono ?_
  rintro e w1 ⟨rfl, rfl⟩
  go_wp2_with fail
  refine (nil_Segs w).mono ?_
  rintro e w1 ⟨rfl, rfl⟩
  go_wp2_with fail
  refine (nil_Total w).mono ?_
  rintro e w1 ⟨rfl, rfl⟩
  go_wp2_with fail
  refine (nil_Add w).mono ?_
  rintro e w1 ⟨rfl, rfl⟩
  go_wp2_with fail
  refine (nil_Set w).mono ?_
  rintro e w1 ⟨rfl, rfl⟩
  go_wp2_with fail
  refine (nil_Counts w).mono ?_
  rintro e w1 ⟨rfl, rfl⟩
  go_wp2_with fail
  refine (nil_Clone w).mono ?_
  rintro e w1 ⟨rfl, rfl⟩
  by_cases hin : ((nc : Int) ≤ 600 ∧ (len : Int) ≤ 40) ∧ 0 ≤ at_ ∧ at_ ≤ len
  · obtain ⟨⟨i1, i2⟩, i3, i4⟩ := hin
    obtain ⟨a, rfl⟩ := Int.eq_ofNat_of_zero_le i3
    have ha : a ≤ len := by omega
    obtain ⟨B', hsl, hzs⟩ := slice_to (B := B) (zs := zs) ha HCB.out.1
    have j1 : decide (600 < (nc : Int)) = false := by simp; omega
    have j2 : decide (40 < (len : Int)) = false := by simp; omega
    have j3 : decide ((a : Int) < 0) = false := by simp
    have j4 : decide ((len : Int) < (a : Int)) = false := by simp; omega
    have j5 : decide (len < a) = false := by simp; omega
    have ia : (a : Int) ≤ (len : Int) := by omega
    have HA := Lib.hid ha
    clear ha i3 i4
    obtain ⟨i0, hi, hzI0, hzI1, hzI2⟩ := info_parts Try.infoI
    by_cases hp : powB nc = true
    · have hn1 : 1 ≤ nc := by
        obtain ⟨e, he, rfl⟩ := powB_true.1 hp
        exact pow_pos2 e
      have hn5 : nc ≤ 512 := by
        obtain ⟨e, he, rfl⟩ := powB_true.1 hp
        exact pow_le he
      obtain ⟨b, off, rfl, _⟩ := hs.hr (by rw [HL.out]; exact hn1)
      have hR2 : RI (w.alloc (.cells #[] 3)) (some ⟨b, off, none⟩) r := hs.hr.below ((Below.refl w.heap.size w).alloc (Nat.le_refl _) _) (Nat.le_refl _)
      go_wp2_with (at_builtin; refine wpList_append_own_at _ rfl _ _ 22 rfl w.heap.size 3 i0 (.int .i64 0) 1 8 Try.underlying22 hi hzI0 hzI1 hzI2 rfl (by decide) (.slice (some ⟨w.heap.size, 0, none⟩) 0 0) 0 [] rfl (World.ownsRow_made w #[] 0 (Nat.le_refl _) (by decide) rfl) ⟨b, off, none⟩ nc cap (r.map (Value.int .i64)) rfl ?c0 (src_of_RI hR2) ?c2 ?c3 ?c4 ?c5 ?_)
      case c0 => rw [List.length_map, HL.out]; omega
      case c2 => intro u hu; obtain ⟨x, _, rfl⟩ := List.mem_map.1 hu; rfl
      case c3 => unfold maxLen; omega
      case c4 => omega
      case c5 => simp
      intro v' w1 hown hg1 _ hat
      obtain ⟨gh, ch, rfl, hgh, hc1, hc2, hB1⟩ := BI_of_own hown (by omega)
      have hb1 : Below w.heap.size w w1 := ((Below.refl w.heap.size w).alloc (Nat.le_refl _) (.cells #[] 3)).grown hg1 (by simp) (fun k e => by injection e with e; simp at e; omega)
      have hgh1 := hB1.lt
      clear hR2 hat hown hg1
      by_cases hsm : Smalls r
      · obtain ⟨L, hr⟩ := Rt.mk' (by rw [HL.out]; exact hp) hsm
        clear hsm hp
        go_wp2_with fail
        refine (made_ok HL.out (RI_of_BI hB1) hr (hzs _ (hz.below hb1))).mono ?_
        rw [playN_take r zs a a (Nat.le_refl _)]
        have hr1 := hr.playN zs a
        have hr2 := hr.playN zs len
        have hq1 : (playN r zs a).length = nc := by rw [playN_len, HL.out]
        have hq2 : (playN r zs len).length = nc := by rw [playN_len, HL.out]
        have HQ1 := Lib.hid hq1
        have HQ2 := Lib.hid hq2
        clear hq1 hq2
        have o1 : gh < w1.heap.size + 1 := by omega
        generalize w1.heap.size + 1 = P1 at o1 ⊢
        generalize hG : w1.heap.size = G1 at hgh1 ⊢
        have HG1 := Lib.hid hG
        clear hG
        rintro e w2 ⟨rfl, ⟨t, ht2⟩, hb2⟩
        rw [← HG1.out] at hb2
        have hR1 : RI w1 (some ⟨b, off, none⟩) r := hs.hr.below hb1 (Nat.le_refl _)
        have hR2 : RI w2 (some ⟨b, off, none⟩) r := hR1.below hb2 (Nat.le_refl _)
        have hB2 := hB1.below hb2 hB1.lt
        have hb12 := below_ge hb1 hb2 (Nat.le_refl _)
        have o2 := ht2.hp.lt
        have o3 := ht2.hg.lt
        go_wp2_with fail
        refine (made_ok HL.out hR2 hr (hzs _ (hz.below hb12))).mono ?_
        rw [playN_take r zs a a (Nat.le_refl _)]
        have o4 : P1 < w2.heap.size + 1 ∧ G1 < w2.heap.size + 1 ∧ gh < w2.heap.size + 1 := by omega
        have o4' : P1 < w2.heap.size ∧ G1 < w2.heap.size ∧ gh < w2.heap.size := by omega
        clear o2 o3
        generalize w2.heap.size + 1 = P2 at o4 ⊢
        generalize hG : w2.heap.size = G2 at o4' ⊢
        have HG2 := Lib.hid hG
        clear hG
        rintro e w3 ⟨rfl, ⟨v, hv3⟩, hb3⟩
        rw [← HG2.out] at hb3
        have hR3 : RI w3 (some ⟨b, off, none⟩) r := hR2.below hb3 (Nat.le_refl _)
        have hB3 := hB2.below hb3 hB2.lt
        have ht3 := ht2.below' hb3
        have hb13 := below_ge hb12 hb3 (Nat.le_refl _)
        have o2 := hv3.hp.lt
        have o3 := hv3.hg.lt
        go_wp2_with fail
        refine (made_ok HL.out hR3 hr (hz.below hb13)).mono ?_
        have o5 : P2 < w3.heap.size + 1 ∧ G2 < w3.heap.size + 1 := by omega
        have o5' : P2 < w3.heap.size ∧ G2 < w3.heap.size := by omega
        have o5'' : G2 ≤ w3.heap.size := by omega
        clear o2 o3
        generalize w3.heap.size + 1 = P3 at o5 ⊢
        generalize hG : w3.heap.size = G3 at o5' o5'' ⊢
        have HG3 := Lib.hid hG
        clear hG
        rintro e w4 ⟨rfl, ⟨u, hu4⟩, hb4⟩
        rw [← HG3.out] at hb4
        have hR4 : RI w4 (some ⟨b, off, none⟩) r := hR3.below hb4 (Nat.le_refl _)
        have hB4 := hB3.below hb4 hB3.lt
        have ht4 := ht3.below' hb4
        have hv4 := hv3.below' hb4
        have hb14 := below_ge hb13 hb4 (Nat.le_refl _)
        have o6 := hu4.hp.lt
        have o7 := hu4.hg.lt
        clear hR1 hR2 hR3 hB1 hB2 hB3 ht2 ht3 hv3 hb1 hb2 hb3 hb4 hb12 hb13
        go_wp2_with fail
        refine (ints_same HL.out (RI_of_BI hB4) hR4 (by omega)).mono ?_
        rintro e w5 ⟨rfl, hb5⟩
        have hB5 := hB4.below hb5 hB4.lt
        have ht5 := ht4.below' hb5
        have hv5 := hv4.below' hb5
        have hu5 := hu4.below' hb5
        have hb15 := below_ge hb14 hb5 (Nat.le_refl _)
        have o8 := hb5.size
        clear hB4 ht4 hv4 hu4 hb14 hb5 hR4
        go_wp2_with fail
        refine (TClone_ok ht5 hr1).mono ?_
        rintro e w6 ⟨⟨P4, G4, c4, rfl, o9, o10, hx6⟩, hb6⟩
        clear hsl
        go_wp2_with fail
        go_loopw [20] (fun i wr => ∃ k : Nat, a ≤ k ∧ k ≤ len ∧ i = .int .i64 k ∧ (∃ t, TM wr P4 G4 c4 nc (playN r zs k) t) ∧ Below w5.heap.size w5 wr) (fun i _ => len - (intOf i).toNat)
        case atStart => exact ⟨a, Nat.le_refl _, HA.out, rfl, ⟨_, hx6⟩, hb6⟩
        case round =>
          obtain ⟨k, hak, hk, rfl, ⟨t', ht'⟩, hb⟩ := hrel
          by_cases hlt : k < len
          · obtain ⟨ab, aoff, rfl, q0, q1, q2⟩ := (hz.below (below_ge hb15 hb (Nat.le_refl _))).at_ hlt
            have l1 : (0 : Int) ≤ (k : Int) := by omega
            have l2 : (k : Int) < (len : Int) := by omega
            have hstep : playN r zs (k + 1) = (actV (playN r zs k) (act zs k).o (act zs k).i (act zs k).n).1 := rfl
            have HST := Lib.hid hstep
            have hsz := hb.size
            clear hstep
            go_wp2_with fail
            refine (does_any ht' (hr.playN zs k) _ _ _).mono ?_
            rintro e w7 ⟨rfl, ht7, hg7⟩
            go_wp2_with fail
            go_roundw
            case rel => exact ⟨k + 1, by omega, by omega, by go_num, by rw [HST.out]; exact ht7, hb.grown hg7 hsz (row_some o10)⟩
            case measure => simp [intOf]; omega
          · obtain rfl : k = len := by omega
            generalize playN r zs a = q at *
            generalize playN r zs k = qa at *
            have ht6 := ht5.below' hb
            have hv6 := hv5.below' hb
            have hu6 := hu5.below' hb
            have hB6 := hB5.below hb hB5.lt
            have hb16 := below_ge hb15 hb (Nat.le_refl _)
            have o11 := ht'.hp.lt
            have o12 := ht'.hg.lt
            have o13 := hb.size
            clear ht5 hv5 hu5 hB5 hb15 hb6 hx6 hb
            go_wp2_with fail
            refine (TCounts_ok ht6 hr1).mono ?_
            rintro e w7 ⟨⟨gt, ct, rfl, o14, hB7⟩, hb7⟩
            have hF : Four w P1 G1 P2 G2 P3 G3 P4 G4 c4 nc gh gt 8 q qa w7 := ⟨⟨t, ht6.below' hb7⟩, ⟨v, hv6.below' hb7⟩, ⟨u, hu6.below' hb7⟩, ⟨t', ht'.below' hb7⟩, ⟨r, HL.out, hB6.below hb7 hB6.lt⟩, ⟨q, HQ1.out, hB7, hr1.bd⟩, below_ge hb16 hb7 (Nat.le_refl _)⟩
            have og : ∀ b ∈ [P1, G1, P2, G2, P3, G3, P4, G4, gh], b < gt := by
              simp only [List.mem_cons, List.not_mem_nil, or_false, forall_eq_or_imp, forall_eq]
              omega
            have oh : ∀ b ∈ [P1, G1, P2, G2, P3, G3, P4, G4, gt], gh < b := by
              simp only [List.mem_cons, List.not_mem_nil, or_false, forall_eq_or_imp, forall_eq]
              omega
            have og' : w.heap.size ≤ gt := by omega
            clear ht6 hv6 hu6 ht' hB6 hb16 hB7 hb7
            obtain ⟨wo, hwo⟩ : ∃ wo : World, wo = wr := ⟨_, rfl⟩
            clear hwo
            go_wp2_with fail
            go_loopw [22] (fun i wr => ∃ j : Nat, j ≤ nc ∧ i = .int .i64 j ∧ Four w P1 G1 P2 G2 P3 G3 P4 G4 c4 nc gh gt (8 + j) q qa wr) (fun i _ => nc - (intOf i).toNat)
            case atStart => exact ⟨0, Nat.zero_le _, rfl, hF⟩
            case round =>
              obtain ⟨j, hj, rfl, hFj⟩ := hrel
              by_cases hlt : j < nc
              · have l1 : (0 : Int) ≤ (j : Int) := by omega
                have l2 : (j : Int) < (nc : Int) := by omega
                obtain ⟨xs, hxl, hBx, hxb⟩ := hFj.o
                have cx := hBx.cell (k := j) (by omega)
                have fx := hBx.frozen j
                have hbj := hxb j
                have hF2 := hFj.put_o og og' j (y := nth xs j + 1) (by omega)
                have wx : IntKind.i64.wrap (nth xs j + 1) = nth xs j + 1 := IntWalk.i64_in _ (by omega)
                obtain ⟨ys, hyl, hBy⟩ := hF2.h
                have cy := hBy.cell (k := j) (by omega)
                have fy := hBy.frozen j
                have hF3 := hF2.put_h oh hgh j 7
                have HX := Lib.hid hxl
                have HY := Lib.hid hyl
                clear hxl hyl
                go_wp2_with fail
                go_roundw
                case rel => exact ⟨j + 1, by omega, by go_num, hF3⟩
                case measure => simp [intOf]; omega
              · obtain rfl : j = nc := by omega
                obtain ⟨t7, ht7⟩ := hFj.t
                go_wp2_with fail
                refine (TCounts_ok ht7 hr1).mono ?_
                rintro e w8 ⟨⟨ga, ca, rfl, -, hBa⟩, hb8⟩
                have hF8 := hFj.below hb8
                obtain ⟨t8, ht8⟩ := hF8.v
                go_wp2_with fail
                refine (TCounts_ok ht8 hr1).mono ?_
                rintro e w9 ⟨⟨gb, cb, rfl, -, hBb⟩, hb9⟩
                have hF9 := hF8.below hb9
                have hBa9 := hBa.below hb9 hBa.lt
                go_wp2_with fail
                refine (ints_same HQ1.out (RI_of_BI hBa9) (RI_of_BI hBb) (by omega)).mono ?_
                rintro e w10 ⟨rfl, hb10⟩
                have hF10 := hF9.below hb10
                obtain ⟨t10, ht10⟩ := hF10.t
                obtain ⟨v10, hv10⟩ := hF10.v
                go_wp2_with fail
                refine (TTotal_ok ht10 hr1).mono ?_
                rintro e w11 ⟨rfl, rfl⟩
                go_wp2_with fail
                refine (TTotal_ok hv10 hr1).mono ?_
                rintro e w11 ⟨rfl, rfl⟩
                obtain ⟨x10, hx10⟩ := hF10.x
                go_wp2_with fail
                refine (TCounts_ok hx10 hr2).mono ?_
                rintro e w11 ⟨⟨ga2, ca2, rfl, -, hBa2⟩, hb11⟩
                have hF11 := hF10.below hb11
                obtain ⟨u11, hu11⟩ := hF11.u
                go_wp2_with fail
                refine (TCounts_ok hu11 hr2).mono ?_
                rintro e w12 ⟨⟨gb2, cb2, rfl, -, hBb2⟩, hb12⟩
                have hF12 := hF11.below hb12
                have hBa3 := hBa2.below hb12 hBa2.lt
                go_wp2_with fail
                refine (ints_same HQ2.out (RI_of_BI hBa3) (RI_of_BI hBb2) (by omega)).mono ?_
                rintro e w13 ⟨rfl, hb13⟩
                have hF13 := hF12.below hb13
                obtain ⟨x13, hx13⟩ := hF13.x
                obtain ⟨u13, hu13⟩ := hF13.u
                have hbe := hF13.be
                go_wp2_with fail
                refine (TTotal_ok hx13 hr2).mono ?_
                rintro e w14 ⟨rfl, rfl⟩
                go_wp2_with fail
                refine (TTotal_ok hu13 hr2).mono ?_
                rintro e w14 ⟨rfl, rfl⟩
                go_wp2_with fail
                refine (awake_any _).mono ?_
                rintro e w15 ⟨rfl, hb15⟩
                go_wp2_with fail
                go_ret
                exact ⟨rfl, below_ge hbe hb15 (Nat.le_refl _)⟩
      · have HSM := Lib.hid hsm
        have hR1 : RI w1 (some ⟨b, off, none⟩) r := hs.hr.below hb1 (Nat.le_refl _)
        clear hsm
        go_wp2_with fail
        refine (made_range HL.out (RI_of_BI hB1) hp HSM.out).mono ?_
        rintro e w2 ⟨rfl, rfl⟩
        go_wp2_with fail
        refine (made_range HL.out hR1 hp HSM.out).mono ?_
        rintro e w2 ⟨rfl, rfl⟩
        go_wp2_with fail
        refine (made_range HL.out hR1 hp HSM.out).mono ?_
        rintro e w2 ⟨rfl, rfl⟩
        go_wp2_with fail
        refine (awake_any _).mono ?_
        rintro e w9 ⟨rfl, hb9⟩
        go_wp2_with fail
        go_ret
        exact ⟨rfl, below_ge hb1 hb9 (Nat.le_refl _)⟩
    · have hp' : powB nc = false := by simpa using hp
      clear hp
      cases A with
      | none =>
        obtain ⟨rfl, rfl⟩ := HCA.out.2 rfl
        have hb1 : Below w.heap.size w (w.alloc (.cells #[] 3)) := (Below.refl w.heap.size w).alloc (Nat.le_refl _) _
        go_wp2_with (at_builtin; refine wpList_append_own_none rfl _ _ 22 rfl w.heap.size 3 i0 1 Try.underlying22 hi (.slice (some ⟨w.heap.size, 0, none⟩) 0 0) 0 [] rfl (World.ownsRow_made w #[] 0 (Nat.le_refl _) (by decide) rfl) rfl ?_)
        go_wp2_with fail
        refine (made_arg hp' (by omega)).mono ?_
        rintro e w2 ⟨rfl, rfl⟩
        go_wp2_with fail
        refine (made_arg hp' (by omega)).mono ?_
        rintro e w2 ⟨rfl, rfl⟩
        go_wp2_with fail
        refine (made_arg hp' (by omega)).mono ?_
        rintro e w2 ⟨rfl, rfl⟩
        go_wp2_with fail
        refine (awake_any _).mono ?_
        rintro e w9 ⟨rfl, hb9⟩
        go_wp2_with fail
        go_ret
        exact ⟨rfl, below_ge hb1 hb9 (Nat.le_refl _)⟩
      | some ad =>
        have hsrc : ∀ j u, (r.map (Value.int .i64))[j]? = some u → (w.alloc (.cells #[] 3)).cell? (ad.add j) = some u := by
          intro j u hu
          have hj : j < r.length := by
            rcases Nat.lt_or_ge j r.length with h | h
            · exact h
            · rw [List.getElem?_eq_none (by simpa using h)] at hu; cases hu
          have hR2 : RI (w.alloc (.cells #[] 3)) (some ad) r := hs.hr.below ((Below.refl w.heap.size w).alloc (Nat.le_refl _) _) (Nat.le_refl _)
          obtain ⟨b, off, e, _⟩ := hR2 (by omega)
          injection e with e
          subst e
          exact src_of_RI hR2 j u hu
        go_wp2_with (at_builtin; refine wpList_append_own_at _ rfl _ _ 22 rfl w.heap.size 3 i0 (.int .i64 0) 1 8 Try.underlying22 hi hzI0 hzI1 hzI2 rfl (by decide) (.slice (some ⟨w.heap.size, 0, none⟩) 0 0) 0 [] rfl (World.ownsRow_made w #[] 0 (Nat.le_refl _) (by decide) rfl) ad nc cap (r.map (Value.int .i64)) rfl ?c0 hsrc ?c2 ?c3 ?c4 ?c5 ?_)
        case c0 => rw [List.length_map, HL.out]; omega
        case c2 => intro u hu; obtain ⟨x, _, rfl⟩ := List.mem_map.1 hu; rfl
        case c3 => unfold maxLen; omega
        case c4 => omega
        case c5 => simp
        intro v' w1 hown hg1 _ hat
        obtain ⟨A', c', rfl⟩ := own_shape hown
        have hb1 : Below w.heap.size w w1 := ((Below.refl w.heap.size w).alloc (Nat.le_refl _) (.cells #[] 3)).grown hg1 (by simp) (fun k e => by injection e with e; simp at e; omega)
        go_wp2_with fail
        refine (made_arg hp' (by omega)).mono ?_
        rintro e w2 ⟨rfl, rfl⟩
        go_wp2_with fail
        refine (made_arg hp' (by omega)).mono ?_
        rintro e w2 ⟨rfl, rfl⟩
        go_wp2_with fail
        refine (made_arg hp' (by omega)).mono ?_
        rintro e w2 ⟨rfl, rfl⟩
        go_wp2_with fail
        refine (awake_any _).mono ?_
        rintro e w9 ⟨rfl, hb9⟩
        go_wp2_with fail
        go_ret
        exact ⟨rfl, below_ge hb1 hb9 (Nat.le_refl _)⟩
  · by_cases h1 : (nc : Int) ≤ 600
    · by_cases h2 : (len : Int) ≤ 40
      · by_cases h3 : 0 ≤ at_
        · have h4 : (len : Int) < at_ := by omega
          clear hin
          go_wp2_with fail
          refine (awake_any _).mono ?_
          rintro e w9 ⟨rfl, hb9⟩
          go_wp2_with fail
          go_ret
          exact ⟨rfl, hb9⟩
        · have h3' : at_ < 0 := by omega
          clear hin h3
          go_wp2_with fail
          refine (awake_any _).mono ?_
          rintro e w9 ⟨rfl, hb9⟩
          go_wp2_with fail
          go_ret
          exact ⟨rfl, hb9⟩
      · have h2' : 40 < (len : Int) := by omega
        clear hin h2
        go_wp2_with fail
        refine (awake_any _).mono ?_
        rintro e w9 ⟨rfl, hb9⟩
        go_wp2_with fail
        go_ret
        exact ⟨rfl, hb9⟩
    · have h1' : 600 < (nc : Int) := by omega
      clear hin h1
      go_wp2_with fail
      refine (awake_any _).mono ?_
      rintro e w9 ⟨rfl, hb9⟩
      go_wp2_with fail
      go_ret
      exact ⟨rfl, hb9⟩
end Go.Proofs.Ytfbjnpbmicbbnaa
