/- MeterSums: each count is the sum of what was added to it, in whichever order: the walk of the law. -/
import Derived.Test.YtjbljdjokgamdaaMsumz
import Derived.IntWalk
namespace Go.Proofs.Ytjbljdjokgamdaa
open Go.RowKit
set_option linter.unusedVariables false

/-- An index that a number of a list names, of n elements. -/
def idx (x : Int) (n : Nat) : Nat := ((x.tmod n + n) % n).toNat
theorem idx_lt (x : Int) {n : Nat} (h : 0 < n) : idx x n < n := by
  unfold idx
  have h1 := Int.emod_nonneg (x.tmod n + n) (show (n : Int) ≠ 0 by omega)
  have h2 := Int.emod_lt_of_pos (x.tmod n + n) (show (0 : Int) < (n : Int) by omega)
  omega
theorem idx_eq (x : Int) {n : Nat} (h : 0 < n) : (x.tmod n + n) % n = ((idx x n : Nat) : Int) := by
  unfold idx
  have h1 := Int.emod_nonneg (x.tmod n + n) (show (n : Int) ≠ 0 by omega)
  omega
theorem tmodn (x : Int) {n : Nat} (h : 0 < n) : -(n : Int) < x.tmod n ∧ x.tmod n < n := by
  have h1 := Int.tmod_lt_of_pos x (show (0 : Int) < (n : Int) by omega)
  have h2 := Int.lt_tmod_of_pos x (show (0 : Int) < (n : Int) by omega)
  exact ⟨h2, h1⟩

set_option maxRecDepth 100000 in
set_option maxHeartbeats 1600000 in
theorem MeterSums_walk (A : Option Addr) (len cap : Nat) (zs : List Act3) (S : Option Addr) (n scap : Nat) (sw : List Int) (w : World) (hz : ActsIn w A len zs) (hs : IntsIn w S n sw) :
    Calls Try.prog 3 #[.slice A len cap, .slice S n scap] w fun e w' => e = .returned (.bool true) ∧ Below w.heap.size w w' := by
  by_cases hl : (len : Int) ≤ 100 ∧ (n : Int) ≤ 100
  · have a1 : (len : Int) ≤ 100 := hl.1
    have a2 : (n : Int) ≤ 100 := hl.2
    clear hl
    obtain ⟨i0, hi, hz0, hz1, hz2⟩ := info_parts Try.info30
    by_cases hpos : 0 < len
    · obtain ⟨b, off, hA, _⟩ := hz.hr hpos
      subst hA
      go_enter Try.func3, Try.ntmps3
      go_wp2_with fail
      refine (New_ok 8 _ (by decide) (by decide)).mono ?_
      rintro e w1 ⟨rfl, hm1, hs1, hb1⟩
      have HS1 := Lib.hid hs1
      go_wp2_with fail
      refine (New_ok 8 _ (by decide) (by decide)).mono ?_
      rw [hs1]
      rintro e w2 ⟨rfl, hu2, hs2, hb2⟩
      have hm2 := hm1.below hb2 (by omega) (by omega)
      have hb2' := hb1.trans (hb2.mono (by omega))
      have HS2 := Lib.hid hs2
      have hw2 : w2.heap.size = w.heap.size + 4 := by omega
      clear hs1 hs2 hm1 hb1 hb2 HS1
      have HW2 := Lib.hid hw2
      clear hw2
      have hz2' := hz.below hb2'
      go_wp2_with (at_builtin; refine wpList_append_own_at _ rfl _ _ 22 rfl w2.heap.size 30 i0 (.agg #[.int .i64 0, .int .i64 0, .int .i64 0]) 3 24 Try.underlying22 hi hz0 hz1 hz2 rfl (by decide) (.slice (some ⟨w2.heap.size, 0, none⟩) 0 0) 0 [] rfl (World.ownsRow_made w2 #[] 0 (Nat.le_refl _) (by decide) rfl) ⟨b, off, none⟩ len cap (cells3 zs) rfl ?c0 ?c1 ?c2 ?c3 ?c4 ?c5 ?_)
      case c0 => rw [cells3_length, hz.hl]
      case c1 =>
        intro j u hj
        obtain ⟨k, hk, hu⟩ := cells3_at zs j u hj
        obtain ⟨b', off', hA', q0, q1, q2⟩ := (hz2'.below ((Below.refl w2.heap.size w2).alloc (Nat.le_refl _) (.cells #[] 30))).at_ (k := k) (by rw [← hz.hl]; exact hk)
        obtain ⟨rfl, rfl⟩ : b = b' ∧ off = off' := by simpa using hA'
        rw [add_at_none rfl]
        rcases hu with ⟨rfl, rfl⟩ | ⟨rfl, rfl⟩ | ⟨rfl, rfl⟩
        · exact q0
        · exact q1
        · exact q2
      case c2 => exact cells3_one zs
      case c3 => unfold maxLen; omega
      case c4 => omega
      case c5 => simp
      intro v w3 hown hg3 _ hat
      have hw2 := HW2.out
      obtain ⟨g, rcap, rfl, hgb, hR⟩ := Row3_of_own hown (by rw [hz.hl]; exact hpos) hz.hl.symm
      have hm3 := (hm2.alloc (.cells #[] 30)).grown hg3 (by simp [Value.ownBlock]; omega) (by simp [Value.ownBlock]; omega)
      have hu3 := (hu2.alloc (.cells #[] 30)).grown hg3 (by simp [Value.ownBlock]; omega) (by simp [Value.ownBlock]; omega)
      have hb3 := (hb2'.alloc (by omega) (.cells #[] 30)).grown hg3 (by simp; omega) (by simp [Value.ownBlock]; omega)
      have hgw : w.heap.size + 4 ≤ g := by omega
      clear hown hg3 hat hm2 hu2 hb2' HS2 HW2 hz2' hi hz0 hz1 hz2 hw2 hgb
      have HZL := Lib.hid hz.hl
      go_wp2_with fail
      go_loopw [10] (fun i wr => ∃ (k : Nat) (ys : List Act3), k ≤ n + 1 ∧ i = .int .i64 k ∧ ys.length = len ∧ ys.Perm zs ∧ Row3 wr g ys ∧ Met wr (w.heap.size + 1) w.heap.size (zeros 8) ∧ Met wr (w.heap.size + 3) (w.heap.size + 2) (zeros 8) ∧ Below w.heap.size w wr) (fun i _ => n + 1 - (intOf i).toNat)
      case atStart => exact ⟨0, zs, Nat.zero_le _, rfl, HZL.out, List.Perm.refl _, hR, hm3, hu3, hb3⟩
      case round =>
        clear hR hm3 hu3 hb3
        obtain ⟨k, ys, hk, rfl, hyl, hperm, hR, hm, hu, hb⟩ := hrel
        have HYL := Lib.hid hyl
        have HPERM := Lib.hid hperm
        clear hyl hperm
        by_cases hlt : k + 1 < n
        · have i1 : (0 : Int) ≤ (k : Int) := by omega
          have i2 : (k : Int) + 1 < (n : Int) := by omega
          have i3 : (0 : Int) < (len : Int) := by omega
          obtain ⟨bs, offs, rfl, q0⟩ := (hs.below hb).at_ (k := k) (by omega)
          obtain ⟨bs', offs', hS', q1⟩ := (hs.below hb).at_ (k := k + 1) (by omega)
          obtain ⟨rfl, rfl⟩ : bs = bs' ∧ offs = offs' := by simpa using hS'
          clear hS'
          have t0 := tmodn (nth sw k) hpos
          have t1 := tmodn (nth sw (k + 1)) hpos
          have l0 := idx_lt (nth sw k) hpos
          have l1 := idx_lt (nth sw (k + 1)) hpos
          have e0 := idx_eq (nth sw k) hpos
          have e1 := idx_eq (nth sw (k + 1)) hpos
          generalize idx (nth sw k) len = p at l0 e0
          generalize idx (nth sw (k + 1)) len = q at l1 e1
          go_wp2_with fail
          simp only [e0, e1]
          clear t0 t1 e0 e1 q0 q1
          obtain ⟨r0, r1, r2⟩ := hR.c p (by rw [HYL.out]; exact l0)
          obtain ⟨r3, r4, r5⟩ := hR.c q (by rw [HYL.out]; exact l1)
          have f0 := hR.f (p * 3)
          have f1 := hR.f (p * 3 + 1)
          have f2 := hR.f (p * 3 + 2)
          have f3 := hR.f (q * 3)
          have f4 := hR.f (q * 3 + 1)
          have f5 := hR.f (q * 3 + 2)
          have j0 : (0 : Int) ≤ (p : Int) := by omega
          have j1 : (p : Int) < (len : Int) := by omega
          have j2 : (0 : Int) ≤ (q : Int) := by omega
          have j3 : (q : Int) < (len : Int) := by omega
          by_cases hpq : p = q
          · subst hpq
            go_region
            go_wp2_with fail
            have g0 := grown_put3 wr g (p * 3) (p * 3 + 1) (p * 3 + 2) (.int .i64 (act ys p).o) (.int .i64 (act ys p).i) (.int .i64 (act ys p).n)
            have g1 := grown_drew (grown_trans g0 (grown_put3 _ g (p * 3) (p * 3 + 1) (p * 3 + 2) (.int .i64 (act ys p).o) (.int .i64 (act ys p).i) (.int .i64 (act ys p).n)))
            have R1 := ((hR.put3 (by rw [HYL.out]; exact l0) (act ys p)).put3 (k := p) (by rw [List.length_set, HYL.out]; exact l0) (act ys p)).drew
            go_roundw
            case rel => exact ⟨k + 2, swapped ys p p, by omega, by go_num, (swapped_length _ _ _).trans HYL.out, (swapped_perm ys (by rw [HYL.out]; exact l0) (by rw [HYL.out]; exact l0)).trans HPERM.out, R1, hm.grown g1 (by simp; omega) (by simp; omega), hu.grown g1 (by simp; omega) (by simp; omega), hb.grown g1 hb.size (row_some (by omega))⟩
            case measure => simp [intOf]; omega
          · go_region
            go_wp2_with fail
            have g0 := grown_put3 wr g (p * 3) (p * 3 + 1) (p * 3 + 2) (.int .i64 (act ys q).o) (.int .i64 (act ys q).i) (.int .i64 (act ys q).n)
            have g1 := grown_drew (grown_trans g0 (grown_put3 _ g (q * 3) (q * 3 + 1) (q * 3 + 2) (.int .i64 (act ys p).o) (.int .i64 (act ys p).i) (.int .i64 (act ys p).n)))
            have R1 := ((hR.put3 (by rw [HYL.out]; exact l0) (act ys q)).put3 (k := q) (by rw [List.length_set, HYL.out]; exact l1) (act ys p)).drew
            go_roundw
            case rel => exact ⟨k + 2, swapped ys p q, by omega, by go_num, (swapped_length _ _ _).trans HYL.out, (swapped_perm ys (by rw [HYL.out]; exact l0) (by rw [HYL.out]; exact l1)).trans HPERM.out, R1, hm.grown g1 (by simp; omega) (by simp; omega), hu.grown g1 (by simp; omega) (by simp; omega), hb.grown g1 hb.size (row_some (by omega))⟩
            case measure => simp [intOf]; omega
        · have i1 : (0 : Int) ≤ (k : Int) := by omega
          have i2 : (n : Int) ≤ (k : Int) + 1 := by omega
          have i3 : (0 : Int) < (len : Int) := by omega
          have hmk : ∀ W : World, (Instr.makeSlice 23 (.int .i64 8) (.int .i64 8)).run Try.prog W = .ok (.slice (some ⟨W.heap.size, 0, none⟩) 8 8) (W.alloc (.cells (cells (zeros 8)) 3)) := make_ints 8 (by decide)
          obtain ⟨wo, rfl⟩ : ∃ wo : World, wo = wr := ⟨_, rfl⟩
          have hk2 := Blk.made wo 3 (cells (zeros 8))
          have hR2 := hR.below ((Below.refl wo.heap.size wo).alloc (Nat.le_refl _) (.cells (cells (zeros 8)) 3)) hR.lt
          have hm2 := hm.alloc (.cells (cells (zeros 8)) 3)
          have hu2 := hu.alloc (.cells (cells (zeros 8)) 3)
          have hb2 := hb.alloc hb.size (.cells (cells (zeros 8)) 3)
          have hgo := hR.lt
          clear hR hm hu hb hlt
          go_wp2_with fail
          clear hmk
          go_loopw [14] (fun i wr => ∃ k : Nat, k ≤ len ∧ i = .int .i64 k ∧ Blk wr wo.heap.size 3 (cells (addAll zs k)) ∧ Row3 wr g ys ∧ Met wr (w.heap.size + 1) w.heap.size (addAll zs k) ∧ Met wr (w.heap.size + 3) (w.heap.size + 2) (addAll ys k) ∧ Below w.heap.size w wr) (fun i _ => len - (intOf i).toNat)
          case atStart => exact ⟨0, Nat.zero_le _, rfl, by rw [addAll_zero]; exact hk2, hR2, by rw [addAll_zero]; exact hm2, by rw [addAll_zero]; exact hu2, hb2⟩
          case round =>
            clear hk2 hR2 hm2 hu2 hb2 hk
            obtain ⟨k, hk, rfl, hk2, hR, hm, hu, hb⟩ := hrel
            by_cases hlt : k < len
            · have i1 : (0 : Int) ≤ (k : Int) := by omega
              have i2 : (k : Int) < (len : Int) := by omega
              have LS := Lib.hid (addAll_length zs k)
              have LU := Lib.hid (addAll_length ys k)
              obtain ⟨b', off', hA', c0, c1, c2⟩ := (hz.below hb).at_ hlt
              obtain ⟨rfl, rfl⟩ : b = b' ∧ off = off' := by simpa using hA'
              clear hA'
              have t0 := tmod8 (act zs k).i
              have l0 := key_lt (act zs k).i
              have e0 := key_eq (act zs k).i
              generalize hq : key (act zs k).i = q at l0 e0
              have HQ := Lib.hid hq
              clear hq
              have s0 : wr.cell? ⟨wo.heap.size, q, none⟩ = some (.int .i64 (nth (addAll zs k) q)) := by rw [hk2.cell, cells_get (by rw [LS.out]; exact l0)]
              have s1 := hk2.frozen q
              have j0 : (0 : Int) ≤ (q : Int) := by omega
              have j1 : (q : Int) < 8 := by omega
              go_wp2_with fail
              simp only [e0]
              clear t0 e0
              go_region
              have g0 := grown_drew (grown_put wr wo.heap.size q (.int .i64 (wrap64 (nth (addAll zs k) q + (act zs k).n))))
              have hk3 := (hk2.put q (.int .i64 (wrap64 (nth (addAll zs k) q + (act zs k).n)))).drew
              rw [cells_put] at hk3
              have hR3 := hR.grown g0 (by simp; omega)
              have hm3 := hm.grown g0 (by simp; omega) (by simp; omega)
              have hu3 := hu.grown g0 (by simp; omega) (by simp; omega)
              have hb3 := hb.grown g0 hb.size (row_some (by omega))
              clear g0 hk2 hR hm hu hb s0 s1 c0 c1 c2
              generalize (wr.setCell ⟨wo.heap.size, q, none⟩ (.int .i64 (wrap64 (nth (addAll zs k) q + (act zs k).n)))).drew = W1 at hk3 hR3 hm3 hu3 hb3 ⊢
              obtain ⟨b', off', hA', c0, c1, c2⟩ := (hz.below hb3).at_ hlt
              obtain ⟨rfl, rfl⟩ : b = b' ∧ off = off' := by simpa using hA'
              clear hA'
              go_wp2_with fail
              refine (Add_in _ _ _ q _ _ hm3 (by rw [LS.out]; exact l0)).mono ?_
              rintro e w4 ⟨rfl, hm4, hg4⟩
              have hk4 := hk3.grown hg4 (by simp; omega)
              have hR4 := hR3.grown hg4 (by simp; omega)
              have hu4 := hu3.grown hg4 (by simp) (by simp)
              have hb4 := hb3.grown hg4 hb3.size (row_some (by omega))
              clear hk3 hR3 hm3 hu3 hb3 hg4 c0 c1 c2
              obtain ⟨d0, d1, d2⟩ := hR4.c k (by rw [HYL.out]; exact hlt)
              have t1 := tmod8 (act ys k).i
              have l1 := key_lt (act ys k).i
              have e1 := key_eq (act ys k).i
              generalize hp : key (act ys k).i = p at l1 e1
              have HP := Lib.hid hp
              clear hp
              have n1 : IntKind.i64.wrap ((act ys k).i.tmod 8 + 8) = (act ys k).i.tmod 8 + 8 := IntWalk.i64_in _ (by omega)
              have n0 : IntKind.i64.wrap ((act ys k).i.tmod 8) = (act ys k).i.tmod 8 := IntWalk.i64_in _ (by omega)
              have n2 : ((act ys k).i.tmod 8 + 8).tmod 8 = (p : Int) := by rw [← e1, Int.tmod_eq_emod_of_nonneg (by omega)]
              clear t1 e1
              have s0 : w4.cell? ⟨wo.heap.size, q, none⟩ = some (.int .i64 (nth ((addAll zs k).set q (wrap64 (nth (addAll zs k) q + (act zs k).n))) q)) := by rw [hk4.cell, cells_get (by rw [List.length_set, LS.out]; exact l0)]
              rw [nth_set_self _ (by rw [LS.out]; exact l0)] at s0
              go_wp2_with fail
              go_upto_region 21 with fail
              go_cut [18, 19] (fun v e W => v = .int .i64 (wrap64 (nth (addAll ys k) p + (act ys k).n)) ∧ e = .int .i64 0 ∧ Met W (w.heap.size + 3) (w.heap.size + 2) ((addAll ys k).set p (wrap64 (nth (addAll ys k) p + (act ys k).n))) ∧ w4.grownBy W (some (w.heap.size + 2)))
              case first =>
                go_region_held3 (fun W => W.cell? ⟨g, k * 3 + 1, none⟩ = some (.int .i64 (act ys k).i) ∧ W.cell? ⟨g, k * 3 + 2, none⟩ = some (.int .i64 (act ys k).n))
                  (first | exact ⟨d1, d2⟩ | exact ⟨(hR5.c k (by rw [HYL.out]; exact hlt)).2.1, (hR5.c k (by rw [HYL.out]; exact hlt)).2.2⟩)
                  ((go_at_call 10; refine (Add_in (w.heap.size + 3) (w.heap.size + 2) (addAll ys k) p _ _ hu4.drew (by rw [LU.out]; exact l1)).mono ?_; rintro e w5 ⟨rfl, hu5, hg5⟩; have hR5 := hR4.drew.grown hg5 (by simp; omega)))
                all_goals go_wp2_with fail
                go_meet
                exact ⟨rfl, rfl, hu5, grown_trans (grown_drew (World.grownBy.refl w4 _)) hg5⟩
              case rest =>
                obtain ⟨rfl, rfl, hu5, hg5⟩ := hcut
                clear n0 n1 n2 s0
                have hk5 := hk4.grown hg5 (by simp; omega)
                have hR5 := hR4.grown hg5 (by simp; omega)
                have hm5 := hm4.grown hg5 (by simp) (by simp)
                have hb5 := hb4.grown hg5 hb4.size (row_some (by omega))
                have s0 : wc.cell? ⟨wo.heap.size, q, none⟩ = some (.int .i64 (nth ((addAll zs k).set q (wrap64 (nth (addAll zs k) q + (act zs k).n))) q)) := by rw [hk5.cell, cells_get (by rw [List.length_set, LS.out]; exact l0)]
                rw [nth_set_self _ (by rw [LS.out]; exact l0)] at s0
                clear hk4 hR4 hm4 hu4 hb4 hg5 d0 d1 d2
                go_wp2_with fail
                have E1 : addAll zs (k + 1) = (addAll zs k).set q (wrap64 (nth (addAll zs k) q + (act zs k).n)) := by
                  rw [addAll_succ zs (by rw [HZL.out]; exact hlt), step, HQ.out]
                have E2 : addAll ys (k + 1) = (addAll ys k).set p (wrap64 (nth (addAll ys k) p + (act ys k).n)) := by
                  rw [addAll_succ ys (by rw [HYL.out]; exact hlt), step, HP.out]
                go_roundw
                case rel => exact ⟨k + 1, by omega, by go_num, by rw [E1]; exact hk5, hR5, by rw [E1]; exact hm5, by rw [E2]; exact hu5, hb5⟩
                case measure => simp [intOf]; omega
            · obtain rfl : k = len := by omega
              have LS := Lib.hid (addAll_length zs k)
              have EQ : addAll ys k = addAll zs k := by
                have := addAll_perm HPERM.out
                rwa [HYL.out, HZL.out] at this
              rw [EQ] at hu
              clear EQ
              generalize addAll zs k = P at hk2 hm hu LS
              go_wp2_with fail
              refine (All_any _ _ _ _ hm (by rw [LS.out]; omega)).mono ?_
              rw [LS.out]
              rintro e w3 ⟨rfl, hk3, hs3, hb3⟩
              have HS3 := Lib.hid hs3
              clear hs3
              have hk4 := hk2.below hb3 hk2.lt
              have hu3 := hu.below hb3 hu.st.lt hu.row.lt
              have hb3' := hb.trans (hb3.mono hb.size)
              go_wp2_with fail
              refine (ints_b _ _ _ _ _ _ P P _ LS.out LS.out (RI_of_blk hk3) (RI_of_blk hk4) (by omega) (by omega)).mono ?_
              rintro e w4 ⟨rfl, hb4⟩
              have hk5 := hk4.below hb4 hk4.lt
              have hu4 := hu3.below hb4 hu3.st.lt hu3.row.lt
              have hb4' := hb3'.trans (hb4.mono hb3'.size)
              go_wp2_with fail
              refine (All_any _ _ _ _ hu4 (by rw [LS.out]; omega)).mono ?_
              rw [LS.out]
              rintro e w5 ⟨rfl, hk6, hs5, hb5⟩
              have HS5 := Lib.hid hs5
              clear hs5
              have hk7 := hk5.below hb5 hk5.lt
              have hb5' := hb4'.trans (hb5.mono hb4'.size)
              go_wp2_with fail
              refine (ints_b _ _ _ _ _ _ P P _ LS.out LS.out (RI_of_blk hk6) (RI_of_blk hk7) (by omega) (by omega)).mono ?_
              rintro e w6 ⟨rfl, hb6⟩
              have hb6' := hb5'.trans (hb6.mono hb5'.size)
              go_wp2_with fail
              refine (awake_any _).mono ?_
              rintro e w7 ⟨rfl, hb7⟩
              go_wp2_with fail
              go_ret
              exact ⟨rfl, hb6'.trans (hb7.mono hb6'.size)⟩
    · obtain rfl : len = 0 := by omega
      exact MeterSums_none A cap S n scap w a2
  · by_cases h1 : (100 : Int) < (len : Int)
    · clear hl hz hs
      go_enter Try.func3, Try.ntmps3
      go_wp2_with (go_at_call 8; refine (awake_any _).mono ?_; rintro e w' ⟨rfl, hb⟩)
      go_ret
      exact ⟨rfl, hb⟩
    · have h1' : (len : Int) ≤ 100 := by omega
      have h2 : (100 : Int) < (n : Int) := by omega
      clear hl hz hs h1
      go_enter Try.func3, Try.ntmps3
      go_wp2_with (go_at_call 8; refine (awake_any _).mono ?_; rintro e w' ⟨rfl, hb⟩)
      go_ret
      exact ⟨rfl, hb⟩
end Go.Proofs.Ytjbljdjokgamdaa
