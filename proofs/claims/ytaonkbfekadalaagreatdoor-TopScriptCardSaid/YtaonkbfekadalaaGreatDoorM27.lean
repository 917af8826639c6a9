/- Joined texts: Pp, Ca, Cb, Gh, Rz, Ry. -/
import Derived.Test.YtaonkbfekadalaaGreatDoorM17
import Derived.Test.YtaonkbfekadalaaGreatDoorM25
import Derived.Test.YtaonkbfekadalaaGreatDoorM26
/- What Pick comes to: which step a change takes. -/
namespace Go.Proofs.YtaonkbfekadalaaGreatDoor
open Go.RowKit
set_option linter.unusedVariables false

/-- A step, as a value. -/
def stepE (s : Int × Int × Int × Int) : Value := .agg #[.int .i64 s.1, .int .i64 s.2.1, .int .i64 s.2.2.1, .int .i64 s.2.2.2]
/-- Which step a change takes. -/
def pickV (r : List Int) (s h : Nat) : Int × Int × Int × Int :=
  if pickL r s h ≤ h then (1, (winF s (pickL r s h) : Nat), ((2 ^ pickL r s h : Nat) : Int), (capN h : Nat))
  else if withinV (sumR r 0 (2 ^ h)).toNat h h < 0 then (3, 0, ((2 ^ h / 2 : Nat) : Int), ((capN h / 2 : Nat) : Int))
  else (2, 0, ((2 * 2 ^ h : Nat) : Int), ((2 * capN h : Nat) : Int))
set_option maxRecDepth 100000 in
set_option maxHeartbeats 2000000 in
theorem Pick_ok {w : World} {b off c h s : Nat} {r : List Int} (hl : r.length = 2 ^ h) (hR : RI w (some ⟨b, off, none⟩) r) (hsm : Smalls r) (h1 : 2 ≤ h) (h2 : h ≤ 9) (hs : s < 2 ^ h) (hc : 2 ^ h ≤ c) (hT : Tab w)
    (hfull : h < pickL r s h → withinV (sumR r 0 (2 ^ h)).toNat h h < 0 ∨ h < 9) :
    Calls Tryz.prog 127 #[.slice (some ⟨b, off, none⟩) (2 ^ h) c, .int .i64 (s : Nat)] w fun e w' => e = .returned (.tuple #[stepE (pickV r s h), .int .i64 0]) ∧ Below w.heap.size w w' := by
  obtain ⟨a, b'⟩ := capN_bd h1 h2
  have b2 : 2 ^ h ≤ 512 := by unfold capN at b'; omega
  have b1 : 4 ≤ 2 ^ h := by unfold capN at a; omega
  have hB0 : Below w.heap.size w (w.alloc (.cells #[.int .i64 0, .int .i64 0, .int .i64 0, .int .i64 0] 30)) := (Below.refl _ w).alloc (Nat.le_refl _) _
  have hf := find_ok hl (hR.alloc (.cells #[.int .i64 0, .int .i64 0, .int .i64 0, .int .i64 0] 30)) hsm h1 h2 hs hc (hT.below hB0)
  have k0 := Blk.made w 30 #[.int .i64 0, .int .i64 0, .int .i64 0, .int .i64 0]
  have hsum := fun (W : World) (hW : RI W (some ⟨b, off, none⟩) r) => sum_ok (c := c) hl hW hsm (by omega)
  have hsb := sumR_small hsm 0 (2 ^ h) (by omega)
  have hwi := fun (W : World) => Within_ok (n := (sumR r 0 (2 ^ h)).toNat) h1 h2 (Nat.le_refl h) (by omega) W
  rw [show (((sumR r 0 (2 ^ h)).toNat : Nat) : Int) = sumR r 0 (2 ^ h) by omega] at hwi
  have hbd : b < w.heap.size := by
    obtain ⟨b1', off1, e, hcc⟩ := hR (by omega)
    injection e with e
    injection e with e1 e2
    subst e1
    exact World.block_lt_of_cell? w ⟨b, off1 + 0, none⟩ (hcc 0 (by omega))
  have hwin := winF_le (k := pickL r s h) hs
  have HWIN := Lib.hid hwin
  unfold foundV at hf
  unfold pickV
  by_cases hp : pickL r s h ≤ h
  · rw [if_pos hp] at hf ⊢
    rw [decide_eq_true hp] at hf
    have hk9 : pickL r s h ≤ 9 := by omega
    have hcap : ((capN h : Nat) : Int) = 8 * ((2 ^ h : Nat) : Int) := by unfold capN; push_cast; rfl
    rw [hcap]
    have n1 : IntKind.i64.wrap (8 * ((2 ^ h : Nat) : Int)) = 8 * ((2 ^ h : Nat) : Int) := IntWalk.i64_in _ (by omega)
    unfold winV at hf
    clear hsum hwi hsb hwin hfull hs hl
    generalize winF s (pickL r s h) = F at *
    generalize 2 ^ pickL r s h = M at *
    generalize pickL r s h = K at *
    clear hp hk9 hcap
    generalize 2 ^ h = d at *
    go_enter Tryz.func127, Tryz.ntmps127
    go_wp2_with fail
    refine hf.mono ?_
    rintro e w1 ⟨rfl, hB⟩
    have hBw : Below w.heap.size w w1 := hB0.trans (hB.mono hB0.size)
    have k1 := (k0.below hB k0.lt).alloc (.cells #[.int .i64 (K : Nat), .int .i64 (F : Nat), .int .i64 (M : Nat)] 193)
    have hBx := hBw.alloc hBw.size (.cells #[.int .i64 (K : Nat), .int .i64 (F : Nat), .int .i64 (M : Nat)] 193)
    obtain ⟨z0, z1, z2, z3⟩ := k1.four
    obtain ⟨f0, f1, f2, f3⟩ := k1.frozens
    go_wp2_with fail
    refine bodyPost_ret (results_c_t rfl _ rfl (k1.put4 _ _ _ _) Tryz.underlying30 (by kernel_rfl)) rfl ?_
    exact ⟨rfl, below_put4 hBx (Nat.le_refl _) _ _ _ _⟩
  · rw [if_neg hp] at hf ⊢
    rw [decide_eq_false hp] at hf
    have hpl := pickL_le r s h
    have hk9 : pickL r s h = h + 1 := by omega
    have hw0 : withinV (sumR r 0 (2 ^ h)).toNat h h ≠ 0 := by
      have h3 := pickL_no (r := r) (s := s) (h := h) (j := h) (by omega)
      have h4 : winF s h = 0 := by unfold winF; rw [Nat.div_eq_of_lt hs, Nat.zero_mul]
      rwa [h4] at h3
    have hful := hfull (by omega)
    have hcap : ((capN h : Nat) : Int) = 8 * ((2 ^ h : Nat) : Int) := by unfold capN; push_cast; rfl
    have e1 : ((2 ^ h / 2 : Nat) : Int) = ((2 ^ h : Nat) : Int) / 2 := by omega
    have e2 : ((capN h / 2 : Nat) : Int) = 8 * ((2 ^ h : Nat) : Int) / 2 := by omega
    have e3 : ((2 * 2 ^ h : Nat) : Int) = 2 * ((2 ^ h : Nat) : Int) := by push_cast; rfl
    have e4 : ((2 * capN h : Nat) : Int) = 2 * (8 * ((2 ^ h : Nat) : Int)) := by push_cast; rw [hcap]; push_cast; rfl
    have h512 : h < 9 → 2 ^ h < 512 := fun q => by
      have : 2 ^ h ≤ 2 ^ 8 := Nat.pow_le_pow_right (by decide) (by omega)
      omega
    rw [e1, e2, e3, e4]
    clear hwin hfull hs hl hpl hk9 hcap e1 e2 e3 e4 HWIN a b'
    generalize withinV (sumR r 0 (2 ^ h)).toNat h h = V at *
    generalize sumR r 0 (2 ^ h) = Z at *
    clear hp
    generalize pickL r s h = K at *
    clear hsb
    generalize 2 ^ h = d at *
    have n1 : IntKind.i64.wrap (8 * (d : Int)) = 8 * (d : Int) := IntWalk.i64_in _ (by omega)
    have n2 : (8 * (d : Int)).tdiv 2 = 8 * (d : Int) / 2 := Int.tdiv_eq_ediv_of_nonneg (by omega)
    have n3 : (d : Int).tdiv 2 = (d : Int) / 2 := Int.tdiv_eq_ediv_of_nonneg (by omega)
    have n4 : IntKind.i64.wrap (2 * (d : Int)) = 2 * (d : Int) := IntWalk.i64_in _ (by omega)
    have n5 : IntKind.i64.wrap (2 * (8 * (d : Int))) = 2 * (8 * (d : Int)) := IntWalk.i64_in _ (by omega)
    have n6 : IntKind.i64.wrap (8 * (d : Int) / 2) = 8 * (d : Int) / 2 := IntWalk.i64_in _ (by omega)
    have n7 : IntKind.i64.wrap ((d : Int) / 2) = (d : Int) / 2 := IntWalk.i64_in _ (by omega)
    by_cases hV : V < 0
    · rw [if_pos hV]
      have t1 : decide (V < 0) = true := by simp [hV]
      clear hful h512 hw0
      go_enter Tryz.func127, Tryz.ntmps127
      go_wp2_with fail
      refine hf.mono ?_
      rintro e w1 ⟨rfl, hB⟩
      have hBw : Below w.heap.size w w1 := hB0.trans (hB.mono hB0.size)
      have k1 := (k0.below hB k0.lt).alloc (.cells #[.int .i64 0, .int .i64 0, .int .i64 0] 193)
      have hBx := hBw.alloc hBw.size (.cells #[.int .i64 0, .int .i64 0, .int .i64 0] 193)
      obtain ⟨z0, z1, z2, z3⟩ := k1.four
      obtain ⟨f0, f1, f2, f3⟩ := k1.frozens
      have hsm1 := hsum (w1.alloc (.cells #[.int .i64 0, .int .i64 0, .int .i64 0] 193)) ((hR.below hBw (Nat.le_refl _)).alloc _)
      go_wp2_with fail
      refine hsm1.mono ?_
      rintro e w2 ⟨rfl, rfl⟩
      go_wp2_with fail
      refine (hwi _).mono ?_
      rintro e w2 ⟨rfl, rfl⟩
      go_wp2_with fail
      refine bodyPost_ret (results_c_t rfl _ rfl (k1.put4 _ _ _ _) Tryz.underlying30 (by kernel_rfl)) rfl ?_
      exact ⟨rfl, below_put4 hBx (Nat.le_refl _) _ _ _ _⟩
    · rw [if_neg hV]
      have t1 : decide (V < 0) = false := by simp; omega
      have hd := h512 (hful.resolve_left hV)
      have t2 : (8 * (d : Int) == 4096) = false := by simp; omega
      clear hful h512 hw0
      go_enter Tryz.func127, Tryz.ntmps127
      go_wp2_with fail
      refine hf.mono ?_
      rintro e w1 ⟨rfl, hB⟩
      have hBw : Below w.heap.size w w1 := hB0.trans (hB.mono hB0.size)
      have k1 := (k0.below hB k0.lt).alloc (.cells #[.int .i64 0, .int .i64 0, .int .i64 0] 193)
      have hBx := hBw.alloc hBw.size (.cells #[.int .i64 0, .int .i64 0, .int .i64 0] 193)
      obtain ⟨z0, z1, z2, z3⟩ := k1.four
      obtain ⟨f0, f1, f2, f3⟩ := k1.frozens
      have hsm1 := hsum (w1.alloc (.cells #[.int .i64 0, .int .i64 0, .int .i64 0] 193)) ((hR.below hBw (Nat.le_refl _)).alloc _)
      go_wp2_with fail
      refine hsm1.mono ?_
      rintro e w2 ⟨rfl, rfl⟩
      go_wp2_with fail
      refine (hwi _).mono ?_
      rintro e w2 ⟨rfl, rfl⟩
      go_wp2_with fail
      refine bodyPost_ret (results_c_t rfl _ rfl (k1.put4 _ _ _ _) Tryz.underlying30 (by kernel_rfl)) rfl ?_
      exact ⟨rfl, below_put4 hBx (Nat.le_refl _) _ _ _ _⟩
end Go.Proofs.YtaonkbfekadalaaGreatDoor
/- The counts of segments; a row in memory: an array with gaps and the tree of its counts; what counts, use, New, Len, Cap come to. -/
namespace Go.Proofs.YtaonkbfekadalaaGreatDoor
open Go.RowKit
set_option linter.unusedVariables false

theorem cnt_step8 (r : List Bool) (a : Nat) : ∀ d, cnt r a ≤ cnt r (a + d) ∧ cnt r (a + d) ≤ cnt r a + d
  | 0 => ⟨Nat.le_refl _, Nat.le_refl _⟩
  | d + 1 => by
    have := cnt_step8 r a d
    rw [← Nat.add_assoc, cnt_succ]
    split <;> omega
/-- How many elements a segment has. -/
def segC (r : List Bool) (k : Nat) : Nat := cnt r (8 * k + 8) - cnt r (8 * k)
theorem segC_le (r : List Bool) (k : Nat) : segC r k ≤ 8 := by have := cnt_step8 r (8 * k) 8; unfold segC; omega
theorem segC_add (r : List Bool) (k : Nat) : cnt r (8 * k) + segC r k = cnt r (8 * (k + 1)) := by
  have := cnt_step8 r (8 * k) 8
  unfold segC
  rw [show 8 * (k + 1) = 8 * k + 8 by omega]
  omega
/-- The counts of m segments from the first one on. -/
def csV (r : List Bool) (first m : Nat) : List Int := (List.range m).map fun k => ((segC r (first + k) : Nat) : Int)
theorem csV_len (r : List Bool) (first m : Nat) : (csV r first m).length = m := by simp [csV]
theorem nth_csV {r : List Bool} {first m k : Nat} (h : k < m) : nth (csV r first m) k = ((segC r (first + k) : Nat) : Int) := by
  rw [nth_eq (by rw [csV_len]; exact h)]
  simp [csV]
theorem csV_small (r : List Bool) (first m : Nat) : Smalls (csV r first m) := fun j hj => by
  rw [csV_len] at hj
  rw [nth_csV hj]
  have := segC_le r (first + j)
  omega
theorem csV_rt (r : List Bool) {h : Nat} (h2 : h ≤ 9) : Rt (csV r 0 (2 ^ h)) h := ⟨h2, csV_len _ _ _, csV_small _ _ _⟩
theorem sum_csV (r : List Bool) (m : Nat) : ∀ (a n : Nat), a + n ≤ m → cnt r (8 * a) + (sumR (csV r 0 m) a n).toNat = cnt r (8 * (a + n)) ∧ 0 ≤ sumR (csV r 0 m) a n
  | a, 0, _ => by simp [sumR_zero]
  | a, n + 1, h => by
    obtain ⟨i1, i2⟩ := sum_csV r m a n (by omega)
    rw [sumR_succ, nth_csV (by omega), Nat.zero_add]
    have := segC_add r (a + n)
    rw [show a + (n + 1) = a + n + 1 by omega]
    omega

set_option maxRecDepth 100000 in
theorem counts_ok {w : World} {b : SB} {n : Nat} {r : List Bool} {xs : List Int} (h : SM w b n r xs) {first m : Nat} (hE : 8 * (first + m) ≤ n) :
    Calls Tryz.prog 116 #[.pointer (some ⟨b.s, 0, none⟩), .int .i64 (first : Nat), .int .i64 (m : Nat)] w fun e w' => e = .returned (.slice (some ⟨w.heap.size, 0, none⟩) m m) ∧ BI w' w.heap.size (csV r first m) ∧ Below w.heap.size w w' := by
  have hn := h.hn
  have hmk := make_ints m (by omega)
  have HB := Lib.hid (BI.of_blk (Blk.made w 3 (cells (zeros m))))
  have HS := Lib.hid h
  have HE := Lib.hid hE
  have HN := Lib.hid hn
  clear h hE hn
  go_enter Tryz.func116, Tryz.ntmps116
  go_wp2_with fail
  go_loopw [14] (fun i wr => ∃ (k : Nat) (ys : List Int), k ≤ m ∧ i = .int .i64 k ∧ ys.length = m ∧ BI wr w.heap.size ys ∧ (∀ j, j < k → nth ys j = nth (csV r first m) j) ∧ Below w.heap.size w wr) (fun i _ => m - (intOf i).toNat)
  case atStart => exact ⟨0, zeros m, Nat.zero_le _, rfl, zeros_length m, HB.out, fun j hj => by omega, (Below.refl _ _).alloc (Nat.le_refl _) _⟩
  case round =>
    obtain ⟨k, ys, hk, rfl, hl, hb, hy, hbel⟩ := hrel
    by_cases hlt : k < m
    · have i1 : (0 : Int) ≤ (k : Int) := by omega
      have i2 : (k : Int) < (m : Int) := by omega
      have hE := HE.out
      have hn := HN.out
      have hc := hb.cell (k := k) (by omega)
      have hf := hb.frozen k
      have n1 : IntKind.i64.wrap ((first : Int) + (k : Int)) = (first : Int) + (k : Int) := IntWalk.i64_in _ (by omega)
      have n2 : IntKind.i64.wrap (8 * ((first : Int) + (k : Int))) = 8 * ((first : Int) + (k : Int)) := IntWalk.i64_in _ (by omega)
      have n3 : IntKind.i64.wrap (8 * ((first : Int) + (k : Int)) + 8) = 8 * ((first : Int) + (k : Int)) + 8 := IntWalk.i64_in _ (by omega)
      have n4 : IntKind.i64.wrap ((k : Int) + 1) = (k : Int) + 1 := IntWalk.i64_in _ (by omega)
      have hct := SCount_ok (HS.out.below hbel) (8 * (first + k)) (8 * (first + k) + 8) (by omega) (by omega)
      have e1 : cnt r (8 * (first + k) + 8) - cnt r (8 * (first + k)) = segC r (first + k) := rfl
      rw [e1] at hct
      have hv := nth_csV (r := r) (first := first) hlt
      push_cast at hct
      clear e1 hE hn
      generalize segC r (first + k) = c at *
      generalize nth ys k = y at *
      go_wp2_with fail
      refine hct.mono ?_
      rintro e w1 ⟨rfl, rfl⟩
      go_wp2_with fail
      go_round
      case rel =>
        refine ⟨k + 1, ys.set k (c : Int), by omega, by go_num, by rw [List.length_set, hl], hb.put k c, fun j hj => ?_, hbel.setCell (p := ⟨w.heap.size, k, none⟩) (Nat.le_refl _) _⟩
        rw [nth_set (by omega)]
        by_cases e : j = k
        · rw [if_pos e, e, hv]
        · rw [if_neg e]; exact hy j (by omega)
      case measure => simp [intOf]; omega
    · obtain rfl : k = m := by omega
      have e : ys = csV r first k := nth_ext (by rw [hl, csV_len]) fun j hj => hy j (by omega)
      subst e
      go_wp2_with fail
      go_ret
      exact ⟨rfl, hb, hbel⟩
/-- The blocks of a row. -/
structure PB where
  sb : SB
  pp : Nat
  tt : Nat
  tg : Nat
  tc : Nat
def PB.has (P : PB) (i : Nat) : Prop := P.sb.has i ∨ i = P.pp ∨ i = P.tt ∨ i = P.tg
/-- A row lies there: 8 · 2^h slots, r occupied, that hold xs. -/
structure PM (w : World) (P : PB) (k : Option TB) (h : Nat) (r : List Bool) (xs : List Int) : Prop where
  sm : SM w P.sb (capN h) r xs
  pw : PW w P.pp P.sb.s P.tt k
  tm : ∃ t, TM w P.tt P.tg P.tc (2 ^ h) (csV r 0 (2 ^ h)) t
  hh : 2 ≤ h ∧ h ≤ 9
  hI : ∀ j, inH (nth xs j)
  ne : P.sb.g ≠ P.tg
section
variable {w w' : World} {P : PB} {k : Option TB} {h : Nat} {r : List Bool} {xs : List Int}
theorem PM.only {X : Nat → Prop} (hp : PM w P k h r xs) (ho : Only X w w') (hX : ∀ i, P.has i → ¬ X i) : PM w' P k h r xs :=
  ⟨hp.sm.only ho fun i hi => hX i (.inl hi), Blk.only hp.pw ho (hX _ (.inr (.inl rfl))), hp.tm.imp fun t ht => ht.only ho (hX _ (.inr (.inr (.inl rfl)))) (hX _ (.inr (.inr (.inr rfl)))), hp.hh, hp.hI, hp.ne⟩
theorem PM.below (hp : PM w P k h r xs) (hb : Below w.heap.size w w') : PM w' P k h r xs := hp.only (Only.of_below (X := fun _ => False) hb) fun _ _ => id
theorem PM.lt (hp : PM w P k h r xs) {i : Nat} (hi : P.has i) : i < w.heap.size := by
  obtain ⟨t, ht⟩ := hp.tm
  rcases hi with hi | rfl | rfl | rfl
  · exact hp.sm.lt hi
  · exact Blk.lt hp.pw
  · exact ht.hp.lt
  · exact ht.hg.lt
theorem PM.lr (hp : PM w P k h r xs) : r.length = capN h := hp.sm.lr
/-- How many elements there are in all. -/
theorem sum_all (hl : r.length = capN h) : sumR (csV r 0 (2 ^ h)) 0 (2 ^ h) = ((cnt r r.length : Nat) : Int) := by
  have := sum_csV r (2 ^ h) 0 (2 ^ h) (by omega)
  rw [hl]
  unfold capN
  rw [Nat.zero_add] at this
  simp only [cnt, Nat.zero_add] at this
  omega

set_option maxRecDepth 100000 in
theorem use_ok {v0 v1 : Value} {pp : Nat} {b : SB} (hs : SM w b (capN h) r xs) (hp : Blk w pp 108 #[v0, v1, toldV k]) (hh : 2 ≤ h ∧ h ≤ 9) :
    Calls Tryz.prog 67 #[.pointer (some ⟨pp, 0, none⟩), .pointer (some ⟨b.s, 0, none⟩)] w fun e w' => (∃ v, e = .returned v) ∧ (∃ tt tg tc t, PW w' pp b.s tt k ∧ TM w' tt tg tc (2 ^ h) (csV r 0 (2 ^ h)) t ∧ w.heap.size ≤ tt ∧ w.heap.size ≤ tg) ∧ SM w' b (capN h) r xs ∧ Only (fun i => i = pp) w w' := by
  obtain ⟨a1, a2⟩ := capN_bd hh.1 hh.2
  obtain ⟨c0, c1, c2⟩ := hp.three
  have f0 := hp.frozen 0
  have hO1 : Only (fun i => i = pp) w (w.setCell ⟨pp, 0, none⟩ (.pointer (some ⟨b.s, 0, none⟩))) := (Only.refl (fun i => i = pp) w).put (p := ⟨pp, 0, none⟩) (.inl rfl) _
  have hne : ∀ i, b.has i → i ≠ pp := by
    rintro i (rfl | rfl | rfl | rfl)
    · exact hs.hs.ne_ hp (by decide)
    · exact hs.hx.ne_ hp (by decide)
    · exact hs.hb.hp.ne_ hp (by decide)
    · obtain ⟨cs, h1, _⟩ := hs.hb.hg
      exact h1.ne_ hp (by decide)
  have s1 := hs.only hO1 hne
  have p1 : Blk (w.setCell ⟨pp, 0, none⟩ (.pointer (some ⟨b.s, 0, none⟩))) pp 108 #[.pointer (some ⟨b.s, 0, none⟩), v1, toldV k] := by simpa using hp.put 0 (.pointer (some ⟨b.s, 0, none⟩))
  have hcap := SCap_ok s1
  have e1 : ((capN h : Nat) : Int) = 8 * ((2 ^ h : Nat) : Int) := by unfold capN; push_cast; rfl
  have hct := counts_ok s1 (first := 0) (m := 2 ^ h) (by unfold capN; omega)
  have e2 : (8 * ((2 ^ h : Nat) : Int)) / 8 = ((2 ^ h : Nat) : Int) := by omega
  have e3 : (8 * ((2 ^ h : Nat) : Int)).tdiv 8 = ((2 ^ h : Nat) : Int) := by rw [Int.tdiv_eq_ediv_of_nonneg (by omega)]; omega
  have b2 : 2 ^ h ≤ 512 := by unfold capN at a2; omega
  have hrt := csV_rt r (h := h) hh.2
  have hcl := csV_len r 0 (2 ^ h)
  rw [e1] at hcap
  have HR := Lib.hid hrt
  have HC := Lib.hid hcl
  clear e1 hrt hcl a1 a2
  generalize csV r 0 (2 ^ h) = cs at *
  generalize 2 ^ h = d at *
  generalize hW : w.setCell ⟨pp, 0, none⟩ (.pointer (some ⟨b.s, 0, none⟩)) = W at *
  have hdi : (d : Int) ≤ 512 := by omega
  go_enter Tryz.func67, Tryz.ntmps67
  go_wp2_with fail
  refine hcap.mono ?_
  rintro e w1 ⟨rfl, rfl⟩
  go_wp2_with fail
  refine hct.mono ?_
  rintro e w2 ⟨rfl, hb2, hB2⟩
  go_wp2_with fail
  refine (New_ok (c := d) HC.out (RI_of_BI hb2) HR.out).mono ?_
  rintro e w3 ⟨rfl, ⟨t, hTM⟩, hB3⟩
  have p2 := p1.below hB2 p1.lt
  have p3 := p2.below hB3 p2.lt
  obtain ⟨d0, d1, d2⟩ := p3.three
  have g1 := p3.frozen 1
  have sz1 : W.heap.size = w.heap.size := by rw [← hW]; simp [World.setCell]
  have sz2 := hB2.size
  have sz3 := hB3.size
  have hpl := p1.lt
  have p4 : PW (w3.setCell ⟨pp, 1, none⟩ (.pointer (some ⟨w2.heap.size + 1, 0, none⟩))) pp b.s (w2.heap.size + 1) k := by
    have := p3.put 1 (.pointer (some ⟨w2.heap.size + 1, 0, none⟩))
    unfold PW
    simpa using this
  have hO4 : Only (fun i => i = pp) w3 (w3.setCell ⟨pp, 1, none⟩ (.pointer (some ⟨w2.heap.size + 1, 0, none⟩))) := (Only.refl (fun i => i = pp) w3).put (p := ⟨pp, 1, none⟩) (.inl rfl) _
  have hOO := ((hO1.trans (Only.of_below hB2)).trans (Only.of_below hB3)).trans hO4
  have hTM2 := hTM.only hO4 (by show ¬ w2.heap.size + 1 = pp; omega) (by show ¬ w2.heap.size = pp; omega)
  have s4 := ((s1.below hB2).below hB3).only hO4 hne
  go_wp2_with fail
  go_end0
  exact ⟨⟨_, rfl⟩, ⟨w2.heap.size + 1, w2.heap.size, 2 * d, t, p4, hTM2, by omega, by omega⟩, s4, hOO⟩

theorem offs_its (n : Nat) (xs : List Int) : its (offs n) xs = [] := List.eq_nil_of_length_eq_zero (by rw [its_len, cnt_offs])
/-- What New makes: a row without elements that tells nobody. -/
theorem PNew_ok (w : World) : Calls Tryz.prog 21 #[.nilFunc] w fun e w' => ∃ P : PB, e = .returned (.pointer (some ⟨P.pp, 0, none⟩)) ∧ PM w' P none 2 (offs 32) (zeros 32) ∧ (∀ i, P.has i → w.heap.size ≤ i) ∧ Below w.heap.size w w' := by
  have k0 := Blk.made w 108 #[.pointer none, .pointer none, .nilFunc]
  have hB0 : Below w.heap.size w (w.alloc (.cells #[.pointer none, .pointer none, .nilFunc] 108)) := (Below.refl _ w).alloc (Nat.le_refl _) _
  have hnew := SNew_ok 32 (by decide) (by decide) (w.alloc (.cells #[.pointer none, .pointer none, .nilFunc] 108))
  go_enter Tryz.func21, Tryz.ntmps21
  go_wp2_with fail
  refine hnew.mono ?_
  rintro e w1 ⟨b, rfl, hs, hfr, hB1⟩
  have k1 := k0.below hB1 k0.lt
  go_wp2_with fail
  refine (use_ok (h := 2) (k := none) hs k1 ⟨by decide, by decide⟩).mono ?_
  rintro e w2 ⟨⟨v, rfl⟩, ⟨tt, tg, tc, t, hPW, hTM, q1, q2⟩, hs2, hO⟩
  go_wp2_with fail
  go_ret
  have z0 := hB0.size
  have z1 := hB1.size
  have hgl := hs.lt (i := b.g) (.inr (.inl rfl))
  refine ⟨⟨b, w.heap.size, tt, tg, tc⟩, rfl, ⟨hs2, hPW, ⟨t, hTM⟩, ⟨by decide, by decide⟩, fun j => ?_, ?_⟩, ?_, ?_⟩
  · rw [nth_zeros]; exact inH_zero
  · show b.g ≠ tg
    omega
  · rintro i (hi | rfl | rfl | rfl)
    · have := hfr i hi; omega
    · exact Nat.le_refl _
    · exact Nat.le_trans (Nat.le_trans z0 z1) q1
    · exact Nat.le_trans (Nat.le_trans z0 z1) q2
  · exact Only.below (hB0.trans (hB1.mono z0)) hO (by omega) (fun i e => by rw [e]; exact Nat.le_refl _)
theorem PLen_ok (hp : PM w P k h r xs) : Calls Tryz.prog 41 #[.pointer (some ⟨P.pp, 0, none⟩)] w fun e w' => e = .returned (.int .i64 (cnt r r.length : Nat)) ∧ w = w' := by
  have c0 := hp.pw.c0
  have hl := SLen_ok hp.sm
  rw [← hp.lr] at hl
  go_enter Tryz.func41, Tryz.ntmps41
  go_wp2_with fail
  refine hl.mono ?_
  rintro e w1 ⟨rfl, rfl⟩
  go_wp2_with fail
  go_ret
  exact ⟨rfl, rfl⟩
theorem PCap_ok (hp : PM w P k h r xs) : Calls Tryz.prog 40 #[.pointer (some ⟨P.pp, 0, none⟩)] w fun e w' => e = .returned (.int .i64 (capN h : Nat)) ∧ w = w' := by
  have c0 := hp.pw.c0
  have hl := SCap_ok hp.sm
  generalize capN h = c at *
  go_enter Tryz.func40, Tryz.ntmps40
  go_wp2_with fail
  refine hl.mono ?_
  rintro e w1 ⟨rfl, rfl⟩
  go_wp2_with fail
  go_ret
  exact ⟨rfl, rfl⟩
theorem PItems_ok (hp : PM w P k h r xs) (hT : Tab w) : Calls Tryz.prog 29 #[.pointer (some ⟨P.pp, 0, none⟩)] w fun e w' => (∃ v, e = .returned v ∧ OL w' w.heap.size v (its r xs)) ∧ Below w.heap.size w w' := by
  have c0 := hp.pw.c0
  have hl := SItems_ok hp.sm hT
  go_enter Tryz.func29, Tryz.ntmps29
  go_wp2_with fail
  refine hl.mono ?_
  rintro e w1 ⟨⟨v, rfl, ho⟩, hB⟩
  go_wp2_with fail
  go_ret
  exact ⟨⟨v, rfl, ho⟩, hB⟩
theorem PSlots_ok (hp : PM w P k h r xs) : Calls Tryz.prog 89 #[.pointer (some ⟨P.pp, 0, none⟩)] w fun e w' => ∃ b' : SB, e = .returned (.pointer (some ⟨b'.s, 0, none⟩)) ∧ SM w' b' (capN h) r xs ∧ b'.from w.heap.size ∧ Below w.heap.size w w' := by
  have c0 := hp.pw.c0
  have hl := SClone_any hp.sm
  go_enter Tryz.func89, Tryz.ntmps89
  go_wp2_with fail
  refine hl.mono ?_
  rintro e w1 ⟨b', rfl, q1, q2, q3⟩
  go_wp2_with fail
  go_ret
  exact ⟨b', rfl, q1, q2, q3⟩
end
end Go.Proofs.YtaonkbfekadalaaGreatDoor
/- What Nth and Rank of a row come to. -/
namespace Go.Proofs.YtaonkbfekadalaaGreatDoor
open Go.RowKit
set_option linter.unusedVariables false

section
variable {w w' : World} {P : PB} {k : Option TB} {h : Nat} {r : List Bool} {xs : List Int}
theorem sum_to (r : List Bool) {m s : Nat} (hs : s ≤ m) : sumR (csV r 0 m) 0 s = ((cnt r (8 * s) : Nat) : Int) := by
  have := sum_csV r m 0 s (by omega)
  rw [Nat.zero_add] at this
  simp only [cnt, Nat.zero_add] at this
  omega
set_option maxRecDepth 100000 in
theorem PNth_any (hp : PM w P k h r xs) (hT : Tab w) (m : Nat) :
    Calls Tryz.prog 135 #[.pointer (some ⟨P.pp, 0, none⟩), .int .i64 (m : Nat)] w fun e w' => (∃ s : Int, e = .returned (.int .i64 s) ∧ (m < cnt r r.length → ∃ t : Nat, s = t ∧ on r t = true ∧ cnt r t = m)) ∧ w = w' := by
  have c0 := hp.pw.c0
  have c1 := hp.pw.c1
  obtain ⟨t, hTM⟩ := hp.tm
  have hrt := csV_rt r (h := h) hp.hh.2
  have hall := sum_all hp.lr
  have lr := hp.lr
  obtain ⟨a1, a2⟩ := capN_bd hp.hh.1 hp.hh.2
  by_cases hm : m < cnt r r.length
  · have hf := TFind_ok hTM hrt (m : Int) (by rw [hall]; omega)
    have hnx := fun i => SNext_any hp.sm hT i
    have hst := fun s (hs : s ≤ 2 ^ h) => sum_to r (m := 2 ^ h) hs
    have hcl := csV_len r 0 (2 ^ h)
    have hcell := fun s (hs : s < 2 ^ h) => nth_csV (r := r) (first := 0) hs
    have hcap : 8 * 2 ^ h = capN h := rfl
    have HH := Lib.hid (show ∀ s, s < 2 ^ h → 8 * s + 8 ≤ r.length from fun s hs => by rw [lr]; omega)
    have HC := Lib.hid a2
    have HM := Lib.hid hm
    have HL := Lib.hid lr
    clear hall lr a1 a2 hcap hrt hTM
    go_enter Tryz.func135, Tryz.ntmps135
    go_wp2_with fail
    refine hf.mono ?_
    rintro e w1 ⟨⟨s, z, rfl, hAt⟩, rfl⟩
    have g1 := hAt.lt
    rw [hcl] at g1
    have g2 := hAt.eq
    have g3 := hAt.ge
    have g4 := hAt.own
    rw [hst s (by omega)] at g2
    rw [hcell s g1, Nat.zero_add] at g4
    have hsg := segC_add r s
    have hle := HH.out s g1
    have hcc := HC.out
    have hmm := HM.out
    have hll := HL.out
    obtain ⟨q, rfl⟩ : ∃ q : Nat, z = q := ⟨z.toNat, by omega⟩
    have hq : m = cnt r (8 * s) + q := by omega
    have n1 : IntKind.i64.wrap (8 * (s : Int)) = 8 * (s : Int) := IntWalk.i64_in _ (by omega)
    have hq8 : q < 8 := by have := segC_le r s; omega
    have HG := Lib.hid hmm
    have HQ := Lib.hid hq
    have HLE := Lib.hid hle
    have HS8 := Lib.hid (show r.length ≤ 4096 from by rw [hll]; exact hcc)
    have i1 : (q : Int) < 8 := by omega
    clear hst hcl hcell hf g1 g2 g4 hsg hle hcc hmm hll hq8 hm hAt
    go_wp2_with fail
    refine (hnx _).mono ?_
    rintro e w1 ⟨⟨s0, rfl, hs0⟩, rfl⟩
    have first : ∃ t : Nat, s0 = t ∧ on r t = true ∧ cnt r t = cnt r (8 * s) := by
      rcases hs0 with ⟨t, rfl, t1, t2, t3⟩ | ⟨rfl, t1⟩
      · exact ⟨t, rfl, t2, cnt_none (by omega) fun j a b => t3 j (by omega) b⟩
      · exfalso
        have := HLE.out
        have h1 := cnt_none (r := r) (a := 8 * s) (b := r.length) (by omega) fun j a b => t1 j (by omega)
        have := HG.out
        have := HQ.out
        omega
    obtain ⟨t0, rfl, o0, d0⟩ := first
    have HD := Lib.hid d0
    clear hs0 d0
    go_wp2_with fail
    go_loop [8, 31] (fun a i => ∃ (j t : Nat), j ≤ q ∧ i = .int .i64 j ∧ a = .int .i64 t ∧ on r t = true ∧ cnt r t = cnt r (8 * s) + j) (fun _ i => q - (intOf i).toNat)
    case atStart => exact ⟨0, t0, Nat.zero_le _, rfl, rfl, o0, HD.out⟩
    case round =>
      obtain ⟨j, t, hj, rfl, rfl, ot, ct⟩ := hrel
      by_cases hlt : j < q
      · have j0 : (0 : Int) ≤ (j : Int) := by omega
        have j1 : (j : Int) < (q : Int) := by omega
        have ht := on_lt ot
        have n2 : IntKind.i64.wrap ((t : Int) + 1) = (t : Int) + 1 := IntWalk.i64_in _ (by have := HS8.out; omega)
        have n3 : IntKind.i64.wrap ((j : Int) + 1) = (j : Int) + 1 := IntWalk.i64_in _ (by omega)
        have CT := Lib.hid ct
        clear ct ht
        go_wp2_with fail
        refine (hnx _).mono ?_
        rintro e w1 ⟨⟨s1, rfl, hs1⟩, rfl⟩
        have hfrom := cnt_from hs1 ot
        go_wp2_with fail
        go_round
        case rel =>
          rcases hfrom with ⟨rfl, h1⟩ | ⟨t', rfl, h1, h2, h3⟩
          · exfalso
            have := CT.out
            have := HG.out
            have := HQ.out
            omega
          · exact ⟨j + 1, t', by omega, by go_num, rfl, h2, by rw [h3, CT.out]; omega⟩
        case measure => simp [intOf]; omega
      · obtain rfl : j = q := by omega
        go_wp2_with fail
        go_ret
        exact ⟨⟨_, rfl, fun _ => ⟨t, rfl, ot, by have := HQ.out; omega⟩⟩, rfl⟩
  · have hf := TFind_none hTM hrt (m : Int) (by rw [hall]; omega)
    have HM := Lib.hid hm
    clear hm hall lr a1 a2
    go_enter Tryz.func135, Tryz.ntmps135
    go_wp2_with fail
    refine hf.mono ?_
    rintro e w1 ⟨rfl, rfl⟩
    go_wp2_with fail
    go_ret
    exact ⟨⟨_, rfl, fun q => absurd q HM.out⟩, rfl⟩
set_option maxRecDepth 100000 in
theorem PRank_ok (hp : PM w P k h r xs) {s : Nat} (hs : s < capN h) :
    Calls Tryz.prog 208 #[.pointer (some ⟨P.pp, 0, none⟩), .int .i64 (s : Nat)] w fun e w' => e = .returned (.tuple #[.int .i64 (cnt r s : Nat), .int .i64 0]) ∧ w = w' := by
  have c0 := hp.pw.c0
  have c1 := hp.pw.c1
  obtain ⟨t, hTM⟩ := hp.tm
  have hrt := csV_rt r (h := h) hp.hh.2
  obtain ⟨a1, a2⟩ := capN_bd hp.hh.1 hp.hh.2
  have hcap : 8 * 2 ^ h = capN h := rfl
  have hcp := SCap_ok hp.sm
  have hah := TAhead_ok hTM hrt (s / 8) (by omega)
  rw [sum_to r (by omega)] at hah
  have hct := SCount_ok hp.sm (8 * (s / 8)) s (by omega) (by omega)
  have hle := cnt_step8 r (8 * (s / 8)) (s - 8 * (s / 8))
  rw [show 8 * (s / 8) + (s - 8 * (s / 8)) = s by omega] at hle
  have hl := cnt_le r s
  have e1 : (s : Int) / 8 = ((s / 8 : Nat) : Int) := by omega
  have e2 : (s : Int).tdiv 8 = ((s / 8 : Nat) : Int) := by rw [Int.tdiv_eq_ediv_of_nonneg (by omega)]; omega
  have n1 : IntKind.i64.wrap (8 * ((s / 8 : Nat) : Int)) = 8 * ((s / 8 : Nat) : Int) := IntWalk.i64_in _ (by omega)
  have n2 : IntKind.i64.wrap (((cnt r (8 * (s / 8)) : Nat) : Int) + ((cnt r s - cnt r (8 * (s / 8)) : Nat) : Int)) = ((cnt r s : Nat) : Int) := by
    rw [show ((cnt r (8 * (s / 8)) : Nat) : Int) + ((cnt r s - cnt r (8 * (s / 8)) : Nat) : Int) = ((cnt r s : Nat) : Int) by omega]
    exact IntWalk.i64_in _ (by omega)
  have n4 : IntKind.i64.wrap ((s / 8 : Nat) : Int) = ((s / 8 : Nat) : Int) := IntWalk.i64_in _ (by omega)
  have t1 : decide ((s : Int) < 0) = false := by simp
  have t2 : decide (((capN h : Nat) : Int) ≤ (s : Int)) = false := by simp; omega
  have t2' : decide (capN h ≤ s) = false := by simp; omega
  have t3 : (s : Int) < ((capN h : Nat) : Int) := by omega
  have e3 : ((8 * (s / 8) : Nat) : Int) = 8 * ((s / 8 : Nat) : Int) := by push_cast; rfl
  rw [e3] at hct
  clear hle hl hcap hs a1 a2
  generalize cnt r s - cnt r (8 * (s / 8)) = A at *
  generalize cnt r (8 * (s / 8)) = B at *
  generalize cnt r s = C at *
  generalize s / 8 = D at *
  generalize capN h = E at *
  go_enter Tryz.func208, Tryz.ntmps208
  go_wp2_with fail
  refine hcp.mono ?_
  rintro e w1 ⟨rfl, rfl⟩
  go_wp2_with fail
  refine hah.mono ?_
  rintro e w1 ⟨rfl, rfl⟩
  go_wp2_with fail



  refine hct.mono ?_
  rintro e w1 ⟨rfl, rfl⟩
  go_wp2_with fail
  go_ret2
  exact ⟨rfl, rfl⟩
end
end Go.Proofs.YtaonkbfekadalaaGreatDoor
/- The iterator over the occupied slots once more: for elements of any type that come to slots and what they hold. -/
namespace Go.Proofs.YtaonkbfekadalaaGreatDoor
open Go.RowKit Go.Shelf
attribute [local go_sem] Oper.semAt_some
set_option linter.unusedVariables false

set_option maxRecDepth 100000 in
set_option maxHeartbeats 2000000 in
theorem all1_gen {α : Type} (f : α → Int × Int) (Ls : List α) {b : SB} {n : Nat} {r : List Bool} {xs : List Int} (m : Nat) (l bx : Nat) (X : Nat → Prop) (W : World)
    (hLs : Ls.map f = prs r xs) (hs : SM W b n r xs) (hT : Tab W) (hbx : Blk W bx 105 #[.pointer (some ⟨b.s, 0, none⟩)]) (x1 : ∀ i, b.has i → ¬ X i) (x2 : ¬ X 2) (x3 : ¬ X bx)
    (J Jx : List α → World → Prop) (hJ : AbidesFrom W.heap.size J) (hJx : AbidesFrom W.heap.size Jx)
    (hY : ∀ pre x W1, J pre W1 → pre.length < cnt r n → YieldAt Fence.wide (m - 1) Tryz.prog l (enc2 (f x)) W1 fun e W' =>
      (e = .returned (.bool true) ∧ J (pre ++ [x]) W' ∧ Kx X W1 W') ∨ (e = .returned (.bool false) ∧ Jx (pre ++ [x]) W'))
    (h0 : J [] W) :
    CallsIn Fence.wide m Tryz.prog 189 #[.func (.yield l) #[] #[], .pointer (some ⟨bx, 0, none⟩)] W fun e W' => (∃ v, e = .returned v) ∧
      ((∃ ys, ys = Ls ∧ J ys W') ∨ (∃ pre, pre <+: Ls ∧ Jx pre W')) := by
  have hLl : Ls.length = cnt r r.length := by rw [← List.length_map (f := f), hLs, prs_len]
  have hstep : ∀ t, on r t = true → ∃ x : α, f x = ((t : Int), nth xs t) ∧ Ls.take (cnt r t) ++ [x] = Ls.take (cnt r t + 1) := by
    intro t ht
    have hlt : cnt r t < Ls.length := by rw [hLl]; exact cnt_lt (on_lt ht) ht
    refine ⟨Ls[cnt r t], ?_, (List.take_succ_eq_append_getElem hlt).symm⟩
    have h1 := prs_get (xs := xs) ht
    rw [← hLs, List.getElem?_map, List.getElem?_eq_getElem hlt] at h1
    simpa using h1
  have bd := hs.bd
  have lr := hs.lr
  have c1 := hbx.cell 0
  have e1 : W.cell? ⟨bx, 0, none⟩ = some (.pointer (some ⟨b.s, 0, none⟩)) := by rw [c1]; rfl
  clear c1
  refine callsIn_of_wp Tryz.func189 rfl trivial ?_ rfl
  simp only [Tryz.ntmps189, List.size_toArray, List.length_cons, List.length_nil, Nat.reduceAdd, Nat.reduceSub, Array.replicate_succ, Array.replicate_zero, List.push_toArray, List.append_toArray, List.nil_append, List.cons_append]
  gi_wp2_with fail
  refine ⟨trivial, fun h => (by cases h), ?_⟩
  refine (callsIn_wide.2 (SNext_any hs hT 0)).mono ?_
  rintro e w' ⟨⟨s, rfl, hn⟩, rfl⟩
  have hf := cnt_first hn
  gi_wp2_with fail
  gi_loopw [3] (fun i wr => Kx X W wr ∧ ((i = .int .i64 (-1) ∧ J Ls wr) ∨ (∃ t : Nat, i = .int .i64 t ∧ on r t = true ∧ J (Ls.take (cnt r t)) wr))) (fun i _ => if intOf i < 0 then 0 else n - (intOf i).toNat)
  case atStart =>
    refine ⟨Kx.refl X W, ?_⟩
    rcases hf with ⟨rfl, h1⟩ | ⟨t, rfl, h1, h2⟩
    · refine .inl ⟨rfl, ?_⟩
      rw [show Ls = [] from List.eq_nil_of_length_eq_zero (by rw [hLl]; omega)]
      exact h0
    · exact .inr ⟨t, rfl, h1, by rw [h2]; exact h0⟩
  case round =>
    obtain ⟨hK, ⟨rfl, hj⟩ | ⟨t, rfl, ht, hj⟩⟩ := hrel
    · gi_wp2_with fail
      go_end0
      exact ⟨⟨_, rfl⟩, .inl ⟨_, rfl, hj⟩⟩
    · have htn : t < n := by have := on_lt ht; omega
      have i1 : (t : Int) < (n : Int) := by omega
      have i0 : (0 : Int) ≤ (t : Int) := by omega
      have s1 := hK.sm x1 hs
      have b1 := hK.blk x3 hbx
      have k1 : wr.cell? ⟨bx, 0, none⟩ = some (.pointer (some ⟨b.s, 0, none⟩)) := by rw [b1.cell]; rfl
      have k2 := s1.c0
      have k3 := s1.cell htn
      obtain ⟨x0, hx0, hst⟩ := hstep t ht
      obtain ⟨fn, tmps, assign, body, hy, hR⟩ := hY _ x0 wr hj (by
        have := cnt_lt htn ht
        rw [List.length_take, hLl, lr]; omega)
      rw [hst] at hR
      rw [hx0] at hy
      simp only [enc2] at hy
      have hR' := hR.mono (fun e W' => round_one (K := fun W' => J (Ls.take (cnt r t + 1)) W' ∧ Kx X wr W') (L := fun W' => Jx (Ls.take (cnt r t + 1)) W') (fun W' h1 h2 => ⟨h1, h2⟩) (fun W' h1 => h1))
      clear hR hj
      gi_wp2_with fail
      refine ⟨fun h => (by cases h), ?_⟩
      refine hR'.mono ?_
      rintro e W3 ⟨bb, rfl, hq⟩
      cases bb
      · have hq' := hq.2 rfl
        gi_wp2_with fail
        refine bodyPost_ret (results_none rfl _ _ _) rfl ?_
        exact ⟨⟨_, rfl⟩, .inr ⟨_, List.take_prefix _ _, hq'⟩⟩
      · have hq' := hq.1 rfl
        have hK3 := hK.trans hq'.2
        have s3 := hK3.sm x1 hs
        have b3 := hK3.blk x3 hbx
        have k4 : W3.cell? ⟨bx, 0, none⟩ = some (.pointer (some ⟨b.s, 0, none⟩)) := by rw [b3.cell]; rfl
        gi_wp2_with fail
        refine ⟨trivial, fun h => (by cases h), ?_⟩
        refine (callsIn_wide.2 (SNext_any s3 (hK3.tab x2 hT) ((t : Int) + 1))).mono ?_
        rintro e w' ⟨⟨s', rfl, hn'⟩, rfl⟩
        have hf' := cnt_from hn' ht
        have hlt := cnt_lt htn ht
        gi_wp2_with fail
        go_roundw
        case rel =>
          refine ⟨hK3, ?_⟩
          rcases hf' with ⟨rfl, h1⟩ | ⟨t', rfl, h1, h2, h3⟩
          · refine .inl ⟨rfl, ?_⟩
            have := hq'.1
            rwa [List.take_of_length_le (by rw [hLl]; omega)] at this
          · exact .inr ⟨t', rfl, h2, by rw [h3]; exact hq'.1⟩
        case measure =>
          have h0 : ¬ ((t : Int) < 0) := by omega
          rcases hf' with ⟨rfl, h1⟩ | ⟨t', rfl, h1, h2, h3⟩
          · simp [intOf, h0]; omega
          · have h0' : ¬ ((t' : Int) < 0) := by omega
            have := on_lt h2
            simp [intOf, h0, h0']; omega

theorem all_stopsG {α : Type} (f : α → Int × Int) (Ls : List α) {b : SB} {n : Nat} {r : List Bool} {xs : List Int} (m : Nat) (bx : Nat) (X : Nat → Prop) (w : World) (hLs : Ls.map f = prs r xs)
    (hs : SM w b n r xs) (hT : Tab w) (hbx : Blk w bx 105 #[.pointer (some ⟨b.s, 0, none⟩)]) (x1 : ∀ i, b.has i → ¬ X i) (x2 : ¬ X 2) (x3 : ¬ X bx) :
    SeqStopsK Fence.wide m Tryz.prog 189 #[.pointer (some ⟨bx, 0, none⟩)] (fun x => enc2 (f x)) (Kx X) (fun ys => ys = Ls) (fun pre => pre <+: Ls) (cnt r n) w :=
  fun l J Jx W hW hJ hJx hY h0 =>
    all1_gen f Ls m l bx X W hLs (hs.below hW) (hT.below hW) (hbx.below hW hbx.lt) x1 x2 x3 J Jx hJ hJx hY h0
/-- The pairs, each with the word that its number is one of the machine's. -/
def prsH (r : List Bool) (xs : List Int) (hI : ∀ j, inH (nth xs j)) : List { x : Int × Int // inH x.2 } :=
  (prs r xs).pmap (fun x hx => ⟨x, hx⟩) fun x hx => by
    have h1 : x.2 ∈ its r xs := by rw [← prs_snd r xs]; exact List.mem_map_of_mem hx
    obtain ⟨s, _, hs⟩ := its_mem.1 h1
    rw [← hs]
    exact hI s
theorem prsH_map (r : List Bool) (xs : List Int) (hI : ∀ j, inH (nth xs j)) : (prsH r xs hI).map Subtype.val = prs r xs := by
  unfold prsH
  rw [List.map_pmap]
  simp
end Go.Proofs.YtaonkbfekadalaaGreatDoor
/- What empty of the sizing layer comes to; plain laws of filling an array. -/
namespace Go.Proofs.YtaonkbfekadalaaGreatDoor
open Go.RowKit
set_option linter.unusedVariables false

theorem RI.only {X : Nat → Prop} {w w' : World} {b off : Nat} {xs : List Int} (h : RI w (some ⟨b, off, none⟩) xs) (ho : Only X w w') (hx : ¬ X b) : RI w' (some ⟨b, off, none⟩) xs := fun h0 => by
  obtain ⟨b', off', e, hc⟩ := h h0
  injection e with e
  injection e with e1 e2
  subst e1 e2
  refine ⟨b, off, rfl, fun k hk => ?_⟩
  rw [← hc k hk]
  have hlt : b < w.heap.size := World.block_lt_of_cell? w ⟨b, off + k, none⟩ (hc k hk)
  simp only [World.cell?, ho.block b hlt hx]
theorem RI.lt {w : World} {b off : Nat} {xs : List Int} (h : RI w (some ⟨b, off, none⟩) xs) (h0 : 0 < xs.length) : b < w.heap.size := by
  obtain ⟨b', off', e, hc⟩ := h h0
  injection e with e
  injection e with e1 e2
  subst e1 e2
  exact World.block_lt_of_cell? w ⟨b, off + 0, none⟩ (hc 0 h0)
set_option maxRecDepth 100000 in
theorem empty_ok {N h : Nat} (h1 : 2 ≤ h) (h2 : h ≤ 9) (hN : N ≤ capN h) (w : World) :
    Calls Tryz.prog 186 #[.int .i64 (N : Nat), .int .i64 (capN h : Nat)] w fun e w' => ∃ (b : SB) (gp : Nat), e = .returned (.tuple #[.pointer (some ⟨b.s, 0, none⟩), .slice (some ⟨gp, 0, none⟩) N N, .int .i64 0]) ∧
      SM w' b (capN h) (offs (capN h)) (zeros (capN h)) ∧ b.from w.heap.size ∧ w.heap.size ≤ gp ∧ (0 < N → gp < w'.heap.size ∧ ∀ i, b.has i → gp < i) ∧ RI w' (some ⟨gp, 0, none⟩) (pl (N : Int) 0 ((2 ^ h : Nat) : Int)) ∧ Below w.heap.size w w' := by
  obtain ⟨a1, a2⟩ := capN_bd h1 h2
  have hcap : 8 * 2 ^ h = capN h := rfl
  have hsg := fun W => Segs_ok h1 h2 W
  have hok : okB (N : Int) ((2 ^ h : Nat) : Int) = true := okB_mk ⟨by omega, by omega, by omega, by omega⟩
  have hpl := fun W => Places_ok N 0 ((2 ^ h : Nat) : Int) W hok ⟨by omega, by omega⟩
  have hnew := fun W => SNew_ok (capN h) (by omega) a2 W
  have HL := Lib.hid (pl_length (first := 0) hok)
  have t1 : decide ((N : Int) > ((capN h : Nat) : Int)) = false := by simp; omega
  have t2 : decide (((capN h : Nat) : Int) < (N : Int)) = false := by simp; omega
  have t3 : decide (capN h < N) = false := by simp; omega
  clear hcap hN a1 a2 hok
  generalize pl (N : Int) 0 ((2 ^ h : Nat) : Int) = S at *
  generalize capN h = c at *
  generalize 2 ^ h = d at *
  go_enter Tryz.func186, Tryz.ntmps186
  go_wp2_with fail
  refine (hsg _).mono ?_
  rintro e w1 ⟨rfl, rfl⟩
  go_wp2_with fail
  refine (hpl _).mono ?_
  rintro e w1 ⟨rfl, hR, hB1⟩
  go_wp2_with fail
  refine (hnew _).mono ?_
  rintro e w2 ⟨b, rfl, hs, hfr, hB2⟩
  go_wp2_with fail
  go_ret3
  have z1 := hB1.size
  refine ⟨b, w.heap.size, rfl, hs, fun i hi => by have := hfr i hi; omega, Nat.le_refl _, fun h0 => ?_, hR.below hB2 (Nat.le_refl _), below_ge hB1 hB2 (Nat.le_refl _)⟩
  have hlt := hR.lt (by have := HL.out; omega)
  exact ⟨by have := hB2.size; omega, fun i hi => by have := hfr i hi; omega⟩

/-- The slots of the first k of the places S. -/
def putB (n : Nat) (S : List Int) : Nat → List Bool
  | 0 => offs n
  | k + 1 => (putB n S k).set (nth S k).toNat true
/-- What they hold. -/
def putX (n : Nat) (S : List Int) (vs : List Int) : Nat → List Int
  | 0 => zeros n
  | k + 1 => (putX n S vs k).set (nth S k).toNat (nth vs k)
theorem putB_len (n : Nat) (S : List Int) : ∀ k, (putB n S k).length = n
  | 0 => offs_len n
  | k + 1 => by simp [putB, putB_len n S k]
theorem putX_len (n : Nat) (S vs : List Int) : ∀ k, (putX n S vs k).length = n
  | 0 => zeros_length n
  | k + 1 => by simp [putX, putX_len n S vs k]
theorem putX_congr {n : Nat} {S vs vs' : List Int} : ∀ {k : Nat}, (∀ j, j < k → nth vs j = nth vs' j) → putX n S vs k = putX n S vs' k
  | 0, _ => rfl
  | k + 1, h => by unfold putX; rw [putX_congr (k := k) fun j hj => h j (by omega), h k (by omega)]
/-- Slots that rise, below n. -/
structure Rising (n : Nat) (S : List Int) : Prop where
  rise : ∀ i j, i < j → j < S.length → nth S i < nth S j
  bd : ∀ i, i < S.length → 0 ≤ nth S i ∧ nth S i < n
theorem Rising.inj {n : Nat} {S : List Int} (h : Rising n S) {i j : Nat} (hi : i < S.length) (hj : j < S.length) (e : nth S i = nth S j) : i = j := by
  rcases Nat.lt_trichotomy i j with c | c | c
  · have := h.rise i j c hj; omega
  · exact c
  · have := h.rise j i c hi; omega
theorem on_putB {n : Nat} {S : List Int} (h : Rising n S) : ∀ {k : Nat}, k ≤ S.length → ∀ j : Nat, on (putB n S k) j = decide (∃ q, q < k ∧ nth S q = (j : Int))
  | 0, _, j => by
    unfold putB
    rw [on_offs]
    symm; rw [decide_eq_false_iff_not]
    rintro ⟨q, hq, _⟩; omega
  | k + 1, hk, j => by
    have hb := h.bd k (by omega)
    unfold putB
    rw [on_set (by rw [putB_len]; omega), on_putB h (by omega)]
    by_cases e : j = (nth S k).toNat
    · rw [if_pos e]
      symm; rw [decide_eq_true_eq]
      exact ⟨k, by omega, by omega⟩
    · rw [if_neg e]
      congr 1
      rw [eq_iff_iff]
      constructor
      · rintro ⟨q, q1, q2⟩; exact ⟨q, by omega, q2⟩
      · rintro ⟨q, q1, q2⟩
        refine ⟨q, ?_, q2⟩
        by_cases e2 : q = k
        · subst e2; omega
        · omega
theorem nth_putX {n : Nat} {S vs : List Int} (h : Rising n S) : ∀ {k : Nat}, k ≤ S.length → ∀ q, q < k → nth (putX n S vs k) (nth S q).toNat = nth vs q
  | 0, _, q, hq => by omega
  | k + 1, hk, q, hq => by
    have hb := h.bd k (by omega)
    unfold putX
    rw [nth_set (by rw [putX_len]; omega)]
    by_cases e : q = k
    · subst e; rw [if_pos rfl]
    · have h2 := h.rise q k (by omega) (by omega)
      have h3 := h.bd q (by omega)
      rw [if_neg (by omega)]
      exact nth_putX h (by omega) q (by omega)
end Go.Proofs.YtaonkbfekadalaaGreatDoor
/- What Resize of the sizing layer comes to. -/
namespace Go.Proofs.YtaonkbfekadalaaGreatDoor
open Go.RowKit Go.Shelf
attribute [local go_sem] Oper.semAt_some
set_option linter.unusedVariables false

theorem cnt_putB_all {n : Nat} {S : List Int} (h : Rising n S) {m : Nat} : ∀ {k : Nat}, k ≤ S.length → (∀ q, q < k → nth S q < (m : Int)) → cnt (putB n S k) m = k
  | 0, _, _ => cnt_offs n m
  | k + 1, hk, hm => by
    have hb := h.bd k (by omega)
    have hlt := hm k (by omega)
    unfold putB
    rw [cnt_on (by rw [putB_len]; omega), cnt_putB_all h (k := k) (by omega) fun q hq => hm q (by omega), if_pos (by omega)]
    rw [on_putB h (by omega), decide_eq_false_iff_not]
    rintro ⟨q, q1, q2⟩
    have := h.rise q k q1 (by omega)
    omega
theorem off_next {n : Nat} {S : List Int} (h : Rising n S) {k : Nat} (hk : k < S.length) : on (putB n S k) (nth S k).toNat = false := by
  have hb := h.bd k hk
  rw [on_putB h (by omega), decide_eq_false_iff_not]
  rintro ⟨q, q1, q2⟩
  have := h.rise q k q1 hk
  omega
theorem cnt_next {n : Nat} {S : List Int} (h : Rising n S) {k : Nat} (hk : k < S.length) : cnt (putB n S k) (nth S k).toNat = k :=
  cnt_putB_all h (by omega) fun q hq => by have := h.rise q k hq hk; have := h.bd k hk; omega
theorem its_putB {n : Nat} {S vs : List Int} (h : Rising n S) : ∀ {k : Nat}, k ≤ S.length → k ≤ vs.length → its (putB n S k) (putX n S vs k) = vs.take k
  | 0, _, _ => by unfold putB; rw [offs_its]; rfl
  | k + 1, hk, hv => by
    have ih := its_putB (vs := vs) h (k := k) (by omega) (by omega)
    have hb := h.bd k (by omega)
    unfold putB putX
    rw [its_put (by rw [putX_len, putB_len]) (by rw [putB_len]; omega) (off_next h (by omega)), ih, cnt_next h (by omega), List.take_take, Nat.min_self, List.drop_eq_nil_of_le (by simp; omega), List.take_succ_eq_append_getElem (by omega), nth_eq (by omega)]
theorem pos_putB {n : Nat} {S : List Int} (h : Rising n S) : ∀ {k : Nat}, k ≤ S.length → pos (putB n S k) = S.take k
  | 0, _ => by
    unfold putB
    exact List.eq_nil_of_length_eq_zero (by rw [pos_len, cnt_offs])
  | k + 1, hk => by
    have ih := pos_putB h (k := k) (by omega)
    have hb := h.bd k (by omega)
    unfold putB
    rw [pos_put (by rw [putB_len]; omega) (off_next h (by omega)), ih, cnt_next h (by omega)]
    unfold insI
    rw [List.take_take, Nat.min_self, List.drop_eq_nil_of_le (by simp; omega), List.take_succ_eq_append_getElem (by omega), ← nth_eq (by omega)]
    congr 2
    omega
/-- The table behind j tellings. -/
def tJ (t vs S : List Int) : Nat → List Int
  | 0 => t
  | j + 1 => tellV (tJ t vs S j) (nth vs j) (nth S j)
theorem tJ_len (t vs S : List Int) : ∀ j, (tJ t vs S j).length = t.length
  | 0 => rfl
  | j + 1 => by unfold tJ; rw [tellV_len, tJ_len t vs S j]
theorem tJ_congr {t vs vs' S : List Int} : ∀ {k : Nat}, (∀ j, j < k → nth vs j = nth vs' j) → tJ t vs S k = tJ t vs' S k
  | 0, _ => rfl
  | k + 1, h => by unfold tJ; rw [tJ_congr (k := k) fun j hj => h j (by omega), h k (by omega)]
/-- Where the elements are, as the table has it, behind j tellings. -/
def mixJ (S0 S : List Int) : Nat → List Int
  | 0 => S0
  | j + 1 => (mixJ S0 S j).set j (nth S j)
theorem mixJ_len (S0 S : List Int) : ∀ j, (mixJ S0 S j).length = S0.length
  | 0 => rfl
  | j + 1 => by unfold mixJ; rw [List.length_set, mixJ_len S0 S j]
theorem nth_mixJ {S0 S : List Int} : ∀ {j : Nat}, j ≤ S0.length → ∀ q, nth (mixJ S0 S j) q = if q < j then nth S q else nth S0 q
  | 0, _, q => by rw [if_neg (by omega)]; rfl
  | j + 1, h, q => by
    unfold mixJ
    rw [nth_set (by rw [mixJ_len]; omega), nth_mixJ (by omega)]
    by_cases e : q = j
    · rw [if_pos e, if_pos (by omega), e]
    · rw [if_neg e]
      by_cases e2 : q < j
      · rw [if_pos e2, if_pos (by omega)]
      · rw [if_neg e2, if_neg (by omega)]
theorem agree_tJ {t L S0 S : List Int} {pd : Option Int} {n : Nat} (h : Agree t L S0 pd) (hS : Rising n S) (hn : n ≤ 4096) (hl : S.length = L.length) : ∀ {j : Nat}, j ≤ L.length → Agree (tJ t L S j) L (mixJ S0 S j) pd
  | 0, _ => h
  | j + 1, hj => by
    have ih := agree_tJ h hS hn hl (j := j) (by omega)
    have hb := hS.bd j (by omega)
    unfold tJ mixJ tellV
    rw [if_pos hb.1]
    exact (ih.move (j := j) (by omega) (x := nth S j) ⟨hb.1, by omega⟩).2.2
theorem mixJ_all {S0 S : List Int} (h : S0.length = S.length) : mixJ S0 S S.length = S := nth_ext (by rw [mixJ_len, h]) fun q hq => by
  rw [mixJ_len] at hq
  rw [nth_mixJ (by omega), if_pos (by omega)]
end Go.Proofs.YtaonkbfekadalaaGreatDoor
