/- The document's Words. -/
import Derived.Test.YthjpflhoenljdaaDoorBo
namespace Go.Proofs.YthjpflhoenljdaaDoor
open Go.RowKit
set_option linter.unusedVariables false

theorem wd_end (r : List Bool) (k j : Nat) (h : r.length ≤ 64 * k + j) : ∀ d, wd r k (j + d) = wd r k j
  | 0 => rfl
  | d + 1 => by
    rw [← Nat.add_assoc, wd_succ, on_end (by omega), wd_end r k j h d]
    simp
/-- The words when i bits have been seen. -/
def pw (r : List Bool) (i k : Nat) : Nat := wd r k (min 64 (i - 64 * k))
theorem pw_at (r : List Bool) (i : Nat) : pw r i (i / 64) = wd r (i / 64) (i % 64) := by
  unfold pw
  rw [show min 64 (i - 64 * (i / 64)) = i % 64 by omega]
theorem pw_next (r : List Bool) (i k : Nat) (hk : k < i / 64 + 1) : pw r (i + 1) k = if k = i / 64 then wd r (i / 64) (i % 64) + (if on r i then 2 ^ (i % 64) else 0) else pw r i k := by
  unfold pw
  by_cases e : k = i / 64
  · rw [if_pos e]
    subst e
    rw [show min 64 (i + 1 - 64 * (i / 64)) = i % 64 + 1 by omega, wd_succ, show 64 * (i / 64) + i % 64 = i by omega]
  · rw [if_neg e, show min 64 (i + 1 - 64 * k) = 64 by omega, show min 64 (i - 64 * k) = 64 by omega]
theorem pw_all (r : List Bool) (k : Nat) : pw r r.length k = word r k := by
  unfold pw word
  by_cases h : 64 ≤ r.length - 64 * k
  · rw [Nat.min_eq_left h]
  · rw [Nat.min_eq_right (by omega)]
    obtain ⟨d, hd⟩ := Nat.le.dest (show r.length - 64 * k ≤ 64 by omega)
    have := wd_end r k (r.length - 64 * k) (by omega) d
    rw [hd] at this
    exact this.symm
theorem valsW_congr {f f' : Nat → Nat} {m : Nat} (h : ∀ k, k < m → f k = f' k) : valsW f m = valsW f' m := by
  unfold valsW
  apply List.map_congr_left
  intro k hk
  rw [h k (by simpa using hk)]
theorem valsW_set (f : Nat → Nat) (m k y : Nat) : (valsW f m).set k (.int .u64 (y : Nat)) = valsW (fun j => if j = k then y else f j) m := by
  apply List.ext_getElem
  · simp [valsW]
  · intro i h1 h2
    rw [List.getElem_set]
    simp [valsW]
    by_cases e : k = i
    · subst e; simp
    · rw [if_neg e, if_neg (fun h : i = k => e h.symm)]
theorem valsW_snoc (f : Nat → Nat) (m : Nat) (h : f m = 0) : valsW f m ++ [.int .u64 0] = valsW f (m + 1) := by
  unfold valsW
  rw [List.range_succ, List.map_append]
  simp [h]
theorem own_put {w : World} {base g m cap k y : Nat} {f : Nat → Nat} (h : w.ownsRow base 53 1 (.slice (some ⟨g, 0, none⟩) m cap) m (valsW f m)) :
    (w.setCell ⟨g, k, none⟩ (.int .u64 (y : Nat))).ownsRow base 53 1 (.slice (some ⟨g, 0, none⟩) m cap) m (valsW (fun j => if j = k then y else f j) m) := by
  have := (World.ownsRow.stored h k (.int .u64 (y : Nat))).1
  rwa [valsW_set] at this

set_option maxRecDepth 100000 in
set_option maxHeartbeats 3200000 in
theorem RWords_ok {w : World} {g c n : Nat} {r : List Bool} (h : BB w g r) (hl : r.length = n) (h1 : 1 ≤ n) (hn : n ≤ 65536) :
    Calls Tryd.prog 26 #[.slice (some ⟨g, 0, none⟩) n c] w fun e w' => (∃ g' cap', e = .returned (.slice (some ⟨g', 0, none⟩) (nw n) cap') ∧ w.heap.size ≤ g' ∧ BW w' g' (word r) (nw n)) ∧ Below w.heap.size w w' := by
  have HL := Lib.hid hl
  have i2 : (n : Int) ≤ 65536 := by omega
  obtain ⟨i0, hi, hz0, hz1, hz2⟩ := info_parts Tryd.infoW
  have hgl := h.lt
  clear hl
  have hst : (w.alloc (.cells #[] 53)).ownsRow w.heap.size 53 1 (.slice (some ⟨w.heap.size, 0, none⟩) 0 0) 0 (valsW (pw r 0) 0) := World.ownsRow_made w #[] 0 (Nat.le_refl _) (by decide) rfl
  go_enter Tryd.func26, Tryd.ntmps26
  go_wp2_with fail
  go_loopw [3, 4, 5] (fun v x i wr => ∃ (q X : Nat), q ≤ n ∧ i = .int .i64 q ∧ x = .int .u64 (X : Nat) ∧ X < 18446744073709551616 ∧ (q % 64 ≠ 0 → X = 2 ^ (q % 64)) ∧ wr.ownsRow w.heap.size 53 1 v (nw q) (valsW (pw r q) (nw q)) ∧ Below w.heap.size w wr) (fun _ _ i _ => n - (intOf i).toNat)
  case atStart => exact ⟨0, 1, Nat.zero_le _, rfl, rfl, by decide, fun h => absurd rfl h, hst, (Below.refl _ w).alloc (Nat.le_refl _) _⟩
  case round =>
    obtain ⟨q, X, hq, rfl, rfl, hX, hX2, hown, hb⟩ := hrel
    have HX2 := Lib.hid hX2
    clear hX2
    by_cases hlt : q < n
    · have cg := (h.below hb).cell (k := q) (by rw [HL.out]; exact hlt)
      have l0 : (0 : Int) ≤ (q : Int) := by omega
      have l1 : (q : Int) < (n : Int) := by omega
      have l2 : (q : Int) ≤ 65536 := by omega
      have hnx := pw_next r q
      have hpa := pw_at r q
      have hwl := wd_lt r (q / 64) (q % 64)
      have hpl := pow_lt64 (Nat.mod_lt q (by decide : 0 < 64))
      have hnwq : nw (q + 1) = q / 64 + 1 := by unfold nw; omega
      have hdbl : 2 ^ (q % 64 + 1) = 2 * 2 ^ (q % 64) := by rw [Nat.pow_succ, Nat.mul_comm]
      have hpls : 2 ^ (q % 64) + 2 ^ (q % 64) ≤ 18446744073709551616 := by
        have := Nat.pow_le_pow_right (n := 2) (by decide) (show q % 64 + 1 ≤ 64 by omega)
        rw [hdbl] at this
        omega
      -- what x is behind the round
      have hX3 : ∀ Y, Y = 2 ^ (q % 64) → (q + 1) % 64 ≠ 0 → 2 * Y % 18446744073709551616 = 2 ^ ((q + 1) % 64) := fun Y hY h => by
        have e1 : (q + 1) % 64 = q % 64 + 1 := by omega
        have := pow_lt64 (show q % 64 + 1 < 64 by omega)
        rw [e1, hdbl, hY]
        rw [hdbl] at this
        exact Nat.mod_eq_of_lt this
      have k2 : ∀ Y : Nat, IntKind.u64.wrap (2 * (Y : Int)) = ((2 * Y % 18446744073709551616 : Nat) : Int) := fun Y => by rw [IntKind.wrap_u64]; omega
      have ksum : IntKind.u64.wrap (((wd r (q / 64) (q % 64) : Nat) : Int) + ((2 ^ (q % 64) : Nat) : Int)) = ((wd r (q / 64) (q % 64) + 2 ^ (q % 64) : Nat) : Int) := by rw [IntKind.wrap_u64]; omega
      by_cases hz : q % 64 = 0
      · have t1 : ((q : Int) % 64 == 0) = true := by simp; omega
        have hnq : nw q = q / 64 := by unfold nw; omega
        have hw0 : wd r (q / 64) (q % 64) = 0 := by rw [hz]; rfl
        have hp0 : pw r q (q / 64) = 0 := by rw [hpa, hw0]
        have hq2 : q / 64 ≤ 1024 := by omega
        rw [hnq] at hown
        rw [hw0, hz, Nat.pow_zero] at ksum hnx
        rw [hz, Nat.pow_zero] at hX3
        have HZ := Lib.hid hz
        clear hz hpls hdbl hpl hwl hnq
        go_wp2_with (at_builtin; refine wpList_append_own_at _ rfl _ _ 47 rfl w.heap.size 53 i0 (.int .u64 0) 1 8 Tryd.underlying47 hi hz0 hz1 hz2 rfl (by decide) _ (q / 64) (valsW (pw r q) (q / 64)) rfl (World.ownsRow.alloc hown (.cells #[.int .u64 0] 53)) ⟨wr.heap.size, 0, none⟩ 1 1 [.int .u64 0] rfl rfl ?c1 ?c2 ?c3 ?c4 ?c5 ?_)
        case c1 => exact cell_one_new _ _ _
        case c2 => intro u hu; simp at hu; subst hu; rfl
        case c3 => unfold maxLen; omega
        case c4 => omega
        case c5 => have := hb.size; simp; omega
        intro v' w3 hown3 hg3 _ hat
        rw [valsW_snoc _ _ hp0] at hown3
        obtain ⟨g', cap', rfl, hg', hc1, hc2, hBw⟩ := BW_of_own hown3 (by omega)
        have hb3 := (hb.alloc hb.size _).grown hg3 (by have := hb.size; simp; omega) (fun k hk => (World.ownsRow.lt hown k hk).1)
        have cg3 := (h.below hb3).cell (k := q) (by rw [HL.out]; exact hlt)
        have cw : w3.cell? ⟨g', q / 64, none⟩ = some (.int .u64 0) := by rw [hBw.cell (by omega), hp0]; rfl
        have fw := hBw.frozen (q / 64)
        have k3 : IntKind.u64.wrap 2 = 2 := by rw [IntKind.wrap_u64]; omega
        have k4 : IntKind.u64.wrap 1 = 1 := by rw [IntKind.wrap_u64]; omega
        have hx2 : (q + 1) % 64 ≠ 0 → 2 = 2 ^ ((q + 1) % 64) := fun h => hX3 1 rfl h
        have HX3 := Lib.hid hx2
        have HPN := Lib.hid hnx
        have HNW := Lib.hid hnwq
        clear hx2 hX3 hnx hnwq hpa hw0 hp0 ksum k2 hown hg3 hat cg
        cases ho : on r q
        · rw [ho] at cg3
          have HO := Lib.hid ho
          clear ho
          go_wp2_with fail
          go_roundw
          case rel => exact ⟨q + 1, 2, by omega, by go_num, rfl, by decide, HX3.out, by
            rw [HNW.out]
            rw [valsW_congr (f := pw r (q + 1)) (f' := pw r q) (fun k hk => by
              rw [HPN.out k hk, HO.out]
              by_cases e : k = q / 64
              · rw [if_pos e, e]
                exact (by rw [pw_at, HZ.out]; rfl)
              · rw [if_neg e])]
            exact hown3, hb3⟩
          case measure => simp [intOf]; omega
        · rw [ho] at cg3
          have HO := Lib.hid ho
          clear ho
          have hput := own_put (k := q / 64) (y := 1) hown3
          go_wp2_with fail
          go_roundw
          case rel => exact ⟨q + 1, 2, by omega, by go_num, rfl, by decide, HX3.out, by
            rw [HNW.out]
            rw [valsW_congr (f := pw r (q + 1)) (f' := fun j => if j = q / 64 then 1 else pw r q j) (fun k hk => by
              rw [HPN.out k hk, HO.out]
              by_cases e : k = q / 64
              · rw [if_pos e]; simp [e]
              · rw [if_neg e]; simp [e])]
            exact hput, hb3.setCell hg' _⟩
          case measure => simp [intOf]; omega
      · have t1 : ((q : Int) % 64 == 0) = false := by simp; omega
        have hnq : nw q = q / 64 + 1 := by unfold nw; omega
        have hXv := HX2.out hz
        rw [hnq] at hown
        have hx3 := hX3 X hXv
        have kk := k2 X
        rw [← hXv] at ksum hnx
        obtain ⟨g', cap', rfl, hg', hc1, hc2, hBw⟩ := BW_of_own hown (by omega)
        have cw := hBw.cell (k := q / 64) (by omega)
        rw [hpa] at cw
        have fw := hBw.frozen (q / 64)
        have hX2lt : 2 * X % 18446744073709551616 < 18446744073709551616 := Nat.mod_lt _ (by decide)
        generalize hW : wd r (q / 64) (q % 64) = WD at *
        have HX3 := Lib.hid hx3
        have HPN := Lib.hid hnx
        have HNW := Lib.hid hnwq
        have HPA := Lib.hid hpa
        clear hx3 hX3 hnx hnwq hpa k2 hz hpls hdbl hpl hwl hnq hXv hW
        generalize 2 * X % 18446744073709551616 = X2 at *
        cases ho : on r q
        · rw [ho] at cg
          have HO := Lib.hid ho
          clear ho
          go_wp2_with fail
          go_roundw
          case rel => exact ⟨q + 1, X2, by omega, by go_num, rfl, hX2lt, HX3.out, by
            rw [HNW.out]
            rw [valsW_congr (f := pw r (q + 1)) (f' := pw r q) (fun k hk => by
              rw [HPN.out k hk, HO.out]
              by_cases e : k = q / 64
              · rw [if_pos e, e, HPA.out]; simp
              · rw [if_neg e])]
            exact hown, hb⟩
          case measure => simp [intOf]; omega
        · rw [ho] at cg
          have HO := Lib.hid ho
          clear ho
          have hput := own_put (k := q / 64) (y := WD + X) hown
          generalize hSU : WD + X = SU at *
          have HSU := Lib.hid hSU
          clear hSU
          go_wp2_with fail
          go_roundw
          case rel => exact ⟨q + 1, X2, by omega, by go_num, rfl, hX2lt, HX3.out, by
            rw [HNW.out]
            rw [valsW_congr (f := pw r (q + 1)) (f' := fun j => if j = q / 64 then SU else pw r q j) (fun k hk => by
              rw [HPN.out k hk, HO.out]
              by_cases e : k = q / 64
              · rw [if_pos e]; simp [e]; exact HSU.out
              · rw [if_neg e]; simp [e])]
            exact hput, hb.setCell hg' _⟩
          case measure => simp [intOf]; omega
    · obtain rfl : q = n := by omega
      obtain ⟨g', cap', rfl, hg', hc1, hc2, hBw⟩ := BW_of_own hown (by unfold nw; omega)
      go_wp2_with fail
      go_ret
      exact ⟨⟨g', cap', rfl, hg', hBw.congr (fun k _ => by rw [← HL.out, pw_all])⟩, hb⟩
end Go.Proofs.YthjpflhoenljdaaDoor
