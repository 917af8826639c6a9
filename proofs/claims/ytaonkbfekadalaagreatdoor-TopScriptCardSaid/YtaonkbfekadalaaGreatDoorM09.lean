/- Joined texts: Tj, Tk. -/
import Derived.Laws.CopyOwn
import Derived.Maps.AppendAt
import Derived.Deep.RegionHeld3
import Derived.Test.YtaonkbfekadalaaGreatDoorM08
/- What New comes to where there is a tree. -/
namespace Go.Proofs.YtaonkbfekadalaaGreatDoor
open Go.RowKit
set_option linter.unusedVariables false

theorem Half.step' {r t : List Int} {k : Nat} (h : Half r t k) (h0 : 0 < k) (hk : k < r.length) : Half r (t.set k (nth t (2 * k) + nth t (2 * k + 1))) (k - 1) := by
  obtain ⟨k', rfl⟩ : ∃ k', k = k' + 1 := ⟨k - 1, by omega⟩
  exact h.step hk
theorem winH {r t : List Int} {i : Nat} (h : Half r t i) : ∀ (l m k : Nat), r.length = m * 2 ^ l → k < m → i < m + k → nth t (m + k) = sumR r (k * 2 ^ l) (2 ^ l)
  | 0, m, k, hm, hk, hi => by
    have e : m = r.length := by rw [hm]; simp
    subst e
    rw [h.leaf k hk]
    simp [sumR]
  | l + 1, m, k, hm, hk, hi => by
    have h2 : 2 ^ (l + 1) = 2 * 2 ^ l := by rw [Nat.pow_succ, Nat.mul_comm]
    have hm2 : r.length = (2 * m) * 2 ^ l := by rw [hm, h2, Nat.mul_comm 2 m, Nat.mul_assoc]
    have hlt : m + k < r.length := by
      have : 2 * m * 1 ≤ 2 * m * 2 ^ l := Nat.mul_le_mul_left _ (pow_pos2 l)
      omega
    rw [h.node (m + k) hi hlt]
    have a := winH h l (2 * m) (2 * k) hm2 (by omega) (by omega)
    have b := winH h l (2 * m) (2 * k + 1) hm2 (by omega) (by omega)
    rw [show 2 * (m + k) = 2 * m + 2 * k by omega, show 2 * m + 2 * k + 1 = 2 * m + (2 * k + 1) by omega, a, b]
    rw [show k * 2 ^ (l + 1) = 2 * k * 2 ^ l by rw [h2, Nat.mul_comm 2 k, Nat.mul_assoc], h2, Nat.two_mul (2 ^ l), sumR_add]
    congr 2
    rw [Nat.add_mul, Nat.one_mul]
theorem half_bd {r t : List Int} {L i : Nat} (h : Half r t i) (hr : Rt r L) {j : Nat} (h1 : i < j) (h2 : j < 2 * r.length) : 0 ≤ nth t j ∧ nth t j ≤ 4096 := by
  obtain ⟨e, l, he, ha, hb⟩ := lvl L j (by omega) (by rw [← hr.pow]; exact h2)
  obtain ⟨k, rfl⟩ := Nat.le.dest ha
  rw [winH h l (2 ^ e) k (by rw [hr.pow, pow_split he]) (by omega) h1]
  have hin := win_in he (k := k) (by omega)
  have := sumR_bd hr (k * 2 ^ l) (2 ^ l) (by rw [hr.pow]; exact hin)
  have hp : 2 ^ l ≤ 512 := Nat.le_trans (by have := win_in he (k := k) (by omega); omega) (pow_le hr.le)
  have hp' : ((2 ^ l : Nat) : Int) ≤ 512 := Int.ofNat_le.2 hp
  omega
theorem nth_app (a b : List Int) (i : Nat) : nth (a ++ b) (a.length + i) = nth b i := by
  unfold nth
  simp only [List.getD]
  rw [List.getElem?_append_right (by omega), Nat.add_sub_cancel_left]
theorem half_new {r : List Int} (h : 1 ≤ r.length) : Half r (zeros r.length ++ r) (r.length - 1) := by
  refine ⟨by rw [List.length_append, zeros_length]; omega, fun j hj => ?_, fun k k1 k2 => by omega⟩
  have := nth_app (zeros r.length) r j
  rwa [zeros_length] at this

theorem copied {r : List Int} {S : Nat} (hS : r.length = S) : (((zeros (2 * S)).map (Value.int .i64)).toArray.toList.take S ++ (r.map (Value.int .i64) ++ ((zeros (2 * S)).map (Value.int .i64)).toArray.toList.drop (S + (r.map (Value.int .i64)).length))).toArray = cells (zeros S ++ r) := by
  have e1 : (zeros (2 * S)).take S = zeros S := by simp [zeros]; omega
  have e2 : (zeros (2 * S)).drop (S + r.length) = [] := by rw [List.drop_eq_nil_of_le]; rw [zeros_length, hS]; omega
  unfold cells
  rw [List.map_append, List.length_map, ← List.map_take, ← List.map_drop, e1, e2]
  simp

theorem Tryz.sizeI : (Tryz.prog.info? 3).map (·.size) = some 1 := by kernel_rfl

set_option maxRecDepth 1000000 in
set_option maxHeartbeats 1600000 in
theorem New_ok {w : World} {A : Option Addr} {c S L : Nat} {r : List Int} (hS : r.length = S) (hR : RI w A r) (hr : Rt r L) :
    Calls Tryz.prog 115 #[.slice A S c] w fun e w' => e = .returned (.tuple #[.pointer (some ⟨w.heap.size + 1, 0, none⟩), .int .i64 0]) ∧ (∃ t, TM w' (w.heap.size + 1) w.heap.size (2 * S) S r t) ∧ Below w.heap.size w w' := by
  have hs1 := hr.len_pos
  have hs2 := hr.len_le
  have hp := hr.powB
  rw [hS] at hs1 hs2 hp
  obtain ⟨b, off, rfl, hc⟩ := hR (by rw [hS]; exact hs1)
  have HC := Lib.hid hc
  have HS := Lib.hid hS
  clear hc hS
  have h1' : (1 : Int) ≤ (S : Int) := by omega
  have h2' : (S : Int) ≤ 512 := by omega
  have ta := and_pow (n := S) hs1 hs2
  rw [hp] at ta
  have hmk : ∀ W : World, (Instr.makeSlice 31 (.int .i64 (2 * (S : Int))) (.int .i64 (2 * (S : Int)))).run Tryz.prog W = .ok (.slice (some ⟨W.heap.size, 0, none⟩) (2 * S) (2 * S)) (W.alloc (.cells (cells (zeros (2 * S))) 3)) := fun W => by
    have := make_ints (2 * S) (by omega) W
    push_cast at this
    exact this
  have e0 : w.heap.size < (w.alloc (.cells (cells (zeros (2 * S))) 3)).heap.size := by simp
  have z0 := (Blk.made w 3 (cells (zeros (2 * S)))).alloc (.cells #[.int .i64 (S : Int), .slice (some ⟨w.heap.size, 0, none⟩) (2 * S) (2 * S)] 161)
  have z1 := Blk.made (w.alloc (.cells (cells (zeros (2 * S))) 3)) 161 #[.int .i64 (S : Int), .slice (some ⟨w.heap.size, 0, none⟩) (2 * S) (2 * S)]
  rw [World.size_alloc] at z1
  have hc0 := HC.out
  have hsrc : ∀ j v, (r.map (Value.int .i64))[j]? = some v → ((w.alloc (.cells (cells (zeros (2 * S))) 3)).alloc (.cells #[.int .i64 (S : Int), .slice (some ⟨w.heap.size, 0, none⟩) (2 * S) (2 * S)] 161)).cell? ((⟨b, off, none⟩ : Addr).add j) = some v := by
    intro j v hv
    rw [List.getElem?_map] at hv
    have hj : j < r.length := by
      rcases Nat.lt_or_ge j r.length with h | h
      · exact h
      · rw [List.getElem?_eq_none h] at hv; cases hv
    rw [List.getElem?_eq_getElem hj] at hv
    injection hv with hv
    have h1 := hc0 j hj
    have hb : b < w.heap.size := World.block_lt_of_cell? w ⟨b, off + j, none⟩ h1
    have hbel : Below w.heap.size w ((w.alloc (.cells (cells (zeros (2 * S))) 3)).alloc (.cells #[.int .i64 (S : Int), .slice (some ⟨w.heap.size, 0, none⟩) (2 * S) (2 * S)] 161)) := ((Below.refl _ w).alloc (Nat.le_refl _) _).alloc (by simp) _
    have e : (⟨b, off, none⟩ : Addr).add j = ⟨b, off + j, none⟩ := by unfold Addr.add; split <;> simp_all
    rw [e, hbel.cell (p := ⟨b, off + j, none⟩) hb, h1, nth_eq hj, hv]
  have hcp := run_copy_row (P := Tryz.prog) ((w.alloc (.cells (cells (zeros (2 * S))) 3)).alloc (.cells #[.int .i64 (S : Int), .slice (some ⟨w.heap.size, 0, none⟩) (2 * S) (2 * S)] 161)) 31 31 3 3 w.heap.size S (2 * S - S) (2 * S - S) ⟨b, off, none⟩ S c ((zeros (2 * S)).map (Value.int .i64)).toArray 3 (r.map (Value.int .i64)) Tryz.underlying31 Tryz.sizeI z0 (by rw [List.length_map, HS.out]; show S = min S (2 * S - S); omega) hsrc (by simp [zeros, HS.out]; omega) (by intro v hv; obtain ⟨x, _, rfl⟩ := List.mem_map.1 hv; rfl)
  rw [List.append_assoc, copied HS.out, List.length_map, HS.out] at hcp
  have hq0 : Blk (((w.alloc (.cells (cells (zeros (2 * S))) 3)).alloc (.cells #[.int .i64 (S : Int), .slice (some ⟨w.heap.size, 0, none⟩) (2 * S) (2 * S)] 161)).setRow w.heap.size (cells (zeros S ++ r))) w.heap.size 3 (cells (zeros S ++ r)) := setRow_heap _ _ _ _ _ _ z0
  have hq1 : Blk (((w.alloc (.cells (cells (zeros (2 * S))) 3)).alloc (.cells #[.int .i64 (S : Int), .slice (some ⟨w.heap.size, 0, none⟩) (2 * S) (2 * S)] 161)).setRow w.heap.size (cells (zeros S ++ r))) (w.heap.size + 1) 161 #[.int .i64 (S : Int), .slice (some ⟨w.heap.size, 0, none⟩) (2 * S) (2 * S)] := (setRow_other _ _ _ _ (by omega)).trans z1
  have hq2 : Below w.heap.size w (((w.alloc (.cells (cells (zeros (2 * S))) 3)).alloc (.cells #[.int .i64 (S : Int), .slice (some ⟨w.heap.size, 0, none⟩) (2 * S) (2 * S)] 161)).setRow w.heap.size (cells (zeros S ++ r))) := below_setRow (((Below.refl _ w).alloc (Nat.le_refl _) _).alloc (by simp) _) (Nat.le_refl _) _
  generalize (((w.alloc (.cells (cells (zeros (2 * S))) 3)).alloc (.cells #[.int .i64 (S : Int), .slice (some ⟨w.heap.size, 0, none⟩) (2 * S) (2 * S)] 161)).setRow w.heap.size (cells (zeros S ++ r))) = W2 at hcp hq0 hq1 hq2
  have HQ0 := Lib.hid hq0
  have HQ1 := Lib.hid hq1
  have HQ2 := Lib.hid hq2
  clear hq0 hq1 hq2 hsrc hc0 z0 z1 e0
  go_enter Tryz.func115, Tryz.ntmps115
  go_wp2_with fail
  refine (Contains_no HS.out hR hr.small (by omega)).mono ?_
  rintro e w1 ⟨rfl, rfl⟩
  go_wp2_with fail
  have hq0 : Blk W2 w.heap.size 3 (cells (zeros S ++ r)) := HQ0.out
  have hq1 : Blk W2 (w.heap.size + 1) 161 #[.int .i64 (S : Int), .slice (some ⟨w.heap.size, 0, none⟩) (2 * S) (2 * S)] := HQ1.out
  have hq2 : Below w.heap.size w W2 := HQ2.out
  clear hcp hmk ta
  go_loopw [6] (fun i wr => ∃ (k : Nat) (t : List Int), k < S ∧ i = .int .i64 k ∧ Half r t k ∧ Blk wr w.heap.size 3 (cells t) ∧ Blk wr (w.heap.size + 1) 161 #[.int .i64 (S : Int), .slice (some ⟨w.heap.size, 0, none⟩) (2 * S) (2 * S)] ∧ Below w.heap.size w wr) (fun i _ => (intOf i).toNat)
  case atStart => exact ⟨S - 1, zeros S ++ r, by omega, by go_num, by have := half_new hr.len_pos; rwa [HS.out] at this, hq0, hq1, hq2⟩
  case round =>
    obtain ⟨k, t, hk, rfl, hh, k0, k1, kb⟩ := hrel
    by_cases hz : 0 < k
    · have htl : t.length = 2 * S := by rw [hh.len, HS.out]
      have bd1 := half_bd hh hr (j := 2 * k) (by omega) (by rw [HS.out]; omega)
      have bd2 := half_bd hh hr (j := 2 * k + 1) (by omega) (by rw [HS.out]; omega)
      have hst := hh.step' hz (by rw [HS.out]; omega)
      have cA : wr.cell? ⟨w.heap.size, 2 * k, none⟩ = some (.int .i64 (nth t (2 * k))) := by rw [k0.cell, cells_get (by omega)]
      have cB : wr.cell? ⟨w.heap.size, 2 * k + 1, none⟩ = some (.int .i64 (nth t (2 * k + 1))) := by rw [k0.cell, cells_get (by omega)]
      have cC : wr.cell? ⟨w.heap.size, k, none⟩ = some (.int .i64 (nth t k)) := by rw [k0.cell, cells_get (by omega)]
      have fC := k0.frozen k
      have cP : wr.cell? ⟨w.heap.size + 1, 1, none⟩ = some (.slice (some ⟨w.heap.size, 0, none⟩) (2 * S) (2 * S)) := by rw [k1.cell]; rfl
      have x0 := bd1.1
      have x1 := bd1.2
      have y0 := bd2.1
      have y1 := bd2.2
      clear bd1 bd2 htl hq0 hq1 hq2
      generalize hx : nth t (2 * k) = x at *
      generalize hy : nth t (2 * k + 1) = y at *
      have HST := Lib.hid hst
      have i1 : (0 : Int) < (k : Int) := by omega
      have i2 : (k : Int) < (S : Int) := by omega
      have n1 : IntKind.i64.wrap (2 * (k : Int)) = 2 * (k : Int) := IntWalk.i64_in _ (by omega)
      have n2 : (2 * (k : Int)).toNat = 2 * k := by omega
      have n3 : (0 : Int) ≤ 2 * (k : Int) := by omega
      have n4 : 2 * (k : Int) < 2 * (S : Int) := by omega
      have n5 : IntKind.i64.wrap (2 * (k : Int) + 1) = 2 * (k : Int) + 1 := IntWalk.i64_in _ (by omega)
      have n6 : (2 * (k : Int) + 1).toNat = 2 * k + 1 := by omega
      have n7 : (0 : Int) ≤ 2 * (k : Int) + 1 := by omega
      have n8 : 2 * (k : Int) + 1 < 2 * (S : Int) := by omega
      have n9 : IntKind.i64.wrap (x + y) = x + y := IntWalk.i64_in _ (by omega)
      have m1 : 2 * k + 1 < 2 * S := by omega
      have m2 : k < 2 * S := by omega
      have m3 : (k : Int) < 2 * (S : Int) := by omega
      clear hx hy hst
      go_wp2_with fail
      go_still_tail 24, (by kernel_rfl)
      change wpList _ _ _ _ _ wr.drew
      have k0' := k0.drew
      have k1' := k1.drew
      have kb' : Below w.heap.size w wr.drew := below_drewN kb 1
      have cC' : wr.drew.cell? ⟨w.heap.size, k, none⟩ = some (.int .i64 (nth t k)) := cC
      have fC' : wr.drew.frozen? ⟨w.heap.size, k, none⟩ = false := fC
      clear cA cB cC fC cP k0 k1 kb
      generalize wr.drew = w3 at *
      go_wp2_with fail
      have hput := k0'.put k (.int .i64 (x + y))
      rw [cells_put] at hput
      go_roundw
      case rel => exact ⟨k - 1, t.set k (x + y), by omega, by go_num, HST.out, hput, k1'.far (p := ⟨w.heap.size, k, none⟩) (by simp) _, kb'.setCell (p := ⟨w.heap.size, k, none⟩) (Nat.le_refl _) _⟩
      case measure => simp [intOf]; omega
    · obtain rfl : k = 0 := by omega
      have htl : t.length = 2 * S := by rw [hh.len, HS.out]
      go_wp2_with fail
      go_ret2
      exact ⟨rfl, ⟨t, HS.out, k1, BI.of_blk k0, hh.done, by omega, by omega⟩, kb⟩
end Go.Proofs.YtaonkbfekadalaaGreatDoor
/- What slices.Clone, Counts and Clone come to. -/
namespace Go.Proofs.YtaonkbfekadalaaGreatDoor
open Go.RowKit
set_option linter.unusedVariables false

theorem BI_of_own {w : World} {base n : Nat} {v : Value} {xs : List Int} (h : w.ownsRow base 3 1 v n (xs.map (Value.int .i64))) (hn : 0 < n) :
    ∃ g cap, v = .slice (some ⟨g, 0, none⟩) n cap ∧ base ≤ g ∧ n ≤ cap ∧ cap ≤ 9223372036854775807 ∧ BI w g xs := by
  obtain ⟨hl, hh⟩ := h
  rcases hh with ⟨_, h0⟩ | ⟨g, cap, cur, hv, hb, hg, h1, h2, h3, h4⟩
  · omega
  · refine ⟨g, cap, hv, hb, h1, by unfold maxLen at h2; omega, cur, hg, fun k hk => ?_⟩
    rw [List.length_map] at hl
    have h5 : (cur.toList.take (n * 1))[k]? = (xs.map (Value.int .i64))[k]? := by rw [h4]
    rw [List.getElem?_take_of_lt (by omega), List.getElem?_map, List.getElem?_eq_getElem hk] at h5
    rw [nth_eq hk]
    simpa using h5

theorem add_at {b off j : Nat} : (⟨b, off, none⟩ : Addr).add j = ⟨b, off + j, none⟩ := by unfold Addr.add; split <;> simp_all

/-- The cells of a slice, as values. -/
theorem src_of_RI {w : World} {b off : Nat} {r : List Int} (hR : RI w (some ⟨b, off, none⟩) r) : ∀ j u, (r.map (Value.int .i64))[j]? = some u → w.cell? ((⟨b, off, none⟩ : Addr).add j) = some u := by
  intro j v hv
  rw [List.getElem?_map] at hv
  have hj : j < r.length := by
    rcases Nat.lt_or_ge j r.length with h | h
    · exact h
    · rw [List.getElem?_eq_none h] at hv; cases hv
  rw [List.getElem?_eq_getElem hj] at hv
  injection hv with hv
  rw [add_at, hR.cellN hj, nth_eq hj, hv]

set_option maxRecDepth 100000 in
set_option maxHeartbeats 400000 in
theorem SClone_ok {w : World} {b off c n : Nat} {r : List Int} (hl : r.length = n) (hR : RI w (some ⟨b, off, none⟩) r) (h1 : 1 ≤ n) (h2 : n ≤ 4096) :
    Calls Tryz.prog 180 #[.slice (some ⟨b, off, none⟩) n c] w fun e w' => (∃ g cap, e = .returned (.slice (some ⟨g, 0, none⟩) n cap) ∧ w.heap.size ≤ g ∧ n ≤ cap ∧ cap ≤ 9223372036854775807 ∧ BI w' g r) ∧ Below w.heap.size w w' := by
  obtain ⟨i0, hi, hz0, hz1, hz2⟩ := info_parts Tryz.infoI
  have HL := Lib.hid hl
  clear hl
  have hR1 : RI (w.alloc (.cells #[] 3)) (some ⟨b, off, none⟩) r := hR.below ((Below.refl w.heap.size w).alloc (Nat.le_refl _) _) (Nat.le_refl _)
  have heq := Lib.run_eql_slice_nil (P := Tryz.prog) w 31 3 (some ⟨b, off, none⟩) n c 0 0 Tryz.underlying31
  go_enter Tryz.func180, Tryz.ntmps180
  go_wp2_with (at_builtin; refine wpList_append_own_at _ rfl _ _ 31 rfl w.heap.size 3 i0 (.int .i64 0) 1 8 Tryz.underlying31 hi hz0 hz1 hz2 rfl (by decide) (.slice (some ⟨w.heap.size, 0, none⟩) 0 0) 0 [] rfl (World.ownsRow_made w #[] 0 (Nat.le_refl _) (by decide) rfl) ⟨b, off, none⟩ n c (r.map (Value.int .i64)) rfl ?c0 (src_of_RI hR1) ?c2 ?c3 ?c4 ?c5 ?_)
  case c0 => rw [List.length_map, HL.out]; omega
  case c2 => intro u hu; obtain ⟨x, _, rfl⟩ := List.mem_map.1 hu; rfl
  case c3 => unfold maxLen; omega
  case c4 => omega
  case c5 => simp
  intro v' w3 hown hg3 _ hat
  obtain ⟨g, cap, rfl, hb, hc1, hc2, hB⟩ := BI_of_own hown (by omega)
  go_wp2_with fail
  go_ret
  exact ⟨⟨g, cap, rfl, hb, hc1, hc2, hB⟩, ((Below.refl w.heap.size w).alloc (Nat.le_refl _) (.cells #[] 3)).grown hg3 (by simp) (fun k e => by injection e with e; simp at e; omega)⟩

theorem leaves {r t : List Int} (h : TI r t) {w : World} {g : Nat} (hB : BI w g t) : RI w (some ⟨g, r.length, none⟩) r := fun _ =>
  ⟨g, r.length, rfl, fun k hk => by rw [hB.cell (by rw [h.len]; omega), h.leaf k hk]⟩

end Go.Proofs.YtaonkbfekadalaaGreatDoor
