/- The document's Places: the slots of a spread. -/
import Derived.Test.YtahmhnbjpgkbbaaRg
namespace Go.Proofs.Ytahmhnbjpgkbbaa
open Go.RowKit
set_option linter.unusedVariables false

set_option maxRecDepth 100000 in
set_option maxHeartbeats 1600000 in
theorem RPlaces_ok (N : Nat) (first : Int) (S : Nat) (w : World) (hok : okB N S = true) (hf0 : 0 ≤ first) (hf1 : first ≤ 512) :
    Calls Try.prog 20 #[.int .i64 N, .int .i64 first, .int .i64 S] w fun e w' => (∃ A cap, e = .returned (.slice A N cap) ∧ RI w' A (pl N first S)) ∧ Below w.heap.size w w' := by
  obtain ⟨p1, p2, p3, p4⟩ := okB_true hok
  obtain ⟨i0, hi, hz0, hz1, hz2⟩ := info_parts Try.infoI
  go_enter Try.func20, Try.ntmps20
  go_wp2_with fail
  refine (RShares_ok _ _ _ hok).mono ?_
  rintro e w1 ⟨⟨A, cap, rfl, hR⟩, hb1⟩
  obtain ⟨b, off, rfl, hc⟩ := hR (by rw [shTo_length]; omega)
  have HC := Lib.hid hc
  clear hc
  go_wp2
  go_loopw [7, 9] (fun v i wr => ∃ k : Nat, k ≤ S ∧ i = .int .i64 k ∧ OL wr w1.heap.size v (plTo N first S k) ∧ Below w1.heap.size w1 wr) (fun _ i _ => S - (intOf i).toNat)
  case atStart => exact ⟨0, Nat.zero_le _, rfl, OL.nil _ _, Below.refl _ _⟩
  case round =>
    obtain ⟨k, hk, rfl, ho, hb⟩ := hrel
    by_cases hlt : k < S
    · have i1 : (0 : Int) ≤ (k : Int) := by omega
      have i2 : (k : Int) < (S : Int) := by omega
      have hm := sN_eq hok k
      have hm8 := sN_le hok k
      have i3 : ((sN N S k : Nat) : Int) ≤ 8 := by omega
      have hle := plTo_le (n := (N : Int)) (first := first) i2
      have hpl := pl_length (first := first) hok
      have hc0 : w1.cell? ⟨b, off + k, none⟩ = some (.int .i64 ((sN N S k : Nat) : Int)) := by
        rw [HC.out k (by rw [shTo_length]; exact hlt), nth_shTo hlt, hm]
      have hcb : b < w1.heap.size := World.block_lt_of_cell? w1 ⟨b, off + k, none⟩ hc0
      clear hm
      generalize hM : sN (N : Int) S k = m at hm8 hc0 hle i3
      have HM := Lib.hid hM
      clear hM
      go_wp2_with fail
      obtain ⟨wo, rfl⟩ : ∃ wo : World, wo = wr := ⟨_, rfl⟩
      go_loopw [7, 10] (fun v i wr => ∃ j : Nat, j ≤ m ∧ i = .int .i64 j ∧ OL wr w1.heap.size v (plTo N first S k ++ (seg N first S k).take j) ∧ Below w1.heap.size w1 wr) (fun _ i _ => m - (intOf i).toNat)
      case atStart => exact ⟨0, Nat.zero_le _, rfl, by simpa using ho, hb⟩
      case round =>
        obtain ⟨j, hj, rfl, hoj, hbj⟩ := hrel
        have hc1 : wr.cell? ⟨b, off + k, none⟩ = some (.int .i64 (m : Int)) := (hbj.cell (p := ⟨b, off + k, none⟩) hcb).trans hc0
        by_cases hjt : j < m
        · have j1 : (0 : Int) ≤ (j : Int) := by omega
          have j2 : (j : Int) < (m : Int) := by omega
          have hst := part_step (n := (N : Int)) (first := first) (segs := (S : Int)) (k := k) (j := j) (by rw [HM.out]; exact hjt)
          rw [HM.out] at hst
          have hlen := part_length_lt (n := (N : Int)) (first := first) i2 (j := j) (by rw [HM.out]; exact hjt)
          have hq := (offs_bd hjt hm8).2
          have hsz := hbj.size
          rw [nth_offs hjt] at hq
          generalize hL : plTo (N : Int) first S k ++ (seg N first S k).take j = L at hst hlen hoj
          have HL := Lib.hid hL
          clear hL
          go_wp2_with fail
          refine (ROffset_ok j m _ (by omega) hm8 hjt).mono ?_
          rintro e w2 ⟨rfl, rfl⟩
          have hq0 : (0 : Int) ≤ ((j * 8 / m : Nat) : Int) := Int.natCast_nonneg _
          generalize ((j * 8 / m : Nat) : Int) = q at hst hq hq0
          go_wp2_with (at_builtin; refine wpList_append_own_at _ rfl _ _ 22 rfl w1.heap.size 3 i0 (.int .i64 0) 1 8 Try.underlying22 hi hz0 hz1 hz2 rfl (by decide) _ L.length (L.map (Value.int .i64)) rfl ?c0 ⟨wr.heap.size, 0, none⟩ 1 1 [.int .i64 (8 * (first + k) + q)] rfl rfl ?c1 ?c2 ?c3 ?c4 ?c5 ?_)
          case c0 => exact World.ownsRow.alloc hoj _
          case c1 => exact cell_one_new _ _ _
          case c2 => intro u hu; simp at hu; subst hu; rfl
          case c3 => unfold maxLen; omega
          case c4 => omega
          case c5 => simp; omega
          intro v' w3 hown hg3 _ hat
          go_wp2_with fail
          go_roundw
          case rel =>
            refine ⟨j + 1, by omega, by go_num, ?_, ?_⟩
            · rw [← hst]
              exact OL.grow hown
            · exact ((hbj.alloc hsz _).grown hg3 (by simp; omega) (fun g hg => hoj.base_le g hg))
          case measure => simp [intOf]; omega
        · obtain rfl : j = m := by omega
          go_wp2_with fail
          go_roundw
          case rel =>
            refine ⟨k + 1, by omega, by go_num, ?_, hbj⟩
            rw [plTo_succ]
            rwa [List.take_of_length_le (by rw [seg_length, HM.out]; omega)] at hoj
          case measure => simp [intOf]; omega
    · obtain rfl : k = S := by omega
      go_wp2_with fail
      go_ret
      obtain ⟨A, cap, rfl, hr⟩ := ho.form
      have hl : (plTo (N : Int) first (k : Int) k).length = N := by
        have := pl_length (first := first) hok
        unfold pl at this
        simp at this
        omega
      rw [hl]
      exact ⟨⟨A, cap, rfl, by unfold pl; simpa using hr⟩, below_ge hb1 hb (Nat.le_refl _)⟩
end Go.Proofs.Ytahmhnbjpgkbbaa
