/- The example that every run looks at: it answers true. -/
import Derived.Test.YtaonkbfekadalaaGreatDoorM41
import Derived.Test.YtaonkbfekadalaaGreatDoorM43
namespace Go.Proofs.YtaonkbfekadalaaGreatDoor
open Go.RowKit
set_option linter.unusedVariables false

theorem dn_at : ∀ j : Fin 30, nth (dn 30) j = (j : Nat) + 1 := by decide +kernel
theorem dn_cut : Cut (dn 30) 12 11 := by
  refine ⟨by rw [dn_len]; omega, fun j hj => ?_, fun j h1 h2 => ?_⟩
  · have := dn_at ⟨j, by omega⟩
    simp only at this
    omega
  · rw [dn_len] at h2
    have := dn_at ⟨j, h2⟩
    simp only at this
    omega
theorem txA_eq : txA = ⟨#[102, 105, 114, 115, 116, 10, 102, 105, 114, 115, 116, 10, 98, 101, 102, 111, 114, 101, 32, 50, 32, 49, 10]⟩ := rfl
section
variable {w : World}
set_option maxRecDepth 100000 in
set_option maxHeartbeats 8000000 in
theorem alive_ok (hG : GW w) : Calls Tryz.prog 4 #[] w fun e w' => e = .returned (.bool true) ∧ Below w.heap.size w w' := by
  have hn := SNewS_ok w hG.t2
  have hw2 := hG.t2.pos
  have HG := Lib.hid hG
  clear hG
  go_enter Tryz.func4, Tryz.ntmps4
  go_wp2_with fail
  refine hn.mono ?_
  rintro e w1 ⟨s, P, rfl, q1, q2, hB1⟩
  have H1 := Lib.hid (And.intro q1 (And.intro q2 hB1))
  clear q1 q2 hB1 hn
  go_wp2_with fail
  go_loopw [2] (fun i wr => ∃ k : Nat, k ≤ 30 ∧ i = .int .i64 (30 - (k : Int)) ∧ (∃ P xs, SetM wr s P (insF k).2 (insF k).1 xs (dn k) ∧ ∀ i, setB' s P i → w.heap.size ≤ i) ∧ Below w.heap.size w wr) (fun i _ => (intOf i).toNat)
  case atStart => exact ⟨0, by omega, by simp, ⟨P, _, H1.out.1, H1.out.2.1⟩, H1.out.2.2⟩
  case round =>
    obtain ⟨k, hk, rfl, ⟨P', xs, hS, hF⟩, hB⟩ := hrel
    clear H1
    by_cases hlt : k < 30
    · have k0 : (0 : Int) < 30 - (k : Int) := by omega
      have k2 : IntKind.i64.wrap (30 - (k : Int) - 1) = 30 - ((k + 1 : Nat) : Int) := by rw [IntWalk.i64_in _ (by omega)]; omega
      have hin := SFront_ok hS (key := 30 - (k : Int)) (by rw [dn_len]; omega) (by unfold inH; omega) (fun j hj => dn_lt k j (by rw [dn_len] at hj; exact hj))
      have HS := Lib.hid (And.intro hS (And.intro hF hB))
      clear hS hF hB
      go_wp2_with fail
      refine hin.mono ?_
      rintro e w2 ⟨⟨P2, xs2, a, b, c, d, rfl, hS2, hf2⟩, hO2⟩
      have H2 := Lib.hid (And.intro hS2 (And.intro hf2 hO2))
      clear hS2 hf2 hO2 hin
      go_wp2_with fail
      go_roundw
      case rel =>
        obtain ⟨hS, hF, hB⟩ := HS.out
        obtain ⟨hS2, hf2, hO2⟩ := H2.out
        have hs := hB.size
        have hs2 := hO2.size
        have hBa : Below w2.heap.size w2 (w2.alloc (.cells #[.int .i64 a, .int .i64 b, .int .i64 c, .int .i64 d] 30)) := (Below.refl _ w2).alloc (Nat.le_refl _) _
        have hB2 : Below w.heap.size w w2 := Only.below hB hO2 hs (fun i q => hF i (.inr q))
        refine ⟨k + 1, by omega, by first | rfl | omega | (simp; omega), ⟨P2, xs2, hS2.below hBa, fun i hi => ?_⟩, hB2.alloc (by omega) _⟩
        rcases hi with rfl | hi
        · exact hF _ (.inl rfl)
        · rcases hf2 i hi with q | q
          · exact hF _ (.inr q)
          · omega
      case measure => simp [intOf]; omega
    · obtain rfl : k = 30 := by omega
      have hke := SKeys_ok hS
      go_wp2_with fail
      refine hke.mono ?_
      rintro e w2 ⟨⟨v, rfl, ho⟩, hB2⟩
      obtain ⟨KA, kc, rfl, hR⟩ := ho.form
      rw [dn_len]
      have hS2 := hS.below hB2
      have hri := hS.ri
      have hof := Of_ok (kc := kc) (dn_len 30) hR hri
      have HA := Lib.hid (And.intro hF hB)
      have hs := hB.size
      have hs2 := hB2.size
      clear hS hF hB hke
      go_wp2_with fail
      refine hof.mono ?_
      rintro e w3 ⟨⟨vb, rfl, hvb, hbi⟩, hB3⟩
      have hv : BI w3 vb Y30 := by unfold Y30; exact hbi
      have hBa : Below w3.heap.size w3 (w3.alloc (.cells #[.int .i64 2, .slice (some ⟨vb, 0, none⟩) 30 30] 43)) := (Below.refl _ w3).alloc (Nat.le_refl _) _
      have hrk := Rank_ok (hv.below hBa hv.lt)
      have hS3 := (hS2.below hB3).below hBa
      have hs3 := hB3.size
      have hsa := hBa.size
      have HB3 := Lib.hid (And.intro hB2 (And.intro hB3 hBa))
      clear hbi hB3 hBa hof hS2 hB2
      go_wp2_with fail
      refine hrk.mono ?_
      rintro e w4 ⟨⟨st, rfl⟩, hB4⟩
      have hS4 := hS3.below hB4
      have hke := SKeys_ok hS4
      have HB4 := Lib.hid hB4
      have hs4 := hB4.size
      clear hS3 hrk hB4
      go_wp2_with fail
      refine hke.mono ?_
      rintro e w5 ⟨⟨v, rfl, ho5⟩, hB5⟩
      obtain ⟨KA5, kc5, rfl, hR5⟩ := ho5.form
      rw [dn_len]
      have hbr := bisectRank_ok (c := kc5) (dn_len 30) hR5 hri (by omega) dn_cut
      have hS5 := hS4.below hB5
      have hs5 := hB5.size
      have HB5 := Lib.hid hB5
      clear hke hS4 hB5
      go_wp2_with fail
      refine hbr.mono ?_
      rintro e w6 ⟨rfl, hB6⟩
      have hS6 := hS5.below hB6
      have hs6 := hB6.size
      have hBw : Below w.heap.size w w6 := (((((HA.out.2.trans (HB3.out.1.mono hs)).trans (HB3.out.2.1.mono (by omega))).trans (HB3.out.2.2.mono (by omega))).trans (HB4.out.mono (by omega))).trans (HB5.out.mono (by omega))).trans (hB6.mono (by omega))
      have hpl := Play_ok (HG.out.below hBw (Nat.le_refl _))
      rw [txA_eq] at hpl
      unfold outB at hpl
      clear hbr hS5 hB6
      go_wp2_with fail
      refine hpl.mono ?_
      rintro e w7 ⟨rfl, hB7⟩
      have hS7 := hS6.below hB7
      have hc := SCapS_ok hS7
      have hl := SLenS_ok hS7
      have ha := ASet_ok hS7 (by rw [insF_end]; exact insF_max) (by rw [insF_end]; exact insF_min)
      rw [insF_end, show capN 3 = 64 from rfl] at hc
      rw [dn_len] at hl
      have hBf := hBw.trans (hB7.mono (by omega))
      clear hpl hS6 hS7 hB7 hBw
      go_wp2_with fail
      refine hc.mono ?_
      rintro e w8 ⟨rfl, rfl⟩
      go_wp2_with fail
      refine hl.mono ?_
      rintro e w8 ⟨rfl, rfl⟩
      go_wp2_with fail
      refine ha.mono ?_
      rintro e w8 ⟨rfl, hB8⟩
      go_wp2_with fail
      go_ret
      exact ⟨rfl, hBf.trans (hB8.mono hBf.size)⟩
end
end Go.Proofs.YtaonkbfekadalaaGreatDoor
