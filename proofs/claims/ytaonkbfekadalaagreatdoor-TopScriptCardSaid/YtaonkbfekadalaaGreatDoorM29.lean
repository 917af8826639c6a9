/- Joined texts: Cs, Ct, Cu. -/
import Derived.Test.YtaonkbfekadalaaGreatDoorM28
/- A row, its teller and what they hold; what Resize comes to; the step of a change that spreads a window. -/
namespace Go.Proofs.YtaonkbfekadalaaGreatDoor
open Go.RowKit
set_option linter.unusedVariables false

/-- A row that tells k, the elements L, and a table of T handles that agrees with them (but for a pending one). -/
structure RP (w : World) (P : PB) (k : Option TB) (h : Nat) (r : List Bool) (xs t L : List Int) (pd : Option Int) (T : Nat) : Prop where
  pm : PM w P k h r xs
  tk : TK w k t
  hT : Tab w
  its : its r xs = L
  ag : ∀ b, k = some b → Agree t L (pos r) pd
  tl : t.length = T
/-- The blocks that a change of a row turns. -/
def PB.mv (P : PB) (k : Option TB) (i : Nat) : Prop := P.has i ∨ mvK k i
theorem segC_congr {r r' : List Bool} {q : Nat} (h : ∀ j, 8 * q ≤ j → j < 8 * q + 8 → on r j = on r' j) : segC r q = segC r' q := by
  have h1 := fr_len r [] (8 * q) 8
  have h2 := fr_len r' [] (8 * q) 8
  rw [fr_congr (r' := r') (xs' := []) h (fun _ _ _ _ => rfl)] at h1
  unfold segC
  omega
theorem segC_even {r : List Bool} {F M q : Nat} (h : q < F ∨ F + M ≤ q) : segC (evenB r F M) q = segC r q := segC_congr fun j h1 h2 => by
  rw [on_evenB, if_neg (by omega)]
/-- What Resize makes. -/
def sizeB (h N : Nat) : List Bool := putB (capN h) (pl (N : Int) 0 ((2 ^ h : Nat) : Int)) N
theorem rising_pl {h N : Nat} (h1 : 2 ≤ h) (h2 : h ≤ 9) (hN : N ≤ capN h) : Rising (capN h) (pl (N : Int) 0 ((2 ^ h : Nat) : Int)) ∧ (pl (N : Int) 0 ((2 ^ h : Nat) : Int)).length = N := by
  obtain ⟨a1, a2⟩ := capN_bd h1 h2
  have hcap : 8 * 2 ^ h = capN h := rfl
  have hok : okB (N : Int) ((2 ^ h : Nat) : Int) = true := okB_mk ⟨by omega, by omega, by omega, by omega⟩
  have hl := pl_length (first := 0) hok
  exact ⟨⟨fun i j q1 q2 => pl_rise hok q1 q2, fun i hi => by
    have := pl_mem hok (nth_mem hi)
    omega⟩, by omega⟩
theorem Resize_ok {w : World} {k : Option TB} {pp tt n0 h N T : Nat} {b : SB} {r : List Bool} {xs t L : List Int} {pd : Option Int} (hs : SM w b n0 r xs) (hT : Tab w) (hpw : PW w pp b.s tt k) (htk : TK w k t) (hI : ∀ j, inH (nth xs j))
    (hL : its r xs = L) (hag : ∀ b, k = some b → Agree t L (pos r) pd) (htl : t.length = T) (h1 : 2 ≤ h) (h2 : h ≤ 9) (hNN : cnt r n0 = N) (hN : N ≤ capN h) :
    Calls Tryz.prog 134 #[.pointer (some ⟨b.s, 0, none⟩), .int .i64 (capN h : Nat), tellF pp .dir] w fun e w' => ∃ (b' : SB) (xs' t' : List Int), e = .returned (.tuple #[.pointer (some ⟨b'.s, 0, none⟩), .int .i64 0]) ∧
      SM w' b' (capN h) (sizeB h N) xs' ∧ TK w' k t' ∧ its (sizeB h N) xs' = L ∧ (∀ b, k = some b → Agree t' L (pos (sizeB h N)) pd) ∧ t'.length = T ∧ (∀ j, inH (nth xs' j)) ∧ b'.from w.heap.size ∧ PW w' pp b.s tt k ∧ Only (mvK k) w w' := by
  obtain ⟨hR, hl⟩ := rising_pl h1 h2 hN
  have hlen : (its r xs).length = N := by rw [its_len, hs.lr]; exact hNN
  refine (Resize_walk hs hT hpw htk hI h1 h2 hNN hN).mono ?_
  rintro e w' ⟨b', rfl, q1, q2, q3, q4, q5⟩
  have hpos : pos (sizeB h N) = pl (N : Int) 0 ((2 ^ h : Nat) : Int) := by
    unfold sizeB
    rw [pos_putB hR (by omega), List.take_of_length_le (by omega)]
  refine ⟨b', _, _, rfl, q1, q2, ?_, ?_, ?_, ?_, q3, q4, q5⟩
  · unfold sizeB
    rw [its_putB hR (by omega) (by omega), List.take_of_length_le (by omega), hL]
  · intro b hb
    rw [hpos, hL]
    have h3 := agree_tJ (hag b hb) hR (capN_bd h1 h2).2 (by rw [hl, ← hL, hlen]) (j := N) (by rw [← hL, hlen]; exact Nat.le_refl _)
    have h4 : mixJ (pos r) (pl (N : Int) 0 ((2 ^ h : Nat) : Int)) N = pl (N : Int) 0 ((2 ^ h : Nat) : Int) := by
      have := mixJ_all (S0 := pos r) (S := pl (N : Int) 0 ((2 ^ h : Nat) : Int)) (by rw [pos_len, hl, hs.lr]; exact hNN)
      rwa [hl] at this
    rwa [h4] at h3
  · rw [tJ_len, htl]
  · intro j
    -- every number that was put in was an element
    have key : ∀ m, m ≤ N → ∀ j, inH (nth (putX (capN h) (pl (N : Int) 0 ((2 ^ h : Nat) : Int)) (its r xs) m) j) := by
      intro m
      induction m with
      | zero => intro _ j; unfold putX; rw [nth_zeros]; exact inH_zero
      | succ m ih =>
        intro hm j
        unfold putX
        refine hI_set (ih (by omega)) ?_ _ j
        have hmem := nth_mem (S := its r xs) (i := m) (by omega)
        obtain ⟨s, _, hs'⟩ := its_mem.1 hmem
        rw [← hs']; exact hI s
    exact key N (Nat.le_refl _) j
end Go.Proofs.YtaonkbfekadalaaGreatDoor
/- The step of a change of a row that spreads a window. -/
namespace Go.Proofs.YtaonkbfekadalaaGreatDoor
open Go.RowKit
set_option linter.unusedVariables false

set_option maxRecDepth 100000 in
theorem TCountsC_ok {w : World} {p g cap S L : Nat} {r t : List Int} (h : TM w p g cap S r t) (hr : Rt r L) :
    Calls Tryz.prog 128 #[.pointer (some ⟨p, 0, none⟩)] w fun e w' => (∃ g' cap', e = .returned (.slice (some ⟨g', 0, none⟩) S cap') ∧ w.heap.size ≤ g' ∧ S ≤ cap' ∧ BI w' g' r) ∧ Below w.heap.size w w' := by
  have hS := h.hS
  have hs1 := hr.len_pos
  have hs2 := hr.len_le
  rw [hS] at hs1 hs2
  have c0 := h.c0
  have c1 := h.c1
  have hcap := h.cap.1
  have i1 : (1 : Int) ≤ (S : Int) := by omega
  have i2 : (S : Int) ≤ 512 := by omega
  have hlv := leaves h.ti h.hg
  rw [hS] at hlv
  have hcl := fun d => SClone_ok (w := w.drewN d) (c := cap - S) hS hlv hs1 (by omega)
  have hne : ¬ cap = S := by omega
  have hsub : 2 * S - S = S := by omega
  have HS := Lib.hid hS
  clear hS
  go_enter Tryz.func128, Tryz.ntmps128
  go_wp2_with fail
  go_still_tail 8, (by kernel_rfl)
  change wpList _ _ _ _ _ w.drew
  have hcl1 := hcl 1
  have hb1 : Below w.heap.size w (w.drewN 1) := below_drewN (Below.refl _ _) 1
  have hz1 : (w.drewN 1).heap.size = w.heap.size := rfl
  have hdr : w.drew = w.drewN 1 := rfl
  rw [hdr]
  clear hcl hdr c0 c1 hlv h
  generalize w.drewN 1 = w2 at *
  have HZ := Lib.hid hz1
  clear hz1
  go_wp2_with fail
  refine hcl1.mono ?_
  rintro e w3 ⟨⟨g', cap', rfl, hg, hc1, _, hB⟩, hb3⟩
  go_wp2_with fail
  go_ret
  exact ⟨⟨g', cap', rfl, by rw [HZ.out] at hg; exact hg, hc1, hB⟩, below_ge hb1 hb3 (by rw [← HZ.out]; exact Nat.le_refl _)⟩

section
variable {w w' : World} {P : PB} {k : Option TB} {h T : Nat} {r : List Bool} {xs t L : List Int} {pd : Option Int}
theorem RP.below (hp : RP w P k h r xs t L pd T) (hb : Below w.heap.size w w') : RP w' P k h r xs t L pd T := ⟨hp.pm.below hb, hp.tk.below hb, hp.hT.below hb, hp.its, hp.ag, hp.tl⟩
/-- What a step needs: that there is room. -/
def Room (r : List Bool) (sg h : Nat) : Prop := h < pickL (csV r 0 (2 ^ h)) sg h → withinV (sumR (csV r 0 (2 ^ h)) 0 (2 ^ h)).toNat h h < 0 ∨ h < 9
/-- How a step of a window ends: the tree has its new counts, the row its new slots. -/
theorem step_end {w4 wr w3 : World} {r1 : List Bool} {xs3 t3 tt : List Int} {F : TFK} (hp : RP w P k h r xs t L pd T) (h1 : 2 ≤ h) (h2 : h ≤ 9) (hO4 : Only (P.mv k) w w4)
    (hT4 : Tab w4) (sm4 : SM w4 P.sb (capN h) r1 xs3) (tk4 : TK w4 k t3) (pw4 : PW w4 P.pp P.sb.s P.tt k) (hRB : RB w3 ⟨P.sb, P.pp, P.tt, k, F, 0, 0, 0⟩ (capN h) r1 xs3 t3 L pd T)
    (htm : TM wr P.tt P.tg P.tc (2 ^ h) (csV r1 0 (2 ^ h)) tt) (hOr : Only (fun i => i = P.tg) w4 wr) (a b c d : Value) :
    (∃ xs' t', RP ((((wr.setCell ⟨w.heap.size + 1 + 1, 0, none⟩ a).setCell ⟨w.heap.size + 1 + 1, 1, none⟩ b).setCell ⟨w.heap.size + 1 + 1, 2, none⟩ c).setCell ⟨w.heap.size + 1 + 1, 3, none⟩ d) P k h r1 xs' t' L pd T) ∧
    Only (P.mv k) w ((((wr.setCell ⟨w.heap.size + 1 + 1, 0, none⟩ a).setCell ⟨w.heap.size + 1 + 1, 1, none⟩ b).setCell ⟨w.heap.size + 1 + 1, 2, none⟩ c).setCell ⟨w.heap.size + 1 + 1, 3, none⟩ d) := by
  have put (X : Nat → Prop) (v v' : World) (hX : X (w.heap.size + 1 + 1) ∨ v.heap.size ≤ w.heap.size + 1 + 1) (ho : Only X v v') : Only X v ((((v'.setCell ⟨w.heap.size + 1 + 1, 0, none⟩ a).setCell ⟨w.heap.size + 1 + 1, 1, none⟩ b).setCell ⟨w.heap.size + 1 + 1, 2, none⟩ c).setCell ⟨w.heap.size + 1 + 1, 3, none⟩ d) :=
    (((ho.put (p := ⟨_, 0, none⟩) hX a).put (p := ⟨_, 1, none⟩) hX b).put (p := ⟨_, 2, none⟩) hX c).put (p := ⟨_, 3, none⟩) hX d
  have hOn : Only (fun i => i = w.heap.size + 1 + 1) wr ((((wr.setCell ⟨w.heap.size + 1 + 1, 0, none⟩ a).setCell ⟨w.heap.size + 1 + 1, 1, none⟩ b).setCell ⟨w.heap.size + 1 + 1, 2, none⟩ c).setCell ⟨w.heap.size + 1 + 1, 3, none⟩ d) := put _ _ _ (.inl rfl) (Only.refl _ _)
  have hO5 : Only (fun i => i = P.tg ∨ i = w.heap.size + 1 + 1) w4 ((((wr.setCell ⟨w.heap.size + 1 + 1, 0, none⟩ a).setCell ⟨w.heap.size + 1 + 1, 1, none⟩ b).setCell ⟨w.heap.size + 1 + 1, 2, none⟩ c).setCell ⟨w.heap.size + 1 + 1, 3, none⟩ d) :=
    put _ _ _ (.inl (.inr rfl)) (hOr.mono fun _ _ q => .inl q)
  have hlt : ∀ i, P.has i → i ≠ w.heap.size + 1 + 1 := fun i hi => by have := hp.pm.lt hi; omega
  have hO6 : Only (P.mv k) w ((((wr.setCell ⟨w.heap.size + 1 + 1, 0, none⟩ a).setCell ⟨w.heap.size + 1 + 1, 1, none⟩ b).setCell ⟨w.heap.size + 1 + 1, 2, none⟩ c).setCell ⟨w.heap.size + 1 + 1, 3, none⟩ d) := put _ _ _ (.inr (by omega)) (hO4.trans (hOr.mono fun i _ q => .inl (.inr (.inr (.inr q)))))
  generalize ((((wr.setCell ⟨w.heap.size + 1 + 1, 0, none⟩ a).setCell ⟨w.heap.size + 1 + 1, 1, none⟩ b).setCell ⟨w.heap.size + 1 + 1, 2, none⟩ c).setCell ⟨w.heap.size + 1 + 1, 3, none⟩ d) = W at *
  clear put
  obtain ⟨t0, tm0⟩ := hp.pm.tm
  obtain ⟨csg, hg0, _⟩ := tm0.hg
  have ntg : ∀ i, P.sb.has i ∨ i = P.pp ∨ i = P.tt → i ≠ P.tg := by
    rintro i ((rfl | rfl | rfl | rfl) | rfl | rfl)
    · exact hp.pm.sm.hs.ne_ hg0 (by decide)
    · exact hp.pm.ne
    · exact hp.pm.sm.hb.hp.ne_ hg0 (by decide)
    · obtain ⟨cs, hh, _⟩ := hp.pm.sm.hb.hg
      exact hh.ne_ hg0 (by decide)
    · exact Blk.ne_ hp.pm.pw hg0 (by decide)
    · exact tm0.hp.ne_ hg0 (by decide)
  have n2 : ∀ i, i = P.tg ∨ i = w.heap.size + 1 + 1 → i ≠ 2 := by
    rintro i (rfl | rfl)
    · refine hg0.ne2 hp.hT ?_
      intro u hu
      obtain ⟨_, hh, hv⟩ := tm0.hg
      have hz : 0 < t0.length := by rw [tm0.ti.1, tm0.hS]; have := Nat.one_le_two_pow (n := h); omega
      have := hv 0 hz
      unfold Blk at hg0 hh
      rw [hg0] at hh
      injection hh with hh
      injection hh with hh
      subst hh
      rw [this] at hu
      cases hu
    · have := hp.hT.pos; omega
  refine ⟨⟨xs3, t3, ⟨⟨sm4.only hO5 ?_, Blk.only pw4 hO5 ?_, ⟨tt, htm.only hOn (hlt _ (.inr (.inr (.inl rfl)))) (hlt _ (.inr (.inr (.inr rfl))))⟩, ⟨h1, h2⟩, hRB.hI, hp.pm.ne⟩, tk4.only hO5 ?_, ?_, hRB.its, hRB.ag, hRB.tl⟩⟩, hO6⟩
  · rintro i hi (q | q)
    · exact ntg i (.inl hi) q
    · exact hlt i (.inl hi) q
  · rintro (q | q)
    · exact ntg _ (.inr (.inl rfl)) q
    · exact hlt _ (.inr (.inl rfl)) q
  · rintro b rfl
    obtain ⟨l1, l2, l3, l4⟩ := hp.tk.lt b rfl
    obtain ⟨⟨e1, e2, e3⟩, _⟩ := hp.tk
    refine ⟨?_, ?_, ?_, ?_⟩
    · rintro (q | q)
      · exact e1.ne_ hg0 (by decide) q
      · omega
    · rintro (q | q)
      · exact e2.ne_ hg0 (by decide) q
      · omega
    · rintro (q | q)
      · exact e3.hp.ne_ hg0 (by decide) q
      · omega
    · rintro (q | q)
      · exact e3.hm.not_cells hg0 q.symm
      · omega
  · exact hT4.only hO5 n2
set_option maxRecDepth 100000 in
set_option maxHeartbeats 4000000 in
theorem step_window (hp : RP w P k h r xs t L pd T) {sg : Nat} (hsg : sg < 2 ^ h) (slot : Int) (hk : pickL (csV r 0 (2 ^ h)) sg h ≤ h) :
    Calls Tryz.prog 77 #[.pointer (some ⟨P.pp, 0, none⟩), .int .i64 (sg : Nat), .int .i64 slot] w fun e w' =>
      (∃ sl, e = .returned (.tuple #[.int .i64 sl, stepE (pickV (csV r 0 (2 ^ h)) sg h), .int .i64 0])) ∧
      (∃ xs' t', RP w' P k h (evenB r (winF sg (pickL (csV r 0 (2 ^ h)) sg h)) (2 ^ pickL (csV r 0 (2 ^ h)) sg h)) xs' t' L pd T) ∧ Only (P.mv k) w w' := by
  obtain ⟨t0, hTM⟩ := hp.pm.tm
  have hrt := csV_rt r (h := h) hp.pm.hh.2
  obtain ⟨h1, h2⟩ := hp.pm.hh
  have hwin := winF_le hsg hk
  have k9 : pickL (csV r 0 (2 ^ h)) sg h ≤ 9 := by omega
  have hst : pickV (csV r 0 (2 ^ h)) sg h = ((1 : Int), ((winF sg (pickL (csV r 0 (2 ^ h)) sg h) : Nat) : Int), ((2 ^ pickL (csV r 0 (2 ^ h)) sg h : Nat) : Int), ((capN h : Nat) : Int)) := by unfold pickV; rw [if_pos hk]
  have hm1 : 1 ≤ 2 ^ pickL (csV r 0 (2 ^ h)) sg h := Nat.one_le_two_pow
  -- the boxes
  have b0 := Blk.made w 64 #[.pointer (some ⟨P.pp, 0, none⟩)]
  have b1 := Blk.made (w.alloc (.cells #[.pointer (some ⟨P.pp, 0, none⟩)] 64)) 3 #[.int .i64 slot]
  have b2 := Blk.made ((w.alloc (.cells #[.pointer (some ⟨P.pp, 0, none⟩)] 64)).alloc (.cells #[.int .i64 slot] 3)) 30 #[.int .i64 0, .int .i64 0, .int .i64 0, .int .i64 0]
  simp only [World.size_alloc] at b1 b2
  replace b0 := (b0.alloc (.cells #[.int .i64 slot] 3)).alloc (.cells #[.int .i64 0, .int .i64 0, .int .i64 0, .int .i64 0] 30)
  replace b1 := b1.alloc (.cells #[.int .i64 0, .int .i64 0, .int .i64 0, .int .i64 0] 30)
  have hB0 : Below w.heap.size w (((w.alloc (.cells #[.pointer (some ⟨P.pp, 0, none⟩)] 64)).alloc (.cells #[.int .i64 slot] 3)).alloc (.cells #[.int .i64 0, .int .i64 0, .int .i64 0, .int .i64 0] 30)) :=
    (((Below.refl _ w).alloc (Nat.le_refl _) _).alloc (by simp) _).alloc (by simp; omega) _
  have hz0 : (((w.alloc (.cells #[.pointer (some ⟨P.pp, 0, none⟩)] 64)).alloc (.cells #[.int .i64 slot] 3)).alloc (.cells #[.int .i64 0, .int .i64 0, .int .i64 0, .int .i64 0] 30)).heap.size = w.heap.size + 3 := by simp
  have hp0 := hp.below hB0
  have hlts : ∀ i, P.has i → i < w.heap.size := fun i hi => hp.pm.lt hi
  generalize hW0 : (((w.alloc (.cells #[.pointer (some ⟨P.pp, 0, none⟩)] 64)).alloc (.cells #[.int .i64 slot] 3)).alloc (.cells #[.int .i64 0, .int .i64 0, .int .i64 0, .int .i64 0] 30)) = W0 at *
  have hcs := TCountsC_ok (hTM.below' hB0) hrt
  have c0 : W0.cell? ⟨w.heap.size, 0, none⟩ = some (.pointer (some ⟨P.pp, 0, none⟩)) := by rw [b0.cell]; rfl
  have cp1 := hp0.pm.pw.c1
  rw [hst]
  go_enter Tryz.func77, Tryz.ntmps77
  go_wp2_with fail
  refine hcs.mono ?_
  rintro e w1 ⟨⟨g', cap', rfl, hg', hcap, hBI⟩, hB1⟩
  have hpk := Pick_ok (c := cap') (csV_len r 0 (2 ^ h)) (RI_of_BI hBI) (csV_small _ _ _) h1 h2 hsg hcap (hp0.hT.below hB1) (fun q => absurd q (by omega))
  rw [hst] at hpk
  unfold stepE at hpk
  go_wp2_with fail
  refine hpk.mono ?_
  rintro e w2 ⟨rfl, hB2⟩
  clear hpk hst
  generalize hFe : winF sg (pickL (csV r 0 (2 ^ h)) sg h) = F at *
  generalize hMe : 2 ^ pickL (csV r 0 (2 ^ h)) sg h = M at *
  have HFE := Lib.hid hFe
  have HME := Lib.hid hMe
  clear hFe hMe
  have hBa := hB1.trans (hB2.mono hB1.size)
  have hB9 := Below.alloc hBa hBa.size (.cells #[.int .i64 1, .int .i64 (F : Nat), .int .i64 (M : Nat), .int .i64 (capN h : Nat)] 30)
  have k9 := Blk.made w2 30 #[.int .i64 1, .int .i64 (F : Nat), .int .i64 (M : Nat), .int .i64 (capN h : Nat)]
  have sz9 := hBa.size
  have n9 : ¬ (w2.heap.size < w.heap.size + 3) := by omega
  have hp9 := hp0.below hB9
  have b09 := b0.below hB9 b0.lt
  have b19 := b1.below hB9 b1.lt
  have b29 := b2.below hB9 b2.lt
  have hcap8 : 8 * (F + M) ≤ capN h := by unfold capN; omega
  generalize hW9 : w2.alloc (.cells #[.int .i64 1, .int .i64 (F : Nat), .int .i64 (M : Nat), .int .i64 (capN h : Nat)] 30) = W9 at *
  have d0 : W9.cell? ⟨w.heap.size, 0, none⟩ = some (.pointer (some ⟨P.pp, 0, none⟩)) := by rw [b09.cell]; rfl
  have d1 := hp9.pm.pw.c0
  obtain ⟨d2, d3, d4, d5⟩ := k9.four
  have hmfw : ∀ (fn : Fn) (first cap : Array Value) (w : World), (Instr.makeFunc fn first cap).run Tryz.prog w = .ok (.func fn first cap) w := fun _ _ _ _ => rfl
  go_wp2_with fail
  -- Even
  obtain ⟨G, hG⟩ : ∃ G : RGB, G = ⟨P.sb, P.pp, P.tt, k, .stp (w.heap.size + 1) w.heap.size, 0, 0, 0⟩ := ⟨_, rfl⟩
  have hRB : RB W9.drew G (capN h) r xs t L pd T := by
    subst hG
    refine ⟨hp9.pm.sm.drewN 1, hp9.tk.drewN 1, Blk.drewN hp9.pm.pw 1, ⟨⟨slot, b19.drewN 1⟩, b09.drewN 1⟩, hp9.hT, hp9.pm.hI, ?_, hp9.its, hp9.ag, hp9.tl⟩
    rintro a c e
    injection e with e1 e2
    have := hlts P.sb.g (.inl (.inr (.inl rfl)))
    show a ≠ P.sb.g
    omega
  have hev := Even_ok hRB hm1 hcap8
  rw [hG] at hev
  unfold tellF at hev
  dsimp only at hev
  -- what Even leaves
  have far9 : ∀ (g : Nat) (ty : TypeId) (cs : Array Value) (w3 : World), Blk W9 g ty cs → ty ≠ 3 → ty ≠ 191 → ty ≠ 133 → Only (RGB.mb ⟨P.sb, P.pp, P.tt, k, .stp (w.heap.size + 1) w.heap.size, 0, 0, 0⟩) W9.drew w3 → Blk w3 g ty cs := by
    intro g ty cs w3 hb t3 t191 t133 hO
    refine (hb.drewN 1).only hO ?_
    rintro ((q | q) | q | q)
    · exact hp9.pm.sm.hx.ne_ hb (fun e => t3 e.symm) q.symm
    · obtain ⟨cs', hh, _⟩ := hp9.pm.sm.hb.hg
      exact hb.ne_ hh t191 q
    · exact hp9.tk.far hb t133 q
    · exact hb.ne_ b19 t3 q
  have hT9 := hp9.hT
  have tm9 := (hTM.below' hB0).below' hB9
  have tm3 : ∀ w3, Only (RGB.mb ⟨P.sb, P.pp, P.tt, k, .stp (w.heap.size + 1) w.heap.size, 0, 0, 0⟩) W9.drew w3 → TM w3 P.tt P.tg P.tc (2 ^ h) (csV r 0 (2 ^ h)) t0 := by
    intro w3 hO
    obtain ⟨csg, hgb, _⟩ := tm9.hg
    refine (tm9.drewN 1).only hO ?_ ?_
    · rintro ((q | q) | q | q)
      · exact hp9.pm.sm.hx.ne_ tm9.hp (by decide) q.symm
      · obtain ⟨cs', hh, _⟩ := hp9.pm.sm.hb.hg
        exact tm9.hp.ne_ hh (by decide) q
      · exact hp9.tk.far tm9.hp (by decide) q
      · exact tm9.hp.ne_ b19 (by decide) q
    · rintro ((q | q) | q | q)
      · exact hp9.pm.ne q.symm
      · obtain ⟨cs', hh, _⟩ := hp9.pm.sm.hb.hg
        exact hgb.ne_ hh (by decide) q
      · exact hp9.tk.far hgb (by decide) q
      · have := hlts P.tg (.inr (.inr (.inr rfl)))
        have q' : P.tg = w.heap.size + 1 := q
        omega
  have FAR := Lib.hid far9
  have TM3 := Lib.hid tm3
  have HCAP := Lib.hid hcap8
  have HM1 := Lib.hid hm1
  have HWIN := Lib.hid hwin
  clear far9 tm3 hcs
  go_region_held3 (fun W => W.cell? ⟨w.heap.size, 0, none⟩ = some (.pointer (some ⟨P.pp, 0, none⟩)) ∧ W.cell? ⟨P.pp, 0, none⟩ = some (.pointer (some ⟨P.sb.s, 0, none⟩)) ∧ W.cell? ⟨w2.heap.size, 1, none⟩ = some (.int .i64 (F : Nat)) ∧ W.cell? ⟨w2.heap.size, 2, none⟩ = some (.int .i64 (M : Nat)))
    (first | exact ⟨d0, d1, d3, d4⟩ | exact ⟨e0, e1, e2, e3⟩)
    ((go_at_call 130; refine hev.mono ?_; rintro e w3 ⟨⟨cc, rfl⟩, ⟨xs3, t3, hB3⟩, hO3⟩; have f0 := FAR.out _ _ _ _ b09 (by decide) (by decide) (by decide) hO3; have f1 := FAR.out _ _ _ _ hp9.pm.pw (by decide) (by decide) (by decide) hO3; have f9 := FAR.out _ _ _ _ k9 (by decide) (by decide) (by decide) hO3; have e0 : w3.cell? ⟨w.heap.size, 0, none⟩ = some (.pointer (some ⟨P.pp, 0, none⟩)) := (by rw [f0.cell]; rfl); have e1 : w3.cell? ⟨P.pp, 0, none⟩ = some (.pointer (some ⟨P.sb.s, 0, none⟩)) := (by rw [f1.cell]; rfl); have e2 : w3.cell? ⟨w2.heap.size, 1, none⟩ = some (.int .i64 (F : Nat)) := (by rw [f9.cell]; rfl); have e3 : w3.cell? ⟨w2.heap.size, 2, none⟩ = some (.int .i64 (M : Nat)) := (by rw [f9.cell]; rfl)))
  have htm3 := TM3.out w3 hO3
  have f2 := FAR.out _ _ _ _ b29 (by decide) (by decide) (by decide) hO3
  have lr := hp.pm.lr
  have hr3 : (evenB r F M).length = capN h := by rw [evenB_len, lr]
  have hct := counts_ok hB3.sm HCAP.out
  have hm8 : M ≤ 2 ^ h := by have := HWIN.out; omega
  have hs9 : (1 : Int) ≤ (M : Int) := by have := HM1.out; omega
  have hs8 : (M : Int) ≤ 512 := by have := pow_le h2; omega
  have hct1 : Calls Tryz.prog 116 #[.pointer (some ⟨P.sb.s, 0, none⟩), .int .i64 (F : Nat), .int .i64 (M : Nat)] w3.drew fun e w' => e = .returned (.slice (some ⟨w3.heap.size, 0, none⟩) M M) ∧ BI w' w3.heap.size (csV (evenB r F M) F M) ∧ Below w3.heap.size w3.drew w' := counts_ok (hB3.sm.drewN 1) HCAP.out
  clear hct hev hRB
  go_wp2_with fail
  go_region_held3 (fun W => W.cell? ⟨w.heap.size, 0, none⟩ = some (.pointer (some ⟨P.pp, 0, none⟩)) ∧ W.cell? ⟨P.pp, 0, none⟩ = some (.pointer (some ⟨P.sb.s, 0, none⟩)) ∧ W.cell? ⟨w2.heap.size, 1, none⟩ = some (.int .i64 (F : Nat)) ∧ W.cell? ⟨w2.heap.size, 2, none⟩ = some (.int .i64 (M : Nat)))
    (first | exact ⟨e0, e1, e2, e3⟩ | exact ⟨g0, g1, g2, g3⟩)
    ((go_at_call 116; refine hct1.mono ?_; rintro e w4 ⟨rfl, hBI4, hB4⟩; have g0 : w4.cell? ⟨w.heap.size, 0, none⟩ = some (.pointer (some ⟨P.pp, 0, none⟩)) := (by rw [((f0.drewN 1).below hB4 f0.lt).cell]; rfl); have g1 : w4.cell? ⟨P.pp, 0, none⟩ = some (.pointer (some ⟨P.sb.s, 0, none⟩)) := (by rw [((f1.drewN 1).below hB4 f1.lt).cell]; rfl); have g2 : w4.cell? ⟨w2.heap.size, 1, none⟩ = some (.int .i64 (F : Nat)) := (by rw [((f9.drewN 1).below hB4 f9.lt).cell]; rfl); have g3 : w4.cell? ⟨w2.heap.size, 2, none⟩ = some (.int .i64 (M : Nat)) := (by rw [((f9.drewN 1).below hB4 f9.lt).cell]; rfl)))
  -- behind the counts
  have f0' := (f0.drewN 1).below hB4 f0.lt
  have f1' : PW w4 P.pp P.sb.s P.tt k := Blk.below (f1.drewN 1) hB4 f1.lt
  have f9' := (f9.drewN 1).below hB4 f9.lt
  have f2' := (f2.drewN 1).below hB4 f2.lt
  have sm4 := (hB3.sm.drewN 1).below hB4
  have tk4 := (hB3.tk.drewN 1).below hB4
  obtain ⟨⟨sl3, hsl3⟩, _⟩ := hB3.tf
  have b14 := (hsl3.drewN 1).below hB4 hsl3.lt
  have tm4 := (htm3.drewN 1).below' hB4
  have hT4 : Tab w4 := Tab.below (w := w3.drewN 1) hB3.hT hB4
  have htgl := htm3.hg.lt
  have hbl4 := hBI4.lt
  have hc4 : w4.cell? ⟨P.pp, 1, none⟩ = some (.pointer (some ⟨P.tt, 0, none⟩)) := f1'.c1
  have SEG := Lib.hid (fun q (hq : q < F ∨ F + M ≤ q) => segC_even (r := r) (F := F) (M := M) hq)
  have hO4 : Only (P.mv k) w w4 := by
    have hO9 : Only (P.mv k) w w3 := (Only.of_below (hB0.trans (hB9.mono hB0.size))).trans' (Y := RGB.mb ⟨P.sb, P.pp, P.tt, k, .stp (w.heap.size + 1) w.heap.size, 0, 0, 0⟩) ⟨hO3.os, hO3.tape, hO3.output, hO3.size, hO3.block⟩ fun i hi q => by
      rcases q with (q | q) | q | q
      · exact .inl (.inl (.inr (.inl q)))
      · exact .inl (.inl (.inr (.inr (.inr q))))
      · exact .inr q
      · have q' : i = w.heap.size + 1 := q
        omega
    exact hO9.trans (Only.of_below (w := w3) ⟨hB4.os, hB4.tape, hB4.output, hB4.size, hB4.block⟩)
  have hmx : Tryz.prog.follows .mixedOrders = true := by kernel_rfl
  have hrest := Lib.hid hB3
  have H2 := Lib.hid h2
  have HS8 := Lib.hid hm8
  have hF8 : (F : Int) ≤ 512 := by have := pow_le h2; have := HWIN.out; omega
  clear htm3 f0 f1 f9 f2 e0 e1 e2 e3 hsl3 hct1 hB3
  go_wp2_with fail
  go_loopw [71] (fun i wr => ∃ (j : Nat) (ys tt' : List Int), j ≤ M ∧ i = .int .i64 j ∧ TM wr P.tt P.tg P.tc (2 ^ h) ys tt' ∧ Rt ys h ∧ (∀ q, q < 2 ^ h → nth ys q = if F ≤ q ∧ q < F + j then ((segC (evenB r F M) q : Nat) : Int) else ((segC r q : Nat) : Int)) ∧ Only (fun i => i = P.tg) w4 wr) (fun i _ => M - (intOf i).toNat)
  case atStart => exact ⟨0, _, t0, Nat.zero_le _, rfl, tm4, hrt, fun q hq => by rw [if_neg (by omega), nth_csV hq, Nat.zero_add], Only.refl _ _⟩
  case round =>
    obtain ⟨j, ys, tt', hj, rfl, htmr, hrty, hys, hOr⟩ := hrel
    have npp : ¬ P.pp = P.tg := by obtain ⟨cs, hh, _⟩ := tm4.hg; exact fun e => Blk.ne_ f1' hh (by decide) e
    have n0 : ¬ w.heap.size = P.tg := by have := hlts P.tg (.inr (.inr (.inr rfl))); omega
    have n9' : ¬ w2.heap.size = P.tg := by have := hlts P.tg (.inr (.inr (.inr rfl))); omega
    have u0 := f0'.only hOr n0
    have u1 : PW wr P.pp P.sb.s P.tt k := Blk.only f1' hOr npp
    have u9 := f9'.only hOr n9'
    have v0 : wr.cell? ⟨w.heap.size, 0, none⟩ = some (.pointer (some ⟨P.pp, 0, none⟩)) := by rw [u0.cell]; rfl
    have v1 := u1.c1
    have v2 : wr.cell? ⟨w2.heap.size, 1, none⟩ = some (.int .i64 (F : Nat)) := by rw [u9.cell]; rfl
    by_cases hlt : j < M
    · have ncs : ¬ w3.heap.size = P.tg := by omega
      have hbi := hBI4.only hOr ncs
      have vc := hbi.cell (k := j) (by rw [csV_len]; exact hlt)
      rw [nth_csV hlt] at vc
      have j0 : (0 : Int) ≤ (j : Int) := by omega
      have j1 : (j : Int) < (M : Int) := by omega
      have n1 : IntKind.i64.wrap ((F : Int) + (j : Int)) = (F : Int) + (j : Int) := IntWalk.i64_in _ (by omega)
      have n2 : IntKind.i64.wrap ((j : Int) + 1) = (j : Int) + 1 := IntWalk.i64_in _ (by omega)
      have hset := TSet_ok (htmr.drewN 1) hrty (F + j) ((segC (evenB r F M) (F + j) : Nat) : Int) (by have := HWIN.out; omega) (by have := segC_le (evenB r F M) (F + j); omega)
      have hcell := hys
      push_cast at hset
      obtain ⟨C, hC⟩ : ∃ C, C = segC (evenB r F M) (F + j) := ⟨_, rfl⟩
      rw [← hC] at hset vc
      have HC := Lib.hid hC
      have HYS := Lib.hid hys
      have HRTY := Lib.hid hrty
      have hrt2 : Rt (ys.set (F + j) (C : Int)) h := hrty.set (F + j) (by omega) (by have := segC_le (evenB r F M) (F + j); omega)
      have HRT2 := Lib.hid hrt2
      have HLEN := Lib.hid hrty.pow
      have hset' : Calls Tryz.prog 131 #[.pointer (some ⟨P.tt, 0, none⟩), .int .i64 ((F : Int) + (j : Int)), .int .i64 (C : Int)] wr.drew fun e w' => e = .returned (.int .i64 0) ∧ (∃ t', TM w' P.tt P.tg P.tc (2 ^ h) (ys.set (F + j) (C : Int)) t') ∧ wr.drew.grownBy w' (some P.tg) := hset
      clear hset hC hys hrty hrt2 hcell
      go_wp2_with fail
      go_region_held3 (fun W => W.cell? ⟨w.heap.size, 0, none⟩ = some (.pointer (some ⟨P.pp, 0, none⟩)) ∧ W.cell? ⟨P.pp, 1, none⟩ = some (.pointer (some ⟨P.tt, 0, none⟩)) ∧ W.cell? ⟨w2.heap.size, 1, none⟩ = some (.int .i64 (F : Nat)))
        (first | exact ⟨v0, v1, v2⟩ | exact ⟨x0, x1, x2⟩)
        ((go_at_call 131; refine hset'.mono ?_; rintro e w5 ⟨rfl, ⟨t5, htm5⟩, hg5⟩; have x0 : w5.cell? ⟨w.heap.size, 0, none⟩ = some (.pointer (some ⟨P.pp, 0, none⟩)) := (by rw [((u0.drewN 1).grown hg5 (by intro e; injection e with e; exact n0 e)).cell]; rfl); have x1 : w5.cell? ⟨P.pp, 1, none⟩ = some (.pointer (some ⟨P.tt, 0, none⟩)) := (by rw [((Blk.drewN u1 1).grown hg5 (by intro e; injection e with e; exact npp e)).cell]; rfl); have x2 : w5.cell? ⟨w2.heap.size, 1, none⟩ = some (.int .i64 (F : Nat)) := (by rw [((u9.drewN 1).grown hg5 (by intro e; injection e with e; exact n9' e)).cell]; rfl)))
      all_goals go_wp2_with fail
      all_goals go_round
      case rel =>
        refine ⟨j + 1, _, t5, by omega, by go_num, htm5, HRT2.out, fun q hq => ?_, hOr.trans (show Only (fun i => i = P.tg) wr w5 from (let q : Only (fun i => i = P.tg) wr.drew w5 := Only.of_grown hg5 (fun r e => by injection e with e; exact e.symm); ⟨q.os,q.tape,q.output,q.size,q.block⟩))⟩
        rw [nth_set (by rw [HLEN.out]; have := HWIN.out; omega)]
        by_cases e : q = F + j
        · rw [if_pos e, if_pos (by omega), e, HC.out]
        · rw [if_neg e, HYS.out q hq]
          by_cases e2 : F ≤ q ∧ q < F + j
          · rw [if_pos e2, if_pos (by omega)]
          · rw [if_neg e2, if_neg (by omega)]
      case measure => simp [intOf]; omega
    · obtain rfl : j = M := by omega
      have hfin : ys = csV (evenB r F j) 0 (2 ^ h) := nth_ext (by rw [hrty.pow, csV_len]) fun q hq => by
        rw [hrty.pow] at hq
        rw [hys q hq, nth_csV hq, Nat.zero_add]
        by_cases e2 : F ≤ q ∧ q < F + j
        · rw [if_pos e2]
        · rw [if_neg e2, SEG.out q (by omega)]
      subst hfin
      have n7 : ¬ w.heap.size + 1 + 1 = P.tg := by have := hlts P.tg (.inr (.inr (.inr rfl))); omega
      have n1' : ¬ w.heap.size + 1 = P.tg := by have := hlts P.tg (.inr (.inr (.inr rfl))); omega
      have u7 := f2'.only hOr n7
      have u5 := b14.only hOr n1'
      obtain ⟨y0, y1, y2, y3⟩ := u9.four
      obtain ⟨z0, z1, z2, z3⟩ := u7.four
      obtain ⟨q0, q1, q2, q3⟩ := u7.frozens
      have v5 : wr.cell? ⟨w.heap.size + 1, 0, none⟩ = some (.int .i64 sl3) := by rw [u5.cell]; rfl
      go_wp2_with fail
      go_region
      all_goals go_wp2_with fail
      all_goals refine bodyPost_ret (results_t_c_t rfl _ rfl (u7.put4 _ _ _ _) Tryz.underlying30 (by kernel_rfl)) rfl ?_
      all_goals have hFe := HFE.out
      all_goals have hMe := HME.out
      all_goals rw [hFe, hMe]
      all_goals refine ⟨⟨sl3, rfl⟩, ?_⟩
      all_goals (
        obtain ⟨⟨xs6, t6, p6⟩, o6⟩ := step_end hp h1 h2 hO4 hT4 sm4 tk4 f1' hrest.out htmr hOr (.int .i64 1) (.int .i64 (F : Nat)) (.int .i64 (j : Nat)) (.int .i64 (capN h : Nat))
        exact ⟨⟨xs6, t6, p6.below (below_drewN (Below.refl _ _) 1)⟩, o6.drew⟩)
end
end Go.Proofs.YtaonkbfekadalaaGreatDoor
/- The step of a change of a row that lays all anew, in another capacity. -/
namespace Go.Proofs.YtaonkbfekadalaaGreatDoor
open Go.RowKit
set_option linter.unusedVariables false

section
variable {w w' : World} {P : PB} {k : Option TB} {h T : Nat} {r : List Bool} {xs t L : List Int} {pd : Option Int}
theorem TK.only1 {g : Nat} {ty : TypeId} {cs : Array Value} (h : TK w k t) (ho : Only (fun i => i = g) w w') (hb : Blk w g ty cs) (n1 : (55 : TypeId) ≠ ty) (n2 : (101 : TypeId) ≠ ty) (n3 : (133 : TypeId) ≠ ty) : TK w' k t := h.only ho (by
  rintro b rfl
  obtain ⟨⟨e1, e2, e3⟩, _⟩ := h
  exact ⟨e1.ne_ hb n1, e2.ne_ hb n2, e3.hp.ne_ hb n3, fun q => e3.hm.not_cells hb q.symm⟩)
/-- How a step that lays all anew ends. -/
theorem step_end2 {w3 w4 : World} {b' : SB} {h' tt tg tc : Nat} {r1 : List Bool} {xs3 t3 tt4 : List Int} {cs : Array Value} (hp : RP w P k h r xs t L pd T) (hO : Only (mvK k) w w3) (hT3 : Tab w3) (hfr : b'.from (w.heap.size + 3)) (hh1 : 2 ≤ h') (hh2 : h' ≤ 9)
    (sm3 : SM w3 b' (capN h') r1 xs3) (tk3 : TK w3 k t3) (hpw : Blk w3 P.pp 108 cs) (hc0 : ∀ u, cs[0]? ≠ some (.int .u8 u)) (hits : its r1 xs3 = L) (hag : ∀ b, k = some b → Agree t3 L (pos r1) pd) (htl : t3.length = T) (hI : ∀ j, inH (nth xs3 j))
    (sm4 : SM w4 b' (capN h') r1 xs3) (pw4 : PW w4 P.pp b'.s tt k) (tm4 : TM w4 tt tg tc (2 ^ h') (csV r1 0 (2 ^ h')) tt4) (htt : w3.heap.size ≤ tt) (htg : w3.heap.size ≤ tg) (hO4 : Only (fun i => i = P.pp) w3 w4) :
    (∃ (P' : PB) (xs' t' : List Int), RP w4 P' k h' r1 xs' t' L pd T ∧ P'.pp = P.pp ∧ ∀ i, P'.has i → P.has i ∨ w.heap.size + 3 ≤ i) ∧ Only (P.mv k) w w4 := by
  have l3 := sm3.lt (.inl rfl)
  have g3 := hfr _ (.inl rfl)
  have hs3 := hO.size
  have hs4 := hO4.size
  have npp : P.pp ≠ 2 := hpw.ne2 hT3 hc0
  have hT4 : Tab w4 := hT3.only hO4 (by rintro i rfl; exact npp)
  have tk4 := tk3.only1 hO4 hpw (by decide) (by decide) (by decide)
  refine ⟨⟨⟨b', P.pp, tt, tg, tc⟩, xs3, t3, ⟨⟨sm4, pw4, ⟨tt4, tm4⟩, ⟨hh1, hh2⟩, hI, ?_⟩, tk4, hT4, hits, hag, htl⟩, rfl, ?_⟩, ?_⟩
  · have := sm3.lt (.inr (.inl rfl))
    show b'.g ≠ tg
    omega
  · rintro i (hi | q | q | q)
    · exact .inr (hfr i hi)
    · exact .inl (.inr (.inl q))
    · have q' : i = tt := q
      exact .inr (by omega)
    · have q' : i = tg := q
      exact .inr (by omega)
  · exact (hO.mono fun i _ q => .inr q).trans (hO4.mono fun i _ q => .inl (.inr (.inl q)))
/-- A block between the old ones and the row's new ones may be written. -/
theorem RP.past {P' : PB} {w0 : World} {h' : Nat} {r1 : List Bool} {xs3 t3 : List Int} {m : Nat} (hp : RP w P k h r xs t L pd T) (hp' : RP w0 P' k h' r1 xs3 t3 L pd T) (hf : ∀ i, P'.has i → P.has i ∨ w.heap.size + 3 ≤ i) (hO : Only (fun i => i = w.heap.size + m) w0 w') (hm : m < 3) :
    RP w' P' k h' r1 xs3 t3 L pd T := by
  have hT := hp.hT.pos
  refine ⟨hp'.pm.only hO ?_, hp'.tk.only hO ?_, hp'.hT.only hO (by rintro i rfl; omega), hp'.its, hp'.ag, hp'.tl⟩
  · rintro i hi rfl
    rcases hf _ hi with q | q
    · have := hp.pm.lt q; omega
    · omega
  · rintro b rfl
    obtain ⟨l1, l2, l3, l4⟩ := hp.tk.lt b rfl
    refine ⟨?_, ?_, ?_, ?_⟩ <;> omega
set_option maxRecDepth 100000 in
set_option maxHeartbeats 4000000 in
theorem step_size (hp : RP w P k h r xs t L pd T) {sg : Nat} (hsg : sg < 2 ^ h) (slot : Int) (hs1 : -1 ≤ slot) (hs2 : slot ≤ (capN h : Nat)) {K : Int} {h' M' : Nat} (hK : K = 2 ∨ K = 3) (hh1 : 2 ≤ h') (hh2 : h' ≤ 9) (hN : cnt r (capN h) ≤ capN h')
    (hst : pickV (csV r 0 (2 ^ h)) sg h = (K, 0, ((M' : Nat) : Int), ((capN h' : Nat) : Int))) (hroom : Room r sg h) :
    Calls Tryz.prog 77 #[.pointer (some ⟨P.pp, 0, none⟩), .int .i64 (sg : Nat), .int .i64 slot] w fun e w' =>
      (∃ sl, e = .returned (.tuple #[.int .i64 sl, stepE (pickV (csV r 0 (2 ^ h)) sg h), .int .i64 0])) ∧
      (∃ (P' : PB) (xs' t' : List Int), RP w' P' k h' (sizeB h' (cnt r (capN h))) xs' t' L pd T ∧ P'.pp = P.pp ∧ ∀ i, P'.has i → P.has i ∨ w.heap.size ≤ i) ∧ Only (P.mv k) w w' := by
  obtain ⟨t0, hTM⟩ := hp.pm.tm
  have hrt := csV_rt r (h := h) hp.pm.hh.2
  obtain ⟨h1, h2⟩ := hp.pm.hh
  have hsm := hp.pm.sm
  have hn := hsm.hn
  -- the boxes
  have b0 := Blk.made w 64 #[.pointer (some ⟨P.pp, 0, none⟩)]
  have b1 := Blk.made (w.alloc (.cells #[.pointer (some ⟨P.pp, 0, none⟩)] 64)) 3 #[.int .i64 slot]
  have b2 := Blk.made ((w.alloc (.cells #[.pointer (some ⟨P.pp, 0, none⟩)] 64)).alloc (.cells #[.int .i64 slot] 3)) 30 #[.int .i64 0, .int .i64 0, .int .i64 0, .int .i64 0]
  simp only [World.size_alloc] at b1 b2
  replace b0 := (b0.alloc (.cells #[.int .i64 slot] 3)).alloc (.cells #[.int .i64 0, .int .i64 0, .int .i64 0, .int .i64 0] 30)
  replace b1 := b1.alloc (.cells #[.int .i64 0, .int .i64 0, .int .i64 0, .int .i64 0] 30)
  have hB0 : Below w.heap.size w (((w.alloc (.cells #[.pointer (some ⟨P.pp, 0, none⟩)] 64)).alloc (.cells #[.int .i64 slot] 3)).alloc (.cells #[.int .i64 0, .int .i64 0, .int .i64 0, .int .i64 0] 30)) :=
    (((Below.refl _ w).alloc (Nat.le_refl _) _).alloc (by simp) _).alloc (by simp; omega) _
  have hz0 : (((w.alloc (.cells #[.pointer (some ⟨P.pp, 0, none⟩)] 64)).alloc (.cells #[.int .i64 slot] 3)).alloc (.cells #[.int .i64 0, .int .i64 0, .int .i64 0, .int .i64 0] 30)).heap.size = w.heap.size + 3 := by simp
  have hp0 := hp.below hB0
  have hlts : ∀ i, P.has i → i < w.heap.size := fun i hi => hp.pm.lt hi
  generalize hW0 : (((w.alloc (.cells #[.pointer (some ⟨P.pp, 0, none⟩)] 64)).alloc (.cells #[.int .i64 slot] 3)).alloc (.cells #[.int .i64 0, .int .i64 0, .int .i64 0, .int .i64 0] 30)) = W0 at *
  have hcs := TCountsC_ok (hTM.below' hB0) hrt
  have c0 : W0.cell? ⟨w.heap.size, 0, none⟩ = some (.pointer (some ⟨P.pp, 0, none⟩)) := by rw [b0.cell]; rfl
  have cp1 := hp0.pm.pw.c1
  rw [hst]
  have HN := Lib.hid hN
  have HST := Lib.hid hst
  have hmay := fun W => May_ok hh1 hh2 W
  clear hN
  go_enter Tryz.func77, Tryz.ntmps77
  go_wp2_with fail
  refine hcs.mono ?_
  rintro e w1 ⟨⟨g', cap', rfl, hg', hcap, hBI⟩, hB1⟩
  have hpk := Pick_ok (c := cap') (csV_len r 0 (2 ^ h)) (RI_of_BI hBI) (csV_small _ _ _) h1 h2 hsg hcap (hp0.hT.below hB1) hroom
  rw [hst] at hpk
  unfold stepE at hpk
  go_wp2_with fail
  refine hpk.mono ?_
  rintro e w2 ⟨rfl, hB2⟩
  clear hpk hst
  have hBa := hB1.trans (hB2.mono hB1.size)
  have hB9 := Below.alloc hBa hBa.size (.cells #[.int .i64 K, .int .i64 0, .int .i64 (M' : Nat), .int .i64 (capN h' : Nat)] 30)
  have k9 := Blk.made w2 30 #[.int .i64 K, .int .i64 0, .int .i64 (M' : Nat), .int .i64 (capN h' : Nat)]
  have sz9 := hBa.size
  have n9 : ¬ (w2.heap.size < w.heap.size + 3) := by omega
  have hp9 := hp0.below hB9
  have b09 := b0.below hB9 b0.lt
  have b19 := b1.below hB9 b1.lt
  have b29 := b2.below hB9 b2.lt
  have hsz9 : (w2.alloc (.cells #[.int .i64 K, .int .i64 0, .int .i64 (M' : Nat), .int .i64 (capN h' : Nat)] 30)).heap.size = w2.heap.size + 1 := by simp
  generalize hW9 : w2.alloc (.cells #[.int .i64 K, .int .i64 0, .int .i64 (M' : Nat), .int .i64 (capN h' : Nat)] 30) = W9 at *
  have d0 : W9.cell? ⟨w.heap.size, 0, none⟩ = some (.pointer (some ⟨P.pp, 0, none⟩)) := by rw [b09.cell]; rfl
  have d1 := hp9.pm.pw.c0
  have dv : W9.cell? ⟨w.heap.size + 1, 0, none⟩ = some (.int .i64 slot) := by rw [b19.cell]; rfl
  obtain ⟨d2, d3, d4, d5⟩ := k9.four
  have hmfw : ∀ (fn : Fn) (first cap : Array Value) (w : World), (Instr.makeFunc fn first cap).run Tryz.prog w = .ok (.func fn first cap) w := fun _ _ _ _ => rfl
  have hct := SCount_ok (hp9.pm.sm.drewN 1) 0 (max slot 0).toNat (Nat.zero_le _) (by omega)
  rw [show (((max slot 0).toNat : Nat) : Int) = max slot 0 by omega] at hct
  generalize cnt r (max slot 0).toNat - cnt r 0 = A at hct
  have hct' : Calls Tryz.prog 133 #[.pointer (some ⟨P.sb.s, 0, none⟩), .int .i64 0, .int .i64 (max slot 0)] W9.drew fun x w' => x = .returned (.tuple #[.int .i64 (A : Nat), .int .i64 0]) ∧ W9.drew = w' := hct
  clear hct
  have hp10 := hp9.below (below_drewN (Below.refl _ W9) 2)
  have hrs : Calls Tryz.prog 134 #[.pointer (some ⟨P.sb.s, 0, none⟩), .int .i64 (capN h' : Nat), tellF P.pp .dir] W9.drew.drew _ := Resize_ok hp10.pm.sm hp10.hT hp10.pm.pw hp10.tk hp10.pm.hI hp10.its hp10.ag hp10.tl hh1 hh2 rfl HN.out
  unfold tellF at hrs
  dsimp only at hrs
  have hfar : ∀ (g : Nat) (ty : TypeId) (cs : Array Value) (w3 : World), Blk W9 g ty cs → ty ≠ 133 → Only (mvK k) W9.drew.drew w3 → Blk w3 g ty cs := fun g ty cs w3 hb t133 hO => (hb.drewN 2).only hO (hp9.tk.far hb t133)
  have FAR := Lib.hid hfar
  clear hfar
  have hend : ∀ (b' : SB) (xs3 t3 : List Int) (w3 w4 : World) (tt tg tc : Nat) (tt4 : List Int), SM w3 b' (capN h') (sizeB h' (cnt r (capN h))) xs3 → TK w3 k t3 → its (sizeB h' (cnt r (capN h))) xs3 = L → (∀ b, k = some b → Agree t3 L (pos (sizeB h' (cnt r (capN h)))) pd) → t3.length = T → (∀ j, inH (nth xs3 j)) → b'.from W9.drew.drew.heap.size → PW w3 P.pp P.sb.s P.tt k → Only (mvK k) W9.drew.drew w3 →
      SM w4 b' (capN h') (sizeB h' (cnt r (capN h))) xs3 → PW w4 P.pp b'.s tt k → TM w4 tt tg tc (2 ^ h') (csV (sizeB h' (cnt r (capN h))) 0 (2 ^ h')) tt4 → w3.heap.size ≤ tt → w3.heap.size ≤ tg → Only (fun i => i = P.pp) w3 w4 →
      (∃ (P' : PB) (xs' t' : List Int), RP w4 P' k h' (sizeB h' (cnt r (capN h))) xs' t' L pd T ∧ P'.pp = P.pp ∧ ∀ i, P'.has i → P.has i ∨ w.heap.size + 3 ≤ i) ∧ Only (P.mv k) w w4 := by
    intro b' xs3 t3 w3 w4 tt tg tc tt4 q1 q2 q3 q4 q5 q6 q7 q8 q9 z1 z2 z3 z4 z5 z6
    have hO : Only (mvK k) w w3 := (Only.of_below (hB0.trans (hB9.mono hB0.size))).trans (w' := W9) ⟨q9.os, q9.tape, q9.output, q9.size, q9.block⟩
    have hsz : w.heap.size + 3 ≤ W9.heap.size := by omega
    refine step_end2 hp hO ?_ ?_ hh1 hh2 q1 q2 q8 ?_ q3 q4 q5 q6 z1 z2 z3 z4 z5 z6
    · exact hp9.hT.only (⟨q9.os, q9.tape, q9.output, q9.size, q9.block⟩ : Only (mvK k) W9 w3) (hp9.tk.ne2 hp9.hT)
    · exact fun i hi => Nat.le_trans hsz (q7 i hi)
    · intro u hu; cases hu
  have HEND := Lib.hid hend
  clear hend
  rcases hK with rfl | rfl
  all_goals (go_wp2_with fail)
  rotate_left
  · refine (hmay _).mono ?_
    rintro e w3 ⟨rfl, rfl⟩
    go_wp2_with fail
    go_region_held3 (fun W => W.cell? ⟨w.heap.size, 0, none⟩ = some (.pointer (some ⟨P.pp, 0, none⟩)) ∧ W.cell? ⟨P.pp, 0, none⟩ = some (.pointer (some ⟨P.sb.s, 0, none⟩)) ∧ W.cell? ⟨w.heap.size + 1, 0, none⟩ = some (.int .i64 slot))
      (first | exact ⟨d0, d1, dv⟩)
      ((go_at_call 133; refine hct'.mono ?_; rintro e w3 ⟨rfl, rfl⟩))
    go_wp2_with fail
    go_region_held3 (fun W => W.cell? ⟨w.heap.size, 0, none⟩ = some (.pointer (some ⟨P.pp, 0, none⟩)) ∧ W.cell? ⟨P.pp, 0, none⟩ = some (.pointer (some ⟨P.sb.s, 0, none⟩)) ∧ W.cell? ⟨w2.heap.size, 3, none⟩ = some (.int .i64 (capN h' : Nat)))
      (first | exact ⟨d0, d1, d5⟩ | exact ⟨e0, e1, e5⟩)
      ((go_at_call 134; refine hrs.mono ?_; rintro e w3 ⟨b', xs3, t3, rfl, q1, q2, q3, q4, q5, q6, q7, q8, q9⟩; have f0 := FAR.out _ _ _ _ b09 (by decide) q9; have f9 := FAR.out _ _ _ _ k9 (by decide) q9; have e0 : w3.cell? ⟨w.heap.size, 0, none⟩ = some (.pointer (some ⟨P.pp, 0, none⟩)) := (by rw [f0.cell]; rfl); have e1 : w3.cell? ⟨P.pp, 0, none⟩ = some (.pointer (some ⟨P.sb.s, 0, none⟩)) := q8.c0; have e5 : w3.cell? ⟨w2.heap.size, 3, none⟩ = some (.int .i64 (capN h' : Nat)) := (by rw [f9.cell]; rfl)))
    have f7 := FAR.out _ _ _ _ b29 (by decide) q9
    go_wp2_with fail
    refine (use_ok q1 q8 ⟨hh1, hh2⟩).mono ?_
    rintro e w4 ⟨⟨vv, rfl⟩, ⟨tt, tg, tc, tt4, z2, z3, z4, z5⟩, z1, z6⟩
    obtain ⟨⟨P', xs4, t4, hp', hpp', hf'⟩, hO5⟩ := HEND.out _ _ _ _ _ _ _ _ _ q1 q2 q3 q4 q5 q6 q7 q8 q9 z1 z2 z3 z4 z5 z6
    have hfin : ∀ W, Only (fun i => i = w.heap.size + 1 + 1) w4 W → (∃ (P' : PB) (xs' t' : List Int), RP W P' k h' (sizeB h' (cnt r (capN h))) xs' t' L pd T ∧ P'.pp = P.pp ∧ ∀ i, P'.has i → P.has i ∨ w.heap.size ≤ i) ∧ Only (P.mv k) w W :=
      fun W hW => ⟨⟨P', xs4, t4, hp.past hp' hf' (m := 2) hW (by decide), hpp', fun i hi => (hf' i hi).imp id fun q => by omega⟩, hO5.trans' hW fun i hi q => absurd q (by omega)⟩
    have hput : Only (fun i => i = w.heap.size + 1 + 1) w4 ((((((w4.drewN 1).setCell ⟨w.heap.size + 1 + 1, 0, none⟩ (.int .i64 3)).setCell ⟨w.heap.size + 1 + 1, 1, none⟩ (.int .i64 0)).setCell ⟨w.heap.size + 1 + 1, 2, none⟩ (.int .i64 (M' : Nat))).setCell ⟨w.heap.size + 1 + 1, 3, none⟩ (.int .i64 (capN h' : Nat)))) :=
      (((((Only.refl (fun i => i = w.heap.size + 1 + 1) w4).drewN 1).put (p := ⟨w.heap.size + 1 + 1, 0, none⟩) (.inl rfl) _).put (p := ⟨w.heap.size + 1 + 1, 1, none⟩) (.inl rfl) _).put (p := ⟨w.heap.size + 1 + 1, 2, none⟩) (.inl rfl) _).put (p := ⟨w.heap.size + 1 + 1, 3, none⟩) (.inl rfl) _
    have HPUT := Lib.hid hput
    clear hput
    have HFIN := Lib.hid hfin
    clear hfin
    have l0 := hlts _ (.inr (.inl rfl))
    have b04 := f0.only z6 (by omega)
    have b94 := f9.only z6 (by omega)
    have b74 := f7.only z6 (by omega)
    have c04 : w4.cell? ⟨w.heap.size, 0, none⟩ = some (.pointer (some ⟨P.pp, 0, none⟩)) := by rw [b04.cell]; rfl
    obtain ⟨y0, y1, y2, y3⟩ := b94.four
    obtain ⟨v0, v1, v2, v3⟩ := b74.four
    obtain ⟨r0, r1, r2, r3⟩ := b74.frozens
    have hnth := PNth_any (hp'.pm.below (below_drewN (Below.refl _ _) 1)) (hp'.hT.below (below_drewN (Below.refl _ _) 1)) A
    rw [hpp'] at hnth
    go_wp2_with fail
    go_region_with (go_at_call 135; refine hnth.mono ?_; rintro e w5 ⟨⟨sl, rfl, _⟩, rfl⟩)
    all_goals go_wp2_with fail
    all_goals refine bodyPost_ret (results_t_c_t rfl _ rfl (b74.put4 _ _ _ _) Tryz.underlying30 (by kernel_rfl)) rfl ?_
    all_goals refine ⟨⟨sl, rfl⟩, HFIN.out _ ?_⟩
    all_goals exact HPUT.out
  · go_region_held3 (fun W => W.cell? ⟨w.heap.size, 0, none⟩ = some (.pointer (some ⟨P.pp, 0, none⟩)) ∧ W.cell? ⟨P.pp, 0, none⟩ = some (.pointer (some ⟨P.sb.s, 0, none⟩)) ∧ W.cell? ⟨w.heap.size + 1, 0, none⟩ = some (.int .i64 slot))
      (first | exact ⟨d0, d1, dv⟩)
      ((go_at_call 133; refine hct'.mono ?_; rintro e w3 ⟨rfl, rfl⟩))
    go_wp2_with fail
    go_region_held3 (fun W => W.cell? ⟨w.heap.size, 0, none⟩ = some (.pointer (some ⟨P.pp, 0, none⟩)) ∧ W.cell? ⟨P.pp, 0, none⟩ = some (.pointer (some ⟨P.sb.s, 0, none⟩)) ∧ W.cell? ⟨w2.heap.size, 3, none⟩ = some (.int .i64 (capN h' : Nat)))
      (first | exact ⟨d0, d1, d5⟩ | exact ⟨e0, e1, e5⟩)
      ((go_at_call 134; refine hrs.mono ?_; rintro e w3 ⟨b', xs3, t3, rfl, q1, q2, q3, q4, q5, q6, q7, q8, q9⟩; have f0 := FAR.out _ _ _ _ b09 (by decide) q9; have f9 := FAR.out _ _ _ _ k9 (by decide) q9; have e0 : w3.cell? ⟨w.heap.size, 0, none⟩ = some (.pointer (some ⟨P.pp, 0, none⟩)) := (by rw [f0.cell]; rfl); have e1 : w3.cell? ⟨P.pp, 0, none⟩ = some (.pointer (some ⟨P.sb.s, 0, none⟩)) := q8.c0; have e5 : w3.cell? ⟨w2.heap.size, 3, none⟩ = some (.int .i64 (capN h' : Nat)) := (by rw [f9.cell]; rfl)))
    have f7 := FAR.out _ _ _ _ b29 (by decide) q9
    go_wp2_with fail
    refine (use_ok q1 q8 ⟨hh1, hh2⟩).mono ?_
    rintro e w4 ⟨⟨vv, rfl⟩, ⟨tt, tg, tc, tt4, z2, z3, z4, z5⟩, z1, z6⟩
    obtain ⟨⟨P', xs4, t4, hp', hpp', hf'⟩, hO5⟩ := HEND.out _ _ _ _ _ _ _ _ _ q1 q2 q3 q4 q5 q6 q7 q8 q9 z1 z2 z3 z4 z5 z6
    have hfin : ∀ W, Only (fun i => i = w.heap.size + 1 + 1) w4 W → (∃ (P' : PB) (xs' t' : List Int), RP W P' k h' (sizeB h' (cnt r (capN h))) xs' t' L pd T ∧ P'.pp = P.pp ∧ ∀ i, P'.has i → P.has i ∨ w.heap.size ≤ i) ∧ Only (P.mv k) w W :=
      fun W hW => ⟨⟨P', xs4, t4, hp.past hp' hf' (m := 2) hW (by decide), hpp', fun i hi => (hf' i hi).imp id fun q => by omega⟩, hO5.trans' hW fun i hi q => absurd q (by omega)⟩
    have hput : Only (fun i => i = w.heap.size + 1 + 1) w4 ((((((w4.drewN 1).setCell ⟨w.heap.size + 1 + 1, 0, none⟩ (.int .i64 2)).setCell ⟨w.heap.size + 1 + 1, 1, none⟩ (.int .i64 0)).setCell ⟨w.heap.size + 1 + 1, 2, none⟩ (.int .i64 (M' : Nat))).setCell ⟨w.heap.size + 1 + 1, 3, none⟩ (.int .i64 (capN h' : Nat)))) :=
      (((((Only.refl (fun i => i = w.heap.size + 1 + 1) w4).drewN 1).put (p := ⟨w.heap.size + 1 + 1, 0, none⟩) (.inl rfl) _).put (p := ⟨w.heap.size + 1 + 1, 1, none⟩) (.inl rfl) _).put (p := ⟨w.heap.size + 1 + 1, 2, none⟩) (.inl rfl) _).put (p := ⟨w.heap.size + 1 + 1, 3, none⟩) (.inl rfl) _
    have HPUT := Lib.hid hput
    clear hput
    have HFIN := Lib.hid hfin
    clear hfin
    have l0 := hlts _ (.inr (.inl rfl))
    have b04 := f0.only z6 (by omega)
    have b94 := f9.only z6 (by omega)
    have b74 := f7.only z6 (by omega)
    have c04 : w4.cell? ⟨w.heap.size, 0, none⟩ = some (.pointer (some ⟨P.pp, 0, none⟩)) := by rw [b04.cell]; rfl
    obtain ⟨y0, y1, y2, y3⟩ := b94.four
    obtain ⟨v0, v1, v2, v3⟩ := b74.four
    obtain ⟨r0, r1, r2, r3⟩ := b74.frozens
    have hnth := PNth_any (hp'.pm.below (below_drewN (Below.refl _ _) 1)) (hp'.hT.below (below_drewN (Below.refl _ _) 1)) A
    rw [hpp'] at hnth
    go_wp2_with fail
    go_region_with (go_at_call 135; refine hnth.mono ?_; rintro e w5 ⟨⟨sl, rfl, _⟩, rfl⟩)
    all_goals go_wp2_with fail
    all_goals refine bodyPost_ret (results_t_c_t rfl _ rfl (b74.put4 _ _ _ _) Tryz.underlying30 (by kernel_rfl)) rfl ?_
    all_goals refine ⟨⟨sl, rfl⟩, HFIN.out _ ?_⟩
    all_goals exact HPUT.out
/-- What a step makes of the slots, and of the capacity. -/
def stepB (r : List Bool) (sg h : Nat) : List Bool × Nat :=
  if pickL (csV r 0 (2 ^ h)) sg h ≤ h then (evenB r (winF sg (pickL (csV r 0 (2 ^ h)) sg h)) (2 ^ pickL (csV r 0 (2 ^ h)) sg h), h)
  else if withinV (sumR (csV r 0 (2 ^ h)) 0 (2 ^ h)).toNat h h < 0 then (sizeB (h - 1) (cnt r (capN h)), h - 1)
  else (sizeB (h + 1) (cnt r (capN h)), h + 1)
theorem few_half {n h : Nat} (h2 : 2 ≤ h) (hw : withinV n h h < 0) : 3 ≤ h ∧ n ≤ capN (h - 1) := by
  unfold withinV at hw
  split at hw
  · omega
  · split at hw
    · rename_i h1 h3
      unfold fewV at h3
      split at h3
      · omega
      · refine ⟨by omega, ?_⟩
        have e : (h + h) * 2 ^ h = h * (2 * 2 ^ h) := by rw [← Nat.mul_assoc, Nat.mul_comm h 2, Nat.two_mul]
        rw [e] at h3
        have h4 := Nat.lt_of_mul_lt_mul_left h3
        have h5 : 2 ^ h = 2 * 2 ^ (h - 1) := by
          obtain ⟨m, rfl⟩ : ∃ m, h = m + 1 := ⟨h - 1, by omega⟩
          rw [Nat.add_sub_cancel, Nat.pow_succ, Nat.mul_comm]
        unfold capN
        omega
    · omega
theorem step_any (hp : RP w P k h r xs t L pd T) {sg : Nat} (hsg : sg < 2 ^ h) (slot : Int) (hs1 : -1 ≤ slot) (hs2 : slot ≤ (capN h : Nat)) (hroom : Room r sg h) :
    Calls Tryz.prog 77 #[.pointer (some ⟨P.pp, 0, none⟩), .int .i64 (sg : Nat), .int .i64 slot] w fun e w' =>
      (∃ sl, e = .returned (.tuple #[.int .i64 sl, stepE (pickV (csV r 0 (2 ^ h)) sg h), .int .i64 0])) ∧
      (∃ (P' : PB) (xs' t' : List Int), RP w' P' k (stepB r sg h).2 (stepB r sg h).1 xs' t' L pd T ∧ P'.pp = P.pp ∧ ∀ i, P'.has i → P.has i ∨ w.heap.size ≤ i) ∧ Only (P.mv k) w w' := by
  obtain ⟨h1, h2⟩ := hp.pm.hh
  have hall := sum_all (h := h) hp.pm.lr
  have hcnt : cnt r r.length = cnt r (capN h) := by rw [hp.pm.lr]
  have hcl := cnt_le r (capN h)
  by_cases hk : pickL (csV r 0 (2 ^ h)) sg h ≤ h
  · refine (step_window hp hsg slot hk).mono ?_
    rintro e w' ⟨q1, ⟨xs', t', q2⟩, q3⟩
    unfold stepB
    rw [if_pos hk]
    exact ⟨q1, ⟨P, xs', t', q2, rfl, fun i hi => .inl hi⟩, q3⟩
  · by_cases hf : withinV (sumR (csV r 0 (2 ^ h)) 0 (2 ^ h)).toNat h h < 0
    · obtain ⟨h3, h4⟩ := few_half h1 hf
      rw [hall, hcnt] at h4
      have hpow : 2 ^ h / 2 = 2 ^ (h - 1) := by
        obtain ⟨m, rfl⟩ : ∃ m, h = m + 1 := ⟨h - 1, by omega⟩
        rw [Nat.add_sub_cancel, Nat.pow_succ]; omega
      have hcap : capN h / 2 = capN (h - 1) := by
        unfold capN
        obtain ⟨m, rfl⟩ : ∃ m, h = m + 1 := ⟨h - 1, by omega⟩
        rw [Nat.add_sub_cancel, Nat.pow_succ]; omega
      have hst : pickV (csV r 0 (2 ^ h)) sg h = (3, 0, ((2 ^ h / 2 : Nat) : Int), ((capN (h - 1) : Nat) : Int)) := by
        unfold pickV; rw [if_neg hk, if_pos hf, hcap]
      have := step_size hp hsg slot hs1 hs2 (.inr rfl) (by omega) (by omega) (h' := h - 1) (by omega) hst hroom
      unfold stepB
      rw [if_neg hk, if_pos hf]
      exact this
    · have h9 : h < 9 := (hroom (by omega)).resolve_left hf
      have hcap : 2 * capN h = capN (h + 1) := by unfold capN; rw [Nat.pow_succ]; omega
      have hst : pickV (csV r 0 (2 ^ h)) sg h = (2, 0, ((2 * 2 ^ h : Nat) : Int), ((capN (h + 1) : Nat) : Int)) := by
        unfold pickV; rw [if_neg hk, if_neg hf, hcap]
      have := step_size hp hsg slot hs1 hs2 (.inl rfl) (by omega) (by omega) (h' := h + 1) (by omega) hst hroom
      unfold stepB
      rw [if_neg hk, if_neg hf]
      exact this
end
end Go.Proofs.YtaonkbfekadalaaGreatDoor
