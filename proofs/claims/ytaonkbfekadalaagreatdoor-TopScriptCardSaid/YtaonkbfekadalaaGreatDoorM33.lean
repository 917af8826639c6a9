/- Joined texts: La, Lb, Lc. -/
import Derived.Test.YtaonkbfekadalaaGreatDoorM32
/- A list of handles in memory; what New, Label, Before, Handles, put, First, After, Ahead and Delete of a list come to. -/
namespace Go.Proofs.YtaonkbfekadalaaGreatDoor
open Go.RowKit
set_option linter.unusedVariables false

/-- A list of handles lies there: of the handles L; the table holds t. -/
structure LisM (w : World) (b : TB) (P : PB) (h : Nat) (r : List Bool) (xs t L : List Int) : Prop where
  rp : RP w P (some b) h r xs t L none t.length
  pp : b.pp = P.pp
  de : Dense r h
/-- The blocks of a list. -/
def lisB (b : TB) (P : PB) (i : Nat) : Prop := P.mv (some b) i ∨ i = b.bx ∨ i = b.lb
section
variable {w w' : World} {b : TB} {P : PB} {h : Nat} {r : List Bool} {xs t L : List Int}
theorem LisM.below (hm : LisM w b P h r xs t L) (hb : Below w.heap.size w w') : LisM w' b P h r xs t L := ⟨hm.rp.below hb, hm.pp, hm.de⟩
theorem LisM.lt (hm : LisM w b P h r xs t L) {i : Nat} (hi : lisB b P i) : i < w.heap.size := by
  obtain ⟨l1, l2, l3, l4⟩ := hm.rp.tk.lt b rfl
  rcases hi with (hi | rfl | rfl) | rfl | rfl
  · exact hm.rp.pm.lt hi
  all_goals assumption
theorem LisM.only {X : Nat → Prop} (hm : LisM w b P h r xs t L) (ho : Only X w w') (h1 : ∀ i, lisB b P i → ¬ X i) (h2 : ∀ i, X i → i ≠ 2) : LisM w' b P h r xs t L :=
  ⟨⟨hm.rp.pm.only ho fun i hi => h1 i (.inl (.inl hi)), hm.rp.tk.only ho (by
    rintro b' e
    cases e
    exact ⟨h1 _ (.inr (.inl rfl)), h1 _ (.inr (.inr rfl)), h1 _ (.inl (.inr (.inl rfl))), h1 _ (.inl (.inr (.inr rfl)))⟩), hm.rp.hT.only ho h2, hm.rp.its, hm.rp.ag, hm.rp.tl⟩, hm.pp, hm.de⟩
theorem LisM.c0 (hm : LisM w b P h r xs t L) : w.cell? ⟨b.lb, 0, none⟩ = some (.pointer (some ⟨P.pp, 0, none⟩)) := by
  rw [hm.rp.tk.1.2.1.cell, ← hm.pp]; rfl
theorem LisM.c1 (hm : LisM w b P h r xs t L) : w.cell? ⟨b.lb, 1, none⟩ = some (.pointer (some ⟨b.t, 0, none⟩)) := by
  rw [hm.rp.tk.1.2.1.cell]; rfl
theorem LisM.ag (hm : LisM w b P h r xs t L) : Agree t L (pos r) none := hm.rp.ag b rfl
theorem LisM.len (hm : LisM w b P h r xs t L) : cnt r (capN h) = L.length := by rw [← hm.rp.its, its_len, hm.rp.pm.lr]
set_option maxRecDepth 100000 in
theorem LLabel_any (hm : LisM w b P h r xs t L) {x : Int} (hx : inH x) :
    Calls Tryz.prog 112 #[.pointer (some ⟨b.lb, 0, none⟩), .int .i64 x] w fun e w' => e = .returned (.tuple #[.int .i64 (askV t x).1, .int .i64 (askV t x).2]) ∧ w = w' := by
  have c1 := hm.c1
  have hs := HSlot_any hm.rp.tk.1.2.2 hx
  generalize (askV t x).1 = u at *
  generalize (askV t x).2 = v at *
  go_enter Tryz.func112, Tryz.ntmps112
  go_wp2_with fail
  refine hs.mono ?_
  rintro e w1 ⟨rfl, rfl⟩
  go_wp2_with fail
  go_ret2
  exact ⟨rfl, rfl⟩
set_option maxRecDepth 100000 in
theorem LHandles_ok (hm : LisM w b P h r xs t L) :
    Calls Tryz.prog 113 #[.pointer (some ⟨b.lb, 0, none⟩)] w fun e w' => (∃ v, e = .returned v ∧ OL w' w.heap.size v L) ∧ Below w.heap.size w w' := by
  have c0 := hm.c0
  have hs := PItems_ok hm.rp.pm hm.rp.hT
  rw [hm.rp.its] at hs
  go_enter Tryz.func113, Tryz.ntmps113
  go_wp2_with fail
  refine hs.mono ?_
  rintro e w1 ⟨⟨v, rfl, ho⟩, hB⟩
  go_wp2_with fail
  go_ret
  exact ⟨⟨v, rfl, ho⟩, hB⟩
/-- What Before tells. -/
def befV (t : List Int) (x y : Int) : Bool × Int := if live t x = true then (if live t y = true then (decide (slotV t x < slotV t y), 0) else (false, 17)) else (false, 17)
theorem ask_live {t : List Int} {x : Int} (h : live t x = true) : askV t x = (slotV t x, 0) := by unfold askV; rw [if_pos h]
theorem ask_dead {t : List Int} {x : Int} (h : live t x = false) : askV t x = (0, 17) := by unfold askV; rw [if_neg (by rw [h]; simp)]
set_option maxRecDepth 100000 in
theorem LBefore_any (hm : LisM w b P h r xs t L) {x y : Int} (hx : inH x) (hy : inH y) :
    Calls Tryz.prog 111 #[.pointer (some ⟨b.lb, 0, none⟩), .int .i64 x, .int .i64 y] w fun e w' => e = .returned (.tuple #[.bool (befV t x y).1, .int .i64 (befV t x y).2]) ∧ w = w' := by
  have h1 := LLabel_any hm hx
  have h2 := LLabel_any hm hy
  unfold befV
  cases lx : live t x
  · rw [ask_dead lx] at h1
    rw [if_neg (by simp)]
    go_enter Tryz.func111, Tryz.ntmps111
    go_wp2_with fail
    refine h1.mono ?_
    rintro e w1 ⟨rfl, rfl⟩
    go_wp2_with fail
    go_ret2
    exact ⟨rfl, rfl⟩
  · rw [ask_live lx] at h1
    rw [if_pos rfl]
    cases ly : live t y
    · rw [ask_dead ly] at h2
      rw [if_neg (by simp)]
      generalize slotV t x = u at *
      clear lx ly hm
      go_enter Tryz.func111, Tryz.ntmps111
      go_wp2_with fail
      refine h1.mono ?_
      rintro e w1 ⟨rfl, rfl⟩
      go_wp2_with fail
      refine h2.mono ?_
      rintro e w1 ⟨rfl, rfl⟩
      go_wp2_with fail
      go_ret2
      exact ⟨rfl, rfl⟩
    · rw [ask_live ly] at h2
      rw [if_pos rfl]
      generalize slotV t x = u at *
      generalize slotV t y = v at *
      clear lx ly hm
      go_enter Tryz.func111, Tryz.ntmps111
      go_wp2_with fail
      refine h1.mono ?_
      rintro e w1 ⟨rfl, rfl⟩
      go_wp2_with fail
      refine h2.mono ?_
      rintro e w1 ⟨rfl, rfl⟩
      go_wp2_with fail
      go_ret2
      exact ⟨rfl, rfl⟩

/-- What puts the next handle in. -/
def PutPost (r : List Bool) (t L : List Int) (h : Nat) (sg nx : Nat) (x : Int) (r' : List Bool) (h' : Nat) (t' L' : List Int) : Prop :=
  x = (t.length : Int) + 1 ∧ stepB (insB r sg nx) sg h = (r', h') ∧ t'.length = t.length + 1 ∧ L' = insI L (cnt r nx) x ∧ L'.length = L.length + 1
theorem PutAt.le {r : List Bool} {a : Int} {sg nx : Nat} (hp : PutAt r a sg nx) : nx ≤ r.length := by
  rcases hp with ⟨_, _, rfl⟩ | ⟨b, _, _, ho, rfl⟩
  · omega
  · exact on_lt ho
/-- The blocks of a list that its changes turn lie apart from its box, and from its struct. -/
theorem LisM.nb (hm : LisM w b P h r xs t L) : ¬ P.mv (some b) b.bx ∧ ¬ P.mv (some b) b.lb := by
  obtain ⟨u, hu⟩ := hm.rp.pm.tm
  obtain ⟨⟨k1, k2, k3⟩, _⟩ := hm.rp.tk
  obtain ⟨cs, hk, _⟩ := hm.rp.pm.sm.hb.hg
  constructor
  · rintro (((q | q | q | q) | q | q | q) | q | q)
    · exact k1.ne_ hm.rp.pm.sm.hs (by decide) q
    · exact (hm.rp.pm.sm.hx.ne_ k1 (by decide)) q.symm
    · exact k1.ne_ hm.rp.pm.sm.hb.hp (by decide) q
    · exact k1.ne_ hk (by decide) q
    · exact Blk.ne_ k1 hm.rp.pm.pw (by decide) q
    · exact k1.ne_ hu.hp (by decide) q
    · exact hu.hg.ne_ k1 (by decide) q.symm
    · exact k1.ne_ k3.hp (by decide) q
    · exact k3.hm.not_cells k1 q
  · rintro (((q | q | q | q) | q | q | q) | q | q)
    · exact k2.ne_ hm.rp.pm.sm.hs (by decide) q
    · exact (hm.rp.pm.sm.hx.ne_ k2 (by decide)) q.symm
    · exact k2.ne_ hm.rp.pm.sm.hb.hp (by decide) q
    · exact k2.ne_ hk (by decide) q
    · exact Blk.ne_ k2 hm.rp.pm.pw (by decide) q
    · exact k2.ne_ hu.hp (by decide) q
    · exact hu.hg.ne_ k2 (by decide) q.symm
    · exact k2.ne_ k3.hp (by decide) q
    · exact k3.hm.not_cells k2 q
/-- The row and its table have no block in common; the library's table is none of the latter's. -/
theorem LisM.mvk (hm : LisM w b P h r xs t L) : (∀ i, P.has i → ¬ mvK (some b) i) ∧ ∀ i, mvK (some b) i → i ≠ 2 := by
  obtain ⟨u, hu⟩ := hm.rp.pm.tm
  obtain ⟨cs, hk, _⟩ := hm.rp.pm.sm.hb.hg
  obtain ⟨cs2, hk2, _⟩ := hm.rp.pm.sm.hx
  obtain ⟨cs3, hk3, _⟩ := hu.hg
  have hf := hm.rp.tk
  refine ⟨?_, ?_⟩
  · rintro i ((rfl | rfl | rfl | rfl) | rfl | rfl | rfl)
    · exact hf.far hm.rp.pm.sm.hs (by decide)
    · exact hf.far hk2 (by decide)
    · exact hf.far hm.rp.pm.sm.hb.hp (by decide)
    · exact hf.far hk (by decide)
    · exact hf.far hm.rp.pm.pw (by decide)
    · exact hf.far hu.hp (by decide)
    · exact hf.far hk3 (by decide)
  · obtain ⟨⟨k1, k2, k3⟩, _⟩ := hf
    have h2 := hm.rp.hT 0 (by decide)
    rintro i (rfl | rfl) e
    · rw [← e, k3.hp.cell] at h2; cases h2
    · obtain ⟨D, ⟨es, clock, e1, _⟩, _⟩ := k3.hm
      rw [e] at e1
      simp only [World.cell?, e1] at h2
      cases h2
/-- How a change of a list ends, beside the box of its step. -/
theorem put_close {w0 w1 W : World} {P' : PB} {h' B : Nat} {r' : List Bool} {xs' t' L' : List Int} {Q : List Bool → Nat → List Int → List Int → Prop} (hl : LisM w1 b P' h' r' xs' t' L') (hO : Only (fun i => i = w0.heap.size) w1 W) (hlt : ∀ i, lisB b P i → i < w0.heap.size) (hf : ∀ i, P'.has i → P.has i ∨ B ≤ i) (h2 : 2 < w0.heap.size) (hB : B = w0.heap.size + 1) (hQ : Q r' h' t' L') :
    ∃ (P' : PB) (h' : Nat) (r' : List Bool) (xs' t' L' : List Int), LisM W b P' h' r' xs' t' L' ∧ Q r' h' t' L' ∧ ∀ i, P'.has i → P.has i ∨ w0.heap.size ≤ i := by
  refine ⟨P', h', r', xs', t', L', hl.only hO ?_ ?_, hQ, ?_⟩
  · rintro i ((hi | hi) | hi | hi) rfl
    · rcases hf _ hi with q | q
      · have := hlt _ (.inl (.inl q)); omega
      · omega
    · have := hlt _ (.inl (.inr hi)); omega
    · have := hlt _ (.inr (.inl hi)); omega
    · have := hlt _ (.inr (.inr hi)); omega
  · rintro i rfl; omega
  · intro i hi
    exact (hf i hi).imp id fun q => by omega
set_option maxRecDepth 100000 in
set_option maxHeartbeats 2000000 in
theorem LPut_ok (hm : LisM w b P h r xs t L) (hN : L.length < 2560) (hT : t.length < 1000000) {sg nx : Nat} {bh : Int} (hsg : sg < 2 ^ h) (hp : PutAt r bh sg nx) {s1 s2 s3 s4 : Int} (hst : pickV (csV (insB r sg nx) 0 (2 ^ h)) sg h = (s1, s2, s3, s4)) :
    Calls Tryz.prog 165 #[.pointer (some ⟨b.lb, 0, none⟩), .int .i64 bh] w fun e w' => e = .returned (.tuple #[.int .i64 ((t.length : Int) + 1), .agg #[.int .i64 s1, .int .i64 s2, .int .i64 s3, .int .i64 s4], .int .i64 0]) ∧
      (∃ (P' : PB) (h' : Nat) (r' : List Bool) (xs' t' L' : List Int), LisM w' b P' h' r' xs' t' L' ∧ PutPost r t L h sg nx ((t.length : Int) + 1) r' h' t' L' ∧ ∀ i, P'.has i → P.has i ∨ w.heap.size ≤ i) ∧ Only (P.mv (some b)) w w' := by
  have b0 := Blk.made w 30 #[.int .i64 0, .int .i64 0, .int .i64 0, .int .i64 0]
  have hB0 : Below w.heap.size w (w.alloc (.cells #[.int .i64 0, .int .i64 0, .int .i64 0, .int .i64 0] 30)) := (Below.refl _ w).alloc (Nat.le_refl _) _
  have hz0 : (w.alloc (.cells #[.int .i64 0, .int .i64 0, .int .i64 0, .int .i64 0] 30)).heap.size = w.heap.size + 1 := by simp
  have hm0 := hm.below hB0
  have hlt : ∀ i, lisB b P i → i < w.heap.size := fun i hi => hm.lt hi
  have h2 := hm.rp.hT.pos
  generalize hW0 : w.alloc (.cells #[.int .i64 0, .int .i64 0, .int .i64 0, .int .i64 0] 30) = W0 at *
  have hlen := PLen_ok hm0.rp.pm
  rw [hm0.rp.pm.lr, hm0.len] at hlen
  have htk := HTake_any hm0.rp.tk.1.2.2 hm0.rp.tk.2 0
  have etk : takeV t 0 = (t ++ [0], (t.length : Int) + 1, 0) := by unfold takeV; rw [if_pos (by omega)]
  rw [etk] at htk
  dsimp only at htk
  have c0 := hm0.c0
  have c1 := hm0.c1
  have t1 : decide ((L.length : Int) ≥ 2560) = false := by simp; omega
  have t1' : decide ((2560 : Int) ≤ (L.length : Int)) = false := by simp; omega
  have hle : nx ≤ r.length := hp.le
  have HM0 := Lib.hid hm0
  have HM := Lib.hid hm
  have HLT := Lib.hid hlt
  have HST := Lib.hid hst
  have HN := Lib.hid hN
  have HLE := Lib.hid hle
  have hTT : (t.length : Int) + 1 ≤ 1000000 := by omega
  have hnb : ∀ g, w.heap.size ≤ g → ¬ P.mv (some b) g := fun g hg q => by have := hm.lt (i := g) (.inl q); omega
  have HNB := Lib.hid hnb
  clear hm hm0 hlt hst hN etk hle hnb
  go_enter Tryz.func165, Tryz.ntmps165
  go_wp2_with fail
  refine hlen.mono ?_
  rintro e w1 ⟨rfl, rfl⟩
  go_wp2_with fail
  refine htk.mono ?_
  rintro e w1 ⟨rfl, hH1, hU1⟩
  have hO1 : Only (P.mv (some b)) W0 w1 := Only.of_turn hU1 (.inr (.inl rfl)) (.inr (.inr rfl))
  have hm0 := HM0.out
  have hmv := hm0.mvk
  obtain ⟨⟨k1, k2, k3⟩, k4⟩ := hm0.rp.tk
  have tk1 : TK w1 (some b) (t ++ [0]) := ⟨⟨k1.turn hU1 (k1.ne_ k3.hp (by decide)) (k3.hm.not_cells k1), k2.turn hU1 (k2.ne_ k3.hp (by decide)) (k3.hm.not_cells k2), hH1⟩, by simp; omega⟩
  have pm1 : PM w1 P (some b) h r xs := hm0.rp.pm.only (Only.of_turn (X := mvK (some b)) hU1 (.inl rfl) (.inr rfl)) hmv.1
  have hT1 : Tab w1 := hm0.rp.hT.only (Only.of_turn (X := mvK (some b)) hU1 (.inl rfl) (.inr rfl)) hmv.2
  have rp1 : RP w1 P (some b) h r xs (t ++ [0]) L (some ((t.length : Int) + 1)) (t.length + 1) := ⟨pm1, tk1, hT1, hm0.rp.its, fun b' e => hm0.ag.take, by simp⟩
  have hin := PInsert_ok rp1 hm0.de (by rw [hm0.len]; exact HN.out) hsg hp (x := (t.length : Int) + 1) ⟨by omega, by omega⟩ (fun _ _ => rfl)
  rw [HST.out] at hin
  unfold stepE at hin
  dsimp only at hin
  have b1 := b0.only hO1 (HNB.out _ (Nat.le_refl _))
  have d0 : w1.cell? ⟨b.lb, 0, none⟩ = some (.pointer (some ⟨P.pp, 0, none⟩)) := by rw [tk1.1.2.1.cell, HM.out.pp]; rfl
  clear hm0 k1 k2 k3 tk1 pm1 rp1 hH1 hU1 hmv
  go_wp2_with fail
  refine hin.mono ?_
  rintro e w3 ⟨⟨sl, rfl⟩, ⟨P', xs', t', hp3, hpp, hf3⟩, hO3, hD3⟩
  have b3 := b1.only hO3 (HNB.out _ (Nat.le_refl _))
  have b5 := b3.alloc (.cells #[.int .i64 s1, .int .i64 s2, .int .i64 s3, .int .i64 s4] 30)
  have k5 := Blk.made w3 30 #[.int .i64 s1, .int .i64 s2, .int .i64 s3, .int .i64 s4]
  have hsz1 := hO1.size
  have hsz3 := hO3.size
  have hw13 := b3.lt
  have hO5 : Only (fun i => i = w.heap.size) w3 (w3.alloc (.cells #[.int .i64 s1, .int .i64 s2, .int .i64 s3, .int .i64 s4] 30)) := (Only.refl _ w3).alloc _
  have hOw : Only (P.mv (some b)) w w3 := (Only.of_below hB0).trans (hO1.trans hO3)
  obtain ⟨y0, y1, y2, y3⟩ := k5.four
  obtain ⟨f0, f1, f2, f3⟩ := b5.frozens
  obtain ⟨c0, c1, c2, c3⟩ := b5.four
  have HPP := Lib.hid hpp
  have HF3 := Lib.hid hf3
  clear hpp hf3 hO1 hO3
  generalize hW5 : w3.alloc (.cells #[.int .i64 s1, .int .i64 s2, .int .i64 s3, .int .i64 s4] 30) = W5 at *
  go_wp2_with fail
  go_region
  all_goals go_wp2_with fail
  all_goals refine bodyPost_ret (results_t_c_t rfl _ rfl (b5.put4 _ _ _ _) Tryz.underlying30 (by kernel_rfl)) rfl ?_
  all_goals (
    have hO6 : Only (fun i => i = w.heap.size) w3 _ := (hO5.put4 (g := w.heap.size) (.inl rfl) (.int .i64 s1) (.int .i64 s2) (.int .i64 s3) (.int .i64 s4)).drew
    have hlis : LisM w3 b P' _ _ xs' t' _ := ⟨by rw [hp3.tl]; exact hp3, by rw [HPP.out]; exact HM.out.pp, hD3⟩
    refine ⟨rfl, ⟨P', _, _, xs', t', _, hlis.only hO6 ?_ ?_, ⟨rfl, rfl, hp3.tl, rfl, insI_len (by rw [← HM.out.len, ← HM.out.rp.pm.lr]; exact cnt_mono r HLE.out) _⟩, ?_⟩, hOw.trans' hO6 ?_⟩
    · have hl1 := b1.lt
      rintro i ((hi | hi) | hi | hi) rfl
      · rcases HF3.out _ hi with q | q
        · have := HLT.out _ (.inl (.inl q)); omega
        · omega
      · have := HLT.out _ (.inl (.inr hi)); omega
      · have := HLT.out _ (.inr (.inl hi)); omega
      · have := HLT.out _ (.inr (.inr hi)); omega
    · rintro i rfl; omega
    · have hl1 := b1.lt
      intro i hi
      exact (HF3.out i hi).imp id fun q => by omega
    · intro i hi q; omega)
theorem slot_on (hm : LisM w b P h r xs t L) {x : Int} (hx : live t x = true) : ∃ c : Nat, slotV t x = c ∧ on r c = true := by
  obtain ⟨j, hj, rfl⟩ := hm.ag.all x hx (fun q => by cases q)
  obtain ⟨_, q2, _⟩ := hm.ag.at_ j hj
  have hl : j < cnt r r.length := by rw [hm.rp.pm.lr, hm.len]; exact hj
  obtain ⟨c, c1, c2, c3⟩ := cnt_slot hl
  exact ⟨c, by rw [q2, ← c3, pos_nth c2], c2⟩
set_option maxRecDepth 100000 in
theorem LFirst_ok (hm : LisM w b P h r xs t L) (hN : L.length < 2560) (hT : t.length < 1000000) {s1 s2 s3 s4 : Int} (hst : pickV (csV (insB r 0 0) 0 (2 ^ h)) 0 h = (s1, s2, s3, s4)) :
    Calls Tryz.prog 107 #[.pointer (some ⟨b.lb, 0, none⟩)] w fun e w' => e = .returned (.tuple #[.int .i64 ((t.length : Int) + 1), .agg #[.int .i64 s1, .int .i64 s2, .int .i64 s3, .int .i64 s4], .int .i64 0]) ∧
      (∃ (P' : PB) (h' : Nat) (r' : List Bool) (xs' t' L' : List Int), LisM w' b P' h' r' xs' t' L' ∧ PutPost r t L h 0 0 ((t.length : Int) + 1) r' h' t' L' ∧ ∀ i, P'.has i → P.has i ∨ w.heap.size ≤ i) ∧ Only (P.mv (some b)) w w' := by
  have b0 := Blk.made w 30 #[.int .i64 0, .int .i64 0, .int .i64 0, .int .i64 0]
  have hB0 : Below w.heap.size w (w.alloc (.cells #[.int .i64 0, .int .i64 0, .int .i64 0, .int .i64 0] 30)) := (Below.refl _ w).alloc (Nat.le_refl _) _
  have hz0 : (w.alloc (.cells #[.int .i64 0, .int .i64 0, .int .i64 0, .int .i64 0] 30)).heap.size = w.heap.size + 1 := by simp
  have hm0 := hm.below hB0
  have hlt : ∀ i, lisB b P i → i < w.heap.size := fun i hi => hm.lt hi
  have h2 := hm.rp.hT.pos
  generalize hW0 : w.alloc (.cells #[.int .i64 0, .int .i64 0, .int .i64 0, .int .i64 0] 30) = W0 at *
  have hput := LPut_ok hm0 hN hT (sg := 0) (nx := 0) (bh := -1) (Nat.pos_of_ne_zero (by have := Nat.one_le_two_pow (n := h); omega)) (.inl ⟨rfl, rfl, rfl⟩) hst
  have hnb : ∀ g, w.heap.size ≤ g → ¬ P.mv (some b) g := fun g hg q => by have := hm.lt (i := g) (.inl q); omega
  have HM := Lib.hid hm
  have HLT := Lib.hid hlt
  have HNB := Lib.hid hnb
  clear hm hm0 hlt hst hN hnb
  go_enter Tryz.func107, Tryz.ntmps107
  go_wp2_with fail
  refine hput.mono ?_
  rintro e w1 ⟨rfl, ⟨P', h', r', xs', t', L', hl1, hp1, hf1⟩, hO1⟩
  have b1 := b0.only hO1 (HNB.out _ (Nat.le_refl _))
  obtain ⟨f0, f1, f2, f3⟩ := b1.frozens
  obtain ⟨c0, c1, c2, c3⟩ := b1.four
  have HQ := Lib.hid (And.intro hl1 (And.intro hp1 hf1))
  clear hl1 hp1 hf1
  go_wp2_with fail
  refine bodyPost_ret (results_t_c_t rfl _ rfl (b1.put4 _ _ _ _) Tryz.underlying30 (by kernel_rfl)) rfl ?_
  have hO6 : Only (fun i => i = w.heap.size) w1 _ := (Only.refl (fun i => i = w.heap.size) w1).put4 (g := w.heap.size) (.inl rfl) (.int .i64 s1) (.int .i64 s2) (.int .i64 s3) (.int .i64 s4)
  exact ⟨rfl, put_close HQ.out.1 hO6 HLT.out HQ.out.2.2 h2 hz0 HQ.out.2.1, ((Only.of_below hB0).trans hO1).trans' hO6 fun i hi q => by omega⟩
/-- What a call that puts a handle in beside a given one comes to. -/
def PutAny (w w' : World) (b : TB) (P : PB) (t L : List Int) (n code : Int) : Prop :=
  ∃ (P' : PB) (h' : Nat) (r' : List Bool) (xs' t' L' : List Int), LisM w' b P' h' r' xs' t' L' ∧ (∀ i, P'.has i → P.has i ∨ w.heap.size ≤ i) ∧
    ((code = 17 ∧ t' = t ∧ L' = L) ∨ (code = 0 ∧ n = (t.length : Int) + 1 ∧ t'.length = t.length + 1 ∧ L'.length = L.length + 1))
end
end Go.Proofs.YtaonkbfekadalaaGreatDoor
/- What After, Ahead and Delete of a list come to; a list that is new. -/
namespace Go.Proofs.YtaonkbfekadalaaGreatDoor
open Go.RowKit
set_option linter.unusedVariables false

section
variable {w w' : World} {b : TB} {P : PB} {h : Nat} {r : List Bool} {xs t L : List Int}
theorem PutAt.of_on {c : Nat} (hl : r.length = capN h) (hc : on r c = true) : PutAt r (c : Int) (c / 8) (c + 1) ∧ c / 8 < 2 ^ h :=
  ⟨.inr ⟨c, rfl, rfl, hc, rfl⟩, by have := on_lt hc; unfold capN at hl; omega⟩
theorem after1_ok {c : Nat} (hl : r.length = capN h) (hc : on r c = true) (w : World) :
    Calls Tryz.prog 167 #[.int .i64 (c : Nat)] w fun e w' => (∃ a sg nx, e = .returned (.int .i64 a) ∧ PutAt r a sg nx ∧ sg < 2 ^ h) ∧ w = w' := by
  have hp := PutAt.of_on hl hc
  clear hl hc
  go_enter Tryz.func167, Tryz.ntmps167
  go_wp2_with fail
  go_ret
  exact ⟨⟨_, _, _, rfl, hp⟩, rfl⟩
set_option maxRecDepth 100000 in
theorem ahead_ok (hm : LisM w b P h r xs t L) {c : Nat} (hc : on r c = true) :
    Calls Tryz.prog 168 #[.pointer (some ⟨b.lb, 0, none⟩), .int .i64 (c : Nat)] w fun e w' => (∃ a sg nx, e = .returned (.int .i64 a) ∧ PutAt r a sg nx ∧ sg < 2 ^ h) ∧ w = w' := by
  have c0 := hm.c0
  have hlt : c < capN h := by have := on_lt hc; rw [hm.rp.pm.lr] at this; exact this
  have hrk := PRank_ok hm.rp.pm hlt
  have hle := cnt_lt hlt hc
  have hcl := cnt_le r c
  have hb := (capN_bd hm.rp.pm.hh.1 hm.rp.pm.hh.2).2
  have hnt := PNth_any hm.rp.pm hm.rp.hT (cnt r c - 1)
  have hlr := hm.rp.pm.lr
  have HLR := Lib.hid hlr
  have HLT : Hid (cnt r c - 1 < cnt r r.length ∨ cnt r c = 0) := Lib.hid (by rw [hlr]; omega)
  clear hlr hm hc
  obtain ⟨n, hn⟩ : ∃ n, n = cnt r c := ⟨_, rfl⟩
  rw [← hn] at hrk hnt hcl HLT
  clear hn hle
  by_cases h0 : n = 0
  · subst h0
    go_enter Tryz.func168, Tryz.ntmps168
    go_wp2_with fail
    refine hrk.mono ?_
    rintro e w1 ⟨rfl, rfl⟩
    go_wp2_with fail
    go_ret
    exact ⟨⟨_, 0, 0, rfl, .inl ⟨rfl, rfl, rfl⟩, Nat.pos_of_ne_zero (by have := Nat.one_le_two_pow (n := h); omega)⟩, rfl⟩
  · have t1 : ((n : Int) == 0) = false := by simp; omega
    have n1 : IntKind.i64.wrap ((n : Int) - 1) = (n : Int) - 1 := IntWalk.i64_in _ (by omega)
    have e1 : ((n - 1 : Nat) : Int) = (n : Int) - 1 := by omega
    rw [e1] at hnt
    have HT := Lib.hid h0
    clear e1 h0
    go_enter Tryz.func168, Tryz.ntmps168
    go_wp2_with fail
    refine hrk.mono ?_
    rintro e w1 ⟨rfl, rfl⟩
    go_wp2_with fail
    refine hnt.mono ?_
    rintro e w1 ⟨⟨s, rfl, hs⟩, rfl⟩
    have HS := Lib.hid hs
    clear hs
    go_wp2_with fail
    go_ret
    have h1 : n - 1 < cnt r r.length := HLT.out.resolve_right HT.out
    obtain ⟨c', rfl, q1, _⟩ := HS.out h1
    exact ⟨⟨_, _, _, rfl, PutAt.of_on HLR.out q1⟩, rfl⟩
set_option maxRecDepth 100000 in
set_option maxHeartbeats 2000000 in
theorem LAtAfter_any (hm : LisM w b P h r xs t L) (hN : L.length < 2560) (hT : t.length < 1000000) {x : Int} (hx : inH x) :
    Calls Tryz.prog 166 #[.pointer (some ⟨b.lb, 0, none⟩), .int .i64 x, .func (.func 167) #[] #[]] w fun e w' => (∃ n s1 s2 s3 s4 code, e = .returned (.tuple #[.int .i64 n, .agg #[.int .i64 s1, .int .i64 s2, .int .i64 s3, .int .i64 s4], .int .i64 code]) ∧ PutAny w w' b P t L n code) ∧ Only (P.mv (some b)) w w' := by
  have b0 := Blk.made w 30 #[.int .i64 0, .int .i64 0, .int .i64 0, .int .i64 0]
  have hB0 : Below w.heap.size w (w.alloc (.cells #[.int .i64 0, .int .i64 0, .int .i64 0, .int .i64 0] 30)) := (Below.refl _ w).alloc (Nat.le_refl _) _
  have hz0 : (w.alloc (.cells #[.int .i64 0, .int .i64 0, .int .i64 0, .int .i64 0] 30)).heap.size = w.heap.size + 1 := by simp
  have hm0 := hm.below hB0
  have hlt : ∀ i, lisB b P i → i < w.heap.size := fun i hi => hm.lt hi
  have h2 := hm.rp.hT.pos
  generalize hW0 : w.alloc (.cells #[.int .i64 0, .int .i64 0, .int .i64 0, .int .i64 0] 30) = W0 at *
  have hlab := LLabel_any hm0 hx
  have hnb : ∀ g, w.heap.size ≤ g → ¬ P.mv (some b) g := fun g hg q => by have := hm.lt (i := g) (.inl q); omega
  have HNB := Lib.hid hnb
  have HLT := Lib.hid hlt
  cases hl : live t x
  · rw [ask_dead hl] at hlab
    obtain ⟨f0, f1, f2, f3⟩ := b0.frozens
    obtain ⟨c0, c1, c2, c3⟩ := b0.four
    have HM := Lib.hid hm
    clear hm hm0 hl hlt hnb
    go_enter Tryz.func166, Tryz.ntmps166
    go_wp2_with fail
    refine hlab.mono ?_
    rintro e w1 ⟨rfl, rfl⟩
    go_wp2_with fail
    refine bodyPost_ret (results_t_c_t rfl _ rfl (b0.put4 _ _ _ _) Tryz.underlying30 (by kernel_rfl)) rfl ?_
    have hB := below_put4 hB0 (Nat.le_refl w.heap.size) (.int .i64 0) (.int .i64 0) (.int .i64 0) (.int .i64 0)
    exact ⟨⟨0, 0, 0, 0, 0, 17, rfl, P, h, r, xs, t, L, HM.out.below hB, fun i hi => .inl hi, .inl ⟨rfl, rfl, rfl⟩⟩, Only.of_below hB⟩
  · rw [ask_live hl] at hlab
    obtain ⟨c, hc, ho⟩ := slot_on hm hl
    rw [hc] at hlab
    have hbe := after1_ok (h := h) hm0.rp.pm.lr ho W0
    have HM := Lib.hid hm
    have HM0 := Lib.hid hm0
    clear hm hm0 hl hlt hnb hc ho
    go_enter Tryz.func166, Tryz.ntmps166
    go_wp2_with fail
    refine hlab.mono ?_
    rintro e w1 ⟨rfl, rfl⟩
    go_wp2_with fail
    refine hbe.mono ?_
    rintro e w1 ⟨⟨a, sg, nx, rfl, hpa, hsg⟩, rfl⟩
    obtain ⟨s1, s2, s3, s4, hst⟩ : ∃ s1 s2 s3 s4, pickV (csV (insB r sg nx) 0 (2 ^ h)) sg h = (s1, s2, s3, s4) := ⟨_, _, _, _, rfl⟩
    have hput := LPut_ok HM0.out hN hT hsg hpa hst
    clear hpa hst
    go_wp2_with fail
    refine hput.mono ?_
    rintro e w1 ⟨rfl, ⟨P', h', r', xs', t', L', hl1, hp1, hf1⟩, hO1⟩
    have b1 := b0.only hO1 (HNB.out _ (Nat.le_refl _))
    obtain ⟨f0, f1, f2, f3⟩ := b1.frozens
    obtain ⟨c0, c1, c2, c3⟩ := b1.four
    have HQ := Lib.hid (And.intro hl1 (And.intro hp1 hf1))
    clear hl1 hp1 hf1
    go_wp2_with fail
    refine bodyPost_ret (results_t_c_t rfl _ rfl (b1.put4 _ _ _ _) Tryz.underlying30 (by kernel_rfl)) rfl ?_
    have hO6 : Only (fun i => i = w.heap.size) w1 _ := (Only.refl (fun i => i = w.heap.size) w1).put4 (g := w.heap.size) (.inl rfl) (.int .i64 s1) (.int .i64 s2) (.int .i64 s3) (.int .i64 s4)
    obtain ⟨P', h', r', xs', t', L', q1, q2, q3⟩ := put_close HQ.out.1 hO6 HLT.out HQ.out.2.2 h2 hz0 HQ.out.2.1
    exact ⟨⟨_, s1, s2, s3, s4, 0, rfl, P', h', r', xs', t', L', q1, q3, .inr ⟨rfl, rfl, q2.2.2.1, q2.2.2.2.2⟩⟩, ((Only.of_below hB0).trans hO1).trans' hO6 fun i hi q => by omega⟩
set_option maxRecDepth 100000 in
set_option maxHeartbeats 2000000 in
theorem LAtAhead_any (hm : LisM w b P h r xs t L) (hN : L.length < 2560) (hT : t.length < 1000000) {x : Int} (hx : inH x) :
    Calls Tryz.prog 166 #[.pointer (some ⟨b.lb, 0, none⟩), .int .i64 x, .func (.func 168) #[.pointer (some ⟨b.lb, 0, none⟩)] #[]] w fun e w' => (∃ n s1 s2 s3 s4 code, e = .returned (.tuple #[.int .i64 n, .agg #[.int .i64 s1, .int .i64 s2, .int .i64 s3, .int .i64 s4], .int .i64 code]) ∧ PutAny w w' b P t L n code) ∧ Only (P.mv (some b)) w w' := by
  have b0 := Blk.made w 30 #[.int .i64 0, .int .i64 0, .int .i64 0, .int .i64 0]
  have hB0 : Below w.heap.size w (w.alloc (.cells #[.int .i64 0, .int .i64 0, .int .i64 0, .int .i64 0] 30)) := (Below.refl _ w).alloc (Nat.le_refl _) _
  have hz0 : (w.alloc (.cells #[.int .i64 0, .int .i64 0, .int .i64 0, .int .i64 0] 30)).heap.size = w.heap.size + 1 := by simp
  have hm0 := hm.below hB0
  have hlt : ∀ i, lisB b P i → i < w.heap.size := fun i hi => hm.lt hi
  have h2 := hm.rp.hT.pos
  generalize hW0 : w.alloc (.cells #[.int .i64 0, .int .i64 0, .int .i64 0, .int .i64 0] 30) = W0 at *
  have hlab := LLabel_any hm0 hx
  have hnb : ∀ g, w.heap.size ≤ g → ¬ P.mv (some b) g := fun g hg q => by have := hm.lt (i := g) (.inl q); omega
  have HNB := Lib.hid hnb
  have HLT := Lib.hid hlt
  cases hl : live t x
  · rw [ask_dead hl] at hlab
    obtain ⟨f0, f1, f2, f3⟩ := b0.frozens
    obtain ⟨c0, c1, c2, c3⟩ := b0.four
    have HM := Lib.hid hm
    clear hm hm0 hl hlt hnb
    go_enter Tryz.func166, Tryz.ntmps166
    go_wp2_with fail
    refine hlab.mono ?_
    rintro e w1 ⟨rfl, rfl⟩
    go_wp2_with fail
    refine bodyPost_ret (results_t_c_t rfl _ rfl (b0.put4 _ _ _ _) Tryz.underlying30 (by kernel_rfl)) rfl ?_
    have hB := below_put4 hB0 (Nat.le_refl w.heap.size) (.int .i64 0) (.int .i64 0) (.int .i64 0) (.int .i64 0)
    exact ⟨⟨0, 0, 0, 0, 0, 17, rfl, P, h, r, xs, t, L, HM.out.below hB, fun i hi => .inl hi, .inl ⟨rfl, rfl, rfl⟩⟩, Only.of_below hB⟩
  · rw [ask_live hl] at hlab
    obtain ⟨c, hc, ho⟩ := slot_on hm hl
    rw [hc] at hlab
    have hbe := ahead_ok hm0 ho
    have HM := Lib.hid hm
    have HM0 := Lib.hid hm0
    clear hm hm0 hl hlt hnb hc ho
    go_enter Tryz.func166, Tryz.ntmps166
    go_wp2_with fail
    refine hlab.mono ?_
    rintro e w1 ⟨rfl, rfl⟩
    go_wp2_with fail
    refine hbe.mono ?_
    rintro e w1 ⟨⟨a, sg, nx, rfl, hpa, hsg⟩, rfl⟩
    obtain ⟨s1, s2, s3, s4, hst⟩ : ∃ s1 s2 s3 s4, pickV (csV (insB r sg nx) 0 (2 ^ h)) sg h = (s1, s2, s3, s4) := ⟨_, _, _, _, rfl⟩
    have hput := LPut_ok HM0.out hN hT hsg hpa hst
    clear hpa hst
    go_wp2_with fail
    refine hput.mono ?_
    rintro e w1 ⟨rfl, ⟨P', h', r', xs', t', L', hl1, hp1, hf1⟩, hO1⟩
    have b1 := b0.only hO1 (HNB.out _ (Nat.le_refl _))
    obtain ⟨f0, f1, f2, f3⟩ := b1.frozens
    obtain ⟨c0, c1, c2, c3⟩ := b1.four
    have HQ := Lib.hid (And.intro hl1 (And.intro hp1 hf1))
    clear hl1 hp1 hf1
    go_wp2_with fail
    refine bodyPost_ret (results_t_c_t rfl _ rfl (b1.put4 _ _ _ _) Tryz.underlying30 (by kernel_rfl)) rfl ?_
    have hO6 : Only (fun i => i = w.heap.size) w1 _ := (Only.refl (fun i => i = w.heap.size) w1).put4 (g := w.heap.size) (.inl rfl) (.int .i64 s1) (.int .i64 s2) (.int .i64 s3) (.int .i64 s4)
    obtain ⟨P', h', r', xs', t', L', q1, q2, q3⟩ := put_close HQ.out.1 hO6 HLT.out HQ.out.2.2 h2 hz0 HQ.out.2.1
    exact ⟨⟨_, s1, s2, s3, s4, 0, rfl, P', h', r', xs', t', L', q1, q3, .inr ⟨rfl, rfl, q2.2.2.1, q2.2.2.2.2⟩⟩, ((Only.of_below hB0).trans hO1).trans' hO6 fun i hi q => by omega⟩
set_option maxRecDepth 100000 in
theorem LAfter_any (hm : LisM w b P h r xs t L) (hN : L.length < 2560) (hT : t.length < 1000000) {x : Int} (hx : inH x) :
    Calls Tryz.prog 108 #[.pointer (some ⟨b.lb, 0, none⟩), .int .i64 x] w fun e w' => (∃ n s1 s2 s3 s4 code, e = .returned (.tuple #[.int .i64 n, .agg #[.int .i64 s1, .int .i64 s2, .int .i64 s3, .int .i64 s4], .int .i64 code]) ∧ PutAny w w' b P t L n code) ∧ Only (P.mv (some b)) w w' := by
  have b0 := Blk.made w 30 #[.int .i64 0, .int .i64 0, .int .i64 0, .int .i64 0]
  have hB0 : Below w.heap.size w (w.alloc (.cells #[.int .i64 0, .int .i64 0, .int .i64 0, .int .i64 0] 30)) := (Below.refl _ w).alloc (Nat.le_refl _) _
  have hz0 : (w.alloc (.cells #[.int .i64 0, .int .i64 0, .int .i64 0, .int .i64 0] 30)).heap.size = w.heap.size + 1 := by simp
  have hm0 := hm.below hB0
  have hlt : ∀ i, lisB b P i → i < w.heap.size := fun i hi => hm.lt hi
  have h2 := hm.rp.hT.pos
  generalize hW0 : w.alloc (.cells #[.int .i64 0, .int .i64 0, .int .i64 0, .int .i64 0] 30) = W0 at *
  have hat := LAtAfter_any hm0 hN hT hx
  have hnb : ∀ g, w.heap.size ≤ g → ¬ P.mv (some b) g := fun g hg q => by have := hm.lt (i := g) (.inl q); omega
  have HNB := Lib.hid hnb
  have HLT := Lib.hid hlt
  have hmf : ∀ (fn : Fn) (first cap : Array Value) (w : World), (Instr.makeFunc fn first cap).run Tryz.prog w = .ok (.func fn first cap) w := fun _ _ _ _ => rfl
  clear hm hm0 hlt hnb
  go_enter Tryz.func108, Tryz.ntmps108
  go_wp2_with fail
  refine hat.mono ?_
  rintro e w1 ⟨⟨n, s1, s2, s3, s4, code, rfl, P', h', r', xs', t', L', hl1, hf1, hp1⟩, hO1⟩
  have b1 := b0.only hO1 (HNB.out _ (Nat.le_refl _))
  obtain ⟨f0, f1, f2, f3⟩ := b1.frozens
  obtain ⟨c0, c1, c2, c3⟩ := b1.four
  have HQ := Lib.hid (And.intro hl1 (And.intro hp1 hf1))
  clear hl1 hp1 hf1
  go_wp2_with fail
  refine bodyPost_ret (results_t_c_t rfl _ rfl (b1.put4 _ _ _ _) Tryz.underlying30 (by kernel_rfl)) rfl ?_
  have hO6 : Only (fun i => i = w.heap.size) w1 _ := (Only.refl (fun i => i = w.heap.size) w1).put4 (g := w.heap.size) (.inl rfl) (.int .i64 s1) (.int .i64 s2) (.int .i64 s3) (.int .i64 s4)
  obtain ⟨P', h', r', xs', t', L', q1, q2, q3⟩ := put_close (Q := fun _ _ t' L' => (code = 17 ∧ t' = t ∧ L' = L) ∨ (code = 0 ∧ n = (t.length : Int) + 1 ∧ t'.length = t.length + 1 ∧ L'.length = L.length + 1)) HQ.out.1 hO6 HLT.out HQ.out.2.2 h2 hz0 HQ.out.2.1
  exact ⟨⟨n, s1, s2, s3, s4, code, rfl, P', h', r', xs', t', L', q1, q3, q2⟩, ((Only.of_below hB0).trans hO1).trans' hO6 fun i hi q => by omega⟩
set_option maxRecDepth 100000 in
theorem LAhead_any (hm : LisM w b P h r xs t L) (hN : L.length < 2560) (hT : t.length < 1000000) {x : Int} (hx : inH x) :
    Calls Tryz.prog 109 #[.pointer (some ⟨b.lb, 0, none⟩), .int .i64 x] w fun e w' => (∃ n s1 s2 s3 s4 code, e = .returned (.tuple #[.int .i64 n, .agg #[.int .i64 s1, .int .i64 s2, .int .i64 s3, .int .i64 s4], .int .i64 code]) ∧ PutAny w w' b P t L n code) ∧ Only (P.mv (some b)) w w' := by
  have b0 := Blk.made w 30 #[.int .i64 0, .int .i64 0, .int .i64 0, .int .i64 0]
  have hB0 : Below w.heap.size w (w.alloc (.cells #[.int .i64 0, .int .i64 0, .int .i64 0, .int .i64 0] 30)) := (Below.refl _ w).alloc (Nat.le_refl _) _
  have hz0 : (w.alloc (.cells #[.int .i64 0, .int .i64 0, .int .i64 0, .int .i64 0] 30)).heap.size = w.heap.size + 1 := by simp
  have hm0 := hm.below hB0
  have hlt : ∀ i, lisB b P i → i < w.heap.size := fun i hi => hm.lt hi
  have h2 := hm.rp.hT.pos
  generalize hW0 : w.alloc (.cells #[.int .i64 0, .int .i64 0, .int .i64 0, .int .i64 0] 30) = W0 at *
  have hat := LAtAhead_any hm0 hN hT hx
  have hnb : ∀ g, w.heap.size ≤ g → ¬ P.mv (some b) g := fun g hg q => by have := hm.lt (i := g) (.inl q); omega
  have HNB := Lib.hid hnb
  have HLT := Lib.hid hlt
  have hmf : ∀ (fn : Fn) (first cap : Array Value) (w : World), (Instr.makeFunc fn first cap).run Tryz.prog w = .ok (.func fn first cap) w := fun _ _ _ _ => rfl
  clear hm hm0 hlt hnb
  go_enter Tryz.func109, Tryz.ntmps109
  go_wp2_with fail
  refine hat.mono ?_
  rintro e w1 ⟨⟨n, s1, s2, s3, s4, code, rfl, P', h', r', xs', t', L', hl1, hf1, hp1⟩, hO1⟩
  have b1 := b0.only hO1 (HNB.out _ (Nat.le_refl _))
  obtain ⟨f0, f1, f2, f3⟩ := b1.frozens
  obtain ⟨c0, c1, c2, c3⟩ := b1.four
  have HQ := Lib.hid (And.intro hl1 (And.intro hp1 hf1))
  clear hl1 hp1 hf1
  go_wp2_with fail
  refine bodyPost_ret (results_t_c_t rfl _ rfl (b1.put4 _ _ _ _) Tryz.underlying30 (by kernel_rfl)) rfl ?_
  have hO6 : Only (fun i => i = w.heap.size) w1 _ := (Only.refl (fun i => i = w.heap.size) w1).put4 (g := w.heap.size) (.inl rfl) (.int .i64 s1) (.int .i64 s2) (.int .i64 s3) (.int .i64 s4)
  obtain ⟨P', h', r', xs', t', L', q1, q2, q3⟩ := put_close (Q := fun _ _ t' L' => (code = 17 ∧ t' = t ∧ L' = L) ∨ (code = 0 ∧ n = (t.length : Int) + 1 ∧ t'.length = t.length + 1 ∧ L'.length = L.length + 1)) HQ.out.1 hO6 HLT.out HQ.out.2.2 h2 hz0 HQ.out.2.1
  exact ⟨⟨n, s1, s2, s3, s4, code, rfl, P', h', r', xs', t', L', q1, q3, q2⟩, ((Only.of_below hB0).trans hO1).trans' hO6 fun i hi q => by omega⟩
end
end Go.Proofs.YtaonkbfekadalaaGreatDoor
/- What Delete and New of a list come to. -/
namespace Go.Proofs.YtaonkbfekadalaaGreatDoor
open Go.RowKit
set_option linter.unusedVariables false

section
variable {w w' : World} {b : TB} {P : PB} {h : Nat} {r : List Bool} {xs t L : List Int}
theorem place_on (hm : LisM w b P h r xs t L) {x : Int} (hx : live t x = true) : ∃ c j : Nat, slotV t x = c ∧ on r c = true ∧ cnt r c = j ∧ j < L.length ∧ nth L j = x := by
  obtain ⟨j, hj, rfl⟩ := hm.ag.all x hx (fun q => by cases q)
  obtain ⟨_, q2, _⟩ := hm.ag.at_ j hj
  have hl : j < cnt r r.length := by rw [hm.rp.pm.lr, hm.len]; exact hj
  obtain ⟨c, c1, c2, c3⟩ := cnt_slot hl
  exact ⟨c, j, by rw [q2, ← c3, pos_nth c2], c2, c3, hj, rfl⟩
set_option maxRecDepth 100000 in
set_option maxHeartbeats 2000000 in
theorem LDelete_any (hm : LisM w b P h r xs t L) (hN : L.length ≤ 2560) {x : Int} (hx : inH x) :
    Calls Tryz.prog 110 #[.pointer (some ⟨b.lb, 0, none⟩), .int .i64 x] w fun e w' => (∃ s1 s2 s3 s4 code, e = .returned (.tuple #[.agg #[.int .i64 s1, .int .i64 s2, .int .i64 s3, .int .i64 s4], .int .i64 code]) ∧
      ∃ (P' : PB) (h' : Nat) (r' : List Bool) (xs' t' L' : List Int), LisM w' b P' h' r' xs' t' L' ∧ (code ≠ 16 ∧ t'.length = t.length ∧ L'.length ≤ L.length) ∧ ∀ i, P'.has i → P.has i ∨ w.heap.size ≤ i) ∧ Only (P.mv (some b)) w w' := by
  have b0 := Blk.made w 30 #[.int .i64 0, .int .i64 0, .int .i64 0, .int .i64 0]
  have hB0 : Below w.heap.size w (w.alloc (.cells #[.int .i64 0, .int .i64 0, .int .i64 0, .int .i64 0] 30)) := (Below.refl _ w).alloc (Nat.le_refl _) _
  have hz0 : (w.alloc (.cells #[.int .i64 0, .int .i64 0, .int .i64 0, .int .i64 0] 30)).heap.size = w.heap.size + 1 := by simp
  have hm0 := hm.below hB0
  have hlt : ∀ i, lisB b P i → i < w.heap.size := fun i hi => hm.lt hi
  have h2 := hm.rp.hT.pos
  generalize hW0 : w.alloc (.cells #[.int .i64 0, .int .i64 0, .int .i64 0, .int .i64 0] 30) = W0 at *
  have hlab := LLabel_any hm0 hx
  have hnb : ∀ g, w.heap.size ≤ g → ¬ P.mv (some b) g := fun g hg q => by have := hm.lt (i := g) (.inl q); omega
  have HNB := Lib.hid hnb
  have HLT := Lib.hid hlt
  cases hl : live t x
  · rw [ask_dead hl] at hlab
    obtain ⟨f0, f1, f2, f3⟩ := b0.frozens
    obtain ⟨c0, c1, c2, c3⟩ := b0.four
    have HM := Lib.hid hm
    clear hm hm0 hl hlt hnb
    go_enter Tryz.func110, Tryz.ntmps110
    go_wp2_with fail
    refine hlab.mono ?_
    rintro e w1 ⟨rfl, rfl⟩
    go_wp2_with fail
    refine bodyPost_ret (results_c_t rfl _ rfl (b0.put4 _ _ _ _) Tryz.underlying30 (by kernel_rfl)) rfl ?_
    have hB := below_put4 hB0 (Nat.le_refl w.heap.size) (.int .i64 0) (.int .i64 0) (.int .i64 0) (.int .i64 0)
    exact ⟨⟨0, 0, 0, 0, 17, rfl, P, h, r, xs, t, L, HM.out.below hB, ⟨by decide, rfl, Nat.le_refl _⟩, fun i hi => .inl hi⟩, Only.of_below hB⟩
  · rw [ask_live hl] at hlab
    obtain ⟨c, j, hc, ho, hcj, hj, hxj⟩ := place_on hm0 hl
    rw [hc] at hlab
    obtain ⟨e1, e2, hag⟩ := hm0.ag.free hj
    rw [hxj] at e1 e2 hag
    have hfr := HFree_any hm0.rp.tk.1.2.2 hx
    rw [e1] at hfr
    generalize (freeV t x).1 = t1 at *
    have c0 := hm0.c0
    have c1 := hm0.c1
    have HM := Lib.hid hm
    have HM0 := Lib.hid hm0
    have HAG := Lib.hid hag
    have HE2 := Lib.hid e2
    have HC := Lib.hid (And.intro ho hcj)
    have HJ := Lib.hid hj
    clear hm hm0 hl hlt hnb hc ho hcj hag e1 e2 hxj hj
    go_enter Tryz.func110, Tryz.ntmps110
    go_wp2_with fail
    refine hlab.mono ?_
    rintro e w1 ⟨rfl, rfl⟩
    go_wp2_with fail
    refine hfr.mono ?_
    rintro e w1 ⟨rfl, hH1, hU1⟩
    have hO1 : Only (P.mv (some b)) W0 w1 := Only.of_turn hU1 (.inr (.inl rfl)) (.inr (.inr rfl))
    have hm0 := HM0.out
    have hmv := hm0.mvk
    obtain ⟨⟨k1, k2, k3⟩, k4⟩ := hm0.rp.tk
    have tk1 : TK w1 (some b) t1 := ⟨⟨k1.turn hU1 (k1.ne_ k3.hp (by decide)) (k3.hm.not_cells k1), k2.turn hU1 (k2.ne_ k3.hp (by decide)) (k3.hm.not_cells k2), hH1⟩, by rw [HE2.out]; exact k4⟩
    have pm1 : PM w1 P (some b) h r xs := hm0.rp.pm.only (Only.of_turn (X := mvK (some b)) hU1 (.inl rfl) (.inr rfl)) hmv.1
    have hT1 : Tab w1 := hm0.rp.hT.only (Only.of_turn (X := mvK (some b)) hU1 (.inl rfl) (.inr rfl)) hmv.2
    have hde := PDelete_ok (T := t1.length) pm1 tk1 hT1 hm0.de (by rw [hm0.len]; exact hN) HC.out.1 hm0.rp.its (fun b' e => by rw [HC.out.2]; exact HAG.out) rfl
    obtain ⟨s1, s2, s3, s4, hst⟩ : ∃ s1 s2 s3 s4, pickV (csV (r.set c false) 0 (2 ^ h)) (c / 8) h = (s1, s2, s3, s4) := ⟨_, _, _, _, rfl⟩
    rw [hst] at hde
    unfold stepE at hde
    dsimp only at hde
    have b1 := b0.only hO1 (HNB.out _ (Nat.le_refl _))
    have d0 : w1.cell? ⟨b.lb, 0, none⟩ = some (.pointer (some ⟨P.pp, 0, none⟩)) := by rw [tk1.1.2.1.cell, HM.out.pp]; rfl
    clear hm0 k1 k2 k3 tk1 pm1 hH1 hU1 hmv hst
    generalize nth xs c = z at *
    go_wp2_with fail
    refine hde.mono ?_
    rintro e w3 ⟨rfl, ⟨P', xs', t', hp3, hpp, hf3⟩, hO3, hD3⟩
    have b3 := b1.only hO3 (HNB.out _ (Nat.le_refl _))
    have b5 := b3.alloc (.cells #[.int .i64 s1, .int .i64 s2, .int .i64 s3, .int .i64 s4] 30)
    have k5 := Blk.made w3 30 #[.int .i64 s1, .int .i64 s2, .int .i64 s3, .int .i64 s4]
    have hsz1 := hO1.size
    have hsz3 := hO3.size
    have hw13 := b3.lt
    have hb1 := b1.lt
    have hO5 : Only (fun i => i = w.heap.size) w3 (w3.alloc (.cells #[.int .i64 s1, .int .i64 s2, .int .i64 s3, .int .i64 s4] 30)) := (Only.refl _ w3).alloc _
    have hOw : Only (P.mv (some b)) w w3 := (Only.of_below hB0).trans (hO1.trans hO3)
    obtain ⟨y0, y1, y2, y3⟩ := k5.four
    obtain ⟨f0, f1, f2, f3⟩ := b5.frozens
    obtain ⟨c0, c1, c2, c3⟩ := b5.four
    have HPP := Lib.hid hpp
    have HF3 := Lib.hid hf3
    clear hpp hf3 hO1 hO3
    generalize hW5 : w3.alloc (.cells #[.int .i64 s1, .int .i64 s2, .int .i64 s3, .int .i64 s4] 30) = W5 at *
    go_wp2_with fail
    refine bodyPost_ret (results_c_t rfl _ rfl (b5.put4 _ _ _ _) Tryz.underlying30 (by kernel_rfl)) rfl ?_
    have hO6 : Only (fun i => i = w.heap.size) w3 _ := hO5.put4 (g := w.heap.size) (.inl rfl) (.int .i64 s1) (.int .i64 s2) (.int .i64 s3) (.int .i64 s4)
    have hlis : LisM w3 b P' _ _ xs' t' _ := ⟨by rw [hp3.tl]; exact hp3, by rw [HPP.out]; exact HM.out.pp, hD3⟩
    have hf4 : ∀ i, P'.has i → P.has i ∨ w.heap.size + 1 ≤ i := fun i hi => (HF3.out i hi).imp id fun q => by omega
    obtain ⟨P', h', r', xs', t', L', q1, q2, q3⟩ := put_close (Q := fun _ _ t' L' => t'.length = t.length ∧ L'.length ≤ L.length) hlis hO6 HLT.out hf4 h2 rfl ⟨by rw [hp3.tl]; exact HE2.out, by rw [List.length_eraseIdx]; split <;> omega⟩
    exact ⟨⟨s1, s2, s3, s4, 0, rfl, P', h', r', xs', t', L', q1, ⟨by decide, q2.1, q2.2⟩, q3⟩, hOw.trans' hO6 fun i hi q => by omega⟩
set_option maxRecDepth 100000 in
theorem LNew_ok (w : World) (hT : Tab w) : Calls Tryz.prog 18 #[] w fun e w' => ∃ (b : TB) (P : PB), e = .returned (.pointer (some ⟨b.lb, 0, none⟩)) ∧ LisM w' b P 2 (offs 32) (zeros 32) [] [] ∧ (∀ i, lisB b P i → w.heap.size ≤ i) ∧ Below w.heap.size w w' := by
  have hn := PNew_ok w
  go_enter Tryz.func18, Tryz.ntmps18
  go_wp2_with fail
  refine hn.mono ?_
  rintro e w1 ⟨P, rfl, hp, hf, hB1⟩
  have hh := HNew_ok w1
  have HP := Lib.hid hp
  have HF := Lib.hid hf
  clear hp hf
  go_wp2_with fail
  refine hh.mono ?_
  rintro e w2 ⟨rfl, hH2, hB2⟩
  have hfol : Calls Tryz.prog 46 #[.pointer (some ⟨w2.heap.size, 0, none⟩)] (w2.alloc (.cells #[.pointer (some ⟨P.pp, 0, none⟩), .pointer (some ⟨w1.heap.size + 1, 0, none⟩)] 101)) fun e w' => ∃ b : TB, e = .returned (.pointer (some ⟨b.lb, 0, none⟩)) ∧ LisM w' b P 2 (offs 32) (zeros 32) [] [] ∧ (∀ i, lisB b P i → w.heap.size ≤ i) ∧ Below w.heap.size w w' := by
    have hp2 := HP.out.below hB2
    have l0 := Blk.made w2 101 #[.pointer (some ⟨P.pp, 0, none⟩), .pointer (some ⟨w1.heap.size + 1, 0, none⟩)]
    have hBa : Below w2.heap.size w2 (w2.alloc (.cells #[.pointer (some ⟨P.pp, 0, none⟩), .pointer (some ⟨w1.heap.size + 1, 0, none⟩)] 101)) := (Below.refl _ w2).alloc (Nat.le_refl _) _
    have hp3 := hp2.below hBa
    have hz1 := hB1.size
    have hz2 := hB2.size
    have hza : (w2.alloc (.cells #[.pointer (some ⟨P.pp, 0, none⟩), .pointer (some ⟨w1.heap.size + 1, 0, none⟩)] 101)).heap.size = w2.heap.size + 1 := by simp
    have hBw : Below w.heap.size w (w2.alloc (.cells #[.pointer (some ⟨P.pp, 0, none⟩), .pointer (some ⟨w1.heap.size + 1, 0, none⟩)] 101)) := (hB1.trans (hB2.mono hz1)).trans (hBa.mono (by omega))
    have hhp := hH2.hp.lt
    have hhm := hH2.hm.lt
    have hH3 := hH2.only (Only.of_below (X := fun _ => False) hBa) id id
    generalize hW3 : w2.alloc (.cells #[.pointer (some ⟨P.pp, 0, none⟩), .pointer (some ⟨w1.heap.size + 1, 0, none⟩)] 101) = W3 at *
    have x0 := Blk.made W3 55 #[.pointer (some ⟨w2.heap.size, 0, none⟩)]
    have l1 := l0.alloc (.cells #[.pointer (some ⟨w2.heap.size, 0, none⟩)] 55)
    have hBb : Below W3.heap.size W3 (W3.alloc (.cells #[.pointer (some ⟨w2.heap.size, 0, none⟩)] 55)) := (Below.refl _ W3).alloc (Nat.le_refl _) _
    have hp4 := hp3.below hBb
    have hH4 := hH3.only (Only.of_below (X := fun _ => False) hBb) id id
    have hT4 : Tab (W3.alloc (.cells #[.pointer (some ⟨w2.heap.size, 0, none⟩)] 55)) := (hT.below hBw).below hBb
    have hzb : (W3.alloc (.cells #[.pointer (some ⟨w2.heap.size, 0, none⟩)] 55)).heap.size = w2.heap.size + 2 := by simp; omega
    have hBw2 := hBw.trans (hBb.mono (by omega))
    have hplt : ∀ i, P.has i → i < w1.heap.size := fun i hi => HP.out.lt hi
    have h2 := hT.pos
    rw [hza] at x0
    generalize hW4 : W3.alloc (.cells #[.pointer (some ⟨w2.heap.size, 0, none⟩)] 55) = W4 at *
    have ht := PTell_ok hp4 (b := ⟨w2.heap.size + 1, w2.heap.size, P.pp, w1.heap.size + 1, w1.heap.size⟩) rfl
    unfold toldV at ht
    dsimp only at ht
    have c0 : W4.cell? ⟨w2.heap.size, 0, none⟩ = some (.pointer (some ⟨P.pp, 0, none⟩)) := by rw [l1.cell]; rfl
    have c1 : W4.cell? ⟨w2.heap.size + 1, 0, none⟩ = some (.pointer (some ⟨w2.heap.size, 0, none⟩)) := by rw [x0.cell]; rfl
    have hmf : ∀ (fn : Fn) (first cap : Array Value) (w : World), (Instr.makeFunc fn first cap).run Tryz.prog w = .ok (.func fn first cap) w := fun _ _ _ _ => rfl
    have HP4 := Lib.hid hp4
    clear hp2 hp3 hp4 hn hh hH2 hH3
    go_enter Tryz.func46, Tryz.ntmps46
    go_wp2_with fail
    refine ht.mono ?_
    rintro e w5 ⟨⟨v, rfl⟩, hPW, hO5⟩
    have npp : P.pp < w1.heap.size := HP.out.lt (.inr (.inl rfl))
    have x1 := x0.only hO5 (by omega)
    have l2 := l1.only hO5 (by omega)
    have c2 : w5.cell? ⟨w2.heap.size + 1, 0, none⟩ = some (.pointer (some ⟨w2.heap.size, 0, none⟩)) := by rw [x1.cell]; rfl
    have HPW := Lib.hid hPW
    clear hPW
    go_wp2_with fail
    go_ret
    obtain ⟨u, hu⟩ := HP4.out.tm
    obtain ⟨csg, hg0, _⟩ := hu.hg
    have npw : ∀ i, P.sb.has i ∨ i = P.tt ∨ i = P.tg → i ≠ P.pp := by
      rintro i ((q | q | q | q) | q | q) e
      · exact HP4.out.sm.hs.ne_ HP4.out.pw (by decide) (q ▸ e)
      · exact HP4.out.sm.hx.ne_ HP4.out.pw (by decide) (q ▸ e)
      · exact HP4.out.sm.hb.hp.ne_ HP4.out.pw (by decide) (q ▸ e)
      · obtain ⟨cs, hh, _⟩ := HP4.out.sm.hb.hg
        exact hh.ne_ HP4.out.pw (by decide) (q ▸ e)
      · exact hu.hp.ne_ HP4.out.pw (by decide) (q ▸ e)
      · exact hg0.ne_ HP4.out.pw (by decide) (q ▸ e)
    have pge : ∀ i, P.has i → w.heap.size ≤ i := HF.out
    have hpm : PM w5 P (some ⟨w2.heap.size + 1, w2.heap.size, P.pp, w1.heap.size + 1, w1.heap.size⟩) 2 (offs 32) (zeros 32) :=
      ⟨HP4.out.sm.only hO5 fun i hi => npw i (.inl hi), HPW.out, ⟨u, hu.only hO5 (npw _ (.inr (.inl rfl))) (npw _ (.inr (.inr rfl)))⟩, HP4.out.hh, HP4.out.hI, HP4.out.ne⟩
    have hpz : pos (offs 32) = [] := List.eq_nil_of_length_eq_zero (by rw [pos_len, cnt_offs])
    have ppz : w.heap.size ≤ P.pp := pge _ (.inr (.inl rfl))
    refine ⟨⟨w2.heap.size + 1, w2.heap.size, P.pp, w1.heap.size + 1, w1.heap.size⟩, rfl, ⟨⟨hpm, ⟨⟨x1, l2, hH4.only hO5 (by omega) (by omega)⟩, by simp⟩, hT4.only hO5 (fun i e => by rw [e]; omega), offs_its _ _, fun b' e => by rw [hpz]; exact Agree.nil, rfl⟩, rfl, fun q hq => ⟨8 * q, Nat.le_refl _, by omega, on_offs _ _⟩⟩, ?_, ?_⟩
    · rintro i ((hi | hi) | hi | hi)
      · exact pge i hi
      · rcases hi with hi | hi
        · have : i = w1.heap.size + 1 := hi; omega
        · have : i = w1.heap.size := hi; omega
      · have : i = w2.heap.size + 1 := hi; omega
      · have : i = w2.heap.size := hi; omega
    · exact Only.below hBw2 hO5 (by omega) (fun i e => by rw [e]; exact ppz)
  clear hn hh hH2
  go_wp2_with fail
  refine hfol.mono ?_
  rintro e w3 ⟨b, rfl, q1, q2, q3⟩
  have HQ := Lib.hid (And.intro q1 q2)
  clear q1 q2
  go_wp2_with fail
  go_ret
  exact ⟨b, P, rfl, HQ.out.1, HQ.out.2, q3⟩
end
end Go.Proofs.YtaonkbfekadalaaGreatDoor
