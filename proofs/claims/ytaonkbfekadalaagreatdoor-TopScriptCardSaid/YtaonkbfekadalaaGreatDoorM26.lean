/- What find of the picking layer comes to. -/
import Derived.Test.YtaonkbfekadalaaGreatDoorM18
namespace Go.Proofs.YtaonkbfekadalaaGreatDoor
open Go.RowKit Go.Shelf
attribute [local go_sem] Oper.semAt_some
set_option linter.unusedVariables false

/-- A goal of this kind, by a name that stands for all of them. -/
theorem with_any {F : Fence} {n : Nat} {P : Program} {md : Region.Mode} {ops : Array Oper} {Q : Exit → Act → World → Prop} {fuel : Nat} {listed : Array Bool} {a : Act} {w : World}
    (h : ∀ GG : Nat → Array Bool → Act → World → Prop, (∀ f l a w, GG f l a w = wpAnyIn F n P md ops Q f l a w) → GG fuel listed a w) : wpAnyIn F n P md ops Q fuel listed a w := h _ (fun _ _ _ _ => rfl)
/-- What find tells: the window, if there is one. -/
def foundV (r : List Int) (s h : Nat) : Value := if pickL r s h ≤ h then winV (pickL r s h) (winF s (pickL r s h)) (2 ^ pickL r s h) else .agg #[.int .i64 0, .int .i64 0, .int .i64 0]
set_option maxRecDepth 100000 in
set_option maxHeartbeats 4000000 in
theorem find_ok {w : World} {b off c h s : Nat} {r : List Int} (hl : r.length = 2 ^ h) (hR : RI w (some ⟨b, off, none⟩) r) (hsm : Smalls r) (h1 : 2 ≤ h) (h2 : h ≤ 9) (hs : s < 2 ^ h) (hc : 2 ^ h ≤ c) (hT : Tab w) :
    Calls Tryz.prog 177 #[.slice (some ⟨b, off, none⟩) (2 ^ h) c, .int .i64 (s : Nat)] w fun e w' => e = .returned (.tuple #[foundV r s h, .int .i64 (h : Nat), .bool (decide (pickL r s h ≤ h)), .int .i64 0]) ∧ Below w.heap.size w w' := by
  obtain ⟨a, b'⟩ := capN_bd h1 h2
  have b2 : 2 ^ h ≤ 512 := by unfold capN at b'; omega
  have e1 : (capN h : Int) = 8 * ((2 ^ h : Nat) : Int) := by unfold capN; push_cast; rfl
  have hck := fun (W : World) (hW : RI W (some ⟨b, off, none⟩) r) => Check_ok (c := c) hl hW hsm h1 h2
  have hht := fun (W : World) (hW : Tab W) => Height_ok h1 h2 W hW
  rw [e1] at hht
  have hs5 : s < 512 := by omega
  have hwf := fun k (hk : k ≤ h) => winF_le hs hk
  have hwi := fun k n (hk : k ≤ h) (hn : n ≤ 4096) W => Within_ok (n := n) h1 h2 hk hn W
  have hbl := hR
  have HL := Lib.hid hl
  have HW := Lib.hid hwf
  have HS := Lib.hid hs5
  clear hwf e1 a b' hs5
  have hcnt := fun (W : World) (hW : RI W (some ⟨b, off, none⟩) r) k f m (q1 : f + m ≤ 2 ^ h) (q2 : 1 ≤ m) (q3 : k ≤ 9) => count_ok (c := c) (k := k) (f := f) (m := m) hl hW hsm b2 q1 q2 hc q3
  clear hl
  generalize 2 ^ h = d at *
  have i1 : (d : Int) ≤ 512 := by omega
  have i2 : (s : Int) < (d : Int) := by omega
  have i3 : (0 : Int) ≤ (s : Int) := by omega
  have n1 : IntKind.i64.wrap (8 * (d : Int)) = 8 * (d : Int) := IntWalk.i64_in _ (by omega)
  have t1 : decide ((s : Int) < 0) = false := by simp
  have t2 : decide ((d : Int) ≤ (s : Int)) = false := by simp; omega
  have t2' : decide (d ≤ s) = false := by simp; omega
  refine (callsIn_wide (n := 3)).1 ?_
  refine callsIn_of_wp_marks Tryz.func177 rfl trivial ?_ rfl
  simp only [Tryz.ntmps177, List.size_toArray, List.length_cons, List.length_nil, Nat.reduceAdd, Nat.reduceSub, Array.replicate_succ, Array.replicate_zero, List.push_toArray, List.append_toArray, List.nil_append, List.cons_append]
  gi_wp2_with fail
  refine wpIn_wide.2 (Go.wp_scope_straight ((wpIn_wide (n := 3)).1 ?_))
  gi_wp2_with fail
  refine ⟨trivial, ?_⟩
  refine (callsIn_wide.2 (hck _ ((hR.alloc _).alloc _))).mono ?_
  rintro e w' ⟨rfl, rfl⟩
  gi_wp2_with fail
  refine ⟨trivial, ?_⟩
  refine (callsIn_wide.2 (hht _ (hT.below (((Below.refl _ w).alloc (Nat.le_refl _) _).alloc (by simp) _)))).mono ?_
  rintro e w' ⟨rfl, rfl⟩
  gi_wp2_with fail
  refine wpIn_label ?_
  gi_wp2_with fail
  refine ⟨trivial, ?_⟩
  refine (callsIn_wide.2 (windows_any _ _ _)).mono ?_
  rintro e w' ⟨rfl, rfl⟩
  gi_wp2_with fail
  have q0 := Blk.made w 31 #[.slice (some ⟨b, off, none⟩) d c]
  have q1 := Blk.made (w.alloc (.cells #[.slice (some ⟨b, off, none⟩) d c] 31)) 193 #[.int .i64 0, .int .i64 0, .int .i64 0]
  have q2 := Blk.made ((w.alloc (.cells #[.slice (some ⟨b, off, none⟩) d c] 31)).alloc (.cells #[.int .i64 0, .int .i64 0, .int .i64 0] 193)) 3 #[.int .i64 (h : Nat)]
  have q3 := Blk.made (((w.alloc (.cells #[.slice (some ⟨b, off, none⟩) d c] 31)).alloc (.cells #[.int .i64 0, .int .i64 0, .int .i64 0] 193)).alloc (.cells #[.int .i64 (h : Nat)] 3)) 193 #[.int .i64 0, .int .i64 0, .int .i64 0]
  have q4 := Blk.made ((((w.alloc (.cells #[.slice (some ⟨b, off, none⟩) d c] 31)).alloc (.cells #[.int .i64 0, .int .i64 0, .int .i64 0] 193)).alloc (.cells #[.int .i64 (h : Nat)] 3)).alloc (.cells #[.int .i64 0, .int .i64 0, .int .i64 0] 193)) 4 #[.bool false]
  have q5 := Blk.made (((((w.alloc (.cells #[.slice (some ⟨b, off, none⟩) d c] 31)).alloc (.cells #[.int .i64 0, .int .i64 0, .int .i64 0] 193)).alloc (.cells #[.int .i64 (h : Nat)] 3)).alloc (.cells #[.int .i64 0, .int .i64 0, .int .i64 0] 193)).alloc (.cells #[.bool false] 4)) 3 #[.int .i64 (s : Nat)]
  have q6 := Blk.made ((((((w.alloc (.cells #[.slice (some ⟨b, off, none⟩) d c] 31)).alloc (.cells #[.int .i64 0, .int .i64 0, .int .i64 0] 193)).alloc (.cells #[.int .i64 (h : Nat)] 3)).alloc (.cells #[.int .i64 0, .int .i64 0, .int .i64 0] 193)).alloc (.cells #[.bool false] 4)).alloc (.cells #[.int .i64 (s : Nat)] 3)) 3 #[.int .i64 (h : Nat)]
  simp only [World.size_alloc] at q1 q2 q3 q4 q5 q6
  replace q0 := ((((((q0.alloc (.cells #[.int .i64 0, .int .i64 0, .int .i64 0] 193)).alloc (.cells #[.int .i64 (h : Nat)] 3)).alloc (.cells #[.int .i64 0, .int .i64 0, .int .i64 0] 193)).alloc (.cells #[.bool false] 4)).alloc (.cells #[.int .i64 (s : Nat)] 3)).alloc (.cells #[.int .i64 (h : Nat)] 3))
  replace q1 := (((((q1.alloc (.cells #[.int .i64 (h : Nat)] 3)).alloc (.cells #[.int .i64 0, .int .i64 0, .int .i64 0] 193)).alloc (.cells #[.bool false] 4)).alloc (.cells #[.int .i64 (s : Nat)] 3)).alloc (.cells #[.int .i64 (h : Nat)] 3))
  replace q2 := ((((q2.alloc (.cells #[.int .i64 0, .int .i64 0, .int .i64 0] 193)).alloc (.cells #[.bool false] 4)).alloc (.cells #[.int .i64 (s : Nat)] 3)).alloc (.cells #[.int .i64 (h : Nat)] 3))
  replace q3 := (((q3.alloc (.cells #[.bool false] 4)).alloc (.cells #[.int .i64 (s : Nat)] 3)).alloc (.cells #[.int .i64 (h : Nat)] 3))
  replace q4 := ((q4.alloc (.cells #[.int .i64 (s : Nat)] 3)).alloc (.cells #[.int .i64 (h : Nat)] 3))
  replace q5 := (q5.alloc (.cells #[.int .i64 (h : Nat)] 3))
  have hB0 : Below w.heap.size w (((((((w.alloc (.cells #[.slice (some ⟨b, off, none⟩) d c] 31)).alloc (.cells #[.int .i64 0, .int .i64 0, .int .i64 0] 193)).alloc (.cells #[.int .i64 (h : Nat)] 3)).alloc (.cells #[.int .i64 0, .int .i64 0, .int .i64 0] 193)).alloc (.cells #[.bool false] 4)).alloc (.cells #[.int .i64 (s : Nat)] 3)).alloc (.cells #[.int .i64 (h : Nat)] 3)) := ((((((((Below.refl w.heap.size w).alloc (by simp; try omega) (.cells #[.slice (some ⟨b, off, none⟩) d c] 31)).alloc (by simp; try omega) (.cells #[.int .i64 0, .int .i64 0, .int .i64 0] 193)).alloc (by simp; try omega) (.cells #[.int .i64 (h : Nat)] 3)).alloc (by simp; try omega) (.cells #[.int .i64 0, .int .i64 0, .int .i64 0] 193)).alloc (by simp; try omega) (.cells #[.bool false] 4)).alloc (by simp; try omega) (.cells #[.int .i64 (s : Nat)] 3)).alloc (by simp; try omega) (.cells #[.int .i64 (h : Nat)] 3))
  have hsz0 : (((((((w.alloc (.cells #[.slice (some ⟨b, off, none⟩) d c] 31)).alloc (.cells #[.int .i64 0, .int .i64 0, .int .i64 0] 193)).alloc (.cells #[.int .i64 (h : Nat)] 3)).alloc (.cells #[.int .i64 0, .int .i64 0, .int .i64 0] 193)).alloc (.cells #[.bool false] 4)).alloc (.cells #[.int .i64 (s : Nat)] 3)).alloc (.cells #[.int .i64 (h : Nat)] 3)).heap.size = w.heap.size + 7 := by simp
  have hR0 := (RI.alloc (RI.alloc (RI.alloc (RI.alloc (RI.alloc (RI.alloc (RI.alloc hR (.cells #[.slice (some ⟨b, off, none⟩) d c] 31)) (.cells #[.int .i64 0, .int .i64 0, .int .i64 0] 193)) (.cells #[.int .i64 (h : Nat)] 3)) (.cells #[.int .i64 0, .int .i64 0, .int .i64 0] 193)) (.cells #[.bool false] 4)) (.cells #[.int .i64 (s : Nat)] 3)) (.cells #[.int .i64 (h : Nat)] 3))
  generalize (((((((w.alloc (.cells #[.slice (some ⟨b, off, none⟩) d c] 31)).alloc (.cells #[.int .i64 0, .int .i64 0, .int .i64 0] 193)).alloc (.cells #[.int .i64 (h : Nat)] 3)).alloc (.cells #[.int .i64 0, .int .i64 0, .int .i64 0] 193)).alloc (.cells #[.bool false] 4)).alloc (.cells #[.int .i64 (s : Nat)] 3)).alloc (.cells #[.int .i64 (h : Nat)] 3)) = W0 at q0 q1 q2 q3 q4 q5 q6 hB0 hsz0 hR0 ⊢
  have hbR : b < w.heap.size := by
    obtain ⟨b1, off1, e, hcc⟩ := hR (by rw [HL.out]; omega)
    injection e with e
    injection e with e1 e2
    subst e1
    exact World.block_lt_of_cell? w ⟨b, off1 + 0, none⟩ (hcc 0 (by rw [HL.out]; omega))
  refine wpIn_rangeFunc_ownH rfl (by decide) (gf := 247) (lb := #[.pointer (some ⟨w.heap.size + 1 + 1 + 1 + 1 + 1 + 1, 0, none⟩), .pointer (some ⟨w.heap.size + 1 + 1 + 1 + 1 + 1, 0, none⟩)]) rfl trivial (enters_of Tryz.func247 (by kernel_rfl) rfl)
    (windows_stops HS.out h2 _ (w.heap.size + 1 + 1 + 1 + 1 + 1) (w.heap.size + 1 + 1 + 1 + 1 + 1 + 1) (fun g => g ≠ w.heap.size + 1 + 1 + 1 + 1 + 1 ∧ g ≠ w.heap.size + 1 + 1 + 1 + 1 + 1 + 1) W0 q5 q6 (by omega) (by omega))
    Kx.trans (fun W l o o' _ hl ho _ => Kx.putObj W l o o' hl ho) (Below.refl _ _) (fun _ => rfl)
    (fun pre W => ((∀ j ∈ pre, withinV (sumR r (winF s j.1) (2 ^ j.1)).toNat j.1 h ≠ 0) ∧ Blk W w.heap.size 31 #[.slice (some ⟨b, off, none⟩) d c] ∧ Blk W (w.heap.size + 1) 193 #[.int .i64 0, .int .i64 0, .int .i64 0] ∧ Blk W (w.heap.size + 1 + 1) 3 #[.int .i64 (h : Nat)] ∧ Blk W (w.heap.size + 1 + 1 + 1) 193 #[.int .i64 0, .int .i64 0, .int .i64 0] ∧ Blk W (w.heap.size + 1 + 1 + 1 + 1) 4 #[.bool false]) ∧ Below w.heap.size w W ∧ w.heap.size + 7 ≤ W.heap.size)
    (fun c pre W => (c = .exit 0 ∧ (∃ (pre' : List (Fin (h + 1))) (k : Fin (h + 1)), pre = pre' ++ [k] ∧ (∀ j ∈ pre', withinV (sumR r (winF s j.1) (2 ^ j.1)).toNat j.1 h ≠ 0) ∧ withinV (sumR r (winF s k.1) (2 ^ k.1)).toNat k.1 h = 0 ∧ Blk W (w.heap.size + 1 + 1 + 1) 193 #[.int .i64 (k.1 : Nat), .int .i64 (winF s k.1 : Nat), .int .i64 ((2 ^ k.1 : Nat) : Int)]) ∧ Blk W (w.heap.size + 1) 193 #[.int .i64 0, .int .i64 0, .int .i64 0] ∧ Blk W (w.heap.size + 1 + 1) 3 #[.int .i64 (h : Nat)] ∧ Blk W (w.heap.size + 1 + 1 + 1 + 1) 4 #[.bool true]) ∧ Below w.heap.size w W)
    (OwnFrom.and (Own.from (fun s A B row hs hg hrw => ⟨hs.1, hs.2.1.grown hg (blk_ne hs.2.1 hrw), hs.2.2.1.grown hg (blk_ne hs.2.2.1 hrw), hs.2.2.2.1.grown hg (blk_ne hs.2.2.2.1 hrw), hs.2.2.2.2.1.grown hg (blk_ne hs.2.2.2.2.1 hrw), hs.2.2.2.2.2.grown hg (blk_ne hs.2.2.2.2.2 hrw)⟩) _) (OwnFrom.and (ownFrom_below (Nat.le_refl _) (by omega)) (fun _ A B row hs hg _ => Nat.le_trans hs hg.size)))
    (fun c => OwnFrom.and (Own.from (fun s A B row hs hg hrw => ⟨hs.1, (by obtain ⟨p', k, k1, k2, k4, k3⟩ := hs.2.1; exact ⟨p', k, k1, k2, k4, k3.grown hg (blk_ne k3 hrw)⟩), hs.2.2.1.grown hg (blk_ne hs.2.2.1 hrw), hs.2.2.2.1.grown hg (blk_ne hs.2.2.2.1 hrw), hs.2.2.2.2.grown hg (blk_ne hs.2.2.2.2 hrw)⟩) _) (ownFrom_below (Nat.le_refl _) (by omega)))
    ⟨⟨fun j hj => absurd hj (by simp), q0, q1, q2, q3, q4⟩, hB0, by omega⟩
    (fun x a' W => ∃ bw, a' = { tmps := #[.slice (some ⟨b, off, none⟩) d c, .int .i64 (s : Nat), .pointer (some ⟨w.heap.size, 0, none⟩), undef, .pointer (some ⟨w.heap.size + 1, 0, none⟩), .int .i64 0, .bool false, .int .i64 0, .int .i64 0, .pointer (some ⟨w.heap.size + 1 + 1, 0, none⟩), .int .i64 0, .pointer (some ⟨w.heap.size + 1 + 1 + 1, 0, none⟩), .pointer (some ⟨w.heap.size + 1 + 1 + 1 + 1, 0, none⟩), .pointer (some ⟨bw, 0, none⟩), undef, undef, .slice (some ⟨b, off, none⟩) d c, .int .i64 0, .int .i64 0, .bool false, undef, undef, .int .i64 (s : Nat), .bool false, .bool false, .int .i64 (s : Nat), .slice (some ⟨b, off, none⟩) d c, .int .i64 (d : Nat), .bool false, .bool false, undef, .tuple #[.int .i64 (h : Nat), .int .i64 0], .slice (some ⟨b, off, none⟩) d c, .int .i64 (d : Nat), .int .i64 (8 * (d : Int)), .tuple #[.int .i64 (h : Nat), .int .i64 0], .int .i64 (h : Nat), .int .i64 0, .int .i64 0, .bool false, undef, undef, .int .i64 (s : Nat), .int .i64 (h : Nat), .func (.func 247) #[] #[.pointer (some ⟨w.heap.size + 1 + 1 + 1 + 1 + 1 + 1, 0, none⟩), .pointer (some ⟨w.heap.size + 1 + 1 + 1 + 1 + 1, 0, none⟩)], winV x.1 (winF s x.1) (2 ^ x.1), undef, undef, undef, undef, undef, undef, undef, undef, undef, undef, undef, undef, undef, undef, undef, undef, undef, undef, undef, undef], defers := [] } ∧ Blk W bw 193 #[.int .i64 (x.1 : Nat), .int .i64 (winF s x.1 : Nat), .int .i64 ((2 ^ x.1 : Nat) : Int)] ∧ w.heap.size + 7 ≤ bw)
    (fun x a' => Own.from (fun _ A B row hs hg hrw => by obtain ⟨bw, e, hk, hle⟩ := hs; exact ⟨bw, e, hk.grown hg (blk_ne hk hrw), hle⟩) _)
    ?assign ?body ?done ?stop
  case assign =>
    rintro l pre x W K ⟨⟨hp, k0, k1, k2, k3, k4⟩, hB, hz⟩ hK
    obtain ⟨F, hF⟩ : ∃ F, F = winF s x.1 := ⟨_, rfl⟩
    obtain ⟨M, hM⟩ : ∃ M, M = 2 ^ x.1 := ⟨_, rfl⟩
    simp only [encW, ← hF, ← hM] at hK ⊢
    unfold winV at hK ⊢
    have n1 := Blk.made W 193 #[.int .i64 (x.1 : Nat), .int .i64 (F : Nat), .int .i64 (M : Nat)]
    have hle : w.heap.size + 7 ≤ (W.alloc (.cells #[.int .i64 (x.1 : Nat), .int .i64 (F : Nat), .int .i64 (M : Nat)] 193)).heap.size := by simp; omega
    have hKK := fun a' (e : a' = _) => hK a' (W.alloc (.cells #[.int .i64 (x.1 : Nat), .int .i64 (F : Nat), .int .i64 (M : Nat)] 193)) ((KeepsOthers.alloc W _).from _) ((Kx.refl _ W).alloc _)
      ⟨⟨hp, k0.alloc _, k1.alloc _, k2.alloc _, k3.alloc _, k4.alloc _⟩, hB.alloc hB.size _, hle⟩ ⟨W.heap.size, e, n1, hz⟩
    have HK := Lib.hid hKK
    clear hF hM hKK hK
    gi_wp2
    exact HK.out _ rfl
  case body =>
    rintro l pre x a' W hl _ ⟨⟨hno, k0, k1, k2, k3, k4⟩, hB, hz⟩ ⟨bw, rfl, hk, hbw⟩ hlen
    have c2 : W.cell? ⟨w.heap.size, 0, none⟩ = some (.slice (some ⟨b, off, none⟩) d c) := by rw [k0.cell]; rfl
    have c9 : W.cell? ⟨w.heap.size + 1 + 1, 0, none⟩ = some (.int .i64 (h : Nat)) := by rw [k2.cell]; rfl
    have e0 : W.cell? ⟨bw, 0, none⟩ = some (.int .i64 (x.1 : Nat)) := by rw [hk.cell]; rfl
    have e1 : W.cell? ⟨bw, 1, none⟩ = some (.int .i64 (winF s x.1 : Nat)) := by rw [hk.cell]; rfl
    have e2 : W.cell? ⟨bw, 2, none⟩ = some (.int .i64 ((2 ^ x.1 : Nat) : Int)) := by rw [hk.cell]; rfl
    have hx := x.2
    have hRW : RI W.drew (some ⟨b, off, none⟩) r := RI.drewN (hR.below hB (Nat.le_refl _)) 1
    have hct := hcnt W.drew hRW x.1 (winF s x.1) (2 ^ x.1) (HW.out x.1 (by omega)) Nat.one_le_two_pow (by omega)
    have hw0 := sumR_small hsm (winF s x.1) (2 ^ x.1) (by rw [HL.out]; exact HW.out x.1 (by omega))
    have hwin := fun W => hwi x.1 (sumR r (winF s x.1) (2 ^ x.1)).toNat (by omega) (by have := HW.out x.1 (by omega); have : 2 ^ x.1 ≤ 512 := by omega
                                                                                       omega) W
    have hdec := Classical.em (withinV (sumR r (winF s x.1) (2 ^ x.1)).toNat x.1 h = 0)
    rw [show (((sumR r (winF s x.1) (2 ^ x.1)).toNat : Nat) : Int) = sumR r (winF s x.1) (2 ^ x.1) by omega] at hwin
    clear hw0 hcnt hwi hck hht
    obtain ⟨V, hV⟩ : ∃ V, withinV (sumR r (winF s x.1) (2 ^ x.1)).toNat x.1 h = V := ⟨_, rfl⟩
    have HVV := Lib.hid hV
    rw [hV] at hdec hwin
    clear hV
    generalize sumR r (winF s x.1) (2 ^ x.1) = Z at hct hwin
    obtain ⟨F, hF⟩ : ∃ F, winF s x.1 = F := ⟨_, rfl⟩
    obtain ⟨M, hM⟩ : ∃ M, 2 ^ x.1 = M := ⟨_, rfl⟩
    rw [hF, hM] at hk hct ⊢
    rw [hF] at e1
    rw [hM] at e2
    unfold winV at *
    have hmx : Tryz.prog.follows .mixedOrders = true := by kernel_rfl
    have kd := (hk.drew).alloc (.cells #[.int .i64 (x.1 : Nat), .int .i64 (F : Nat), .int .i64 (M : Nat)] 193)
    have kd2 := (k2.drew).alloc (.cells #[.int .i64 (x.1 : Nat), .int .i64 (F : Nat), .int .i64 (M : Nat)] 193)
    gi_wp2_with fail
    rename_i K hKr
    have hfin : ∀ w4, W.drew.alloc (.cells #[.int .i64 (x.1 : Nat), .int .i64 (F : Nat), .int .i64 (M : Nat)] 193) = w4 → K { tmps := #[.slice (some ⟨b, off, none⟩) d c, .int .i64 (s : Nat), .pointer (some ⟨w.heap.size, 0, none⟩), undef, .pointer (some ⟨w.heap.size + 1, 0, none⟩), .int .i64 0, .bool false, .int .i64 0, .int .i64 0, .pointer (some ⟨w.heap.size + 1 + 1, 0, none⟩), .int .i64 0, .pointer (some ⟨w.heap.size + 1 + 1 + 1, 0, none⟩), .pointer (some ⟨w.heap.size + 1 + 1 + 1 + 1, 0, none⟩), .pointer (some ⟨bw, 0, none⟩), .int .i64 V, .int .i64 0, .slice (some ⟨b, off, none⟩) d c, .int .i64 0, .int .i64 0, .bool false, undef, undef, .int .i64 (s : Nat), .bool false, .bool false, .int .i64 (s : Nat), .slice (some ⟨b, off, none⟩) d c, .int .i64 (d : Nat), .bool false, .bool false, undef, .tuple #[.int .i64 (h : Nat), .int .i64 0], .slice (some ⟨b, off, none⟩) d c, .int .i64 (d : Nat), .int .i64 (8 * (d : Int)), .tuple #[.int .i64 (h : Nat), .int .i64 0], .int .i64 (h : Nat), .int .i64 0, .int .i64 0, .bool false, undef, undef, .int .i64 (s : Nat), .int .i64 (h : Nat), .func (.func 247) #[] #[.pointer (some ⟨w.heap.size + 1 + 1 + 1 + 1 + 1 + 1, 0, none⟩), .pointer (some ⟨w.heap.size + 1 + 1 + 1 + 1 + 1, 0, none⟩)], .agg #[.int .i64 (x.1 : Nat), .int .i64 (F : Nat), .int .i64 (M : Nat)], .tuple #[.int .i64 V, .int .i64 0], .agg #[.int .i64 (x.1 : Nat), .int .i64 (F : Nat), .int .i64 (M : Nat)], .slice (some ⟨b, off, none⟩) d c, .int .i64 Z, .pointer (some ⟨bw, 0, none⟩), .int .i64 (x.1 : Nat), .int .i64 (h : Nat), .tuple #[.int .i64 V, .int .i64 0], .int .i64 V, .int .i64 0, undef, undef, undef, undef, undef, undef, undef, undef, undef, undef], defers := [] } w4 := by
      rintro w4 rfl
      refine hKr _ _ ?_
      clear hKr
      have s11 := (k3.drew).alloc (.cells #[.int .i64 (x.1 : Nat), .int .i64 (F : Nat), .int .i64 (M : Nat)] 193)
      have s12 := (k4.drew).alloc (.cells #[.int .i64 (x.1 : Nat), .int .i64 (F : Nat), .int .i64 (M : Nat)] 193)
      have s4 := (k1.drew).alloc (.cells #[.int .i64 (x.1 : Nat), .int .i64 (F : Nat), .int .i64 (M : Nat)] 193)
      have s2 := (k0.drew).alloc (.cells #[.int .i64 (x.1 : Nat), .int .i64 (F : Nat), .int .i64 (M : Nat)] 193)
      have hB4 : Below w.heap.size w (W.drew.alloc (.cells #[.int .i64 (x.1 : Nat), .int .i64 (F : Nat), .int .i64 (M : Nat)] 193)) := Below.alloc (below_drewN hB 1) hB.size _
      have hK4 : KeepsOthers W (W.drew.alloc (.cells #[.int .i64 (x.1 : Nat), .int .i64 (F : Nat), .int .i64 (M : Nat)] 193)) := (KeepsOthers.drew W).trans (KeepsOthers.alloc _ _)
      have hX4 : Kx (fun g => g ≠ w.heap.size + 1 + 1 + 1 + 1 + 1 ∧ g ≠ w.heap.size + 1 + 1 + 1 + 1 + 1 + 1) W (W.drew.alloc (.cells #[.int .i64 (x.1 : Nat), .int .i64 (F : Nat), .int .i64 (M : Nat)] 193)) := ((Kx.refl _ W).drew).alloc _
      have hz4 : w.heap.size + 7 ≤ (W.drew.alloc (.cells #[.int .i64 (x.1 : Nat), .int .i64 (F : Nat), .int .i64 (M : Nat)] 193)).heap.size := Nat.le_trans hz hX4.size
      have s13 := (hk.drew).alloc (.cells #[.int .i64 (x.1 : Nat), .int .i64 (F : Nat), .int .i64 (M : Nat)] 193)
      have s9 := (k2.drew).alloc (.cells #[.int .i64 (x.1 : Nat), .int .i64 (F : Nat), .int .i64 (M : Nat)] 193)
      generalize hw4 : W.drew.alloc (.cells #[.int .i64 (x.1 : Nat), .int .i64 (F : Nat), .int .i64 (M : Nat)] 193) = w4 at s11 s12 s4 s2 hB4 hK4 hX4 hz4 s13 s9 ⊢
      have u0 : w4.cell? ⟨bw, 0, none⟩ = some (.int .i64 (x.1 : Nat)) := by rw [s13.cell]; rfl
      have u1 : w4.cell? ⟨bw, 1, none⟩ = some (.int .i64 (F : Nat)) := by rw [s13.cell]; rfl
      have u2 : w4.cell? ⟨bw, 2, none⟩ = some (.int .i64 (M : Nat)) := by rw [s13.cell]; rfl
      have v0 : w4.cell? ⟨w.heap.size + 1 + 1 + 1, 0, none⟩ = some (.int .i64 0) := by rw [s11.cell]; rfl
      have v1 : w4.cell? ⟨w.heap.size + 1 + 1 + 1, 1, none⟩ = some (.int .i64 0) := by rw [s11.cell]; rfl
      have v2 : w4.cell? ⟨w.heap.size + 1 + 1 + 1, 2, none⟩ = some (.int .i64 0) := by rw [s11.cell]; rfl
      have v3 : w4.cell? ⟨w.heap.size + 1 + 1 + 1 + 1, 0, none⟩ = some (.bool false) := by rw [s12.cell]; rfl
      have f11 := s11.frozen 0
      have f11b := s11.frozen 1
      have f11c := s11.frozen 2
      have f12 := s12.frozen 0
      rcases hdec with rfl | hne
      · clear hw4
        gi_wp2_with fail
        refine ⟨?_, ⟨rfl, ⟨pre, x, rfl, hno, HVV.out, ?_⟩, ?_, ?_, ?_⟩, ?_⟩
        · exact (hK4.trans ((((KeepsOthers.setCell _ _ _).trans (KeepsOthers.setCell _ _ _)).trans (KeepsOthers.setCell _ _ _)).trans (KeepsOthers.setCell _ _ _))).from _
        · have q := (((s11.put 0 (.int .i64 (x.1 : Nat))).put 1 (.int .i64 (F : Nat))).put 2 (.int .i64 (M : Nat))).far (p := ⟨w.heap.size + 1 + 1 + 1 + 1, 0, none⟩) (by simp) (.bool true)
          rw [hF, hM]
          simpa using q
        · exact (((s4.far (p := ⟨w.heap.size + 1 + 1 + 1, 0, none⟩) (by simp) _).far (p := ⟨w.heap.size + 1 + 1 + 1, 1, none⟩) (by simp) _).far (p := ⟨w.heap.size + 1 + 1 + 1, 2, none⟩) (by simp) _).far (p := ⟨w.heap.size + 1 + 1 + 1 + 1, 0, none⟩) (by simp <;> omega) _
        · exact (((s9.far (p := ⟨w.heap.size + 1 + 1 + 1, 0, none⟩) (by simp) _).far (p := ⟨w.heap.size + 1 + 1 + 1, 1, none⟩) (by simp) _).far (p := ⟨w.heap.size + 1 + 1 + 1, 2, none⟩) (by simp) _).far (p := ⟨w.heap.size + 1 + 1 + 1 + 1, 0, none⟩) (by simp) _
        · have q := (((s12.far (p := ⟨w.heap.size + 1 + 1 + 1, 0, none⟩) (by simp) (.int .i64 (x.1 : Nat))).far (p := ⟨w.heap.size + 1 + 1 + 1, 1, none⟩) (by simp) (.int .i64 (F : Nat))).far (p := ⟨w.heap.size + 1 + 1 + 1, 2, none⟩) (by simp) (.int .i64 (M : Nat))).put 0 (.bool true)
          simpa using q
        · exact (((hB4.setCell (p := ⟨w.heap.size + 1 + 1 + 1, 0, none⟩) (by simp; omega) _).setCell (p := ⟨w.heap.size + 1 + 1 + 1, 1, none⟩) (by simp; omega) _).setCell (p := ⟨w.heap.size + 1 + 1 + 1, 2, none⟩) (by simp; omega) _).setCell (p := ⟨w.heap.size + 1 + 1 + 1 + 1, 0, none⟩) (by simp; omega) _
      · have tV : (V == 0) = false := by simp [hne]
        clear hw4
        gi_wp2_with fail
        refine ⟨hK4.from _, hX4, ⟨?_, s2, s4, s9, s11, s12⟩, hB4, hz4⟩
        intro j hj
        rw [List.mem_append] at hj
        rcases hj with hj | hj
        · exact hno j hj
        · rw [List.mem_singleton] at hj
          subst hj
          rw [HVV.out]
          exact hne
    have HFIN := Lib.hid hfin
    clear hfin hKr hno hdec k0 k1 k2 k3 k4 hB hz hbw hlen hx hRW hF hM q0 q1 q2 q3 q4 q5 q6 hB0 hsz0 hR0 hbR
    obtain ⟨w4, hw4⟩ : ∃ w4, W.drew.alloc (.cells #[.int .i64 (x.1 : Nat), .int .i64 (F : Nat), .int .i64 (M : Nat)] 193) = w4 := ⟨_, rfl⟩
    rw [hw4] at kd kd2 HFIN
    have g0 : w4.cell? ⟨bw, 0, none⟩ = some (.int .i64 (x.1 : Nat)) := by rw [kd.cell]; rfl
    have g9 : w4.cell? ⟨w.heap.size + 1 + 1, 0, none⟩ = some (.int .i64 (h : Nat)) := by rw [kd2.cell]; rfl
    clear kd kd2
    refine wpIn_region_any hmx ?_
    change wpAnyIn _ _ _ _ _ _ 12 #[false, false, false, false, false, false, false, false, false, false, false, false] _ W.drew
    refine with_any ?_
    intro GG hG
    have g0123456789ab : GG 0 #[true, true, true, true, true, true, true, true, true, true, true, true] { tmps := #[.slice (some ⟨b, off, none⟩) d c, .int .i64 (s : Nat), .pointer (some ⟨w.heap.size, 0, none⟩), undef, .pointer (some ⟨w.heap.size + 1, 0, none⟩), .int .i64 0, .bool false, .int .i64 0, .int .i64 0, .pointer (some ⟨w.heap.size + 1 + 1, 0, none⟩), .int .i64 0, .pointer (some ⟨w.heap.size + 1 + 1 + 1, 0, none⟩), .pointer (some ⟨w.heap.size + 1 + 1 + 1 + 1, 0, none⟩), .pointer (some ⟨bw, 0, none⟩), .int .i64 V, .int .i64 0, .slice (some ⟨b, off, none⟩) d c, .int .i64 0, .int .i64 0, .bool false, undef, undef, .int .i64 (s : Nat), .bool false, .bool false, .int .i64 (s : Nat), .slice (some ⟨b, off, none⟩) d c, .int .i64 (d : Nat), .bool false, .bool false, undef, .tuple #[.int .i64 (h : Nat), .int .i64 0], .slice (some ⟨b, off, none⟩) d c, .int .i64 (d : Nat), .int .i64 (8 * (d : Int)), .tuple #[.int .i64 (h : Nat), .int .i64 0], .int .i64 (h : Nat), .int .i64 0, .int .i64 0, .bool false, undef, undef, .int .i64 (s : Nat), .int .i64 (h : Nat), .func (.func 247) #[] #[.pointer (some ⟨w.heap.size + 1 + 1 + 1 + 1 + 1 + 1, 0, none⟩), .pointer (some ⟨w.heap.size + 1 + 1 + 1 + 1 + 1, 0, none⟩)], .agg #[.int .i64 (x.1 : Nat), .int .i64 (F : Nat), .int .i64 (M : Nat)], .tuple #[.int .i64 V, .int .i64 0], .agg #[.int .i64 (x.1 : Nat), .int .i64 (F : Nat), .int .i64 (M : Nat)], .slice (some ⟨b, off, none⟩) d c, .int .i64 Z, .pointer (some ⟨bw, 0, none⟩), .int .i64 (x.1 : Nat), .int .i64 (h : Nat), .tuple #[.int .i64 V, .int .i64 0], .int .i64 V, .int .i64 0, undef, undef, undef, undef, undef, undef, undef, undef, undef, undef], defers := [] } w4 := by
      rw [hG]
      refine wpAnyIn_done (by kernel_rfl) ?_ _
      exact HFIN.out _ rfl
    have g0123456789a : GG 1 #[true, true, true, true, true, true, true, true, true, true, true, false] { tmps := #[.slice (some ⟨b, off, none⟩) d c, .int .i64 (s : Nat), .pointer (some ⟨w.heap.size, 0, none⟩), undef, .pointer (some ⟨w.heap.size + 1, 0, none⟩), .int .i64 0, .bool false, .int .i64 0, .int .i64 0, .pointer (some ⟨w.heap.size + 1 + 1, 0, none⟩), .int .i64 0, .pointer (some ⟨w.heap.size + 1 + 1 + 1, 0, none⟩), .pointer (some ⟨w.heap.size + 1 + 1 + 1 + 1, 0, none⟩), .pointer (some ⟨bw, 0, none⟩), .int .i64 V, undef, .slice (some ⟨b, off, none⟩) d c, .int .i64 0, .int .i64 0, .bool false, undef, undef, .int .i64 (s : Nat), .bool false, .bool false, .int .i64 (s : Nat), .slice (some ⟨b, off, none⟩) d c, .int .i64 (d : Nat), .bool false, .bool false, undef, .tuple #[.int .i64 (h : Nat), .int .i64 0], .slice (some ⟨b, off, none⟩) d c, .int .i64 (d : Nat), .int .i64 (8 * (d : Int)), .tuple #[.int .i64 (h : Nat), .int .i64 0], .int .i64 (h : Nat), .int .i64 0, .int .i64 0, .bool false, undef, undef, .int .i64 (s : Nat), .int .i64 (h : Nat), .func (.func 247) #[] #[.pointer (some ⟨w.heap.size + 1 + 1 + 1 + 1 + 1 + 1, 0, none⟩), .pointer (some ⟨w.heap.size + 1 + 1 + 1 + 1 + 1, 0, none⟩)], .agg #[.int .i64 (x.1 : Nat), .int .i64 (F : Nat), .int .i64 (M : Nat)], .tuple #[.int .i64 V, .int .i64 0], .agg #[.int .i64 (x.1 : Nat), .int .i64 (F : Nat), .int .i64 (M : Nat)], .slice (some ⟨b, off, none⟩) d c, .int .i64 Z, .pointer (some ⟨bw, 0, none⟩), .int .i64 (x.1 : Nat), .int .i64 (h : Nat), .tuple #[.int .i64 V, .int .i64 0], .int .i64 V, .int .i64 0, undef, undef, undef, undef, undef, undef, undef, undef, undef, undef], defers := [] } w4 := by
      rw [hG]
      refine wpAnyIn_ready (rs := [11]) (by kernel_rfl) (by simp) ?_
      refine AllReadyIn.cons rfl (fun K hK => ?_) ?_
      · go_simp
        refine hK _ _ ?_
        rw [← hG]
        exact g0123456789ab
      exact AllReadyIn.nil
    have g0123456789 : GG 2 #[true, true, true, true, true, true, true, true, true, true, false, false] { tmps := #[.slice (some ⟨b, off, none⟩) d c, .int .i64 (s : Nat), .pointer (some ⟨w.heap.size, 0, none⟩), undef, .pointer (some ⟨w.heap.size + 1, 0, none⟩), .int .i64 0, .bool false, .int .i64 0, .int .i64 0, .pointer (some ⟨w.heap.size + 1 + 1, 0, none⟩), .int .i64 0, .pointer (some ⟨w.heap.size + 1 + 1 + 1, 0, none⟩), .pointer (some ⟨w.heap.size + 1 + 1 + 1 + 1, 0, none⟩), .pointer (some ⟨bw, 0, none⟩), undef, undef, .slice (some ⟨b, off, none⟩) d c, .int .i64 0, .int .i64 0, .bool false, undef, undef, .int .i64 (s : Nat), .bool false, .bool false, .int .i64 (s : Nat), .slice (some ⟨b, off, none⟩) d c, .int .i64 (d : Nat), .bool false, .bool false, undef, .tuple #[.int .i64 (h : Nat), .int .i64 0], .slice (some ⟨b, off, none⟩) d c, .int .i64 (d : Nat), .int .i64 (8 * (d : Int)), .tuple #[.int .i64 (h : Nat), .int .i64 0], .int .i64 (h : Nat), .int .i64 0, .int .i64 0, .bool false, undef, undef, .int .i64 (s : Nat), .int .i64 (h : Nat), .func (.func 247) #[] #[.pointer (some ⟨w.heap.size + 1 + 1 + 1 + 1 + 1 + 1, 0, none⟩), .pointer (some ⟨w.heap.size + 1 + 1 + 1 + 1 + 1, 0, none⟩)], .agg #[.int .i64 (x.1 : Nat), .int .i64 (F : Nat), .int .i64 (M : Nat)], .tuple #[.int .i64 V, .int .i64 0], .agg #[.int .i64 (x.1 : Nat), .int .i64 (F : Nat), .int .i64 (M : Nat)], .slice (some ⟨b, off, none⟩) d c, .int .i64 Z, .pointer (some ⟨bw, 0, none⟩), .int .i64 (x.1 : Nat), .int .i64 (h : Nat), .tuple #[.int .i64 V, .int .i64 0], .int .i64 V, .int .i64 0, undef, undef, undef, undef, undef, undef, undef, undef, undef, undef], defers := [] } w4 := by
      rw [hG]
      refine wpAnyIn_ready (rs := [10]) (by kernel_rfl) (by simp) ?_
      refine AllReadyIn.cons rfl (fun K hK => ?_) ?_
      · go_simp
        refine hK _ _ ?_
        rw [← hG]
        exact g0123456789a
      exact AllReadyIn.nil
    have g012345678a : GG 2 #[true, true, true, true, true, true, true, true, true, false, true, false] { tmps := #[.slice (some ⟨b, off, none⟩) d c, .int .i64 (s : Nat), .pointer (some ⟨w.heap.size, 0, none⟩), undef, .pointer (some ⟨w.heap.size + 1, 0, none⟩), .int .i64 0, .bool false, .int .i64 0, .int .i64 0, .pointer (some ⟨w.heap.size + 1 + 1, 0, none⟩), .int .i64 0, .pointer (some ⟨w.heap.size + 1 + 1 + 1, 0, none⟩), .pointer (some ⟨w.heap.size + 1 + 1 + 1 + 1, 0, none⟩), .pointer (some ⟨bw, 0, none⟩), .int .i64 V, undef, .slice (some ⟨b, off, none⟩) d c, .int .i64 0, .int .i64 0, .bool false, undef, undef, .int .i64 (s : Nat), .bool false, .bool false, .int .i64 (s : Nat), .slice (some ⟨b, off, none⟩) d c, .int .i64 (d : Nat), .bool false, .bool false, undef, .tuple #[.int .i64 (h : Nat), .int .i64 0], .slice (some ⟨b, off, none⟩) d c, .int .i64 (d : Nat), .int .i64 (8 * (d : Int)), .tuple #[.int .i64 (h : Nat), .int .i64 0], .int .i64 (h : Nat), .int .i64 0, .int .i64 0, .bool false, undef, undef, .int .i64 (s : Nat), .int .i64 (h : Nat), .func (.func 247) #[] #[.pointer (some ⟨w.heap.size + 1 + 1 + 1 + 1 + 1 + 1, 0, none⟩), .pointer (some ⟨w.heap.size + 1 + 1 + 1 + 1 + 1, 0, none⟩)], .agg #[.int .i64 (x.1 : Nat), .int .i64 (F : Nat), .int .i64 (M : Nat)], .tuple #[.int .i64 V, .int .i64 0], .agg #[.int .i64 (x.1 : Nat), .int .i64 (F : Nat), .int .i64 (M : Nat)], .slice (some ⟨b, off, none⟩) d c, .int .i64 Z, .pointer (some ⟨bw, 0, none⟩), .int .i64 (x.1 : Nat), .int .i64 (h : Nat), .tuple #[.int .i64 V, .int .i64 0], .int .i64 V, undef, undef, undef, undef, undef, undef, undef, undef, undef, undef, undef], defers := [] } w4 := by
      rw [hG]
      refine wpAnyIn_ready (rs := [9]) (by kernel_rfl) (by simp) ?_
      refine AllReadyIn.cons rfl (fun K hK => ?_) ?_
      · go_simp
        refine hK _ _ ?_
        rw [← hG]
        exact g0123456789a
      exact AllReadyIn.nil
    have g012345678 : GG 3 #[true, true, true, true, true, true, true, true, true, false, false, false] { tmps := #[.slice (some ⟨b, off, none⟩) d c, .int .i64 (s : Nat), .pointer (some ⟨w.heap.size, 0, none⟩), undef, .pointer (some ⟨w.heap.size + 1, 0, none⟩), .int .i64 0, .bool false, .int .i64 0, .int .i64 0, .pointer (some ⟨w.heap.size + 1 + 1, 0, none⟩), .int .i64 0, .pointer (some ⟨w.heap.size + 1 + 1 + 1, 0, none⟩), .pointer (some ⟨w.heap.size + 1 + 1 + 1 + 1, 0, none⟩), .pointer (some ⟨bw, 0, none⟩), undef, undef, .slice (some ⟨b, off, none⟩) d c, .int .i64 0, .int .i64 0, .bool false, undef, undef, .int .i64 (s : Nat), .bool false, .bool false, .int .i64 (s : Nat), .slice (some ⟨b, off, none⟩) d c, .int .i64 (d : Nat), .bool false, .bool false, undef, .tuple #[.int .i64 (h : Nat), .int .i64 0], .slice (some ⟨b, off, none⟩) d c, .int .i64 (d : Nat), .int .i64 (8 * (d : Int)), .tuple #[.int .i64 (h : Nat), .int .i64 0], .int .i64 (h : Nat), .int .i64 0, .int .i64 0, .bool false, undef, undef, .int .i64 (s : Nat), .int .i64 (h : Nat), .func (.func 247) #[] #[.pointer (some ⟨w.heap.size + 1 + 1 + 1 + 1 + 1 + 1, 0, none⟩), .pointer (some ⟨w.heap.size + 1 + 1 + 1 + 1 + 1, 0, none⟩)], .agg #[.int .i64 (x.1 : Nat), .int .i64 (F : Nat), .int .i64 (M : Nat)], .tuple #[.int .i64 V, .int .i64 0], .agg #[.int .i64 (x.1 : Nat), .int .i64 (F : Nat), .int .i64 (M : Nat)], .slice (some ⟨b, off, none⟩) d c, .int .i64 Z, .pointer (some ⟨bw, 0, none⟩), .int .i64 (x.1 : Nat), .int .i64 (h : Nat), .tuple #[.int .i64 V, .int .i64 0], .int .i64 V, undef, undef, undef, undef, undef, undef, undef, undef, undef, undef, undef], defers := [] } w4 := by
      rw [hG]
      refine wpAnyIn_ready (rs := [9, 10]) (by kernel_rfl) (by simp) ?_
      refine AllReadyIn.cons rfl (fun K hK => ?_) ?_
      · go_simp
        refine hK _ _ ?_
        rw [← hG]
        exact g0123456789
      refine AllReadyIn.cons rfl (fun K hK => ?_) ?_
      · go_simp
        refine hK _ _ ?_
        rw [← hG]
        exact g012345678a
      exact AllReadyIn.nil
    have g012345679 : GG 3 #[true, true, true, true, true, true, true, true, false, true, false, false] { tmps := #[.slice (some ⟨b, off, none⟩) d c, .int .i64 (s : Nat), .pointer (some ⟨w.heap.size, 0, none⟩), undef, .pointer (some ⟨w.heap.size + 1, 0, none⟩), .int .i64 0, .bool false, .int .i64 0, .int .i64 0, .pointer (some ⟨w.heap.size + 1 + 1, 0, none⟩), .int .i64 0, .pointer (some ⟨w.heap.size + 1 + 1 + 1, 0, none⟩), .pointer (some ⟨w.heap.size + 1 + 1 + 1 + 1, 0, none⟩), .pointer (some ⟨bw, 0, none⟩), undef, undef, .slice (some ⟨b, off, none⟩) d c, .int .i64 0, .int .i64 0, .bool false, undef, undef, .int .i64 (s : Nat), .bool false, .bool false, .int .i64 (s : Nat), .slice (some ⟨b, off, none⟩) d c, .int .i64 (d : Nat), .bool false, .bool false, undef, .tuple #[.int .i64 (h : Nat), .int .i64 0], .slice (some ⟨b, off, none⟩) d c, .int .i64 (d : Nat), .int .i64 (8 * (d : Int)), .tuple #[.int .i64 (h : Nat), .int .i64 0], .int .i64 (h : Nat), .int .i64 0, .int .i64 0, .bool false, undef, undef, .int .i64 (s : Nat), .int .i64 (h : Nat), .func (.func 247) #[] #[.pointer (some ⟨w.heap.size + 1 + 1 + 1 + 1 + 1 + 1, 0, none⟩), .pointer (some ⟨w.heap.size + 1 + 1 + 1 + 1 + 1, 0, none⟩)], .agg #[.int .i64 (x.1 : Nat), .int .i64 (F : Nat), .int .i64 (M : Nat)], .tuple #[.int .i64 V, .int .i64 0], .agg #[.int .i64 (x.1 : Nat), .int .i64 (F : Nat), .int .i64 (M : Nat)], .slice (some ⟨b, off, none⟩) d c, .int .i64 Z, .pointer (some ⟨bw, 0, none⟩), .int .i64 (x.1 : Nat), .int .i64 (h : Nat), .tuple #[.int .i64 V, .int .i64 0], undef, .int .i64 0, undef, undef, undef, undef, undef, undef, undef, undef, undef, undef], defers := [] } w4 := by
      rw [hG]
      refine wpAnyIn_ready (rs := [8]) (by kernel_rfl) (by simp) ?_
      refine AllReadyIn.cons rfl (fun K hK => ?_) ?_
      · go_simp
        refine hK _ _ ?_
        rw [← hG]
        exact g0123456789
      exact AllReadyIn.nil
    have g01234567 : GG 4 #[true, true, true, true, true, true, true, true, false, false, false, false] { tmps := #[.slice (some ⟨b, off, none⟩) d c, .int .i64 (s : Nat), .pointer (some ⟨w.heap.size, 0, none⟩), undef, .pointer (some ⟨w.heap.size + 1, 0, none⟩), .int .i64 0, .bool false, .int .i64 0, .int .i64 0, .pointer (some ⟨w.heap.size + 1 + 1, 0, none⟩), .int .i64 0, .pointer (some ⟨w.heap.size + 1 + 1 + 1, 0, none⟩), .pointer (some ⟨w.heap.size + 1 + 1 + 1 + 1, 0, none⟩), .pointer (some ⟨bw, 0, none⟩), undef, undef, .slice (some ⟨b, off, none⟩) d c, .int .i64 0, .int .i64 0, .bool false, undef, undef, .int .i64 (s : Nat), .bool false, .bool false, .int .i64 (s : Nat), .slice (some ⟨b, off, none⟩) d c, .int .i64 (d : Nat), .bool false, .bool false, undef, .tuple #[.int .i64 (h : Nat), .int .i64 0], .slice (some ⟨b, off, none⟩) d c, .int .i64 (d : Nat), .int .i64 (8 * (d : Int)), .tuple #[.int .i64 (h : Nat), .int .i64 0], .int .i64 (h : Nat), .int .i64 0, .int .i64 0, .bool false, undef, undef, .int .i64 (s : Nat), .int .i64 (h : Nat), .func (.func 247) #[] #[.pointer (some ⟨w.heap.size + 1 + 1 + 1 + 1 + 1 + 1, 0, none⟩), .pointer (some ⟨w.heap.size + 1 + 1 + 1 + 1 + 1, 0, none⟩)], .agg #[.int .i64 (x.1 : Nat), .int .i64 (F : Nat), .int .i64 (M : Nat)], .tuple #[.int .i64 V, .int .i64 0], .agg #[.int .i64 (x.1 : Nat), .int .i64 (F : Nat), .int .i64 (M : Nat)], .slice (some ⟨b, off, none⟩) d c, .int .i64 Z, .pointer (some ⟨bw, 0, none⟩), .int .i64 (x.1 : Nat), .int .i64 (h : Nat), .tuple #[.int .i64 V, .int .i64 0], undef, undef, undef, undef, undef, undef, undef, undef, undef, undef, undef, undef], defers := [] } w4 := by
      rw [hG]
      refine wpAnyIn_ready (rs := [8, 9]) (by kernel_rfl) (by simp) ?_
      refine AllReadyIn.cons rfl (fun K hK => ?_) ?_
      · go_simp
        refine hK _ _ ?_
        rw [← hG]
        exact g012345678
      refine AllReadyIn.cons rfl (fun K hK => ?_) ?_
      · go_simp
        refine hK _ _ ?_
        rw [← hG]
        exact g012345679
      exact AllReadyIn.nil
    have g0123456 : GG 5 #[true, true, true, true, true, true, true, false, false, false, false, false] { tmps := #[.slice (some ⟨b, off, none⟩) d c, .int .i64 (s : Nat), .pointer (some ⟨w.heap.size, 0, none⟩), undef, .pointer (some ⟨w.heap.size + 1, 0, none⟩), .int .i64 0, .bool false, .int .i64 0, .int .i64 0, .pointer (some ⟨w.heap.size + 1 + 1, 0, none⟩), .int .i64 0, .pointer (some ⟨w.heap.size + 1 + 1 + 1, 0, none⟩), .pointer (some ⟨w.heap.size + 1 + 1 + 1 + 1, 0, none⟩), .pointer (some ⟨bw, 0, none⟩), undef, undef, .slice (some ⟨b, off, none⟩) d c, .int .i64 0, .int .i64 0, .bool false, undef, undef, .int .i64 (s : Nat), .bool false, .bool false, .int .i64 (s : Nat), .slice (some ⟨b, off, none⟩) d c, .int .i64 (d : Nat), .bool false, .bool false, undef, .tuple #[.int .i64 (h : Nat), .int .i64 0], .slice (some ⟨b, off, none⟩) d c, .int .i64 (d : Nat), .int .i64 (8 * (d : Int)), .tuple #[.int .i64 (h : Nat), .int .i64 0], .int .i64 (h : Nat), .int .i64 0, .int .i64 0, .bool false, undef, undef, .int .i64 (s : Nat), .int .i64 (h : Nat), .func (.func 247) #[] #[.pointer (some ⟨w.heap.size + 1 + 1 + 1 + 1 + 1 + 1, 0, none⟩), .pointer (some ⟨w.heap.size + 1 + 1 + 1 + 1 + 1, 0, none⟩)], .agg #[.int .i64 (x.1 : Nat), .int .i64 (F : Nat), .int .i64 (M : Nat)], undef, .agg #[.int .i64 (x.1 : Nat), .int .i64 (F : Nat), .int .i64 (M : Nat)], .slice (some ⟨b, off, none⟩) d c, .int .i64 Z, .pointer (some ⟨bw, 0, none⟩), .int .i64 (x.1 : Nat), .int .i64 (h : Nat), .tuple #[.int .i64 V, .int .i64 0], undef, undef, undef, undef, undef, undef, undef, undef, undef, undef, undef, undef], defers := [] } w4 := by
      rw [hG]
      refine wpAnyIn_ready (rs := [7]) (by kernel_rfl) (by simp) ?_
      refine AllReadyIn.cons rfl (fun K hK => ?_) ?_
      · go_simp
        refine hK _ _ ?_
        rw [← hG]
        exact g01234567
      exact AllReadyIn.nil
    have g012345 : GG 6 #[true, true, true, true, true, true, false, false, false, false, false, false] { tmps := #[.slice (some ⟨b, off, none⟩) d c, .int .i64 (s : Nat), .pointer (some ⟨w.heap.size, 0, none⟩), undef, .pointer (some ⟨w.heap.size + 1, 0, none⟩), .int .i64 0, .bool false, .int .i64 0, .int .i64 0, .pointer (some ⟨w.heap.size + 1 + 1, 0, none⟩), .int .i64 0, .pointer (some ⟨w.heap.size + 1 + 1 + 1, 0, none⟩), .pointer (some ⟨w.heap.size + 1 + 1 + 1 + 1, 0, none⟩), .pointer (some ⟨bw, 0, none⟩), undef, undef, .slice (some ⟨b, off, none⟩) d c, .int .i64 0, .int .i64 0, .bool false, undef, undef, .int .i64 (s : Nat), .bool false, .bool false, .int .i64 (s : Nat), .slice (some ⟨b, off, none⟩) d c, .int .i64 (d : Nat), .bool false, .bool false, undef, .tuple #[.int .i64 (h : Nat), .int .i64 0], .slice (some ⟨b, off, none⟩) d c, .int .i64 (d : Nat), .int .i64 (8 * (d : Int)), .tuple #[.int .i64 (h : Nat), .int .i64 0], .int .i64 (h : Nat), .int .i64 0, .int .i64 0, .bool false, undef, undef, .int .i64 (s : Nat), .int .i64 (h : Nat), .func (.func 247) #[] #[.pointer (some ⟨w.heap.size + 1 + 1 + 1 + 1 + 1 + 1, 0, none⟩), .pointer (some ⟨w.heap.size + 1 + 1 + 1 + 1 + 1, 0, none⟩)], .agg #[.int .i64 (x.1 : Nat), .int .i64 (F : Nat), .int .i64 (M : Nat)], undef, .agg #[.int .i64 (x.1 : Nat), .int .i64 (F : Nat), .int .i64 (M : Nat)], .slice (some ⟨b, off, none⟩) d c, .int .i64 Z, .pointer (some ⟨bw, 0, none⟩), .int .i64 (x.1 : Nat), .int .i64 (h : Nat), undef, undef, undef, undef, undef, undef, undef, undef, undef, undef, undef, undef, undef], defers := [] } w4 := by
      rw [hG]
      refine wpAnyIn_ready (rs := [6]) (by kernel_rfl) (by simp) ?_
      refine AllReadyIn.cons rfl (fun K hK => ?_) ?_
      · go_simp
        gi_wp2_with (refine ⟨trivial, ?_⟩; refine (CallsIn.inRound l (callsIn_wide.2 (hwin _))).mono ?_; rintro e w5 ⟨rfl, rfl⟩)
        first | (rw [← hG]; exact g0123456) | (refine hK _ _ ?_; rw [← hG]; exact g0123456)
      exact AllReadyIn.nil
    have g01234 : GG 7 #[true, true, true, true, true, false, false, false, false, false, false, false] { tmps := #[.slice (some ⟨b, off, none⟩) d c, .int .i64 (s : Nat), .pointer (some ⟨w.heap.size, 0, none⟩), undef, .pointer (some ⟨w.heap.size + 1, 0, none⟩), .int .i64 0, .bool false, .int .i64 0, .int .i64 0, .pointer (some ⟨w.heap.size + 1 + 1, 0, none⟩), .int .i64 0, .pointer (some ⟨w.heap.size + 1 + 1 + 1, 0, none⟩), .pointer (some ⟨w.heap.size + 1 + 1 + 1 + 1, 0, none⟩), .pointer (some ⟨bw, 0, none⟩), undef, undef, .slice (some ⟨b, off, none⟩) d c, .int .i64 0, .int .i64 0, .bool false, undef, undef, .int .i64 (s : Nat), .bool false, .bool false, .int .i64 (s : Nat), .slice (some ⟨b, off, none⟩) d c, .int .i64 (d : Nat), .bool false, .bool false, undef, .tuple #[.int .i64 (h : Nat), .int .i64 0], .slice (some ⟨b, off, none⟩) d c, .int .i64 (d : Nat), .int .i64 (8 * (d : Int)), .tuple #[.int .i64 (h : Nat), .int .i64 0], .int .i64 (h : Nat), .int .i64 0, .int .i64 0, .bool false, undef, undef, .int .i64 (s : Nat), .int .i64 (h : Nat), .func (.func 247) #[] #[.pointer (some ⟨w.heap.size + 1 + 1 + 1 + 1 + 1 + 1, 0, none⟩), .pointer (some ⟨w.heap.size + 1 + 1 + 1 + 1 + 1, 0, none⟩)], .agg #[.int .i64 (x.1 : Nat), .int .i64 (F : Nat), .int .i64 (M : Nat)], undef, .agg #[.int .i64 (x.1 : Nat), .int .i64 (F : Nat), .int .i64 (M : Nat)], .slice (some ⟨b, off, none⟩) d c, .int .i64 Z, .pointer (some ⟨bw, 0, none⟩), .int .i64 (x.1 : Nat), undef, undef, undef, undef, undef, undef, undef, undef, undef, undef, undef, undef, undef, undef], defers := [] } w4 := by
      rw [hG]
      refine wpAnyIn_ready (rs := [5]) (by kernel_rfl) (by simp) ?_
      refine AllReadyIn.cons rfl (fun K hK => ?_) ?_
      · go_simp
        refine hK _ _ ?_
        rw [← hG]
        exact g012345
      exact AllReadyIn.nil
    have g01235 : GG 7 #[true, true, true, true, false, true, false, false, false, false, false, false] { tmps := #[.slice (some ⟨b, off, none⟩) d c, .int .i64 (s : Nat), .pointer (some ⟨w.heap.size, 0, none⟩), undef, .pointer (some ⟨w.heap.size + 1, 0, none⟩), .int .i64 0, .bool false, .int .i64 0, .int .i64 0, .pointer (some ⟨w.heap.size + 1 + 1, 0, none⟩), .int .i64 0, .pointer (some ⟨w.heap.size + 1 + 1 + 1, 0, none⟩), .pointer (some ⟨w.heap.size + 1 + 1 + 1 + 1, 0, none⟩), .pointer (some ⟨bw, 0, none⟩), undef, undef, .slice (some ⟨b, off, none⟩) d c, .int .i64 0, .int .i64 0, .bool false, undef, undef, .int .i64 (s : Nat), .bool false, .bool false, .int .i64 (s : Nat), .slice (some ⟨b, off, none⟩) d c, .int .i64 (d : Nat), .bool false, .bool false, undef, .tuple #[.int .i64 (h : Nat), .int .i64 0], .slice (some ⟨b, off, none⟩) d c, .int .i64 (d : Nat), .int .i64 (8 * (d : Int)), .tuple #[.int .i64 (h : Nat), .int .i64 0], .int .i64 (h : Nat), .int .i64 0, .int .i64 0, .bool false, undef, undef, .int .i64 (s : Nat), .int .i64 (h : Nat), .func (.func 247) #[] #[.pointer (some ⟨w.heap.size + 1 + 1 + 1 + 1 + 1 + 1, 0, none⟩), .pointer (some ⟨w.heap.size + 1 + 1 + 1 + 1 + 1, 0, none⟩)], .agg #[.int .i64 (x.1 : Nat), .int .i64 (F : Nat), .int .i64 (M : Nat)], undef, .agg #[.int .i64 (x.1 : Nat), .int .i64 (F : Nat), .int .i64 (M : Nat)], .slice (some ⟨b, off, none⟩) d c, .int .i64 Z, .pointer (some ⟨bw, 0, none⟩), undef, .int .i64 (h : Nat), undef, undef, undef, undef, undef, undef, undef, undef, undef, undef, undef, undef, undef], defers := [] } w4 := by
      rw [hG]
      refine wpAnyIn_ready (rs := [4]) (by kernel_rfl) (by simp) ?_
      refine AllReadyIn.cons rfl (fun K hK => ?_) ?_
      · go_simp
        refine hK _ _ ?_
        rw [← hG]
        exact g012345
      exact AllReadyIn.nil
    have g01345 : GG 7 #[true, true, false, true, true, true, false, false, false, false, false, false] { tmps := #[.slice (some ⟨b, off, none⟩) d c, .int .i64 (s : Nat), .pointer (some ⟨w.heap.size, 0, none⟩), undef, .pointer (some ⟨w.heap.size + 1, 0, none⟩), .int .i64 0, .bool false, .int .i64 0, .int .i64 0, .pointer (some ⟨w.heap.size + 1 + 1, 0, none⟩), .int .i64 0, .pointer (some ⟨w.heap.size + 1 + 1 + 1, 0, none⟩), .pointer (some ⟨w.heap.size + 1 + 1 + 1 + 1, 0, none⟩), .pointer (some ⟨bw, 0, none⟩), undef, undef, .slice (some ⟨b, off, none⟩) d c, .int .i64 0, .int .i64 0, .bool false, undef, undef, .int .i64 (s : Nat), .bool false, .bool false, .int .i64 (s : Nat), .slice (some ⟨b, off, none⟩) d c, .int .i64 (d : Nat), .bool false, .bool false, undef, .tuple #[.int .i64 (h : Nat), .int .i64 0], .slice (some ⟨b, off, none⟩) d c, .int .i64 (d : Nat), .int .i64 (8 * (d : Int)), .tuple #[.int .i64 (h : Nat), .int .i64 0], .int .i64 (h : Nat), .int .i64 0, .int .i64 0, .bool false, undef, undef, .int .i64 (s : Nat), .int .i64 (h : Nat), .func (.func 247) #[] #[.pointer (some ⟨w.heap.size + 1 + 1 + 1 + 1 + 1 + 1, 0, none⟩), .pointer (some ⟨w.heap.size + 1 + 1 + 1 + 1 + 1, 0, none⟩)], .agg #[.int .i64 (x.1 : Nat), .int .i64 (F : Nat), .int .i64 (M : Nat)], undef, .agg #[.int .i64 (x.1 : Nat), .int .i64 (F : Nat), .int .i64 (M : Nat)], .slice (some ⟨b, off, none⟩) d c, undef, .pointer (some ⟨bw, 0, none⟩), .int .i64 (x.1 : Nat), .int .i64 (h : Nat), undef, undef, undef, undef, undef, undef, undef, undef, undef, undef, undef, undef, undef], defers := [] } W.drew := by
      rw [hG]
      refine wpAnyIn_ready (rs := [2]) (by kernel_rfl) (by simp) ?_
      refine AllReadyIn.cons rfl (fun K hK => ?_) ?_
      · go_simp
        gi_wp2_with (refine ⟨trivial, ?_⟩; refine (CallsIn.inRound l (callsIn_wide.2 hct)).mono ?_; rintro e w5 ⟨rfl, hw5⟩; rw [hw4] at hw5; subst hw5)
        first | exact (hG _ _ _ _) ▸ g012345 | (rw [← hG]; exact g012345) | (refine hK _ _ ?_; rw [← hG]; exact g012345)
      exact AllReadyIn.nil
    have g0123 : GG 8 #[true, true, true, true, false, false, false, false, false, false, false, false] { tmps := #[.slice (some ⟨b, off, none⟩) d c, .int .i64 (s : Nat), .pointer (some ⟨w.heap.size, 0, none⟩), undef, .pointer (some ⟨w.heap.size + 1, 0, none⟩), .int .i64 0, .bool false, .int .i64 0, .int .i64 0, .pointer (some ⟨w.heap.size + 1 + 1, 0, none⟩), .int .i64 0, .pointer (some ⟨w.heap.size + 1 + 1 + 1, 0, none⟩), .pointer (some ⟨w.heap.size + 1 + 1 + 1 + 1, 0, none⟩), .pointer (some ⟨bw, 0, none⟩), undef, undef, .slice (some ⟨b, off, none⟩) d c, .int .i64 0, .int .i64 0, .bool false, undef, undef, .int .i64 (s : Nat), .bool false, .bool false, .int .i64 (s : Nat), .slice (some ⟨b, off, none⟩) d c, .int .i64 (d : Nat), .bool false, .bool false, undef, .tuple #[.int .i64 (h : Nat), .int .i64 0], .slice (some ⟨b, off, none⟩) d c, .int .i64 (d : Nat), .int .i64 (8 * (d : Int)), .tuple #[.int .i64 (h : Nat), .int .i64 0], .int .i64 (h : Nat), .int .i64 0, .int .i64 0, .bool false, undef, undef, .int .i64 (s : Nat), .int .i64 (h : Nat), .func (.func 247) #[] #[.pointer (some ⟨w.heap.size + 1 + 1 + 1 + 1 + 1 + 1, 0, none⟩), .pointer (some ⟨w.heap.size + 1 + 1 + 1 + 1 + 1, 0, none⟩)], .agg #[.int .i64 (x.1 : Nat), .int .i64 (F : Nat), .int .i64 (M : Nat)], undef, .agg #[.int .i64 (x.1 : Nat), .int .i64 (F : Nat), .int .i64 (M : Nat)], .slice (some ⟨b, off, none⟩) d c, .int .i64 Z, .pointer (some ⟨bw, 0, none⟩), undef, undef, undef, undef, undef, undef, undef, undef, undef, undef, undef, undef, undef, undef, undef], defers := [] } w4 := by
      rw [hG]
      refine wpAnyIn_ready (rs := [4, 5]) (by kernel_rfl) (by simp) ?_
      refine AllReadyIn.cons rfl (fun K hK => ?_) ?_
      · go_simp
        refine hK _ _ ?_
        rw [← hG]
        exact g01234
      refine AllReadyIn.cons rfl (fun K hK => ?_) ?_
      · go_simp
        refine hK _ _ ?_
        rw [← hG]
        exact g01235
      exact AllReadyIn.nil
    have g0125 : GG 8 #[true, true, true, false, false, true, false, false, false, false, false, false] { tmps := #[.slice (some ⟨b, off, none⟩) d c, .int .i64 (s : Nat), .pointer (some ⟨w.heap.size, 0, none⟩), undef, .pointer (some ⟨w.heap.size + 1, 0, none⟩), .int .i64 0, .bool false, .int .i64 0, .int .i64 0, .pointer (some ⟨w.heap.size + 1 + 1, 0, none⟩), .int .i64 0, .pointer (some ⟨w.heap.size + 1 + 1 + 1, 0, none⟩), .pointer (some ⟨w.heap.size + 1 + 1 + 1 + 1, 0, none⟩), .pointer (some ⟨bw, 0, none⟩), undef, undef, .slice (some ⟨b, off, none⟩) d c, .int .i64 0, .int .i64 0, .bool false, undef, undef, .int .i64 (s : Nat), .bool false, .bool false, .int .i64 (s : Nat), .slice (some ⟨b, off, none⟩) d c, .int .i64 (d : Nat), .bool false, .bool false, undef, .tuple #[.int .i64 (h : Nat), .int .i64 0], .slice (some ⟨b, off, none⟩) d c, .int .i64 (d : Nat), .int .i64 (8 * (d : Int)), .tuple #[.int .i64 (h : Nat), .int .i64 0], .int .i64 (h : Nat), .int .i64 0, .int .i64 0, .bool false, undef, undef, .int .i64 (s : Nat), .int .i64 (h : Nat), .func (.func 247) #[] #[.pointer (some ⟨w.heap.size + 1 + 1 + 1 + 1 + 1 + 1, 0, none⟩), .pointer (some ⟨w.heap.size + 1 + 1 + 1 + 1 + 1, 0, none⟩)], .agg #[.int .i64 (x.1 : Nat), .int .i64 (F : Nat), .int .i64 (M : Nat)], undef, .agg #[.int .i64 (x.1 : Nat), .int .i64 (F : Nat), .int .i64 (M : Nat)], .slice (some ⟨b, off, none⟩) d c, .int .i64 Z, undef, undef, .int .i64 (h : Nat), undef, undef, undef, undef, undef, undef, undef, undef, undef, undef, undef, undef, undef], defers := [] } w4 := by
      rw [hG]
      refine wpAnyIn_ready (rs := [3]) (by kernel_rfl) (by simp) ?_
      refine AllReadyIn.cons rfl (fun K hK => ?_) ?_
      · go_simp
        refine hK _ _ ?_
        rw [← hG]
        exact g01235
      exact AllReadyIn.nil
    have g0134 : GG 8 #[true, true, false, true, true, false, false, false, false, false, false, false] { tmps := #[.slice (some ⟨b, off, none⟩) d c, .int .i64 (s : Nat), .pointer (some ⟨w.heap.size, 0, none⟩), undef, .pointer (some ⟨w.heap.size + 1, 0, none⟩), .int .i64 0, .bool false, .int .i64 0, .int .i64 0, .pointer (some ⟨w.heap.size + 1 + 1, 0, none⟩), .int .i64 0, .pointer (some ⟨w.heap.size + 1 + 1 + 1, 0, none⟩), .pointer (some ⟨w.heap.size + 1 + 1 + 1 + 1, 0, none⟩), .pointer (some ⟨bw, 0, none⟩), undef, undef, .slice (some ⟨b, off, none⟩) d c, .int .i64 0, .int .i64 0, .bool false, undef, undef, .int .i64 (s : Nat), .bool false, .bool false, .int .i64 (s : Nat), .slice (some ⟨b, off, none⟩) d c, .int .i64 (d : Nat), .bool false, .bool false, undef, .tuple #[.int .i64 (h : Nat), .int .i64 0], .slice (some ⟨b, off, none⟩) d c, .int .i64 (d : Nat), .int .i64 (8 * (d : Int)), .tuple #[.int .i64 (h : Nat), .int .i64 0], .int .i64 (h : Nat), .int .i64 0, .int .i64 0, .bool false, undef, undef, .int .i64 (s : Nat), .int .i64 (h : Nat), .func (.func 247) #[] #[.pointer (some ⟨w.heap.size + 1 + 1 + 1 + 1 + 1 + 1, 0, none⟩), .pointer (some ⟨w.heap.size + 1 + 1 + 1 + 1 + 1, 0, none⟩)], .agg #[.int .i64 (x.1 : Nat), .int .i64 (F : Nat), .int .i64 (M : Nat)], undef, .agg #[.int .i64 (x.1 : Nat), .int .i64 (F : Nat), .int .i64 (M : Nat)], .slice (some ⟨b, off, none⟩) d c, undef, .pointer (some ⟨bw, 0, none⟩), .int .i64 (x.1 : Nat), undef, undef, undef, undef, undef, undef, undef, undef, undef, undef, undef, undef, undef, undef], defers := [] } W.drew := by
      rw [hG]
      refine wpAnyIn_ready (rs := [2, 5]) (by kernel_rfl) (by simp) ?_
      refine AllReadyIn.cons rfl (fun K hK => ?_) ?_
      · go_simp
        gi_wp2_with (refine ⟨trivial, ?_⟩; refine (CallsIn.inRound l (callsIn_wide.2 hct)).mono ?_; rintro e w5 ⟨rfl, hw5⟩; rw [hw4] at hw5; subst hw5)
        first | exact (hG _ _ _ _) ▸ g01234 | (rw [← hG]; exact g01234) | (refine hK _ _ ?_; rw [← hG]; exact g01234)
      refine AllReadyIn.cons rfl (fun K hK => ?_) ?_
      · go_simp
        refine hK _ _ ?_
        rw [← hG]
        exact g01345
      exact AllReadyIn.nil
    have g0135 : GG 8 #[true, true, false, true, false, true, false, false, false, false, false, false] { tmps := #[.slice (some ⟨b, off, none⟩) d c, .int .i64 (s : Nat), .pointer (some ⟨w.heap.size, 0, none⟩), undef, .pointer (some ⟨w.heap.size + 1, 0, none⟩), .int .i64 0, .bool false, .int .i64 0, .int .i64 0, .pointer (some ⟨w.heap.size + 1 + 1, 0, none⟩), .int .i64 0, .pointer (some ⟨w.heap.size + 1 + 1 + 1, 0, none⟩), .pointer (some ⟨w.heap.size + 1 + 1 + 1 + 1, 0, none⟩), .pointer (some ⟨bw, 0, none⟩), undef, undef, .slice (some ⟨b, off, none⟩) d c, .int .i64 0, .int .i64 0, .bool false, undef, undef, .int .i64 (s : Nat), .bool false, .bool false, .int .i64 (s : Nat), .slice (some ⟨b, off, none⟩) d c, .int .i64 (d : Nat), .bool false, .bool false, undef, .tuple #[.int .i64 (h : Nat), .int .i64 0], .slice (some ⟨b, off, none⟩) d c, .int .i64 (d : Nat), .int .i64 (8 * (d : Int)), .tuple #[.int .i64 (h : Nat), .int .i64 0], .int .i64 (h : Nat), .int .i64 0, .int .i64 0, .bool false, undef, undef, .int .i64 (s : Nat), .int .i64 (h : Nat), .func (.func 247) #[] #[.pointer (some ⟨w.heap.size + 1 + 1 + 1 + 1 + 1 + 1, 0, none⟩), .pointer (some ⟨w.heap.size + 1 + 1 + 1 + 1 + 1, 0, none⟩)], .agg #[.int .i64 (x.1 : Nat), .int .i64 (F : Nat), .int .i64 (M : Nat)], undef, .agg #[.int .i64 (x.1 : Nat), .int .i64 (F : Nat), .int .i64 (M : Nat)], .slice (some ⟨b, off, none⟩) d c, undef, .pointer (some ⟨bw, 0, none⟩), undef, .int .i64 (h : Nat), undef, undef, undef, undef, undef, undef, undef, undef, undef, undef, undef, undef, undef], defers := [] } W.drew := by
      rw [hG]
      refine wpAnyIn_ready (rs := [2, 4]) (by kernel_rfl) (by simp) ?_
      refine AllReadyIn.cons rfl (fun K hK => ?_) ?_
      · go_simp
        gi_wp2_with (refine ⟨trivial, ?_⟩; refine (CallsIn.inRound l (callsIn_wide.2 hct)).mono ?_; rintro e w5 ⟨rfl, hw5⟩; rw [hw4] at hw5; subst hw5)
        first | exact (hG _ _ _ _) ▸ g01235 | (rw [← hG]; exact g01235) | (refine hK _ _ ?_; rw [← hG]; exact g01235)
      refine AllReadyIn.cons rfl (fun K hK => ?_) ?_
      · go_simp
        refine hK _ _ ?_
        rw [← hG]
        exact g01345
      exact AllReadyIn.nil
    have g0345 : GG 8 #[true, false, false, true, true, true, false, false, false, false, false, false] { tmps := #[.slice (some ⟨b, off, none⟩) d c, .int .i64 (s : Nat), .pointer (some ⟨w.heap.size, 0, none⟩), undef, .pointer (some ⟨w.heap.size + 1, 0, none⟩), .int .i64 0, .bool false, .int .i64 0, .int .i64 0, .pointer (some ⟨w.heap.size + 1 + 1, 0, none⟩), .int .i64 0, .pointer (some ⟨w.heap.size + 1 + 1 + 1, 0, none⟩), .pointer (some ⟨w.heap.size + 1 + 1 + 1 + 1, 0, none⟩), .pointer (some ⟨bw, 0, none⟩), undef, undef, .slice (some ⟨b, off, none⟩) d c, .int .i64 0, .int .i64 0, .bool false, undef, undef, .int .i64 (s : Nat), .bool false, .bool false, .int .i64 (s : Nat), .slice (some ⟨b, off, none⟩) d c, .int .i64 (d : Nat), .bool false, .bool false, undef, .tuple #[.int .i64 (h : Nat), .int .i64 0], .slice (some ⟨b, off, none⟩) d c, .int .i64 (d : Nat), .int .i64 (8 * (d : Int)), .tuple #[.int .i64 (h : Nat), .int .i64 0], .int .i64 (h : Nat), .int .i64 0, .int .i64 0, .bool false, undef, undef, .int .i64 (s : Nat), .int .i64 (h : Nat), .func (.func 247) #[] #[.pointer (some ⟨w.heap.size + 1 + 1 + 1 + 1 + 1 + 1, 0, none⟩), .pointer (some ⟨w.heap.size + 1 + 1 + 1 + 1 + 1, 0, none⟩)], .agg #[.int .i64 (x.1 : Nat), .int .i64 (F : Nat), .int .i64 (M : Nat)], undef, .agg #[.int .i64 (x.1 : Nat), .int .i64 (F : Nat), .int .i64 (M : Nat)], undef, undef, .pointer (some ⟨bw, 0, none⟩), .int .i64 (x.1 : Nat), .int .i64 (h : Nat), undef, undef, undef, undef, undef, undef, undef, undef, undef, undef, undef, undef, undef], defers := [] } W.drew := by
      rw [hG]
      refine wpAnyIn_ready (rs := [1]) (by kernel_rfl) (by simp) ?_
      refine AllReadyIn.cons rfl (fun K hK => ?_) ?_
      · go_simp
        refine hK _ _ ?_
        rw [← hG]
        exact g01345
      exact AllReadyIn.nil
    have g1345 : GG 8 #[false, true, false, true, true, true, false, false, false, false, false, false] { tmps := #[.slice (some ⟨b, off, none⟩) d c, .int .i64 (s : Nat), .pointer (some ⟨w.heap.size, 0, none⟩), undef, .pointer (some ⟨w.heap.size + 1, 0, none⟩), .int .i64 0, .bool false, .int .i64 0, .int .i64 0, .pointer (some ⟨w.heap.size + 1 + 1, 0, none⟩), .int .i64 0, .pointer (some ⟨w.heap.size + 1 + 1 + 1, 0, none⟩), .pointer (some ⟨w.heap.size + 1 + 1 + 1 + 1, 0, none⟩), .pointer (some ⟨bw, 0, none⟩), undef, undef, .slice (some ⟨b, off, none⟩) d c, .int .i64 0, .int .i64 0, .bool false, undef, undef, .int .i64 (s : Nat), .bool false, .bool false, .int .i64 (s : Nat), .slice (some ⟨b, off, none⟩) d c, .int .i64 (d : Nat), .bool false, .bool false, undef, .tuple #[.int .i64 (h : Nat), .int .i64 0], .slice (some ⟨b, off, none⟩) d c, .int .i64 (d : Nat), .int .i64 (8 * (d : Int)), .tuple #[.int .i64 (h : Nat), .int .i64 0], .int .i64 (h : Nat), .int .i64 0, .int .i64 0, .bool false, undef, undef, .int .i64 (s : Nat), .int .i64 (h : Nat), .func (.func 247) #[] #[.pointer (some ⟨w.heap.size + 1 + 1 + 1 + 1 + 1 + 1, 0, none⟩), .pointer (some ⟨w.heap.size + 1 + 1 + 1 + 1 + 1, 0, none⟩)], .agg #[.int .i64 (x.1 : Nat), .int .i64 (F : Nat), .int .i64 (M : Nat)], undef, undef, .slice (some ⟨b, off, none⟩) d c, undef, .pointer (some ⟨bw, 0, none⟩), .int .i64 (x.1 : Nat), .int .i64 (h : Nat), undef, undef, undef, undef, undef, undef, undef, undef, undef, undef, undef, undef, undef], defers := [] } W.drew := by
      rw [hG]
      refine wpAnyIn_ready (rs := [0]) (by kernel_rfl) (by simp) ?_
      refine AllReadyIn.cons rfl (fun K hK => ?_) ?_
      · go_simp
        refine hK _ _ ?_
        rw [← hG]
        exact g01345
      exact AllReadyIn.nil
    have g012 : GG 9 #[true, true, true, false, false, false, false, false, false, false, false, false] { tmps := #[.slice (some ⟨b, off, none⟩) d c, .int .i64 (s : Nat), .pointer (some ⟨w.heap.size, 0, none⟩), undef, .pointer (some ⟨w.heap.size + 1, 0, none⟩), .int .i64 0, .bool false, .int .i64 0, .int .i64 0, .pointer (some ⟨w.heap.size + 1 + 1, 0, none⟩), .int .i64 0, .pointer (some ⟨w.heap.size + 1 + 1 + 1, 0, none⟩), .pointer (some ⟨w.heap.size + 1 + 1 + 1 + 1, 0, none⟩), .pointer (some ⟨bw, 0, none⟩), undef, undef, .slice (some ⟨b, off, none⟩) d c, .int .i64 0, .int .i64 0, .bool false, undef, undef, .int .i64 (s : Nat), .bool false, .bool false, .int .i64 (s : Nat), .slice (some ⟨b, off, none⟩) d c, .int .i64 (d : Nat), .bool false, .bool false, undef, .tuple #[.int .i64 (h : Nat), .int .i64 0], .slice (some ⟨b, off, none⟩) d c, .int .i64 (d : Nat), .int .i64 (8 * (d : Int)), .tuple #[.int .i64 (h : Nat), .int .i64 0], .int .i64 (h : Nat), .int .i64 0, .int .i64 0, .bool false, undef, undef, .int .i64 (s : Nat), .int .i64 (h : Nat), .func (.func 247) #[] #[.pointer (some ⟨w.heap.size + 1 + 1 + 1 + 1 + 1 + 1, 0, none⟩), .pointer (some ⟨w.heap.size + 1 + 1 + 1 + 1 + 1, 0, none⟩)], .agg #[.int .i64 (x.1 : Nat), .int .i64 (F : Nat), .int .i64 (M : Nat)], undef, .agg #[.int .i64 (x.1 : Nat), .int .i64 (F : Nat), .int .i64 (M : Nat)], .slice (some ⟨b, off, none⟩) d c, .int .i64 Z, undef, undef, undef, undef, undef, undef, undef, undef, undef, undef, undef, undef, undef, undef, undef, undef], defers := [] } w4 := by
      rw [hG]
      refine wpAnyIn_ready (rs := [3, 5]) (by kernel_rfl) (by simp) ?_
      refine AllReadyIn.cons rfl (fun K hK => ?_) ?_
      · go_simp
        refine hK _ _ ?_
        rw [← hG]
        exact g0123
      refine AllReadyIn.cons rfl (fun K hK => ?_) ?_
      · go_simp
        refine hK _ _ ?_
        rw [← hG]
        exact g0125
      exact AllReadyIn.nil
    have g013 : GG 9 #[true, true, false, true, false, false, false, false, false, false, false, false] { tmps := #[.slice (some ⟨b, off, none⟩) d c, .int .i64 (s : Nat), .pointer (some ⟨w.heap.size, 0, none⟩), undef, .pointer (some ⟨w.heap.size + 1, 0, none⟩), .int .i64 0, .bool false, .int .i64 0, .int .i64 0, .pointer (some ⟨w.heap.size + 1 + 1, 0, none⟩), .int .i64 0, .pointer (some ⟨w.heap.size + 1 + 1 + 1, 0, none⟩), .pointer (some ⟨w.heap.size + 1 + 1 + 1 + 1, 0, none⟩), .pointer (some ⟨bw, 0, none⟩), undef, undef, .slice (some ⟨b, off, none⟩) d c, .int .i64 0, .int .i64 0, .bool false, undef, undef, .int .i64 (s : Nat), .bool false, .bool false, .int .i64 (s : Nat), .slice (some ⟨b, off, none⟩) d c, .int .i64 (d : Nat), .bool false, .bool false, undef, .tuple #[.int .i64 (h : Nat), .int .i64 0], .slice (some ⟨b, off, none⟩) d c, .int .i64 (d : Nat), .int .i64 (8 * (d : Int)), .tuple #[.int .i64 (h : Nat), .int .i64 0], .int .i64 (h : Nat), .int .i64 0, .int .i64 0, .bool false, undef, undef, .int .i64 (s : Nat), .int .i64 (h : Nat), .func (.func 247) #[] #[.pointer (some ⟨w.heap.size + 1 + 1 + 1 + 1 + 1 + 1, 0, none⟩), .pointer (some ⟨w.heap.size + 1 + 1 + 1 + 1 + 1, 0, none⟩)], .agg #[.int .i64 (x.1 : Nat), .int .i64 (F : Nat), .int .i64 (M : Nat)], undef, .agg #[.int .i64 (x.1 : Nat), .int .i64 (F : Nat), .int .i64 (M : Nat)], .slice (some ⟨b, off, none⟩) d c, undef, .pointer (some ⟨bw, 0, none⟩), undef, undef, undef, undef, undef, undef, undef, undef, undef, undef, undef, undef, undef, undef, undef], defers := [] } W.drew := by
      rw [hG]
      refine wpAnyIn_ready (rs := [2, 4, 5]) (by kernel_rfl) (by simp) ?_
      refine AllReadyIn.cons rfl (fun K hK => ?_) ?_
      · go_simp
        gi_wp2_with (refine ⟨trivial, ?_⟩; refine (CallsIn.inRound l (callsIn_wide.2 hct)).mono ?_; rintro e w5 ⟨rfl, hw5⟩; rw [hw4] at hw5; subst hw5)
        first | exact (hG _ _ _ _) ▸ g0123 | (rw [← hG]; exact g0123) | (refine hK _ _ ?_; rw [← hG]; exact g0123)
      refine AllReadyIn.cons rfl (fun K hK => ?_) ?_
      · go_simp
        refine hK _ _ ?_
        rw [← hG]
        exact g0134
      refine AllReadyIn.cons rfl (fun K hK => ?_) ?_
      · go_simp
        refine hK _ _ ?_
        rw [← hG]
        exact g0135
      exact AllReadyIn.nil
    have g015 : GG 9 #[true, true, false, false, false, true, false, false, false, false, false, false] { tmps := #[.slice (some ⟨b, off, none⟩) d c, .int .i64 (s : Nat), .pointer (some ⟨w.heap.size, 0, none⟩), undef, .pointer (some ⟨w.heap.size + 1, 0, none⟩), .int .i64 0, .bool false, .int .i64 0, .int .i64 0, .pointer (some ⟨w.heap.size + 1 + 1, 0, none⟩), .int .i64 0, .pointer (some ⟨w.heap.size + 1 + 1 + 1, 0, none⟩), .pointer (some ⟨w.heap.size + 1 + 1 + 1 + 1, 0, none⟩), .pointer (some ⟨bw, 0, none⟩), undef, undef, .slice (some ⟨b, off, none⟩) d c, .int .i64 0, .int .i64 0, .bool false, undef, undef, .int .i64 (s : Nat), .bool false, .bool false, .int .i64 (s : Nat), .slice (some ⟨b, off, none⟩) d c, .int .i64 (d : Nat), .bool false, .bool false, undef, .tuple #[.int .i64 (h : Nat), .int .i64 0], .slice (some ⟨b, off, none⟩) d c, .int .i64 (d : Nat), .int .i64 (8 * (d : Int)), .tuple #[.int .i64 (h : Nat), .int .i64 0], .int .i64 (h : Nat), .int .i64 0, .int .i64 0, .bool false, undef, undef, .int .i64 (s : Nat), .int .i64 (h : Nat), .func (.func 247) #[] #[.pointer (some ⟨w.heap.size + 1 + 1 + 1 + 1 + 1 + 1, 0, none⟩), .pointer (some ⟨w.heap.size + 1 + 1 + 1 + 1 + 1, 0, none⟩)], .agg #[.int .i64 (x.1 : Nat), .int .i64 (F : Nat), .int .i64 (M : Nat)], undef, .agg #[.int .i64 (x.1 : Nat), .int .i64 (F : Nat), .int .i64 (M : Nat)], .slice (some ⟨b, off, none⟩) d c, undef, undef, undef, .int .i64 (h : Nat), undef, undef, undef, undef, undef, undef, undef, undef, undef, undef, undef, undef, undef], defers := [] } W.drew := by
      rw [hG]
      refine wpAnyIn_ready (rs := [2, 3]) (by kernel_rfl) (by simp) ?_
      refine AllReadyIn.cons rfl (fun K hK => ?_) ?_
      · go_simp
        gi_wp2_with (refine ⟨trivial, ?_⟩; refine (CallsIn.inRound l (callsIn_wide.2 hct)).mono ?_; rintro e w5 ⟨rfl, hw5⟩; rw [hw4] at hw5; subst hw5)
        first | exact (hG _ _ _ _) ▸ g0125 | (rw [← hG]; exact g0125) | (refine hK _ _ ?_; rw [← hG]; exact g0125)
      refine AllReadyIn.cons rfl (fun K hK => ?_) ?_
      · go_simp
        refine hK _ _ ?_
        rw [← hG]
        exact g0135
      exact AllReadyIn.nil
    have g034 : GG 9 #[true, false, false, true, true, false, false, false, false, false, false, false] { tmps := #[.slice (some ⟨b, off, none⟩) d c, .int .i64 (s : Nat), .pointer (some ⟨w.heap.size, 0, none⟩), undef, .pointer (some ⟨w.heap.size + 1, 0, none⟩), .int .i64 0, .bool false, .int .i64 0, .int .i64 0, .pointer (some ⟨w.heap.size + 1 + 1, 0, none⟩), .int .i64 0, .pointer (some ⟨w.heap.size + 1 + 1 + 1, 0, none⟩), .pointer (some ⟨w.heap.size + 1 + 1 + 1 + 1, 0, none⟩), .pointer (some ⟨bw, 0, none⟩), undef, undef, .slice (some ⟨b, off, none⟩) d c, .int .i64 0, .int .i64 0, .bool false, undef, undef, .int .i64 (s : Nat), .bool false, .bool false, .int .i64 (s : Nat), .slice (some ⟨b, off, none⟩) d c, .int .i64 (d : Nat), .bool false, .bool false, undef, .tuple #[.int .i64 (h : Nat), .int .i64 0], .slice (some ⟨b, off, none⟩) d c, .int .i64 (d : Nat), .int .i64 (8 * (d : Int)), .tuple #[.int .i64 (h : Nat), .int .i64 0], .int .i64 (h : Nat), .int .i64 0, .int .i64 0, .bool false, undef, undef, .int .i64 (s : Nat), .int .i64 (h : Nat), .func (.func 247) #[] #[.pointer (some ⟨w.heap.size + 1 + 1 + 1 + 1 + 1 + 1, 0, none⟩), .pointer (some ⟨w.heap.size + 1 + 1 + 1 + 1 + 1, 0, none⟩)], .agg #[.int .i64 (x.1 : Nat), .int .i64 (F : Nat), .int .i64 (M : Nat)], undef, .agg #[.int .i64 (x.1 : Nat), .int .i64 (F : Nat), .int .i64 (M : Nat)], undef, undef, .pointer (some ⟨bw, 0, none⟩), .int .i64 (x.1 : Nat), undef, undef, undef, undef, undef, undef, undef, undef, undef, undef, undef, undef, undef, undef], defers := [] } W.drew := by
      rw [hG]
      refine wpAnyIn_ready (rs := [1, 5]) (by kernel_rfl) (by simp) ?_
      refine AllReadyIn.cons rfl (fun K hK => ?_) ?_
      · go_simp
        refine hK _ _ ?_
        rw [← hG]
        exact g0134
      refine AllReadyIn.cons rfl (fun K hK => ?_) ?_
      · go_simp
        refine hK _ _ ?_
        rw [← hG]
        exact g0345
      exact AllReadyIn.nil
    have g035 : GG 9 #[true, false, false, true, false, true, false, false, false, false, false, false] { tmps := #[.slice (some ⟨b, off, none⟩) d c, .int .i64 (s : Nat), .pointer (some ⟨w.heap.size, 0, none⟩), undef, .pointer (some ⟨w.heap.size + 1, 0, none⟩), .int .i64 0, .bool false, .int .i64 0, .int .i64 0, .pointer (some ⟨w.heap.size + 1 + 1, 0, none⟩), .int .i64 0, .pointer (some ⟨w.heap.size + 1 + 1 + 1, 0, none⟩), .pointer (some ⟨w.heap.size + 1 + 1 + 1 + 1, 0, none⟩), .pointer (some ⟨bw, 0, none⟩), undef, undef, .slice (some ⟨b, off, none⟩) d c, .int .i64 0, .int .i64 0, .bool false, undef, undef, .int .i64 (s : Nat), .bool false, .bool false, .int .i64 (s : Nat), .slice (some ⟨b, off, none⟩) d c, .int .i64 (d : Nat), .bool false, .bool false, undef, .tuple #[.int .i64 (h : Nat), .int .i64 0], .slice (some ⟨b, off, none⟩) d c, .int .i64 (d : Nat), .int .i64 (8 * (d : Int)), .tuple #[.int .i64 (h : Nat), .int .i64 0], .int .i64 (h : Nat), .int .i64 0, .int .i64 0, .bool false, undef, undef, .int .i64 (s : Nat), .int .i64 (h : Nat), .func (.func 247) #[] #[.pointer (some ⟨w.heap.size + 1 + 1 + 1 + 1 + 1 + 1, 0, none⟩), .pointer (some ⟨w.heap.size + 1 + 1 + 1 + 1 + 1, 0, none⟩)], .agg #[.int .i64 (x.1 : Nat), .int .i64 (F : Nat), .int .i64 (M : Nat)], undef, .agg #[.int .i64 (x.1 : Nat), .int .i64 (F : Nat), .int .i64 (M : Nat)], undef, undef, .pointer (some ⟨bw, 0, none⟩), undef, .int .i64 (h : Nat), undef, undef, undef, undef, undef, undef, undef, undef, undef, undef, undef, undef, undef], defers := [] } W.drew := by
      rw [hG]
      refine wpAnyIn_ready (rs := [1, 4]) (by kernel_rfl) (by simp) ?_
      refine AllReadyIn.cons rfl (fun K hK => ?_) ?_
      · go_simp
        refine hK _ _ ?_
        rw [← hG]
        exact g0135
      refine AllReadyIn.cons rfl (fun K hK => ?_) ?_
      · go_simp
        refine hK _ _ ?_
        rw [← hG]
        exact g0345
      exact AllReadyIn.nil
    have g134 : GG 9 #[false, true, false, true, true, false, false, false, false, false, false, false] { tmps := #[.slice (some ⟨b, off, none⟩) d c, .int .i64 (s : Nat), .pointer (some ⟨w.heap.size, 0, none⟩), undef, .pointer (some ⟨w.heap.size + 1, 0, none⟩), .int .i64 0, .bool false, .int .i64 0, .int .i64 0, .pointer (some ⟨w.heap.size + 1 + 1, 0, none⟩), .int .i64 0, .pointer (some ⟨w.heap.size + 1 + 1 + 1, 0, none⟩), .pointer (some ⟨w.heap.size + 1 + 1 + 1 + 1, 0, none⟩), .pointer (some ⟨bw, 0, none⟩), undef, undef, .slice (some ⟨b, off, none⟩) d c, .int .i64 0, .int .i64 0, .bool false, undef, undef, .int .i64 (s : Nat), .bool false, .bool false, .int .i64 (s : Nat), .slice (some ⟨b, off, none⟩) d c, .int .i64 (d : Nat), .bool false, .bool false, undef, .tuple #[.int .i64 (h : Nat), .int .i64 0], .slice (some ⟨b, off, none⟩) d c, .int .i64 (d : Nat), .int .i64 (8 * (d : Int)), .tuple #[.int .i64 (h : Nat), .int .i64 0], .int .i64 (h : Nat), .int .i64 0, .int .i64 0, .bool false, undef, undef, .int .i64 (s : Nat), .int .i64 (h : Nat), .func (.func 247) #[] #[.pointer (some ⟨w.heap.size + 1 + 1 + 1 + 1 + 1 + 1, 0, none⟩), .pointer (some ⟨w.heap.size + 1 + 1 + 1 + 1 + 1, 0, none⟩)], .agg #[.int .i64 (x.1 : Nat), .int .i64 (F : Nat), .int .i64 (M : Nat)], undef, undef, .slice (some ⟨b, off, none⟩) d c, undef, .pointer (some ⟨bw, 0, none⟩), .int .i64 (x.1 : Nat), undef, undef, undef, undef, undef, undef, undef, undef, undef, undef, undef, undef, undef, undef], defers := [] } W.drew := by
      rw [hG]
      refine wpAnyIn_ready (rs := [0, 5]) (by kernel_rfl) (by simp) ?_
      refine AllReadyIn.cons rfl (fun K hK => ?_) ?_
      · go_simp
        refine hK _ _ ?_
        rw [← hG]
        exact g0134
      refine AllReadyIn.cons rfl (fun K hK => ?_) ?_
      · go_simp
        refine hK _ _ ?_
        rw [← hG]
        exact g1345
      exact AllReadyIn.nil
    have g135 : GG 9 #[false, true, false, true, false, true, false, false, false, false, false, false] { tmps := #[.slice (some ⟨b, off, none⟩) d c, .int .i64 (s : Nat), .pointer (some ⟨w.heap.size, 0, none⟩), undef, .pointer (some ⟨w.heap.size + 1, 0, none⟩), .int .i64 0, .bool false, .int .i64 0, .int .i64 0, .pointer (some ⟨w.heap.size + 1 + 1, 0, none⟩), .int .i64 0, .pointer (some ⟨w.heap.size + 1 + 1 + 1, 0, none⟩), .pointer (some ⟨w.heap.size + 1 + 1 + 1 + 1, 0, none⟩), .pointer (some ⟨bw, 0, none⟩), undef, undef, .slice (some ⟨b, off, none⟩) d c, .int .i64 0, .int .i64 0, .bool false, undef, undef, .int .i64 (s : Nat), .bool false, .bool false, .int .i64 (s : Nat), .slice (some ⟨b, off, none⟩) d c, .int .i64 (d : Nat), .bool false, .bool false, undef, .tuple #[.int .i64 (h : Nat), .int .i64 0], .slice (some ⟨b, off, none⟩) d c, .int .i64 (d : Nat), .int .i64 (8 * (d : Int)), .tuple #[.int .i64 (h : Nat), .int .i64 0], .int .i64 (h : Nat), .int .i64 0, .int .i64 0, .bool false, undef, undef, .int .i64 (s : Nat), .int .i64 (h : Nat), .func (.func 247) #[] #[.pointer (some ⟨w.heap.size + 1 + 1 + 1 + 1 + 1 + 1, 0, none⟩), .pointer (some ⟨w.heap.size + 1 + 1 + 1 + 1 + 1, 0, none⟩)], .agg #[.int .i64 (x.1 : Nat), .int .i64 (F : Nat), .int .i64 (M : Nat)], undef, undef, .slice (some ⟨b, off, none⟩) d c, undef, .pointer (some ⟨bw, 0, none⟩), undef, .int .i64 (h : Nat), undef, undef, undef, undef, undef, undef, undef, undef, undef, undef, undef, undef, undef], defers := [] } W.drew := by
      rw [hG]
      refine wpAnyIn_ready (rs := [0, 4]) (by kernel_rfl) (by simp) ?_
      refine AllReadyIn.cons rfl (fun K hK => ?_) ?_
      · go_simp
        refine hK _ _ ?_
        rw [← hG]
        exact g0135
      refine AllReadyIn.cons rfl (fun K hK => ?_) ?_
      · go_simp
        refine hK _ _ ?_
        rw [← hG]
        exact g1345
      exact AllReadyIn.nil
    have g345 : GG 9 #[false, false, false, true, true, true, false, false, false, false, false, false] { tmps := #[.slice (some ⟨b, off, none⟩) d c, .int .i64 (s : Nat), .pointer (some ⟨w.heap.size, 0, none⟩), undef, .pointer (some ⟨w.heap.size + 1, 0, none⟩), .int .i64 0, .bool false, .int .i64 0, .int .i64 0, .pointer (some ⟨w.heap.size + 1 + 1, 0, none⟩), .int .i64 0, .pointer (some ⟨w.heap.size + 1 + 1 + 1, 0, none⟩), .pointer (some ⟨w.heap.size + 1 + 1 + 1 + 1, 0, none⟩), .pointer (some ⟨bw, 0, none⟩), undef, undef, .slice (some ⟨b, off, none⟩) d c, .int .i64 0, .int .i64 0, .bool false, undef, undef, .int .i64 (s : Nat), .bool false, .bool false, .int .i64 (s : Nat), .slice (some ⟨b, off, none⟩) d c, .int .i64 (d : Nat), .bool false, .bool false, undef, .tuple #[.int .i64 (h : Nat), .int .i64 0], .slice (some ⟨b, off, none⟩) d c, .int .i64 (d : Nat), .int .i64 (8 * (d : Int)), .tuple #[.int .i64 (h : Nat), .int .i64 0], .int .i64 (h : Nat), .int .i64 0, .int .i64 0, .bool false, undef, undef, .int .i64 (s : Nat), .int .i64 (h : Nat), .func (.func 247) #[] #[.pointer (some ⟨w.heap.size + 1 + 1 + 1 + 1 + 1 + 1, 0, none⟩), .pointer (some ⟨w.heap.size + 1 + 1 + 1 + 1 + 1, 0, none⟩)], .agg #[.int .i64 (x.1 : Nat), .int .i64 (F : Nat), .int .i64 (M : Nat)], undef, undef, undef, undef, .pointer (some ⟨bw, 0, none⟩), .int .i64 (x.1 : Nat), .int .i64 (h : Nat), undef, undef, undef, undef, undef, undef, undef, undef, undef, undef, undef, undef, undef], defers := [] } W.drew := by
      rw [hG]
      refine wpAnyIn_ready (rs := [0, 1]) (by kernel_rfl) (by simp) ?_
      refine AllReadyIn.cons rfl (fun K hK => ?_) ?_
      · go_simp
        refine hK _ _ ?_
        rw [← hG]
        exact g0345
      refine AllReadyIn.cons rfl (fun K hK => ?_) ?_
      · go_simp
        refine hK _ _ ?_
        rw [← hG]
        exact g1345
      exact AllReadyIn.nil
    have g01 : GG 10 #[true, true, false, false, false, false, false, false, false, false, false, false] { tmps := #[.slice (some ⟨b, off, none⟩) d c, .int .i64 (s : Nat), .pointer (some ⟨w.heap.size, 0, none⟩), undef, .pointer (some ⟨w.heap.size + 1, 0, none⟩), .int .i64 0, .bool false, .int .i64 0, .int .i64 0, .pointer (some ⟨w.heap.size + 1 + 1, 0, none⟩), .int .i64 0, .pointer (some ⟨w.heap.size + 1 + 1 + 1, 0, none⟩), .pointer (some ⟨w.heap.size + 1 + 1 + 1 + 1, 0, none⟩), .pointer (some ⟨bw, 0, none⟩), undef, undef, .slice (some ⟨b, off, none⟩) d c, .int .i64 0, .int .i64 0, .bool false, undef, undef, .int .i64 (s : Nat), .bool false, .bool false, .int .i64 (s : Nat), .slice (some ⟨b, off, none⟩) d c, .int .i64 (d : Nat), .bool false, .bool false, undef, .tuple #[.int .i64 (h : Nat), .int .i64 0], .slice (some ⟨b, off, none⟩) d c, .int .i64 (d : Nat), .int .i64 (8 * (d : Int)), .tuple #[.int .i64 (h : Nat), .int .i64 0], .int .i64 (h : Nat), .int .i64 0, .int .i64 0, .bool false, undef, undef, .int .i64 (s : Nat), .int .i64 (h : Nat), .func (.func 247) #[] #[.pointer (some ⟨w.heap.size + 1 + 1 + 1 + 1 + 1 + 1, 0, none⟩), .pointer (some ⟨w.heap.size + 1 + 1 + 1 + 1 + 1, 0, none⟩)], .agg #[.int .i64 (x.1 : Nat), .int .i64 (F : Nat), .int .i64 (M : Nat)], undef, .agg #[.int .i64 (x.1 : Nat), .int .i64 (F : Nat), .int .i64 (M : Nat)], .slice (some ⟨b, off, none⟩) d c, undef, undef, undef, undef, undef, undef, undef, undef, undef, undef, undef, undef, undef, undef, undef, undef, undef], defers := [] } W.drew := by
      rw [hG]
      refine wpAnyIn_ready (rs := [2, 3, 5]) (by kernel_rfl) (by simp) ?_
      refine AllReadyIn.cons rfl (fun K hK => ?_) ?_
      · go_simp
        gi_wp2_with (refine ⟨trivial, ?_⟩; refine (CallsIn.inRound l (callsIn_wide.2 hct)).mono ?_; rintro e w5 ⟨rfl, hw5⟩; rw [hw4] at hw5; subst hw5)
        first | exact (hG _ _ _ _) ▸ g012 | (rw [← hG]; exact g012) | (refine hK _ _ ?_; rw [← hG]; exact g012)
      refine AllReadyIn.cons rfl (fun K hK => ?_) ?_
      · go_simp
        refine hK _ _ ?_
        rw [← hG]
        exact g013
      refine AllReadyIn.cons rfl (fun K hK => ?_) ?_
      · go_simp
        refine hK _ _ ?_
        rw [← hG]
        exact g015
      exact AllReadyIn.nil
    have g03 : GG 10 #[true, false, false, true, false, false, false, false, false, false, false, false] { tmps := #[.slice (some ⟨b, off, none⟩) d c, .int .i64 (s : Nat), .pointer (some ⟨w.heap.size, 0, none⟩), undef, .pointer (some ⟨w.heap.size + 1, 0, none⟩), .int .i64 0, .bool false, .int .i64 0, .int .i64 0, .pointer (some ⟨w.heap.size + 1 + 1, 0, none⟩), .int .i64 0, .pointer (some ⟨w.heap.size + 1 + 1 + 1, 0, none⟩), .pointer (some ⟨w.heap.size + 1 + 1 + 1 + 1, 0, none⟩), .pointer (some ⟨bw, 0, none⟩), undef, undef, .slice (some ⟨b, off, none⟩) d c, .int .i64 0, .int .i64 0, .bool false, undef, undef, .int .i64 (s : Nat), .bool false, .bool false, .int .i64 (s : Nat), .slice (some ⟨b, off, none⟩) d c, .int .i64 (d : Nat), .bool false, .bool false, undef, .tuple #[.int .i64 (h : Nat), .int .i64 0], .slice (some ⟨b, off, none⟩) d c, .int .i64 (d : Nat), .int .i64 (8 * (d : Int)), .tuple #[.int .i64 (h : Nat), .int .i64 0], .int .i64 (h : Nat), .int .i64 0, .int .i64 0, .bool false, undef, undef, .int .i64 (s : Nat), .int .i64 (h : Nat), .func (.func 247) #[] #[.pointer (some ⟨w.heap.size + 1 + 1 + 1 + 1 + 1 + 1, 0, none⟩), .pointer (some ⟨w.heap.size + 1 + 1 + 1 + 1 + 1, 0, none⟩)], .agg #[.int .i64 (x.1 : Nat), .int .i64 (F : Nat), .int .i64 (M : Nat)], undef, .agg #[.int .i64 (x.1 : Nat), .int .i64 (F : Nat), .int .i64 (M : Nat)], undef, undef, .pointer (some ⟨bw, 0, none⟩), undef, undef, undef, undef, undef, undef, undef, undef, undef, undef, undef, undef, undef, undef, undef], defers := [] } W.drew := by
      rw [hG]
      refine wpAnyIn_ready (rs := [1, 4, 5]) (by kernel_rfl) (by simp) ?_
      refine AllReadyIn.cons rfl (fun K hK => ?_) ?_
      · go_simp
        refine hK _ _ ?_
        rw [← hG]
        exact g013
      refine AllReadyIn.cons rfl (fun K hK => ?_) ?_
      · go_simp
        refine hK _ _ ?_
        rw [← hG]
        exact g034
      refine AllReadyIn.cons rfl (fun K hK => ?_) ?_
      · go_simp
        refine hK _ _ ?_
        rw [← hG]
        exact g035
      exact AllReadyIn.nil
    have g05 : GG 10 #[true, false, false, false, false, true, false, false, false, false, false, false] { tmps := #[.slice (some ⟨b, off, none⟩) d c, .int .i64 (s : Nat), .pointer (some ⟨w.heap.size, 0, none⟩), undef, .pointer (some ⟨w.heap.size + 1, 0, none⟩), .int .i64 0, .bool false, .int .i64 0, .int .i64 0, .pointer (some ⟨w.heap.size + 1 + 1, 0, none⟩), .int .i64 0, .pointer (some ⟨w.heap.size + 1 + 1 + 1, 0, none⟩), .pointer (some ⟨w.heap.size + 1 + 1 + 1 + 1, 0, none⟩), .pointer (some ⟨bw, 0, none⟩), undef, undef, .slice (some ⟨b, off, none⟩) d c, .int .i64 0, .int .i64 0, .bool false, undef, undef, .int .i64 (s : Nat), .bool false, .bool false, .int .i64 (s : Nat), .slice (some ⟨b, off, none⟩) d c, .int .i64 (d : Nat), .bool false, .bool false, undef, .tuple #[.int .i64 (h : Nat), .int .i64 0], .slice (some ⟨b, off, none⟩) d c, .int .i64 (d : Nat), .int .i64 (8 * (d : Int)), .tuple #[.int .i64 (h : Nat), .int .i64 0], .int .i64 (h : Nat), .int .i64 0, .int .i64 0, .bool false, undef, undef, .int .i64 (s : Nat), .int .i64 (h : Nat), .func (.func 247) #[] #[.pointer (some ⟨w.heap.size + 1 + 1 + 1 + 1 + 1 + 1, 0, none⟩), .pointer (some ⟨w.heap.size + 1 + 1 + 1 + 1 + 1, 0, none⟩)], .agg #[.int .i64 (x.1 : Nat), .int .i64 (F : Nat), .int .i64 (M : Nat)], undef, .agg #[.int .i64 (x.1 : Nat), .int .i64 (F : Nat), .int .i64 (M : Nat)], undef, undef, undef, undef, .int .i64 (h : Nat), undef, undef, undef, undef, undef, undef, undef, undef, undef, undef, undef, undef, undef], defers := [] } W.drew := by
      rw [hG]
      refine wpAnyIn_ready (rs := [1, 3]) (by kernel_rfl) (by simp) ?_
      refine AllReadyIn.cons rfl (fun K hK => ?_) ?_
      · go_simp
        refine hK _ _ ?_
        rw [← hG]
        exact g015
      refine AllReadyIn.cons rfl (fun K hK => ?_) ?_
      · go_simp
        refine hK _ _ ?_
        rw [← hG]
        exact g035
      exact AllReadyIn.nil
    have g13 : GG 10 #[false, true, false, true, false, false, false, false, false, false, false, false] { tmps := #[.slice (some ⟨b, off, none⟩) d c, .int .i64 (s : Nat), .pointer (some ⟨w.heap.size, 0, none⟩), undef, .pointer (some ⟨w.heap.size + 1, 0, none⟩), .int .i64 0, .bool false, .int .i64 0, .int .i64 0, .pointer (some ⟨w.heap.size + 1 + 1, 0, none⟩), .int .i64 0, .pointer (some ⟨w.heap.size + 1 + 1 + 1, 0, none⟩), .pointer (some ⟨w.heap.size + 1 + 1 + 1 + 1, 0, none⟩), .pointer (some ⟨bw, 0, none⟩), undef, undef, .slice (some ⟨b, off, none⟩) d c, .int .i64 0, .int .i64 0, .bool false, undef, undef, .int .i64 (s : Nat), .bool false, .bool false, .int .i64 (s : Nat), .slice (some ⟨b, off, none⟩) d c, .int .i64 (d : Nat), .bool false, .bool false, undef, .tuple #[.int .i64 (h : Nat), .int .i64 0], .slice (some ⟨b, off, none⟩) d c, .int .i64 (d : Nat), .int .i64 (8 * (d : Int)), .tuple #[.int .i64 (h : Nat), .int .i64 0], .int .i64 (h : Nat), .int .i64 0, .int .i64 0, .bool false, undef, undef, .int .i64 (s : Nat), .int .i64 (h : Nat), .func (.func 247) #[] #[.pointer (some ⟨w.heap.size + 1 + 1 + 1 + 1 + 1 + 1, 0, none⟩), .pointer (some ⟨w.heap.size + 1 + 1 + 1 + 1 + 1, 0, none⟩)], .agg #[.int .i64 (x.1 : Nat), .int .i64 (F : Nat), .int .i64 (M : Nat)], undef, undef, .slice (some ⟨b, off, none⟩) d c, undef, .pointer (some ⟨bw, 0, none⟩), undef, undef, undef, undef, undef, undef, undef, undef, undef, undef, undef, undef, undef, undef, undef], defers := [] } W.drew := by
      rw [hG]
      refine wpAnyIn_ready (rs := [0, 4, 5]) (by kernel_rfl) (by simp) ?_
      refine AllReadyIn.cons rfl (fun K hK => ?_) ?_
      · go_simp
        refine hK _ _ ?_
        rw [← hG]
        exact g013
      refine AllReadyIn.cons rfl (fun K hK => ?_) ?_
      · go_simp
        refine hK _ _ ?_
        rw [← hG]
        exact g134
      refine AllReadyIn.cons rfl (fun K hK => ?_) ?_
      · go_simp
        refine hK _ _ ?_
        rw [← hG]
        exact g135
      exact AllReadyIn.nil
    have g15 : GG 10 #[false, true, false, false, false, true, false, false, false, false, false, false] { tmps := #[.slice (some ⟨b, off, none⟩) d c, .int .i64 (s : Nat), .pointer (some ⟨w.heap.size, 0, none⟩), undef, .pointer (some ⟨w.heap.size + 1, 0, none⟩), .int .i64 0, .bool false, .int .i64 0, .int .i64 0, .pointer (some ⟨w.heap.size + 1 + 1, 0, none⟩), .int .i64 0, .pointer (some ⟨w.heap.size + 1 + 1 + 1, 0, none⟩), .pointer (some ⟨w.heap.size + 1 + 1 + 1 + 1, 0, none⟩), .pointer (some ⟨bw, 0, none⟩), undef, undef, .slice (some ⟨b, off, none⟩) d c, .int .i64 0, .int .i64 0, .bool false, undef, undef, .int .i64 (s : Nat), .bool false, .bool false, .int .i64 (s : Nat), .slice (some ⟨b, off, none⟩) d c, .int .i64 (d : Nat), .bool false, .bool false, undef, .tuple #[.int .i64 (h : Nat), .int .i64 0], .slice (some ⟨b, off, none⟩) d c, .int .i64 (d : Nat), .int .i64 (8 * (d : Int)), .tuple #[.int .i64 (h : Nat), .int .i64 0], .int .i64 (h : Nat), .int .i64 0, .int .i64 0, .bool false, undef, undef, .int .i64 (s : Nat), .int .i64 (h : Nat), .func (.func 247) #[] #[.pointer (some ⟨w.heap.size + 1 + 1 + 1 + 1 + 1 + 1, 0, none⟩), .pointer (some ⟨w.heap.size + 1 + 1 + 1 + 1 + 1, 0, none⟩)], .agg #[.int .i64 (x.1 : Nat), .int .i64 (F : Nat), .int .i64 (M : Nat)], undef, undef, .slice (some ⟨b, off, none⟩) d c, undef, undef, undef, .int .i64 (h : Nat), undef, undef, undef, undef, undef, undef, undef, undef, undef, undef, undef, undef, undef], defers := [] } W.drew := by
      rw [hG]
      refine wpAnyIn_ready (rs := [0, 3]) (by kernel_rfl) (by simp) ?_
      refine AllReadyIn.cons rfl (fun K hK => ?_) ?_
      · go_simp
        refine hK _ _ ?_
        rw [← hG]
        exact g015
      refine AllReadyIn.cons rfl (fun K hK => ?_) ?_
      · go_simp
        refine hK _ _ ?_
        rw [← hG]
        exact g135
      exact AllReadyIn.nil
    have g34 : GG 10 #[false, false, false, true, true, false, false, false, false, false, false, false] { tmps := #[.slice (some ⟨b, off, none⟩) d c, .int .i64 (s : Nat), .pointer (some ⟨w.heap.size, 0, none⟩), undef, .pointer (some ⟨w.heap.size + 1, 0, none⟩), .int .i64 0, .bool false, .int .i64 0, .int .i64 0, .pointer (some ⟨w.heap.size + 1 + 1, 0, none⟩), .int .i64 0, .pointer (some ⟨w.heap.size + 1 + 1 + 1, 0, none⟩), .pointer (some ⟨w.heap.size + 1 + 1 + 1 + 1, 0, none⟩), .pointer (some ⟨bw, 0, none⟩), undef, undef, .slice (some ⟨b, off, none⟩) d c, .int .i64 0, .int .i64 0, .bool false, undef, undef, .int .i64 (s : Nat), .bool false, .bool false, .int .i64 (s : Nat), .slice (some ⟨b, off, none⟩) d c, .int .i64 (d : Nat), .bool false, .bool false, undef, .tuple #[.int .i64 (h : Nat), .int .i64 0], .slice (some ⟨b, off, none⟩) d c, .int .i64 (d : Nat), .int .i64 (8 * (d : Int)), .tuple #[.int .i64 (h : Nat), .int .i64 0], .int .i64 (h : Nat), .int .i64 0, .int .i64 0, .bool false, undef, undef, .int .i64 (s : Nat), .int .i64 (h : Nat), .func (.func 247) #[] #[.pointer (some ⟨w.heap.size + 1 + 1 + 1 + 1 + 1 + 1, 0, none⟩), .pointer (some ⟨w.heap.size + 1 + 1 + 1 + 1 + 1, 0, none⟩)], .agg #[.int .i64 (x.1 : Nat), .int .i64 (F : Nat), .int .i64 (M : Nat)], undef, undef, undef, undef, .pointer (some ⟨bw, 0, none⟩), .int .i64 (x.1 : Nat), undef, undef, undef, undef, undef, undef, undef, undef, undef, undef, undef, undef, undef, undef], defers := [] } W.drew := by
      rw [hG]
      refine wpAnyIn_ready (rs := [0, 1, 5]) (by kernel_rfl) (by simp) ?_
      refine AllReadyIn.cons rfl (fun K hK => ?_) ?_
      · go_simp
        refine hK _ _ ?_
        rw [← hG]
        exact g034
      refine AllReadyIn.cons rfl (fun K hK => ?_) ?_
      · go_simp
        refine hK _ _ ?_
        rw [← hG]
        exact g134
      refine AllReadyIn.cons rfl (fun K hK => ?_) ?_
      · go_simp
        refine hK _ _ ?_
        rw [← hG]
        exact g345
      exact AllReadyIn.nil
    have g35 : GG 10 #[false, false, false, true, false, true, false, false, false, false, false, false] { tmps := #[.slice (some ⟨b, off, none⟩) d c, .int .i64 (s : Nat), .pointer (some ⟨w.heap.size, 0, none⟩), undef, .pointer (some ⟨w.heap.size + 1, 0, none⟩), .int .i64 0, .bool false, .int .i64 0, .int .i64 0, .pointer (some ⟨w.heap.size + 1 + 1, 0, none⟩), .int .i64 0, .pointer (some ⟨w.heap.size + 1 + 1 + 1, 0, none⟩), .pointer (some ⟨w.heap.size + 1 + 1 + 1 + 1, 0, none⟩), .pointer (some ⟨bw, 0, none⟩), undef, undef, .slice (some ⟨b, off, none⟩) d c, .int .i64 0, .int .i64 0, .bool false, undef, undef, .int .i64 (s : Nat), .bool false, .bool false, .int .i64 (s : Nat), .slice (some ⟨b, off, none⟩) d c, .int .i64 (d : Nat), .bool false, .bool false, undef, .tuple #[.int .i64 (h : Nat), .int .i64 0], .slice (some ⟨b, off, none⟩) d c, .int .i64 (d : Nat), .int .i64 (8 * (d : Int)), .tuple #[.int .i64 (h : Nat), .int .i64 0], .int .i64 (h : Nat), .int .i64 0, .int .i64 0, .bool false, undef, undef, .int .i64 (s : Nat), .int .i64 (h : Nat), .func (.func 247) #[] #[.pointer (some ⟨w.heap.size + 1 + 1 + 1 + 1 + 1 + 1, 0, none⟩), .pointer (some ⟨w.heap.size + 1 + 1 + 1 + 1 + 1, 0, none⟩)], .agg #[.int .i64 (x.1 : Nat), .int .i64 (F : Nat), .int .i64 (M : Nat)], undef, undef, undef, undef, .pointer (some ⟨bw, 0, none⟩), undef, .int .i64 (h : Nat), undef, undef, undef, undef, undef, undef, undef, undef, undef, undef, undef, undef, undef], defers := [] } W.drew := by
      rw [hG]
      refine wpAnyIn_ready (rs := [0, 1, 4]) (by kernel_rfl) (by simp) ?_
      refine AllReadyIn.cons rfl (fun K hK => ?_) ?_
      · go_simp
        refine hK _ _ ?_
        rw [← hG]
        exact g035
      refine AllReadyIn.cons rfl (fun K hK => ?_) ?_
      · go_simp
        refine hK _ _ ?_
        rw [← hG]
        exact g135
      refine AllReadyIn.cons rfl (fun K hK => ?_) ?_
      · go_simp
        refine hK _ _ ?_
        rw [← hG]
        exact g345
      exact AllReadyIn.nil
    have g0 : GG 11 #[true, false, false, false, false, false, false, false, false, false, false, false] { tmps := #[.slice (some ⟨b, off, none⟩) d c, .int .i64 (s : Nat), .pointer (some ⟨w.heap.size, 0, none⟩), undef, .pointer (some ⟨w.heap.size + 1, 0, none⟩), .int .i64 0, .bool false, .int .i64 0, .int .i64 0, .pointer (some ⟨w.heap.size + 1 + 1, 0, none⟩), .int .i64 0, .pointer (some ⟨w.heap.size + 1 + 1 + 1, 0, none⟩), .pointer (some ⟨w.heap.size + 1 + 1 + 1 + 1, 0, none⟩), .pointer (some ⟨bw, 0, none⟩), undef, undef, .slice (some ⟨b, off, none⟩) d c, .int .i64 0, .int .i64 0, .bool false, undef, undef, .int .i64 (s : Nat), .bool false, .bool false, .int .i64 (s : Nat), .slice (some ⟨b, off, none⟩) d c, .int .i64 (d : Nat), .bool false, .bool false, undef, .tuple #[.int .i64 (h : Nat), .int .i64 0], .slice (some ⟨b, off, none⟩) d c, .int .i64 (d : Nat), .int .i64 (8 * (d : Int)), .tuple #[.int .i64 (h : Nat), .int .i64 0], .int .i64 (h : Nat), .int .i64 0, .int .i64 0, .bool false, undef, undef, .int .i64 (s : Nat), .int .i64 (h : Nat), .func (.func 247) #[] #[.pointer (some ⟨w.heap.size + 1 + 1 + 1 + 1 + 1 + 1, 0, none⟩), .pointer (some ⟨w.heap.size + 1 + 1 + 1 + 1 + 1, 0, none⟩)], .agg #[.int .i64 (x.1 : Nat), .int .i64 (F : Nat), .int .i64 (M : Nat)], undef, .agg #[.int .i64 (x.1 : Nat), .int .i64 (F : Nat), .int .i64 (M : Nat)], undef, undef, undef, undef, undef, undef, undef, undef, undef, undef, undef, undef, undef, undef, undef, undef, undef, undef], defers := [] } W.drew := by
      rw [hG]
      refine wpAnyIn_ready (rs := [1, 3, 5]) (by kernel_rfl) (by simp) ?_
      refine AllReadyIn.cons rfl (fun K hK => ?_) ?_
      · go_simp
        refine hK _ _ ?_
        rw [← hG]
        exact g01
      refine AllReadyIn.cons rfl (fun K hK => ?_) ?_
      · go_simp
        refine hK _ _ ?_
        rw [← hG]
        exact g03
      refine AllReadyIn.cons rfl (fun K hK => ?_) ?_
      · go_simp
        refine hK _ _ ?_
        rw [← hG]
        exact g05
      exact AllReadyIn.nil
    have g1 : GG 11 #[false, true, false, false, false, false, false, false, false, false, false, false] { tmps := #[.slice (some ⟨b, off, none⟩) d c, .int .i64 (s : Nat), .pointer (some ⟨w.heap.size, 0, none⟩), undef, .pointer (some ⟨w.heap.size + 1, 0, none⟩), .int .i64 0, .bool false, .int .i64 0, .int .i64 0, .pointer (some ⟨w.heap.size + 1 + 1, 0, none⟩), .int .i64 0, .pointer (some ⟨w.heap.size + 1 + 1 + 1, 0, none⟩), .pointer (some ⟨w.heap.size + 1 + 1 + 1 + 1, 0, none⟩), .pointer (some ⟨bw, 0, none⟩), undef, undef, .slice (some ⟨b, off, none⟩) d c, .int .i64 0, .int .i64 0, .bool false, undef, undef, .int .i64 (s : Nat), .bool false, .bool false, .int .i64 (s : Nat), .slice (some ⟨b, off, none⟩) d c, .int .i64 (d : Nat), .bool false, .bool false, undef, .tuple #[.int .i64 (h : Nat), .int .i64 0], .slice (some ⟨b, off, none⟩) d c, .int .i64 (d : Nat), .int .i64 (8 * (d : Int)), .tuple #[.int .i64 (h : Nat), .int .i64 0], .int .i64 (h : Nat), .int .i64 0, .int .i64 0, .bool false, undef, undef, .int .i64 (s : Nat), .int .i64 (h : Nat), .func (.func 247) #[] #[.pointer (some ⟨w.heap.size + 1 + 1 + 1 + 1 + 1 + 1, 0, none⟩), .pointer (some ⟨w.heap.size + 1 + 1 + 1 + 1 + 1, 0, none⟩)], .agg #[.int .i64 (x.1 : Nat), .int .i64 (F : Nat), .int .i64 (M : Nat)], undef, undef, .slice (some ⟨b, off, none⟩) d c, undef, undef, undef, undef, undef, undef, undef, undef, undef, undef, undef, undef, undef, undef, undef, undef, undef], defers := [] } W.drew := by
      rw [hG]
      refine wpAnyIn_ready (rs := [0, 3, 5]) (by kernel_rfl) (by simp) ?_
      refine AllReadyIn.cons rfl (fun K hK => ?_) ?_
      · go_simp
        refine hK _ _ ?_
        rw [← hG]
        exact g01
      refine AllReadyIn.cons rfl (fun K hK => ?_) ?_
      · go_simp
        refine hK _ _ ?_
        rw [← hG]
        exact g13
      refine AllReadyIn.cons rfl (fun K hK => ?_) ?_
      · go_simp
        refine hK _ _ ?_
        rw [← hG]
        exact g15
      exact AllReadyIn.nil
    have g3 : GG 11 #[false, false, false, true, false, false, false, false, false, false, false, false] { tmps := #[.slice (some ⟨b, off, none⟩) d c, .int .i64 (s : Nat), .pointer (some ⟨w.heap.size, 0, none⟩), undef, .pointer (some ⟨w.heap.size + 1, 0, none⟩), .int .i64 0, .bool false, .int .i64 0, .int .i64 0, .pointer (some ⟨w.heap.size + 1 + 1, 0, none⟩), .int .i64 0, .pointer (some ⟨w.heap.size + 1 + 1 + 1, 0, none⟩), .pointer (some ⟨w.heap.size + 1 + 1 + 1 + 1, 0, none⟩), .pointer (some ⟨bw, 0, none⟩), undef, undef, .slice (some ⟨b, off, none⟩) d c, .int .i64 0, .int .i64 0, .bool false, undef, undef, .int .i64 (s : Nat), .bool false, .bool false, .int .i64 (s : Nat), .slice (some ⟨b, off, none⟩) d c, .int .i64 (d : Nat), .bool false, .bool false, undef, .tuple #[.int .i64 (h : Nat), .int .i64 0], .slice (some ⟨b, off, none⟩) d c, .int .i64 (d : Nat), .int .i64 (8 * (d : Int)), .tuple #[.int .i64 (h : Nat), .int .i64 0], .int .i64 (h : Nat), .int .i64 0, .int .i64 0, .bool false, undef, undef, .int .i64 (s : Nat), .int .i64 (h : Nat), .func (.func 247) #[] #[.pointer (some ⟨w.heap.size + 1 + 1 + 1 + 1 + 1 + 1, 0, none⟩), .pointer (some ⟨w.heap.size + 1 + 1 + 1 + 1 + 1, 0, none⟩)], .agg #[.int .i64 (x.1 : Nat), .int .i64 (F : Nat), .int .i64 (M : Nat)], undef, undef, undef, undef, .pointer (some ⟨bw, 0, none⟩), undef, undef, undef, undef, undef, undef, undef, undef, undef, undef, undef, undef, undef, undef, undef], defers := [] } W.drew := by
      rw [hG]
      refine wpAnyIn_ready (rs := [0, 1, 4, 5]) (by kernel_rfl) (by simp) ?_
      refine AllReadyIn.cons rfl (fun K hK => ?_) ?_
      · go_simp
        refine hK _ _ ?_
        rw [← hG]
        exact g03
      refine AllReadyIn.cons rfl (fun K hK => ?_) ?_
      · go_simp
        refine hK _ _ ?_
        rw [← hG]
        exact g13
      refine AllReadyIn.cons rfl (fun K hK => ?_) ?_
      · go_simp
        refine hK _ _ ?_
        rw [← hG]
        exact g34
      refine AllReadyIn.cons rfl (fun K hK => ?_) ?_
      · go_simp
        refine hK _ _ ?_
        rw [← hG]
        exact g35
      exact AllReadyIn.nil
    have g5 : GG 11 #[false, false, false, false, false, true, false, false, false, false, false, false] { tmps := #[.slice (some ⟨b, off, none⟩) d c, .int .i64 (s : Nat), .pointer (some ⟨w.heap.size, 0, none⟩), undef, .pointer (some ⟨w.heap.size + 1, 0, none⟩), .int .i64 0, .bool false, .int .i64 0, .int .i64 0, .pointer (some ⟨w.heap.size + 1 + 1, 0, none⟩), .int .i64 0, .pointer (some ⟨w.heap.size + 1 + 1 + 1, 0, none⟩), .pointer (some ⟨w.heap.size + 1 + 1 + 1 + 1, 0, none⟩), .pointer (some ⟨bw, 0, none⟩), undef, undef, .slice (some ⟨b, off, none⟩) d c, .int .i64 0, .int .i64 0, .bool false, undef, undef, .int .i64 (s : Nat), .bool false, .bool false, .int .i64 (s : Nat), .slice (some ⟨b, off, none⟩) d c, .int .i64 (d : Nat), .bool false, .bool false, undef, .tuple #[.int .i64 (h : Nat), .int .i64 0], .slice (some ⟨b, off, none⟩) d c, .int .i64 (d : Nat), .int .i64 (8 * (d : Int)), .tuple #[.int .i64 (h : Nat), .int .i64 0], .int .i64 (h : Nat), .int .i64 0, .int .i64 0, .bool false, undef, undef, .int .i64 (s : Nat), .int .i64 (h : Nat), .func (.func 247) #[] #[.pointer (some ⟨w.heap.size + 1 + 1 + 1 + 1 + 1 + 1, 0, none⟩), .pointer (some ⟨w.heap.size + 1 + 1 + 1 + 1 + 1, 0, none⟩)], .agg #[.int .i64 (x.1 : Nat), .int .i64 (F : Nat), .int .i64 (M : Nat)], undef, undef, undef, undef, undef, undef, .int .i64 (h : Nat), undef, undef, undef, undef, undef, undef, undef, undef, undef, undef, undef, undef, undef], defers := [] } W.drew := by
      rw [hG]
      refine wpAnyIn_ready (rs := [0, 1, 3]) (by kernel_rfl) (by simp) ?_
      refine AllReadyIn.cons rfl (fun K hK => ?_) ?_
      · go_simp
        refine hK _ _ ?_
        rw [← hG]
        exact g05
      refine AllReadyIn.cons rfl (fun K hK => ?_) ?_
      · go_simp
        refine hK _ _ ?_
        rw [← hG]
        exact g15
      refine AllReadyIn.cons rfl (fun K hK => ?_) ?_
      · go_simp
        refine hK _ _ ?_
        rw [← hG]
        exact g35
      exact AllReadyIn.nil
    have g : GG 12 #[false, false, false, false, false, false, false, false, false, false, false, false] { tmps := #[.slice (some ⟨b, off, none⟩) d c, .int .i64 (s : Nat), .pointer (some ⟨w.heap.size, 0, none⟩), undef, .pointer (some ⟨w.heap.size + 1, 0, none⟩), .int .i64 0, .bool false, .int .i64 0, .int .i64 0, .pointer (some ⟨w.heap.size + 1 + 1, 0, none⟩), .int .i64 0, .pointer (some ⟨w.heap.size + 1 + 1 + 1, 0, none⟩), .pointer (some ⟨w.heap.size + 1 + 1 + 1 + 1, 0, none⟩), .pointer (some ⟨bw, 0, none⟩), undef, undef, .slice (some ⟨b, off, none⟩) d c, .int .i64 0, .int .i64 0, .bool false, undef, undef, .int .i64 (s : Nat), .bool false, .bool false, .int .i64 (s : Nat), .slice (some ⟨b, off, none⟩) d c, .int .i64 (d : Nat), .bool false, .bool false, undef, .tuple #[.int .i64 (h : Nat), .int .i64 0], .slice (some ⟨b, off, none⟩) d c, .int .i64 (d : Nat), .int .i64 (8 * (d : Int)), .tuple #[.int .i64 (h : Nat), .int .i64 0], .int .i64 (h : Nat), .int .i64 0, .int .i64 0, .bool false, undef, undef, .int .i64 (s : Nat), .int .i64 (h : Nat), .func (.func 247) #[] #[.pointer (some ⟨w.heap.size + 1 + 1 + 1 + 1 + 1 + 1, 0, none⟩), .pointer (some ⟨w.heap.size + 1 + 1 + 1 + 1 + 1, 0, none⟩)], .agg #[.int .i64 (x.1 : Nat), .int .i64 (F : Nat), .int .i64 (M : Nat)], undef, undef, undef, undef, undef, undef, undef, undef, undef, undef, undef, undef, undef, undef, undef, undef, undef, undef, undef, undef], defers := [] } W.drew := by
      rw [hG]
      refine wpAnyIn_ready (rs := [0, 1, 3, 5]) (by kernel_rfl) (by simp) ?_
      refine AllReadyIn.cons rfl (fun K hK => ?_) ?_
      · go_simp
        refine hK _ _ ?_
        rw [← hG]
        exact g0
      refine AllReadyIn.cons rfl (fun K hK => ?_) ?_
      · go_simp
        refine hK _ _ ?_
        rw [← hG]
        exact g1
      refine AllReadyIn.cons rfl (fun K hK => ?_) ?_
      · go_simp
        refine hK _ _ ?_
        rw [← hG]
        exact g3
      refine AllReadyIn.cons rfl (fun K hK => ?_) ?_
      · go_simp
        refine hK _ _ ?_
        rw [← hG]
        exact g5
      exact AllReadyIn.nil
    exact g
  case done =>
    rintro D ys W hD rfl ⟨⟨hno, k0, k1, k2, k3, k4⟩, hB, hz⟩ hK
    have hnone : pickL r s h = h + 1 := pickL_none fun j hj => hno ⟨j, hj⟩ (by unfold lvls; exact List.mem_finRange _)
    have e4 : foundV r s h = .agg #[.int .i64 0, .int .i64 0, .int .i64 0] := by unfold foundV; rw [if_neg (by omega)]
    have e5 : decide (pickL r s h ≤ h) = false := by simp; omega
    have c11 : W.cell? ⟨w.heap.size + 1 + 1 + 1, 0, none⟩ = some (.int .i64 0) := by rw [k3.cell]; rfl
    have c11b : W.cell? ⟨w.heap.size + 1 + 1 + 1, 1, none⟩ = some (.int .i64 0) := by rw [k3.cell]; rfl
    have c11c : W.cell? ⟨w.heap.size + 1 + 1 + 1, 2, none⟩ = some (.int .i64 0) := by rw [k3.cell]; rfl
    have c9 : W.cell? ⟨w.heap.size + 1 + 1, 0, none⟩ = some (.int .i64 (h : Nat)) := by rw [k2.cell]; rfl
    have c12 : W.cell? ⟨w.heap.size + 1 + 1 + 1 + 1, 0, none⟩ = some (.bool false) := by rw [k4.cell]; rfl
    have c4 : W.cell? ⟨w.heap.size + 1, 0, none⟩ = some (.int .i64 0) := by rw [k1.cell]; rfl
    have c4b : W.cell? ⟨w.heap.size + 1, 1, none⟩ = some (.int .i64 0) := by rw [k1.cell]; rfl
    have c4c : W.cell? ⟨w.heap.size + 1, 2, none⟩ = some (.int .i64 0) := by rw [k1.cell]; rfl
    have f4 := k1.frozen 0
    have f4b := k1.frozen 1
    have f4c := k1.frozen 2
    have hmx : Tryz.prog.follows .mixedOrders = true := by kernel_rfl
    gi_wp2_with fail
    refine wpIn_mono (Q := NoPanic _) ?_ NoPanic.imp
    gi_region_with_o (fail)
    all_goals refine NoPanic.normal ?_
    all_goals gi_wp2_with fail
    all_goals rw [Exit.noGoto_ret]
    all_goals
      have hz := k4.lt
      have z4 := ((k1.put 0 (.int .i64 0)).put 1 (.int .i64 0)).put 2 (.int .i64 0)
      have hKD : (World.drew (((W.setCell ⟨w.heap.size + 1, 0, none⟩ (.int .i64 0)).setCell ⟨w.heap.size + 1, 1, none⟩ (.int .i64 0)).setCell ⟨w.heap.size + 1, 2, none⟩ (.int .i64 0))).heap[D]? = some (.deferred (some [])) := by
        refine (Below.heap_setCell _ _ _ D (by show D ≠ w.heap.size + 1; omega)).trans ((Below.heap_setCell _ _ _ D (by show D ≠ w.heap.size + 1; omega)).trans ((Below.heap_setCell _ _ _ D (by show D ≠ w.heap.size + 1; omega)).trans hK))
      have hBD : Below w.heap.size w (World.drew (((W.setCell ⟨w.heap.size + 1, 0, none⟩ (.int .i64 0)).setCell ⟨w.heap.size + 1, 1, none⟩ (.int .i64 0)).setCell ⟨w.heap.size + 1, 2, none⟩ (.int .i64 0))) :=
        below_drewN (((hB.setCell (p := ⟨w.heap.size + 1, 0, none⟩) (by simp) _).setCell (p := ⟨w.heap.size + 1, 1, none⟩) (by simp) _).setCell (p := ⟨w.heap.size + 1, 2, none⟩) (by simp) _) 1
      refine ⟨by simp, .inl ⟨_, _, rfl, run_takeDeferred hKD, ?_⟩⟩
      have z5 := (z4.drew).grown (grownBy_putObj' _ D (.deferred none)) (by intro e; injection e with e; omega)
      refine ⟨_, results_c_ttt rfl _ rfl z5 Tryz.underlying193 (by kernel_rfl), ?_, ?_⟩
      · rw [e4, e5]; rfl
      · exact hBD.grown (grownBy_putObj' _ D (.deferred none)) hBD.size (row_some (by omega))
  case stop =>
    rintro D cc pre W _ hpre ⟨⟨rfl, ⟨pre', k, rfl, hno, hyes, hk3⟩, k1, k2, k4⟩, hB⟩ hK
    have hpk : pickL r s h = k.1 := by
      have hk := k.2
      obtain ⟨q, hq⟩ := hpre
      have hlen : pre'.length = k.1 := by
        have h1 : (lvls h)[pre'.length]? = some k := by rw [← hq]; simp
        rw [List.getElem?_eq_some_iff] at h1
        obtain ⟨h2, h3⟩ := h1
        rw [lvls_len] at h2
        rw [lvls_get h2] at h3
        rw [← h3]
      refine pickL_eq (by omega) (fun j hj => hno ⟨j, by omega⟩ ?_) hyes
      have h1 : pre'[j]? = some ⟨j, by omega⟩ := by
        have h2 : (lvls h)[j]? = some ⟨j, by omega⟩ := by
          rw [List.getElem?_eq_getElem (by rw [lvls_len]; omega), lvls_get (by omega)]
        rw [← hq, List.append_assoc, List.getElem?_append_left (by omega)] at h2
        exact h2
      exact List.mem_of_getElem? h1
    have e4 : foundV r s h = .agg #[.int .i64 (k.1 : Nat), .int .i64 (winF s k.1 : Nat), .int .i64 ((2 ^ k.1 : Nat) : Int)] := by
      have := k.2
      unfold foundV; rw [hpk, if_pos (by omega)]; rfl
    have e5 : decide (pickL r s h ≤ h) = true := by have := k.2; simp; omega
    generalize winF s k.1 = F at *
    generalize 2 ^ k.1 = M at *
    have c11 : W.cell? ⟨w.heap.size + 1 + 1 + 1, 0, none⟩ = some (.int .i64 (k.1 : Nat)) := by rw [hk3.cell]; rfl
    have c11b : W.cell? ⟨w.heap.size + 1 + 1 + 1, 1, none⟩ = some (.int .i64 (F : Nat)) := by rw [hk3.cell]; rfl
    have c11c : W.cell? ⟨w.heap.size + 1 + 1 + 1, 2, none⟩ = some (.int .i64 (M : Nat)) := by rw [hk3.cell]; rfl
    have c9 : W.cell? ⟨w.heap.size + 1 + 1, 0, none⟩ = some (.int .i64 (h : Nat)) := by rw [k2.cell]; rfl
    have c12 : W.cell? ⟨w.heap.size + 1 + 1 + 1 + 1, 0, none⟩ = some (.bool true) := by rw [k4.cell]; rfl
    have c4 : W.cell? ⟨w.heap.size + 1, 0, none⟩ = some (.int .i64 0) := by rw [k1.cell]; rfl
    have c4b : W.cell? ⟨w.heap.size + 1, 1, none⟩ = some (.int .i64 0) := by rw [k1.cell]; rfl
    have c4c : W.cell? ⟨w.heap.size + 1, 2, none⟩ = some (.int .i64 0) := by rw [k1.cell]; rfl
    have f4 := k1.frozen 0
    have f4b := k1.frozen 1
    have f4c := k1.frozen 2
    have hmx : Tryz.prog.follows .mixedOrders = true := by kernel_rfl
    refine wpIn_exit ?_
    gi_wp2_with fail
    refine wpIn_mono (Q := NoPanic _) ?_ NoPanic.imp
    gi_region_with_o (fail)
    all_goals refine NoPanic.normal ?_
    all_goals gi_wp2_with fail
    all_goals rw [Exit.noGoto_ret]
    all_goals
      have hz := k4.lt
      have z4 := ((k1.put 0 (.int .i64 (k.1 : Nat))).put 1 (.int .i64 (F : Nat))).put 2 (.int .i64 (M : Nat))
      have hKD : (World.drew (((W.setCell ⟨w.heap.size + 1, 0, none⟩ (.int .i64 (k.1 : Nat))).setCell ⟨w.heap.size + 1, 1, none⟩ (.int .i64 (F : Nat))).setCell ⟨w.heap.size + 1, 2, none⟩ (.int .i64 (M : Nat)))).heap[D]? = some (.deferred (some [])) := by
        refine (Below.heap_setCell _ _ _ D (by show D ≠ w.heap.size + 1; omega)).trans ((Below.heap_setCell _ _ _ D (by show D ≠ w.heap.size + 1; omega)).trans ((Below.heap_setCell _ _ _ D (by show D ≠ w.heap.size + 1; omega)).trans hK))
      have hBD : Below w.heap.size w (World.drew (((W.setCell ⟨w.heap.size + 1, 0, none⟩ (.int .i64 (k.1 : Nat))).setCell ⟨w.heap.size + 1, 1, none⟩ (.int .i64 (F : Nat))).setCell ⟨w.heap.size + 1, 2, none⟩ (.int .i64 (M : Nat)))) :=
        below_drewN (((hB.setCell (p := ⟨w.heap.size + 1, 0, none⟩) (by simp) _).setCell (p := ⟨w.heap.size + 1, 1, none⟩) (by simp) _).setCell (p := ⟨w.heap.size + 1, 2, none⟩) (by simp) _) 1
      refine ⟨by simp, .inl ⟨_, _, rfl, run_takeDeferred hKD, ?_⟩⟩
      have z5 := (z4.drew).grown (grownBy_putObj' _ D (.deferred none)) (by intro e; injection e with e; omega)
      refine ⟨_, results_c_ttt rfl _ rfl z5 Tryz.underlying193 (by kernel_rfl), ?_, ?_⟩
      · rw [e4, e5]; rfl
      · exact hBD.grown (grownBy_putObj' _ D (.deferred none)) hBD.size (row_some (by omega))
end Go.Proofs.YtaonkbfekadalaaGreatDoor
