/- Joined texts: Vg, Vh, Vi, Vj. -/
import Derived.Test.YtaonkbfekadalaaGreatDoorM42
/- The walk through the blocks in order. -/
namespace Go.Proofs.YtaonkbfekadalaaGreatDoor
open Go.RowKit
set_option linter.unusedVariables false

/-- What the walk works on: the visit's things, and the boxes of the closure. -/
structure OT (K : List Int) (KA : Option Addr) (kc kb nb lb vb l2 fb gb : Nat) (W : World) (s : Nat × List Int) : Prop where
  os : OS K KA kc kb nb lb vb W s.1 s.2
  h2 : Blk W l2 43 #[.int .i64 2, .slice (some ⟨vb, 0, none⟩) 30 30]
  hf : Blk W fb 76 #[.func (.func 80) #[] #[.pointer (some ⟨l2, 0, none⟩), .pointer (some ⟨fb, 0, none⟩), .pointer (some ⟨gb, 0, none⟩)]]
  hg : Blk W gb 76 #[.func (.func 28) #[] #[.pointer (some ⟨kb, 0, none⟩), .pointer (some ⟨nb, 0, none⟩), .pointer (some ⟨lb, 0, none⟩)]]
section
variable {K : List Int} {KA : Option Addr} {kc kb nb lb vb l2 fb gb : Nat} {W W' : World} {s : Nat × List Int}
theorem OT.below (h : OT K KA kc kb nb lb vb l2 fb gb W s) (hb : Below W.heap.size W W') : OT K KA kc kb nb lb vb l2 fb gb W' s :=
  ⟨h.os.below hb, h.h2.below hb h.h2.lt, h.hf.below hb h.hf.lt, h.hg.below hb h.hg.lt⟩
theorem visitT_ok (h : OT K KA kc kb nb lb vb l2 fb gb W s) (hK : K.length = 30) (hn : s.1 < 30) {p : Nat} (hp : p < 30) :
    Calls Tryz.prog 28 #[.int .i64 p, .pointer (some ⟨kb, 0, none⟩), .pointer (some ⟨nb, 0, none⟩), .pointer (some ⟨lb, 0, none⟩)] W fun e w' => (∃ v, e = .returned v) ∧ OT K KA kc kb nb lb vb l2 fb gb w' (putO K p s) ∧ Only (fun i => i = vb ∨ i = nb) W w' := by
  refine (visit_ok h.os hK hn hp).mono ?_
  rintro e w' ⟨q1, q2, hO⟩
  have hv := h.os.hv
  have hn' := h.os.hn
  exact ⟨q1, ⟨q2, h.h2.only hO (fun q => q.elim (fun e => hv.ne_ h.h2 (by decide) e.symm) (h.h2.ne_ hn' (by decide))), h.hf.only hO (fun q => q.elim (fun e => hv.ne_ h.hf (by decide) e.symm) (h.hf.ne_ hn' (by decide))), h.hg.only hO (fun q => q.elim (fun e => hv.ne_ h.hg (by decide) e.symm) (h.hg.ne_ hn' (by decide)))⟩, hO⟩
/-- What the walk of a block is to do. -/
def WalkOk (K : List Int) (KA : Option Addr) (kc kb nb lb vb l2 fb gb : Nat) (f i : Nat) : Prop := ∀ W s, OT K KA kc kb nb lb vb l2 fb gb W s → s.1 + cntF f i ≤ 30 →
  Calls Tryz.prog 80 #[.int .i64 i, .pointer (some ⟨l2, 0, none⟩), .pointer (some ⟨fb, 0, none⟩), .pointer (some ⟨gb, 0, none⟩)] W fun e w' => (∃ v, e = .returned v) ∧ OT K KA kc kb nb lb vb l2 fb gb w' (ordV K f i s) ∧ Only (fun i => i = vb ∨ i = nb) W w'
theorem ordV_cnt (K : List Int) : ∀ (f i : Nat) (s : Nat × List Int), (ordV K f i s).1 = s.1 + cntF f i
  | 0, i, s => rfl
  | f + 1, i, s => by
    unfold ordV cntF
    by_cases h : 10 ≤ i
    · rw [if_pos h, if_pos h]; rfl
    · rw [if_neg h, if_neg h, ordV_cnt K f]
      have hj : ∀ j, (ordJ K (ordV K f) i j s).1 = s.1 + cntJ (cntF f) i j := by
        intro j
        induction j with
        | zero => rfl
        | succ j ih =>
          show (ordV K f (4 * i + 1 + j) (ordJ K (ordV K f) i j s)).1 + 1 = _
          rw [ordV_cnt K f, ih]
          simp only [cntJ]
          omega
      rw [hj]
      omega
theorem ordJ_cnt (K : List Int) (f i : Nat) (s : Nat × List Int) : ∀ j, (ordJ K (ordV K f) i j s).1 = s.1 + cntJ (cntF f) i j
  | 0 => rfl
  | j + 1 => by
    show (ordV K f (4 * i + 1 + j) (ordJ K (ordV K f) i j s)).1 + 1 = _
    rw [ordV_cnt K f, ordJ_cnt K f i s j]
    simp only [cntJ]
    omega
theorem cntJ_le (c : Nat → Nat) (i : Nat) {j : Nat} (hj : j < 3) : cntJ c i j + c (4 * i + 1 + j) + 1 ≤ cntJ c i 3 := by
  rcases (by omega : j = 0 ∨ j = 1 ∨ j = 2) with rfl | rfl | rfl <;> simp only [cntJ] <;> omega
theorem walk_far (f i : Nat) (hi : 10 ≤ i) (hi2 : i ≤ 1000) : WalkOk K KA kc kb nb lb vb l2 fb gb f i := by
  intro W s h hs
  have c0 : W.cell? ⟨l2, 0, none⟩ = some (.int .i64 2) := by rw [h.h2.cell]; rfl
  have c1 : W.cell? ⟨l2, 1, none⟩ = some (.slice (some ⟨vb, 0, none⟩) 30 30) := by rw [h.h2.cell]; rfl
  have hb := blocks_ok (some ⟨vb, 0, none⟩) 30 W
  have k1 : (10 : Int) ≤ (i : Int) := by omega
  have e1 : ordV K f i s = s := by
    cases f with
    | zero => rfl
    | succ f => unfold ordV; rw [if_pos hi]
  rw [e1]
  have H := Lib.hid h
  clear hs e1 h
  go_enter Tryz.func80, Tryz.ntmps80
  go_wp2_with fail
  refine hb.mono ?_
  rintro e w1 ⟨rfl, hB⟩
  go_wp2_with fail
  refine bodyPost_ret (results_none rfl _ _ _) rfl ?_
  exact ⟨⟨_, rfl⟩, H.out.below hB, Only.of_below hB⟩
set_option maxRecDepth 100000 in
set_option maxHeartbeats 8000000 in
theorem walk_near (hK : K.length = 30) (f i : Nat) (hi : i < 10) (hsub : ∀ j, j < 4 → WalkOk K KA kc kb nb lb vb l2 fb gb f (4 * i + 1 + j)) : WalkOk K KA kc kb nb lb vb l2 fb gb (f + 1) i := by
  intro W s h hs
  have hcf : cntF (f + 1) i = cntJ (cntF f) i 3 + cntF f (4 * i + 1 + 3) := by
    show (if 10 ≤ i then 0 else _) = _
    rw [if_neg (by omega)]
  have hov : ordV K (f + 1) i s = ordV K f (4 * i + 1 + 3) (ordJ K (ordV K f) i 3 s) := by
    show (if 10 ≤ i then s else _) = _
    rw [if_neg (by omega)]
  rw [hcf] at hs
  rw [hov]
  clear hcf hov
  have c0 : W.cell? ⟨l2, 0, none⟩ = some (.int .i64 2) := by rw [h.h2.cell]; rfl
  have c1 : W.cell? ⟨l2, 1, none⟩ = some (.slice (some ⟨vb, 0, none⟩) 30 30) := by rw [h.h2.cell]; rfl
  have hb := blocks_ok (some ⟨vb, 0, none⟩) 30 W
  have k1 : ¬ ((10 : Int) ≤ (i : Int)) := by omega
  have HK := Lib.hid hK
  have HS := Lib.hid hs
  have HSUB := Lib.hid hsub
  have H := Lib.hid h
  clear hs hsub hK h
  go_enter Tryz.func80, Tryz.ntmps80
  go_wp2_with fail
  refine hb.mono ?_
  rintro e w1 ⟨rfl, hB⟩
  have d0 := cell_below hB (Nat.le_refl _) c0
  have d1 := cell_below hB (Nat.le_refl _) c1
  have hbl := block_ok vb 0 30 (i := i) hi (by omega) (by omega) w1
  go_wp2_with fail
  refine hbl.mono ?_
  rintro e w2 ⟨rfl, hB2⟩
  go_wp2_with fail
  go_loopw [16] (fun jv wr => ∃ j : Nat, j ≤ 3 ∧ jv = .int .i64 j ∧ OT K KA kc kb nb lb vb l2 fb gb wr (ordJ K (ordV K f) i j s) ∧ Only (fun i => i = vb ∨ i = nb) W wr) (fun jv _ => 3 - (intOf jv).toNat)
  case atStart => exact ⟨0, by omega, rfl, (H.out.below hB).below hB2, (Only.of_below hB).trans (Only.of_below hB2)⟩
  case round =>
    obtain ⟨j, hj, rfl, hO, hon⟩ := hrel
    by_cases hlt : j < 3
    · have hcj := ordJ_cnt K f i s j
      have hle := cntJ_le (cntF f) i hlt
      have hcv := ordV_cnt K f (4 * i + 1 + j) (ordJ K (ordV K f) i j s)
      have hs := HS.out
      have j0 : (j : Int) < 3 := by omega
      have n1 : IntKind.i64.wrap ((i : Int) * 4 + 1 + (j : Int)) = ((4 * i + 1 + j : Nat) : Int) := by rw [IntWalk.i64_in _ (by omega)]; push_cast; omega
      have n2 : IntKind.i64.wrap ((i : Int) * 3) = (i : Int) * 3 := IntWalk.i64_in _ (by omega)
      have n3 : IntKind.i64.wrap ((i : Int) * 3 + (j : Int)) = ((3 * i + j : Nat) : Int) := by rw [IntWalk.i64_in _ (by omega)]; push_cast; omega
      have n4 : IntKind.i64.wrap ((j : Int) + 1) = (j : Int) + 1 := IntWalk.i64_in _ (by omega)
      have hBd : Below wr.heap.size wr wr.drew := below_drewN (Below.refl _ _) 1
      have hOd := hO.below hBd
      have d0 : wr.drew.cell? ⟨l2, 0, none⟩ = some (.int .i64 2) := by rw [hOd.h2.cell]; rfl
      have d1 : wr.drew.cell? ⟨l2, 1, none⟩ = some (.slice (some ⟨vb, 0, none⟩) 30 30) := by rw [hOd.h2.cell]; rfl
      have d2 : wr.drew.cell? ⟨fb, 0, none⟩ = some (.func (.func 80) #[] #[.pointer (some ⟨l2, 0, none⟩), .pointer (some ⟨fb, 0, none⟩), .pointer (some ⟨gb, 0, none⟩)]) := by rw [hOd.hf.cell]; rfl
      have hch := child_ok (some ⟨vb, 0, none⟩) 30 (i := i) (by omega) wr.drew
      have HOD := Lib.hid (And.intro hOd (And.intro (show (ordJ K (ordV K f) i j s).1 + cntF f (4 * i + 1 + j) ≤ 30 by omega) (show (ordV K f (4 * i + 1 + j) (ordJ K (ordV K f) i j s)).1 < 30 by omega)))
      have HON := Lib.hid (hon.trans (Only.of_below hBd))
      clear hO hOd hcj hle hcv hs hon
      go_wp2_with fail
      go_region_held3 (fun W => W.cell? ⟨l2, 0, none⟩ = some (.int .i64 2) ∧ W.cell? ⟨l2, 1, none⟩ = some (.slice (some ⟨vb, 0, none⟩) 30 30) ∧ W.cell? ⟨fb, 0, none⟩ = some (.func (.func 80) #[] #[.pointer (some ⟨l2, 0, none⟩), .pointer (some ⟨fb, 0, none⟩), .pointer (some ⟨gb, 0, none⟩)]))
        (with_reducible first | exact ⟨d0, d1, d2⟩ | exact ⟨g0, g1, g2⟩ | exact ⟨r0, r1, r2⟩)
        ((first
          | (go_at_call 33
             refine hch.mono ?_
             rintro e w3 ⟨rfl, hB3⟩
             have g0 := cell_below hB3 (Nat.le_refl _) d0
             have g1 := cell_below hB3 (Nat.le_refl _) d1
             have g2 := cell_below hB3 (Nat.le_refl _) d2
             have hrec := HSUB.out j (by omega) w3 _ (HOD.out.1.below hB3) HOD.out.2.1)
          | (go_at_call 80
             refine hrec.mono ?_
             rintro e w4 ⟨⟨v, rfl⟩, hO4, hon4⟩
             have r0 : w4.cell? ⟨l2, 0, none⟩ = some (.int .i64 2) := (by rw [hO4.h2.cell]; rfl)
             have r1 : w4.cell? ⟨l2, 1, none⟩ = some (.slice (some ⟨vb, 0, none⟩) 30 30) := (by rw [hO4.h2.cell]; rfl)
             have r2 : w4.cell? ⟨fb, 0, none⟩ = some (.func (.func 80) #[] #[.pointer (some ⟨l2, 0, none⟩), .pointer (some ⟨fb, 0, none⟩), .pointer (some ⟨gb, 0, none⟩)]) := (by rw [hO4.hf.cell]; rfl))))
      all_goals go_wp2_with fail
      all_goals (
        have hBd4 : Below w4.heap.size w4 w4.drew := below_drewN (Below.refl _ _) 1
        have hO4d := hO4.below hBd4
        have p0 : w4.drew.cell? ⟨l2, 0, none⟩ = some (.int .i64 2) := (by rw [hO4d.h2.cell]; rfl)
        have p1 : w4.drew.cell? ⟨l2, 1, none⟩ = some (.slice (some ⟨vb, 0, none⟩) 30 30) := (by rw [hO4d.h2.cell]; rfl)
        have p2 : w4.drew.cell? ⟨gb, 0, none⟩ = some (.func (.func 28) #[] #[.pointer (some ⟨kb, 0, none⟩), .pointer (some ⟨nb, 0, none⟩), .pointer (some ⟨lb, 0, none⟩)]) := (by rw [hO4d.hg.cell]; rfl)
        have hwd := wide_ok (some ⟨vb, 0, none⟩) 30 w4.drew
        have HO4 := Lib.hid hO4d
        have HON4 := Lib.hid (((HON.out.trans (Only.of_below hB3)).trans hon4).trans (Only.of_below hBd4))
        clear hO4 hO4d hon4 hrec hch)
      all_goals go_region_held3 (fun W => W.cell? ⟨l2, 0, none⟩ = some (.int .i64 2) ∧ W.cell? ⟨l2, 1, none⟩ = some (.slice (some ⟨vb, 0, none⟩) 30 30) ∧ W.cell? ⟨gb, 0, none⟩ = some (.func (.func 28) #[] #[.pointer (some ⟨kb, 0, none⟩), .pointer (some ⟨nb, 0, none⟩), .pointer (some ⟨lb, 0, none⟩)]))
        (with_reducible first | exact ⟨p0, p1, p2⟩ | exact ⟨g0, g1, g2⟩ | exact ⟨t0, t1, t2⟩)
        ((first
          | (go_at_call 81
             refine hwd.mono ?_
             rintro e w5 ⟨rfl, hB5⟩
             have g0 := cell_below hB5 (Nat.le_refl _) p0
             have g1 := cell_below hB5 (Nat.le_refl _) p1
             have g2 := cell_below hB5 (Nat.le_refl _) p2
             have hvis := visitT_ok (HO4.out.below hB5) HK.out HOD.out.2.2 (p := 3 * i + j) (by omega))
          | (go_at_call 28
             refine hvis.mono ?_
             rintro e w6 ⟨⟨v, rfl⟩, hO6, hon6⟩
             have t0 : w6.cell? ⟨l2, 0, none⟩ = some (.int .i64 2) := (by rw [hO6.h2.cell]; rfl)
             have t1 : w6.cell? ⟨l2, 1, none⟩ = some (.slice (some ⟨vb, 0, none⟩) 30 30) := (by rw [hO6.h2.cell]; rfl)
             have t2 : w6.cell? ⟨gb, 0, none⟩ = some (.func (.func 28) #[] #[.pointer (some ⟨kb, 0, none⟩), .pointer (some ⟨nb, 0, none⟩), .pointer (some ⟨lb, 0, none⟩)]) := (by rw [hO6.hg.cell]; rfl))))
      all_goals go_wp2_with fail
      all_goals (
        refine ⟨⟨j + 1, by omega, by push_cast; rfl, hO6, (HON4.out.trans (Only.of_below hB5)).trans hon6⟩, ?_⟩
        simp only [intOf]
        omega)
    · obtain rfl : j = 3 := by omega
      have hcj := ordJ_cnt K f i s 3
      have hs := HS.out
      have n1 : IntKind.i64.wrap ((i : Int) * 4 + 1 + 3) = ((4 * i + 1 + 3 : Nat) : Int) := by rw [IntWalk.i64_in _ (by omega)]; push_cast; omega
      have hBd : Below wr.heap.size wr wr.drew := below_drewN (Below.refl _ _) 1
      have hOd := hO.below hBd
      have d0 : wr.drew.cell? ⟨l2, 0, none⟩ = some (.int .i64 2) := by rw [hOd.h2.cell]; rfl
      have d1 : wr.drew.cell? ⟨l2, 1, none⟩ = some (.slice (some ⟨vb, 0, none⟩) 30 30) := by rw [hOd.h2.cell]; rfl
      have d2 : wr.drew.cell? ⟨fb, 0, none⟩ = some (.func (.func 80) #[] #[.pointer (some ⟨l2, 0, none⟩), .pointer (some ⟨fb, 0, none⟩), .pointer (some ⟨gb, 0, none⟩)]) := by rw [hOd.hf.cell]; rfl
      have hch := child_ok (some ⟨vb, 0, none⟩) 30 (i := i) (by omega) wr.drew
      have HOD := Lib.hid (And.intro hOd (show (ordJ K (ordV K f) i 3 s).1 + cntF f (4 * i + 1 + 3) ≤ 30 by omega))
      have HON := Lib.hid (hon.trans (Only.of_below hBd))
      clear hO hOd hcj hs hon
      go_wp2_with fail
      go_region_held3 (fun W => W.cell? ⟨l2, 0, none⟩ = some (.int .i64 2) ∧ W.cell? ⟨l2, 1, none⟩ = some (.slice (some ⟨vb, 0, none⟩) 30 30) ∧ W.cell? ⟨fb, 0, none⟩ = some (.func (.func 80) #[] #[.pointer (some ⟨l2, 0, none⟩), .pointer (some ⟨fb, 0, none⟩), .pointer (some ⟨gb, 0, none⟩)]))
        (with_reducible first | exact ⟨d0, d1, d2⟩ | exact ⟨g0, g1, g2⟩ | exact ⟨r0, r1, r2⟩)
        ((first
          | (go_at_call 33
             refine hch.mono ?_
             rintro e w3 ⟨rfl, hB3⟩
             have g0 := cell_below hB3 (Nat.le_refl _) d0
             have g1 := cell_below hB3 (Nat.le_refl _) d1
             have g2 := cell_below hB3 (Nat.le_refl _) d2
             have hrec := HSUB.out 3 (by omega) w3 _ (HOD.out.1.below hB3) HOD.out.2)
          | (go_at_call 80
             refine hrec.mono ?_
             rintro e w4 ⟨⟨v, rfl⟩, hO4, hon4⟩
             have r0 : w4.cell? ⟨l2, 0, none⟩ = some (.int .i64 2) := (by rw [hO4.h2.cell]; rfl)
             have r1 : w4.cell? ⟨l2, 1, none⟩ = some (.slice (some ⟨vb, 0, none⟩) 30 30) := (by rw [hO4.h2.cell]; rfl)
             have r2 : w4.cell? ⟨fb, 0, none⟩ = some (.func (.func 80) #[] #[.pointer (some ⟨l2, 0, none⟩), .pointer (some ⟨fb, 0, none⟩), .pointer (some ⟨gb, 0, none⟩)]) := (by rw [hO4.hf.cell]; rfl))))
      all_goals go_wp2_with fail
      all_goals (first | go_end0 | refine bodyPost_ret (results_none rfl _ _ _) rfl ?_)
      all_goals exact ⟨⟨_, rfl⟩, hO4, (HON.out.trans (Only.of_below hB3)).trans hon4⟩
theorem walk_all (hK : K.length = 30) : ∀ f i, i ≤ 200 → okF f i = true → WalkOk K KA kc kb nb lb vb l2 fb gb f i
  | 0, i, hi, h => walk_far 0 i (by simpa [okF] using h) (by omega)
  | f + 1, i, hi, h => by
    by_cases hi10 : 10 ≤ i
    · exact walk_far _ i hi10 (by omega)
    · simp only [okF, Bool.or_eq_true, Bool.and_eq_true, decide_eq_true_eq] at h
      have h' := h.resolve_left hi10
      refine walk_near hK f i (by omega) fun j hj => walk_all hK f _ (by omega) ?_
      rcases (by omega : j = 0 ∨ j = 1 ∨ j = 2 ∨ j = 3) with rfl | rfl | rfl | rfl
      · exact h'.1.1.1
      · exact h'.1.1.2
      · exact h'.1.2
      · exact h'.2
end
end Go.Proofs.YtaonkbfekadalaaGreatDoor
/- The layout of the example: order and Of. -/
namespace Go.Proofs.YtaonkbfekadalaaGreatDoor
open Go.RowKit
set_option linter.unusedVariables false

section
variable {K : List Int} {KA : Option Addr} {kc kb nb lb vb : Nat} {w W W' : World} {ys : List Int}
set_option maxRecDepth 100000 in
set_option maxHeartbeats 4000000 in
theorem order_ok (h : OS K KA kc kb nb lb vb W 0 ys) (hK : K.length = 30) :
    Calls Tryz.prog 27 #[.agg #[.int .i64 2, .slice (some ⟨vb, 0, none⟩) 30 30], .func (.func 28) #[] #[.pointer (some ⟨kb, 0, none⟩), .pointer (some ⟨nb, 0, none⟩), .pointer (some ⟨lb, 0, none⟩)]] W
      fun e w' => (∃ v, e = .returned v) ∧ OS K KA kc kb nb lb vb w' (ordV K 3 0 (0, ys)).1 (ordV K 3 0 (0, ys)).2 ∧ Only (fun i => i = vb ∨ i = nb) W w' := by
  have hmf : ∀ (fn : Fn) (first cap : Array Value) (w : World), (Instr.makeFunc fn first cap).run Tryz.prog w = .ok (.func fn first cap) w := fun _ _ _ _ => rfl
  have hst : ∀ (W : World) (a : Addr) (fn : Fn) (c1 c2 : Array Value) (m : Mode), (store a (.func fn c1 c2) m).run Tryz.prog W = stored Tryz.prog W a (.func fn c1 c2) m := fun W a fn c1 c2 m => run_store Tryz.prog W a _ m rfl
  have b2 := ((Blk.made W 43 #[.int .i64 2, .slice (some ⟨vb, 0, none⟩) 30 30]).alloc (.cells #[.func (.func 28) #[] #[.pointer (some ⟨kb, 0, none⟩), .pointer (some ⟨nb, 0, none⟩), .pointer (some ⟨lb, 0, none⟩)]] 76)).alloc (.cells #[.nilFunc] 76)
  have bg := (Blk.made (W.alloc (.cells #[.int .i64 2, .slice (some ⟨vb, 0, none⟩) 30 30] 43)) 76 #[.func (.func 28) #[] #[.pointer (some ⟨kb, 0, none⟩), .pointer (some ⟨nb, 0, none⟩), .pointer (some ⟨lb, 0, none⟩)]]).alloc (.cells #[.nilFunc] 76)
  have bf := Blk.made ((W.alloc (.cells #[.int .i64 2, .slice (some ⟨vb, 0, none⟩) 30 30] 43)).alloc (.cells #[.func (.func 28) #[] #[.pointer (some ⟨kb, 0, none⟩), .pointer (some ⟨nb, 0, none⟩), .pointer (some ⟨lb, 0, none⟩)]] 76)) 76 #[.nilFunc]
  simp only [World.size_alloc] at bg bf
  have hBw : Below W.heap.size W (((W.alloc (.cells #[.int .i64 2, .slice (some ⟨vb, 0, none⟩) 30 30] 43)).alloc (.cells #[.func (.func 28) #[] #[.pointer (some ⟨kb, 0, none⟩), .pointer (some ⟨nb, 0, none⟩), .pointer (some ⟨lb, 0, none⟩)]] 76)).alloc (.cells #[.nilFunc] 76)) :=
    (((Below.refl _ W).alloc (Nat.le_refl _) _).alloc (by simp) _).alloc (by simp; omega) _
  generalize hW3 : (((W.alloc (.cells #[.int .i64 2, .slice (some ⟨vb, 0, none⟩) 30 30] 43)).alloc (.cells #[.func (.func 28) #[] #[.pointer (some ⟨kb, 0, none⟩), .pointer (some ⟨nb, 0, none⟩), .pointer (some ⟨lb, 0, none⟩)]] 76)).alloc (.cells #[.nilFunc] 76)) = W3 at *
  have x0 : W3.cell? ⟨W.heap.size + 1 + 1, 0, none⟩ = some .nilFunc := by rw [bf.cell]; rfl
  have f0 := bf.frozen 0
  have cf := bf.put 0 (.func (.func 80) #[] #[.pointer (some ⟨W.heap.size, 0, none⟩), .pointer (some ⟨W.heap.size + 1 + 1, 0, none⟩), .pointer (some ⟨W.heap.size + 1, 0, none⟩)])
  have cg := bg.far (p := ⟨W.heap.size + 1 + 1, 0, none⟩) (by simp) (.func (.func 80) #[] #[.pointer (some ⟨W.heap.size, 0, none⟩), .pointer (some ⟨W.heap.size + 1 + 1, 0, none⟩), .pointer (some ⟨W.heap.size + 1, 0, none⟩)])
  have c2 := b2.far (p := ⟨W.heap.size + 1 + 1, 0, none⟩) (by simp; omega) (.func (.func 80) #[] #[.pointer (some ⟨W.heap.size, 0, none⟩), .pointer (some ⟨W.heap.size + 1 + 1, 0, none⟩), .pointer (some ⟨W.heap.size + 1, 0, none⟩)])
  have hB4 : Below W.heap.size W (W3.setCell ⟨W.heap.size + 1 + 1, 0, none⟩ (.func (.func 80) #[] #[.pointer (some ⟨W.heap.size, 0, none⟩), .pointer (some ⟨W.heap.size + 1 + 1, 0, none⟩), .pointer (some ⟨W.heap.size + 1, 0, none⟩)])) := hBw.setCell (p := ⟨W.heap.size + 1 + 1, 0, none⟩) (by simp; omega) _
  have hot : OT K KA kc kb nb lb vb W.heap.size (W.heap.size + 1 + 1) (W.heap.size + 1) (W3.setCell ⟨W.heap.size + 1 + 1, 0, none⟩ (.func (.func 80) #[] #[.pointer (some ⟨W.heap.size, 0, none⟩), .pointer (some ⟨W.heap.size + 1 + 1, 0, none⟩), .pointer (some ⟨W.heap.size + 1, 0, none⟩)])) (0, ys) := ⟨h.below hB4, c2, cf, cg⟩
  have hw := walk_all (kc := kc) hK 3 0 (by omega) (by decide) _ _ hot (show 0 + cntF 3 0 ≤ 30 by decide)
  have hcc : (W3.setCell ⟨W.heap.size + 1 + 1, 0, none⟩ (.func (.func 80) #[] #[.pointer (some ⟨W.heap.size, 0, none⟩), .pointer (some ⟨W.heap.size + 1 + 1, 0, none⟩), .pointer (some ⟨W.heap.size + 1, 0, none⟩)])).cell? ⟨W.heap.size + 1 + 1, 0, none⟩ = some (.func (.func 80) #[] #[.pointer (some ⟨W.heap.size, 0, none⟩), .pointer (some ⟨W.heap.size + 1 + 1, 0, none⟩), .pointer (some ⟨W.heap.size + 1, 0, none⟩)]) := by rw [cf.cell]; rfl
  clear h hot
  go_enter Tryz.func27, Tryz.ntmps27
  go_wp2_with fail
  refine hw.mono ?_
  rintro e w5 ⟨⟨v, rfl⟩, hO, hon⟩
  go_wp2_with fail
  go_end0
  exact ⟨⟨_, rfl⟩, hO.os, (Only.of_below hB4).trans hon⟩
end
end Go.Proofs.YtaonkbfekadalaaGreatDoor
/- The layout of the example: Of. -/
namespace Go.Proofs.YtaonkbfekadalaaGreatDoor
open Go.RowKit
set_option linter.unusedVariables false

section
variable {K : List Int} {KA : Option Addr} {kc : Nat} {w : World}
set_option maxRecDepth 100000 in
set_option maxHeartbeats 4000000 in
theorem Of_ok (hK : K.length = 30) (hR : RI w KA K) (hri : Rise K) :
    Calls Tryz.prog 10 #[.slice KA 30 kc, .int .i64 2] w fun e w' => (∃ vb, e = .returned (.tuple #[.agg #[.int .i64 2, .slice (some ⟨vb, 0, none⟩) 30 30], .int .i64 0]) ∧ w.heap.size ≤ vb ∧ BI w' vb (ordV K 3 0 (0, zeros 30)).2) ∧ Below w.heap.size w w' := by
  have hmf : ∀ (fn : Fn) (first cap : Array Value) (w : World), (Instr.makeFunc fn first cap).run Tryz.prog w = .ok (.func fn first cap) w := fun _ _ _ _ => rfl
  have bk := (Blk.made w 31 #[.slice KA 30 kc]).alloc (.cells #[.int .i64 0, .slice none 0 0] 43)
  have br := Blk.made (w.alloc (.cells #[.slice KA 30 kc] 31)) 43 #[.int .i64 0, .slice none 0 0]
  simp only [World.size_alloc] at br
  have hBw : Below w.heap.size w ((w.alloc (.cells #[.slice KA 30 kc] 31)).alloc (.cells #[.int .i64 0, .slice none 0 0] 43)) := ((Below.refl _ w).alloc (Nat.le_refl _) _).alloc (by simp) _
  have hz : ((w.alloc (.cells #[.slice KA 30 kc] 31)).alloc (.cells #[.int .i64 0, .slice none 0 0] 43)).heap.size = w.heap.size + 2 := by simp
  generalize hW0 : ((w.alloc (.cells #[.slice KA 30 kc] 31)).alloc (.cells #[.int .i64 0, .slice none 0 0] 43)) = w0 at *
  have hbr := bright_ok w0
  have hmk : ∀ W : World, (Instr.makeSlice 31 (.int .i64 30) (.int .i64 30)).run Tryz.prog W = .ok (.slice (some ⟨W.heap.size, 0, none⟩) 30 30) (W.alloc (.cells (cells (zeros 30)) 3)) := fun W => make_ints 30 (by omega) W
  have HR := Lib.hid (And.intro hR (And.intro hri hz))
  have HK := Lib.hid hK
  clear hR hri hz hK
  go_enter Tryz.func10, Tryz.ntmps10
  go_wp2_with fail
  refine hbr.mono ?_
  rintro e w1 ⟨rfl, rfl⟩
  go_wp2_with fail
  go_loopw [6] (fun i wr => ∃ q : Nat, 1 ≤ q ∧ q ≤ 30 ∧ i = .int .i64 q ∧ Below w0.heap.size w0 wr) (fun i _ => 30 - (intOf i).toNat)
  case atStart => exact ⟨1, Nat.le_refl _, by omega, rfl, Below.refl _ _⟩
  case round =>
    obtain ⟨q, hq, hq2, rfl, hB⟩ := hrel
    have bk1 := bk.below hB bk.lt
    have br1 := br.below hB br.lt
    have c0 : wr.cell? ⟨w.heap.size, 0, none⟩ = some (.slice KA 30 kc) := by rw [bk1.cell]; rfl
    have hBr := hBw.trans (hB.mono hBw.size)
    by_cases hlt : q < 30
    · obtain ⟨g, off, rfl, hc⟩ := (HR.out.1.below hBr (Nat.le_refl _)) (by rw [HK.out]; omega)
      have hr := HR.out.2.1 (q - 1) q (by omega) (by rw [HK.out]; exact hlt)
      have c1 := hc q (by rw [HK.out]; exact hlt)
      have c2 := hc (q - 1) (by rw [HK.out]; omega)
      have j0 : (1 : Int) ≤ (q : Int) := by omega
      have j1 : (0 : Int) ≤ (q : Int) := by omega
      have j2 : (q : Int) < 30 := by omega
      have n1 : IntKind.i64.wrap ((q : Int) + 1) = (q : Int) + 1 := IntWalk.i64_in _ (by omega)
      have n2 : IntKind.i64.wrap ((q : Int) - 1) = ((q - 1 : Nat) : Int) := by rw [IntWalk.i64_in _ (by omega)]; omega
      have j3 : ((q - 1 : Nat) : Int) < 30 := by omega
      have j4 : (0 : Int) ≤ ((q - 1 : Nat) : Int) := by omega
      have t1 : decide (nth K q ≤ nth K (q - 1)) = false := by simp; omega
      clear hc hr
      generalize hq1 : q - 1 = q1 at *
      generalize nth K q = y at *
      generalize nth K q1 = z at *
      go_wp2_with fail
      go_quiet (fail)
      go_wp2_with fail
      exact ⟨⟨q + 1, by omega, by omega, by push_cast; rfl, below_drewN hB _⟩, by simp [intOf]; omega⟩
    · obtain rfl : q = 30 := by omega
      have b1 := ((Blk.made wr 3 (cells (zeros 30))).alloc (.cells #[.int .i64 2, .slice (some ⟨wr.heap.size, 0, none⟩) 30 30] 43)).alloc (.cells #[.int .i64 0] 3)
      have b2 := (Blk.made (wr.alloc (.cells (cells (zeros 30)) 3)) 43 #[.int .i64 2, .slice (some ⟨wr.heap.size, 0, none⟩) 30 30]).alloc (.cells #[.int .i64 0] 3)
      have b3 := Blk.made ((wr.alloc (.cells (cells (zeros 30)) 3)).alloc (.cells #[.int .i64 2, .slice (some ⟨wr.heap.size, 0, none⟩) 30 30] 43)) 3 #[.int .i64 0]
      simp only [World.size_alloc] at b2 b3
      have hB4 : Below wr.heap.size wr (((wr.alloc (.cells (cells (zeros 30)) 3)).alloc (.cells #[.int .i64 2, .slice (some ⟨wr.heap.size, 0, none⟩) 30 30] 43)).alloc (.cells #[.int .i64 0] 3)) := (((Below.refl _ wr).alloc (Nat.le_refl _) _).alloc (by simp) _).alloc (by simp; omega) _
      have hkb : ∀ a, KA = some a → a.block < w.heap.size := by
        rintro a rfl
        obtain ⟨b, off, e1, e2⟩ := HR.out.1 (by rw [HK.out]; omega)
        injection e1 with e1
        subst e1
        exact World.block_lt_of_cell? w ⟨b, off + 0, none⟩ (e2 0 (by rw [HK.out]; omega))
      have hsz := hBr.size
      have hos : OS K KA kc w.heap.size (wr.heap.size + 1 + 1) (wr.heap.size + 1) wr.heap.size (((wr.alloc (.cells (cells (zeros 30)) 3)).alloc (.cells #[.int .i64 2, .slice (some ⟨wr.heap.size, 0, none⟩) 30 30] 43)).alloc (.cells #[.int .i64 0] 3)) 0 (zeros 30) :=
        ⟨bk1.below hB4 bk1.lt, (HR.out.1.below hBr (Nat.le_refl _)).below hB4 (Nat.le_refl _), b3, b2, BI.of_blk b1, zeros_length 30, by omega, fun a ha => by have := hkb a ha; omega⟩
      have hord := order_ok hos HK.out
      have br4 := br1.below hB4 br1.lt
      have hrne : ∀ i, i = wr.heap.size ∨ i = wr.heap.size + 1 + 1 → i ≠ w.heap.size + 1 := fun i q => by have := br1.lt; omega
      have hbrlt := br1.lt
      clear bk1 b1 b2 b3 hos
      go_wp2_with fail
      refine hord.mono ?_
      rintro e w5 ⟨⟨v, rfl⟩, hO5, hon5⟩
      have c5 : w5.cell? ⟨wr.heap.size + 1, 0, none⟩ = some (.int .i64 2) := by rw [hO5.hl.cell]; rfl
      have c6 : w5.cell? ⟨wr.heap.size + 1, 1, none⟩ = some (.slice (some ⟨wr.heap.size, 0, none⟩) 30 30) := by rw [hO5.hl.cell]; rfl
      have br5 := br4.only hon5 (fun q => hrne _ q rfl)
      have y0 : w5.cell? ⟨w.heap.size + 1, 0, none⟩ = some (.int .i64 0) := by rw [br5.cell]; rfl
      have y1 : w5.cell? ⟨w.heap.size + 1, 1, none⟩ = some (.slice none 0 0) := by rw [br5.cell]; rfl
      have f0 := br5.frozen 0
      have f1 := br5.frozen 1
      have HO := Lib.hid (And.intro hO5 hon5)
      clear hO5 hon5 hord
      go_wp2_with fail
      obtain ⟨hO5, hon5⟩ := HO.out
      have br6 : Blk ((w5.setCell ⟨w.heap.size + 1, 0, none⟩ (.int .i64 2)).setCell ⟨w.heap.size + 1, 1, none⟩ (.slice (some ⟨wr.heap.size, 0, none⟩) 30 30)) (w.heap.size + 1) 43 #[.int .i64 2, .slice (some ⟨wr.heap.size, 0, none⟩) 30 30] := (br5.put 0 _).put 1 _
      refine bodyPost_ret (results_c_t rfl _ rfl br6 Tryz.underlying43 (by kernel_rfl)) rfl ?_
      have hv := (hO5.hv.far (p := ⟨w.heap.size + 1, 0, none⟩) (by simp; omega) (.int .i64 2)).far (p := ⟨w.heap.size + 1, 1, none⟩) (by simp; omega) (.slice (some ⟨wr.heap.size, 0, none⟩) 30 30)
      have hBf : Below w.heap.size w w5 := Only.below (hBr.trans (hB4.mono hBr.size)) hon5 (by have := hB4.size; omega) (fun i q => by omega)
      exact ⟨⟨_, rfl, hsz, hv⟩, (hBf.setCell (p := ⟨w.heap.size + 1, 0, none⟩) (by simp) _).setCell (p := ⟨w.heap.size + 1, 1, none⟩) (by simp) _⟩
end
end Go.Proofs.YtaonkbfekadalaaGreatDoor
/- The layout of the example: Rank. -/
namespace Go.Proofs.YtaonkbfekadalaaGreatDoor
open Go.RowKit
set_option linter.unusedVariables false

def Y30 : List Int := (ordV (dn 30) 3 0 (0, zeros 30)).2
theorem Y30_len : Y30.length = 30 := by decide +kernel
theorem Y30_at : ∀ k : Fin 3, nth Y30 k = [16, 23, 27].getD k 0 ∧ nth Y30 (3 + k) = [4, 8, 12].getD k 0 ∧ nth Y30 (21 + k) = [9, 10, 11].getD k 0 := by decide +kernel
/-- The three keys of a block. -/
theorem RI_three {w : World} {vb i : Nat} {ys zs : List Int} (h : BI w vb ys) (hz : zs.length = 3) (hi : i * 3 + 3 ≤ ys.length) (he : ∀ k, k < 3 → nth ys (i * 3 + k) = nth zs k) : RI w (some ⟨vb, 0 + i * 3, none⟩) zs := fun _ =>
  ⟨vb, 0 + i * 3, rfl, fun k hk => by rw [show 0 + i * 3 + k = i * 3 + k by omega, h.cell (by omega), he k (by omega)]⟩
theorem cut_0 : Cut [16, 23, 27] 12 0 := ⟨by decide, fun j hj => by omega, fun j h1 h2 => by
  simp at h2; rcases (by omega : j = 0 ∨ j = 1 ∨ j = 2) with rfl | rfl | rfl <;> decide⟩
theorem cut_1 : Cut [4, 8, 12] 12 2 := ⟨by decide, fun j hj => by rcases (by omega : j = 0 ∨ j = 1) with rfl | rfl <;> decide, fun j h1 h2 => by
  simp at h2; obtain rfl : j = 2 := by omega
  decide⟩
theorem cut_7 : Cut [9, 10, 11] 12 3 := ⟨by decide, fun j hj => by rcases (by omega : j = 0 ∨ j = 1 ∨ j = 2) with rfl | rfl | rfl <;> decide, fun j h1 h2 => by
  simp at h2; omega⟩
theorem rise3 {a b c : Int} (h1 : a < b) (h2 : b < c) : Rise [a, b, c] := fun i j hij hj => by
  simp at hj
  rcases (by omega : (i = 0 ∧ j = 1) ∨ (i = 0 ∧ j = 2) ∨ (i = 1 ∧ j = 2)) with ⟨rfl, rfl⟩ | ⟨rfl, rfl⟩ | ⟨rfl, rfl⟩ <;> simp [nth] <;> omega
/-- Where the descent stands: at which block, with how many before. -/
def RkS (i n : Nat) : Prop := (i = 0 ∧ n = 0) ∨ (i = 1 ∧ n = 0) ∨ (i = 7 ∧ n = 8) ∨ (i = 32 ∧ n = 11)
theorem rk_row {vb i n : Nat} (h : RkS i n) (hi : i < 10) : ∃ (at_ bl : Nat) (zs : List Int), Cut zs 12 at_ ∧ zs.length = 3 ∧ Rise zs ∧ (∀ k, k < 3 → nth Y30 (i * 3 + k) = nth zs k) ∧ at_ ≤ 3 ∧ (bl ≤ 6 ∧ n ≤ 8) ∧
    (∀ W : World, Calls Tryz.prog 34 #[.agg #[.int .i64 2, .slice (some ⟨vb, 0, none⟩) 30 30], .int .i64 ((i : Int) * 4 + 1), .int .i64 ((i : Int) * 4 + 1 + (at_ : Int))] W fun e w' => e = .returned (.int .i64 bl) ∧ Below W.heap.size W w') ∧ RkS (4 * i + 1 + at_) (n + at_ + bl) := by
  unfold RkS at h
  rcases (by omega : (i = 0 ∧ n = 0) ∨ (i = 1 ∧ n = 0) ∨ (i = 7 ∧ n = 8)) with ⟨rfl, rfl⟩ | ⟨rfl, rfl⟩ | ⟨rfl, rfl⟩
  · exact ⟨0, 0, [16, 23, 27], cut_0, rfl, rise3 (by decide) (by decide), fun k hk => by have := (Y30_at ⟨k, hk⟩).1; rw [Nat.zero_mul, Nat.zero_add]; exact this, by omega, by omega, fun W => below_stop (some ⟨vb, 0, none⟩) 30 (lo := 1) (hi := 1) (by omega) W, .inr (.inl ⟨rfl, rfl⟩)⟩
  · exact ⟨2, 6, [4, 8, 12], cut_1, rfl, rise3 (by decide) (by decide), fun k hk => (Y30_at ⟨k, hk⟩).2.1, by omega, by omega, fun W => below_once (some ⟨vb, 0, none⟩) 30 (lo := 5) (hi := 7) (by omega) (by omega) (by omega) (by omega) W, .inr (.inr (.inl ⟨rfl, rfl⟩))⟩
  · exact ⟨3, 0, [9, 10, 11], cut_7, rfl, rise3 (by decide) (by decide), fun k hk => (Y30_at ⟨k, hk⟩).2.2, by omega, by omega, fun W => below_stop (some ⟨vb, 0, none⟩) 30 (lo := 29) (hi := 32) (by omega) W, .inr (.inr (.inr ⟨rfl, rfl⟩))⟩
set_option maxRecDepth 100000 in
set_option maxHeartbeats 8000000 in
theorem Rank_ok {w : World} {vb : Nat} (hv : BI w vb Y30) : Calls Tryz.prog 12 #[.agg #[.int .i64 2, .slice (some ⟨vb, 0, none⟩) 30 30], .int .i64 12] w fun e w' => (∃ st : Int, e = .returned (.tuple #[.int .i64 11, .int .i64 st, .int .i64 0])) ∧ Below w.heap.size w w' := by
  have b0 := Blk.made w 43 #[.int .i64 2, .slice (some ⟨vb, 0, none⟩) 30 30]
  have hBw : Below w.heap.size w (w.alloc (.cells #[.int .i64 2, .slice (some ⟨vb, 0, none⟩) 30 30] 43)) := (Below.refl _ w).alloc (Nat.le_refl _) _
  have hv0 := hv.below hBw hv.lt
  generalize hW0 : w.alloc (.cells #[.int .i64 2, .slice (some ⟨vb, 0, none⟩) 30 30] 43) = w0 at *
  have x0 : w0.cell? ⟨w.heap.size, 0, none⟩ = some (.int .i64 2) := by rw [b0.cell]; rfl
  have hbr := bright_ok w0
  have H0 := Lib.hid (And.intro b0 (And.intro hv0 hBw))
  clear hv0
  go_enter Tryz.func12, Tryz.ntmps12
  go_wp2_with fail
  obtain ⟨J, hJ⟩ : ∃ J : Act → World → Prop, J = fun a' w' => ∃ (i n st : Nat), (∃ u10 u11 u12 u13 u14 u15 u16 u17 u18 u19 u20 u21 u22 u23 u24 u25 u26 u27 u28 u29 u30 u31 u32 u33 u34 u35 u36 u37 u38 u39 u40 u41 u42 u43 u44 u45 u46 u47 u48 u49 : Value, a' = { tmps := #[.agg #[.int .i64 2, .slice (some ⟨vb, 0, none⟩) 30 30], .int .i64 12, .pointer (some ⟨w.heap.size, 0, none⟩), undef, .int .i64 0, .int .i64 0, .int .i64 0, .int .i64 n, .int .i64 st, .int .i64 i, u10, u11, u12, u13, u14, u15, u16, u17, u18, u19, u20, u21, u22, u23, u24, u25, u26, u27, u28, u29, u30, u31, u32, u33, u34, u35, u36, u37, u38, u39, u40, u41, u42, u43, u44, u45, u46, u47, u48, u49], defers := [] }) ∧ RkS i n ∧ st ≤ 3 * i ∧ Blk w' w.heap.size 43 #[.int .i64 2, .slice (some ⟨vb, 0, none⟩) 30 30] ∧ BI w' vb Y30 ∧ Below w.heap.size w w' := ⟨_, rfl⟩
  have HJ := Lib.hid hJ
  clear hJ
  refine wp_scope_jumps 0 J (fun a' _ => 100 - (intOf (a'.tmps.getD 9 undef)).toNat) rfl ?_ ?_
  · go_wp2_with fail
    refine hbr.mono ?_
    rintro e w1 ⟨rfl, rfl⟩
    go_wp2_with fail
    go_step3
    rename_i hK
    apply hK
    refine jump_in (J := J) (by rw [HJ.out]; exact ⟨0, 0, 0, ⟨_, _, _, _, _, _, _, _, _, _, _, _, _, _, _, _, _, _, _, _, _, _, _, _, _, _, _, _, _, _, _, _, _, _, _, _, _, _, _, _, rfl⟩, .inl ⟨rfl, rfl⟩, by omega, H0.out⟩) ?_
    rintro a' w' hJ'
    rw [HJ.out] at hJ'
    obtain ⟨i, n, st, ⟨u10, u11, u12, u13, u14, u15, u16, u17, u18, u19, u20, u21, u22, u23, u24, u25, u26, u27, u28, u29, u30, u31, u32, u33, u34, u35, u36, u37, u38, u39, u40, u41, u42, u43, u44, u45, u46, u47, u48, u49, rfl⟩, hrk, hst, hb, hv, hB⟩ := hJ'
    have c0 : w'.cell? ⟨w.heap.size, 0, none⟩ = some (.int .i64 2) := by rw [hb.cell]; rfl
    have c1 : w'.cell? ⟨w.heap.size, 1, none⟩ = some (.slice (some ⟨vb, 0, none⟩) 30 30) := by rw [hb.cell]; rfl
    have hbk := blocks_ok (some ⟨vb, 0, none⟩) 30 w'
    by_cases hi : i < 10
    · obtain ⟨at_, bl, zs, r1, r2, r3, r4, r5, r6, r7, r8⟩ := rk_row (vb := vb) hrk hi
      have k1 : (i : Int) < 10 := by omega
      have e1 : IntKind.i64.wrap ((i : Int) * 4 + 1 + (at_ : Int)) = (i : Int) * 4 + 1 + (at_ : Int) := IntWalk.i64_in _ (by omega)
      have e2 : IntKind.i64.wrap ((at_ : Int) + (bl : Int)) = (at_ : Int) + (bl : Int) := IntWalk.i64_in _ (by omega)
      have e3 : IntKind.i64.wrap ((n : Int) + ((at_ : Int) + (bl : Int))) = (n : Int) + ((at_ : Int) + (bl : Int)) := IntWalk.i64_in _ (by omega)
      have HB := Lib.hid (And.intro hb (And.intro hv hB))
      have HH := Lib.hid (And.intro hrk hst)
      have HR := Lib.hid (And.intro r1 (And.intro r2 (And.intro r3 (And.intro r4 (And.intro r5 (And.intro r6 (And.intro r7 r8)))))))
      clear hb hv hB hrk hst r1 r2 r3 r4 r5 r6 r7 r8
      go_wp2_with fail
      refine hbk.mono ?_
      rintro e w1 ⟨rfl, hB1⟩
      have d0 := cell_below hB1 (Nat.le_refl _) c0
      have d1 := cell_below hB1 (Nat.le_refl _) c1
      have hbl := block_ok vb 0 30 (i := i) hi (by omega) (by omega) w1
      go_wp2_with fail
      refine hbl.mono ?_
      rintro e w2 ⟨rfl, hB2⟩
      have hBw2 : Below w'.heap.size w' w2 := hB1.trans (hB2.mono hB1.size)
      have f0 := cell_below hB2 (Nat.le_refl _) d0
      have f1 := cell_below hB2 (Nat.le_refl _) d1
      have hls := bless_ok (w := w2) (c := 3) HR.out.2.1 (RI_three (HB.out.2.1.below hBw2 HB.out.2.1.lt) HR.out.2.1 (by rw [Y30_len]; omega) HR.out.2.2.2.1) HR.out.2.2.1 (by omega) HR.out.1
      rw [Nat.zero_add] at hls
      go_wp2_with fail
      refine hls.mono ?_
      rintro e w3 ⟨⟨s2, hs2, rfl⟩, rfl⟩
      have hch := child_ok (some ⟨vb, 0, none⟩) 30 (i := i) (by omega) w2
      have e4 : IntKind.i64.wrap ((st : Int) + (s2 : Int)) = (st : Int) + (s2 : Int) := IntWalk.i64_in _ (by have := HH.out.2; omega)
      go_wp2_with fail
      refine hch.mono ?_
      rintro e w4 ⟨rfl, hB4⟩
      have g0 := cell_below hB4 (Nat.le_refl _) f0
      have g1 := cell_below hB4 (Nat.le_refl _) f1
      have hbe := HR.out.2.2.2.2.2.2.1 w4
      go_wp2_with fail
      refine hbe.mono ?_
      rintro e w5 ⟨rfl, hB5⟩
      go_wp2_with fail
      go_step3
      have hBf : Below w'.heap.size w' w5 := (hBw2.trans (hB4.mono hBw2.size)).trans (hB5.mono (by have := hBw2.size; have := hB4.size; omega))
      obtain ⟨hb, hv, hB⟩ := HB.out
      obtain ⟨r1, r2, r3, r4, r5, r6, r7, r8⟩ := HR.out
      obtain ⟨hrk, hst⟩ := HH.out
      have q : ∃ (i' n' st' : Nat), (i' : Int) = (i : Int) * 4 + 1 + (at_ : Int) ∧ (n' : Int) = (n : Int) + ((at_ : Int) + (bl : Int)) ∧ (st' : Int) = (st : Int) + (s2 : Int) ∧ RkS i' n' ∧ st' ≤ 3 * i' ∧ i < i' := ⟨4 * i + 1 + at_, n + at_ + bl, st + s2, by push_cast; omega, by push_cast; omega, by push_cast; rfl, r8, by omega, by omega⟩
      obtain ⟨i', n', st', q1, q2, q3, q4, q5, q6⟩ := q
      rw [← q1, ← q2, ← q3]
      refine ⟨rfl, ?_⟩; rw [HJ.out]; exact ⟨i', n', st', ⟨_, _, _, _, _, _, _, _, _, _, _, _, _, _, _, _, _, _, _, _, _, _, _, _, _, _, _, _, _, _, _, _, _, _, _, _, _, _, _, _, rfl⟩, q4, q5, hb.below hBf hb.lt, hv.below hBf hv.lt, hB.trans (hBf.mono hB.size)⟩
    · have hi32 : i = 32 ∧ n = 11 := by unfold RkS at hrk; omega
      obtain ⟨rfl, rfl⟩ := hi32
      have k1 : ¬ (((32 : Nat) : Int) < 10) := by omega
      clear hrk hi
      go_wp2_with fail
      refine hbk.mono ?_
      rintro e w1 ⟨rfl, hB1⟩
      go_wp2_with fail
      simp only [Exit.jump]
      refine bodyPost_ret (results_tmp3 rfl _ _ _) rfl ?_
      exact ⟨⟨_, rfl⟩, hB.trans (hB1.mono hB.size)⟩
  · rintro a' w' hJ'
    rw [HJ.out] at hJ'
    obtain ⟨i, n, st, ⟨u10, u11, u12, u13, u14, u15, u16, u17, u18, u19, u20, u21, u22, u23, u24, u25, u26, u27, u28, u29, u30, u31, u32, u33, u34, u35, u36, u37, u38, u39, u40, u41, u42, u43, u44, u45, u46, u47, u48, u49, rfl⟩, hrk, hst, hb, hv, hB⟩ := hJ'
    have c0 : w'.cell? ⟨w.heap.size, 0, none⟩ = some (.int .i64 2) := by rw [hb.cell]; rfl
    have c1 : w'.cell? ⟨w.heap.size, 1, none⟩ = some (.slice (some ⟨vb, 0, none⟩) 30 30) := by rw [hb.cell]; rfl
    have hbk := blocks_ok (some ⟨vb, 0, none⟩) 30 w'
    by_cases hi : i < 10
    · obtain ⟨at_, bl, zs, r1, r2, r3, r4, r5, r6, r7, r8⟩ := rk_row (vb := vb) hrk hi
      have k1 : (i : Int) < 10 := by omega
      have e1 : IntKind.i64.wrap ((i : Int) * 4 + 1 + (at_ : Int)) = (i : Int) * 4 + 1 + (at_ : Int) := IntWalk.i64_in _ (by omega)
      have e2 : IntKind.i64.wrap ((at_ : Int) + (bl : Int)) = (at_ : Int) + (bl : Int) := IntWalk.i64_in _ (by omega)
      have e3 : IntKind.i64.wrap ((n : Int) + ((at_ : Int) + (bl : Int))) = (n : Int) + ((at_ : Int) + (bl : Int)) := IntWalk.i64_in _ (by omega)
      have HB := Lib.hid (And.intro hb (And.intro hv hB))
      have HH := Lib.hid (And.intro hrk hst)
      have HR := Lib.hid (And.intro r1 (And.intro r2 (And.intro r3 (And.intro r4 (And.intro r5 (And.intro r6 (And.intro r7 r8)))))))
      clear hb hv hB hrk hst r1 r2 r3 r4 r5 r6 r7 r8
      go_wp2_with fail
      refine hbk.mono ?_
      rintro e w1 ⟨rfl, hB1⟩
      have d0 := cell_below hB1 (Nat.le_refl _) c0
      have d1 := cell_below hB1 (Nat.le_refl _) c1
      have hbl := block_ok vb 0 30 (i := i) hi (by omega) (by omega) w1
      go_wp2_with fail
      refine hbl.mono ?_
      rintro e w2 ⟨rfl, hB2⟩
      have hBw2 : Below w'.heap.size w' w2 := hB1.trans (hB2.mono hB1.size)
      have f0 := cell_below hB2 (Nat.le_refl _) d0
      have f1 := cell_below hB2 (Nat.le_refl _) d1
      have hls := bless_ok (w := w2) (c := 3) HR.out.2.1 (RI_three (HB.out.2.1.below hBw2 HB.out.2.1.lt) HR.out.2.1 (by rw [Y30_len]; omega) HR.out.2.2.2.1) HR.out.2.2.1 (by omega) HR.out.1
      rw [Nat.zero_add] at hls
      go_wp2_with fail
      refine hls.mono ?_
      rintro e w3 ⟨⟨s2, hs2, rfl⟩, rfl⟩
      have hch := child_ok (some ⟨vb, 0, none⟩) 30 (i := i) (by omega) w2
      have e4 : IntKind.i64.wrap ((st : Int) + (s2 : Int)) = (st : Int) + (s2 : Int) := IntWalk.i64_in _ (by have := HH.out.2; omega)
      go_wp2_with fail
      refine hch.mono ?_
      rintro e w4 ⟨rfl, hB4⟩
      have g0 := cell_below hB4 (Nat.le_refl _) f0
      have g1 := cell_below hB4 (Nat.le_refl _) f1
      have hbe := HR.out.2.2.2.2.2.2.1 w4
      go_wp2_with fail
      refine hbe.mono ?_
      rintro e w5 ⟨rfl, hB5⟩
      go_wp2_with fail
      go_step3
      have hBf : Below w'.heap.size w' w5 := (hBw2.trans (hB4.mono hBw2.size)).trans (hB5.mono (by have := hBw2.size; have := hB4.size; omega))
      obtain ⟨hb, hv, hB⟩ := HB.out
      obtain ⟨r1, r2, r3, r4, r5, r6, r7, r8⟩ := HR.out
      obtain ⟨hrk, hst⟩ := HH.out
      have q : ∃ (i' n' st' : Nat), (i' : Int) = (i : Int) * 4 + 1 + (at_ : Int) ∧ (n' : Int) = (n : Int) + ((at_ : Int) + (bl : Int)) ∧ (st' : Int) = (st : Int) + (s2 : Int) ∧ RkS i' n' ∧ st' ≤ 3 * i' ∧ i < i' := ⟨4 * i + 1 + at_, n + at_ + bl, st + s2, by push_cast; omega, by push_cast; omega, by push_cast; rfl, r8, by omega, by omega⟩
      obtain ⟨i', n', st', q1, q2, q3, q4, q5, q6⟩ := q
      rw [← q1, ← q2, ← q3]
      refine ⟨rfl, ?_, ?_⟩; (rw [HJ.out]; exact ⟨i', n', st', ⟨_, _, _, _, _, _, _, _, _, _, _, _, _, _, _, _, _, _, _, _, _, _, _, _, _, _, _, _, _, _, _, _, _, _, _, _, _, _, _, _, rfl⟩, q4, q5, hb.below hBf hb.lt, hv.below hBf hv.lt, hB.trans (hBf.mono hB.size)⟩); (have hi' : i < 10 := hi; simp [intOf]; omega)
    · have hi32 : i = 32 ∧ n = 11 := by unfold RkS at hrk; omega
      obtain ⟨rfl, rfl⟩ := hi32
      have k1 : ¬ (((32 : Nat) : Int) < 10) := by omega
      clear hrk hi
      go_wp2_with fail
      refine hbk.mono ?_
      rintro e w1 ⟨rfl, hB1⟩
      go_wp2_with fail
      simp only [Exit.jump]
      refine bodyPost_ret (results_tmp3 rfl _ _ _) rfl ?_
      exact ⟨⟨_, rfl⟩, hB.trans (hB1.mono hB.size)⟩
end Go.Proofs.YtaonkbfekadalaaGreatDoor
