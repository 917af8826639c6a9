/- Joined texts: Mc, Ra, Md, Me. -/
import Derived.Test.YtaonkbfekadalaaGreatDoorM25
import Derived.Test.YtaonkbfekadalaaGreatDoorM32
import Derived.Test.YtaonkbfekadalaaGreatDoorM33
/- A machine in memory: a set, and a list. -/
namespace Go.Proofs.YtaonkbfekadalaaGreatDoor
open Go.RowKit
set_option linter.unusedVariables false

/-- A machine lies there, its blocks all meet Z: its set has the keys K, its list the handles L, and the table holds t. -/
def MacM (Z : Nat → Prop) (w : World) (m : Nat) (K L t : List Int) : Prop :=
  ∃ (s : Nat) (P : PB) (h : Nat) (r : List Bool) (xs : List Int) (b : TB) (Q : PB) (h2 : Nat) (r2 : List Bool) (xs2 : List Int),
    Blk w m 58 #[.pointer (some ⟨s, 0, none⟩), .pointer (some ⟨b.lb, 0, none⟩)] ∧ SetM w s P h r xs K ∧ LisM w b Q h2 r2 xs2 t L ∧
    (∀ i, setB' s P i → ¬ lisB b Q i) ∧ (∀ i, setB' s P i ∨ lisB b Q i → i ≠ m) ∧ (∀ i, setB' s P i ∨ lisB b Q i ∨ i = m → Z i)
section
variable {w w' : World} {Z : Nat → Prop} {m : Nat} {K L t : List Int}
theorem setB'.lt {s : Nat} {P : PB} {h : Nat} {r : List Bool} {xs : List Int} (hm : SetM w s P h r xs K) {i : Nat} (hi : setB' s P i) : i < w.heap.size := by
  rcases hi with rfl | hi
  · exact hm.st.lt
  · exact hm.rp.pm.lt hi
theorem MacM.only {X : Nat → Prop} (h : MacM Z w m K L t) (ho : Only X w w') (hX : ∀ i, Z i → ¬ X i) (h2 : ∀ i, X i → i ≠ 2) : MacM Z w' m K L t := by
  obtain ⟨s, P, h1, r, xs, b, Q, h2', r2, xs2, e1, e2, e3, e4, e5, e6⟩ := h
  exact ⟨s, P, h1, r, xs, b, Q, h2', r2, xs2, e1.only ho (hX _ (e6 _ (.inr (.inr rfl)))), e2.only ho (hX _ (e6 _ (.inl (.inl rfl)))) (fun i hi => hX _ (e6 _ (.inl (.inr hi)))) h2,
    e3.only ho (fun i hi => hX _ (e6 _ (.inr (.inl hi)))) h2, e4, e5, e6⟩
theorem MacM.mono {Y : Nat → Prop} (h : MacM Z w m K L t) (hY : ∀ i, i < w.heap.size → Z i → Y i) : MacM Y w m K L t := by
  obtain ⟨s, P, h1, r, xs, b, Q, h2', r2, xs2, e1, e2, e3, e4, e5, e6⟩ := h
  refine ⟨s, P, h1, r, xs, b, Q, h2', r2, xs2, e1, e2, e3, e4, e5, fun i hi => hY i ?_ (e6 i hi)⟩
  rcases hi with q | q | rfl
  · exact setB'.lt e2 q
  · exact e3.lt q
  · exact e1.lt
theorem MacM.below (h : MacM Z w m K L t) (hb : Below w.heap.size w w') : MacM Z w' m K L t := h.only (Only.of_below (X := fun _ => False) hb) (fun _ _ => id) (fun _ q => q.elim)
theorem MacM.tab (h : MacM Z w m K L t) : Tab w := by
  obtain ⟨s, P, h1, r, xs, b, Q, h2', r2, xs2, e1, e2, e3, e4, e5, e6⟩ := h
  exact e2.rp.hT
theorem boxed (c : ByteArray) (A B : Int) (w : World) : ∃ W0, (w.alloc (.cells #[.string c, .int .i64 A, .int .i64 B] 24)).alloc (.cells an0.cs 33) = W0 ∧ Blk W0 w.heap.size 24 #[.string c, .int .i64 A, .int .i64 B] ∧
    Blk W0 (w.heap.size + 1) 33 an0.cs ∧ Below w.heap.size w W0 ∧ W0.heap.size = w.heap.size + 2 := by
  refine ⟨_, rfl, (Blk.made w 24 _).alloc _, ?_, ((Below.refl _ w).alloc (Nat.le_refl _) _).alloc (by simp) _, by simp⟩
  have := Blk.made (w.alloc (.cells #[.string c, .int .i64 A, .int .i64 B] 24)) 33 an0.cs
  simpa using this
theorem Only.put8 {X : Nat → Prop} {g : Nat} (ho : Only X w w') (hX : X g ∨ w.heap.size ≤ g) (a b c d e f h i : Value) : Only X w ((((((((w'.setCell ⟨g, 0, none⟩ a).setCell ⟨g, 1, none⟩ b).setCell ⟨g, 2, none⟩ c).setCell ⟨g, 3, none⟩ d).setCell ⟨g, 4, none⟩ e).setCell ⟨g, 5, none⟩ f).setCell ⟨g, 6, none⟩ h).setCell ⟨g, 7, none⟩ i) :=
  (((((((ho.put (p := ⟨g, 0, none⟩) hX a).put (p := ⟨g, 1, none⟩) hX b).put (p := ⟨g, 2, none⟩) hX c).put (p := ⟨g, 3, none⟩) hX d).put (p := ⟨g, 4, none⟩) hX e).put (p := ⟨g, 5, none⟩) hX f).put (p := ⟨g, 6, none⟩) hX h).put (p := ⟨g, 7, none⟩) hX i
theorem Blk.put8 {g : Nat} {ty : TypeId} {a0 b0 c0 d0 e0 f0 h0 i0 : Value} (q : Blk w g ty #[a0, b0, c0, d0, e0, f0, h0, i0]) (a b c d e f h i : Value) : Blk ((((((((w.setCell ⟨g, 0, none⟩ a).setCell ⟨g, 1, none⟩ b).setCell ⟨g, 2, none⟩ c).setCell ⟨g, 3, none⟩ d).setCell ⟨g, 4, none⟩ e).setCell ⟨g, 5, none⟩ f).setCell ⟨g, 6, none⟩ h).setCell ⟨g, 7, none⟩ i) g ty #[a, b, c, d, e, f, h, i] := by
  have := (((((((q.put 0 a).put 1 b).put 2 c).put 3 d).put 4 e).put 5 f).put 6 h).put 7 i
  simpa using this
end
end Go.Proofs.YtaonkbfekadalaaGreatDoor
/- What Of, Rank and Select of an index come to. -/
namespace Go.Proofs.YtaonkbfekadalaaGreatDoor
open Go.RowKit
set_option linter.unusedVariables false

/-- An index lies there. -/
structure IxM (w : World) (x tt tg tc : Nat) (b : SB) (h : Nat) (r : List Bool) (xs : List Int) : Prop where
  hx : Blk w x 182 #[.pointer (some ⟨b.s, 0, none⟩), .pointer (some ⟨tt, 0, none⟩)]
  sm : SM w b (capN h) r xs
  tm : ∃ u, TM w tt tg tc (2 ^ h) (csV r 0 (2 ^ h)) u
  hh : 2 ≤ h ∧ h ≤ 9
theorem IxM.c0 {w : World} {x tt tg tc : Nat} {b : SB} {h : Nat} {r : List Bool} {xs : List Int} (m : IxM w x tt tg tc b h r xs) : w.cell? ⟨x, 0, none⟩ = some (.pointer (some ⟨b.s, 0, none⟩)) := by rw [m.hx.cell]; rfl
theorem IxM.c1 {w : World} {x tt tg tc : Nat} {b : SB} {h : Nat} {r : List Bool} {xs : List Int} (m : IxM w x tt tg tc b h r xs) : w.cell? ⟨x, 1, none⟩ = some (.pointer (some ⟨tt, 0, none⟩)) := by rw [m.hx.cell]; rfl
section
variable {w w' : World} {P : PB} {h : Nat} {r : List Bool} {xs L : List Int} {key : Int} {s : Nat}
theorem IxM.below {x tt tg tc : Nat} {b : SB} (m : IxM w x tt tg tc b h r xs) (hb : Below w.heap.size w w') : IxM w' x tt tg tc b h r xs :=
  ⟨m.hx.below hb m.hx.lt, m.sm.below hb, m.tm.imp fun u hu => hu.below' hb, m.hh⟩
set_option maxRecDepth 100000 in
set_option maxHeartbeats 2000000 in
theorem ROf_ok (hm : SetM w s P h r xs L) : Calls Tryz.prog 103 #[.pointer (some ⟨s, 0, none⟩)] w fun e w' => ∃ (x tt tg tc : Nat) (b : SB), e = .returned (.pointer (some ⟨x, 0, none⟩)) ∧ IxM w' x tt tg tc b h r xs ∧ Tab w' ∧ Below w.heap.size w w' := by
  have hrow := SRow_ok hm
  have hhh := hm.rp.pm.hh
  have hT := hm.rp.hT
  obtain ⟨a1, a2⟩ := capN_bd hhh.1 hhh.2
  have b2 : 2 ^ h ≤ 512 := pow_le hhh.2
  have hcap : capN h = 8 * 2 ^ h := rfl
  have hsg := fun W => Segs_ok hhh.1 hhh.2 W
  have hmk := make_ints (2 ^ h) (by omega)
  have hrt := csV_rt r (h := h) hhh.2
  have hcl := csV_len r 0 (2 ^ h)
  have hcell := fun k (hk : k < 2 ^ h) => nth_csV (r := r) (first := 0) hk
  have HHH := Lib.hid hhh
  clear hm
  go_enter Tryz.func103, Tryz.ntmps103
  go_wp2_with fail
  refine hrow.mono ?_
  rintro e w1 ⟨P', rfl, q1, q2, hB1⟩
  have hsl := PSlots_ok q1
  go_wp2_with fail
  refine hsl.mono ?_
  rintro e w2 ⟨b, rfl, hs2, hf2, hB2⟩
  have x0 := Blk.made w2 182 #[.pointer (some ⟨b.s, 0, none⟩), .pointer none]
  have hBa : Below w2.heap.size w2 (w2.alloc (.cells #[.pointer (some ⟨b.s, 0, none⟩), .pointer none] 182)) := (Below.refl _ w2).alloc (Nat.le_refl _) _
  have hs3 := hs2.below hBa
  have hBw2 := hB1.trans (hB2.mono hB1.size)
  have hBw : Below w.heap.size w (w2.alloc (.cells #[.pointer (some ⟨b.s, 0, none⟩), .pointer none] 182)) := hBw2.trans (hBa.mono hBw2.size)
  have hz2 := hBw2.size
  have hz3 : (w2.alloc (.cells #[.pointer (some ⟨b.s, 0, none⟩), .pointer none] 182)).heap.size = w2.heap.size + 1 := by simp
  clear hsl hrow q1 q2 hs2
  generalize hW3 : w2.alloc (.cells #[.pointer (some ⟨b.s, 0, none⟩), .pointer none] 182) = w3 at *
  have c0 : w3.cell? ⟨w2.heap.size, 0, none⟩ = some (.pointer (some ⟨b.s, 0, none⟩)) := by rw [x0.cell]; rfl
  have hcp := SCap_ok hs3
  have HS := Lib.hid hs3
  have HZ3 := Lib.hid hz3
  clear hz3
  have HR := Lib.hid hrt
  have HC := Lib.hid hcl
  have HCELL := Lib.hid hcell
  have HCAP := Lib.hid hcap
  have hci : (1 : Int) ≤ ((2 ^ h : Nat) : Int) := by have := Nat.one_le_two_pow (n := h); omega
  have hci2 : ((2 ^ h : Nat) : Int) ≤ 512 := by omega
  clear hs3 hrt hcl hcell hcap
  obtain ⟨d, hd⟩ : ∃ d, d = 2 ^ h := ⟨_, rfl⟩
  rw [← hd] at hsg hmk b2 HR HC HCELL HCAP hci hci2
  have HD := Lib.hid hd
  clear hd
  go_wp2_with fail
  refine hcp.mono ?_
  rintro e w4 ⟨rfl, rfl⟩
  go_wp2_with fail
  refine (hsg _).mono ?_
  rintro e w4 ⟨rfl, rfl⟩
  have k0 := BI.of_blk (Blk.made w3 3 (cells (zeros d)))
  have x1 := x0.alloc (.cells (cells (zeros d)) 3)
  have hBk : Below w3.heap.size w3 (w3.alloc (.cells (cells (zeros d)) 3)) := (Below.refl _ _).alloc (Nat.le_refl _) _
  have HB := Lib.hid k0
  clear k0
  go_wp2_with fail
  go_loopw [27] (fun i wr => ∃ (k : Nat) (ys : List Int), k ≤ d ∧ i = .int .i64 k ∧ ys.length = d ∧ BI wr w3.heap.size ys ∧ (∀ j, j < k → nth ys j = nth (csV r 0 d) j) ∧ Below w3.heap.size w3 wr) (fun i _ => d - (intOf i).toNat)
  case atStart => exact ⟨0, zeros d, Nat.zero_le _, rfl, zeros_length d, HB.out, fun j hj => by omega, hBk⟩
  case round =>
    obtain ⟨k, ys, hk, rfl, hl, hb, hy, hbel⟩ := hrel
    have x2 := x0.below hbel x0.lt
    have c2 : wr.cell? ⟨w2.heap.size, 0, none⟩ = some (.pointer (some ⟨b.s, 0, none⟩)) := by rw [x2.cell]; rfl
    by_cases hlt : k < d
    · have i1 : (0 : Int) ≤ (k : Int) := by omega
      have i2 : (k : Int) < (d : Int) := by omega
      have hc := hb.cell (k := k) (by omega)
      have hf := hb.frozen k
      have n1 : IntKind.i64.wrap ((k : Int) * 8) = (k : Int) * 8 := IntWalk.i64_in _ (by omega)
      have n2 : IntKind.i64.wrap ((k : Int) + 1) = (k : Int) + 1 := IntWalk.i64_in _ (by omega)
      have n3 : IntKind.i64.wrap (((k : Int) + 1) * 8) = ((k : Int) + 1) * 8 := IntWalk.i64_in _ (by omega)
      have hct := SCount_ok (HS.out.below hbel) (k * 8) ((k + 1) * 8) (by omega) (by have := HCAP.out; omega)
      have e1 : cnt r ((k + 1) * 8) - cnt r (k * 8) = segC r k := by unfold segC; rw [show (k + 1) * 8 = 8 * k + 8 by omega, show k * 8 = 8 * k by omega]
      rw [e1] at hct
      have hv := HCELL.out k hlt
      rw [Nat.zero_add] at hv
      push_cast at hct
      have HV := Lib.hid hv
      clear e1 hv
      generalize segC r k = c at *
      generalize nth ys k = y at *
      go_wp2_with fail
      refine hct.mono ?_
      rintro e w4 ⟨rfl, rfl⟩
      go_wp2_with fail
      go_round
      case rel =>
        refine ⟨k + 1, ys.set k (c : Int), by omega, by go_num, by rw [List.length_set, hl], hb.put k c, fun j hj => ?_, hbel.setCell (p := ⟨w3.heap.size, k, none⟩) (Nat.le_refl _) _⟩
        rw [nth_set (by omega)]
        by_cases e : j = k
        · rw [if_pos e, e, HV.out]
        · rw [if_neg e]; exact hy j (by omega)
      case measure => simp [intOf]; omega
    · obtain rfl : k = d := by omega
      have e : ys = csV r 0 k := nth_ext (by rw [hl, csV_len]) fun j hj => hy j (by omega)
      subst e
      have hnew := New_ok (c := k) HC.out (RI_of_BI hb) HR.out
      have HS3 := Lib.hid (HS.out.below hbel)
      have f2 := x2.frozen 1
      have c3 : wr.cell? ⟨w2.heap.size, 1, none⟩ = some (.pointer none) := by rw [x2.cell]; rfl
      have HL := Lib.hid hl
      have HBI := Lib.hid hb
      clear hl hy hb
      go_wp2_with fail
      refine hnew.mono ?_
      rintro e w5 ⟨rfl, ⟨t, hTM⟩, hB5⟩
      have x5 := x2.below hB5 x2.lt
      have f5 := x5.frozen 1
      have c5 : w5.cell? ⟨w2.heap.size, 1, none⟩ = some (.pointer none) := by rw [x5.cell]; rfl
      have c6 : w5.cell? ⟨w2.heap.size, 0, none⟩ = some (.pointer (some ⟨b.s, 0, none⟩)) := by rw [x5.cell]; rfl
      have x6 := x5.put 1 (.pointer (some ⟨wr.heap.size + 1, 0, none⟩))
      have HTM := Lib.hid hTM
      clear hTM
      go_wp2_with fail
      go_ret
      have hszr := hbel.size
      have hz3 := HZ3.out
      have hO : Only (fun i => i = w2.heap.size) w5 (w5.setCell ⟨w2.heap.size, 1, none⟩ (.pointer (some ⟨wr.heap.size + 1, 0, none⟩))) := (Only.refl (fun i => i = w2.heap.size) w5).put (p := ⟨w2.heap.size, 1, none⟩) (.inl rfl) _
      have hB5' : Below w.heap.size w w5 := (hBw.trans (hbel.mono (by omega))).trans (hB5.mono (by omega))
      have HE := HD.out
      subst HE
      have hS5 := HS3.out.below hB5
      refine ⟨w2.heap.size, wr.heap.size + 1, wr.heap.size, 2 * 2 ^ h, b, rfl, ⟨by simpa using x6, hS5.only hO ?_, ⟨t, HTM.out.only hO (by omega) (by omega)⟩, HHH.out⟩, ?_, ?_⟩
      · rintro i (q | q | q | q) e
        · exact hS5.hs.ne_ x5 (by decide) (q ▸ e)
        · exact hS5.hx.ne_ x5 (by decide) (q ▸ e)
        · exact hS5.hb.hp.ne_ x5 (by decide) (q ▸ e)
        · obtain ⟨cs, hh, _⟩ := hS5.hb.hg
          exact hh.ne_ x5 (by decide) (q ▸ e)
      · exact (hT.below hB5').only hO (fun i e => by rw [e]; have := hT.pos; omega)
      · exact Only.below hB5' hO (by have := hB5'.size; omega) (fun i e => by rw [e]; omega)
set_option maxRecDepth 100000 in
theorem IRank_any {x tt tg tc : Nat} {b : SB} (m : IxM w x tt tg tc b h r xs) (hT : Tab w) (hS : Sorted r xs) (key : Int) :
    Calls Tryz.prog 104 #[.pointer (some ⟨x, 0, none⟩), .int .i64 key] w fun e w' => (∃ n, e = .returned (.int .i64 n)) ∧ Below w.heap.size w w' := by
  have c0 := m.c0
  have hlo := Lower_ok m.sm hT hS key
  have HM := Lib.hid m
  clear m hS
  go_enter Tryz.func104, Tryz.ntmps104
  go_wp2_with fail
  refine hlo.mono ?_
  rintro e w1 ⟨⟨a, c, rfl, ha⟩, hB⟩
  have m1 := HM.out.below hB
  have c0 := m1.c0
  have c1 := m1.c1
  obtain ⟨u, hu⟩ := m1.tm
  have hrt := csV_rt r (h := h) m1.hh.2
  have hcap := m1.sm.lr
  obtain ⟨q1, q2⟩ := capN_bd m1.hh.1 m1.hh.2
  have h8 : capN h = 8 * 2 ^ h := rfl
  have hsm := m1.sm
  rcases ha with ⟨j, rfl, ho, _⟩ | ⟨rfl, _⟩
  · have hj : j < capN h := by have := on_lt ho; omega
    have hseg := fun W => Seg_ok (s := j) (by omega) W
    have hah := TAhead_ok hu hrt (j / 8) (by omega)
    have hct := SCount_ok hsm (8 * (j / 8)) j (by omega) (by omega)
    have e3 : ((8 * (j / 8) : Nat) : Int) = ((j / 8 : Nat) : Int) * 8 := by push_cast; omega
    rw [e3] at hct
    have t1 : decide ((j : Int) < 0) = false := by simp
    have n1 : IntKind.i64.wrap (((j / 8 : Nat) : Int) * 8) = ((j / 8 : Nat) : Int) * 8 := IntWalk.i64_in _ (by omega)
    have HM1 := Lib.hid m1
    clear m1 hu hrt hsm ho e3 hcap h8 hj
    generalize sumR (csV r 0 (2 ^ h)) 0 (j / 8) = A at *
    generalize cnt r j - cnt r (8 * (j / 8)) = C at *
    generalize j / 8 = d at *
    go_wp2_with fail
    refine (hseg _).mono ?_
    rintro e w2 ⟨rfl, rfl⟩
    go_wp2_with fail
    refine hah.mono ?_
    rintro e w2 ⟨rfl, rfl⟩
    go_wp2_with fail
    refine hct.mono ?_
    rintro e w2 ⟨rfl, rfl⟩
    go_wp2_with fail
    go_ret
    exact ⟨⟨_, rfl⟩, hB⟩
  · have htt := TTotal_ok hu hrt
    generalize sumR (csV r 0 (2 ^ h)) 0 (2 ^ h) = A at *
    clear m1 hu hrt hsm hcap h8
    go_wp2_with fail
    refine htt.mono ?_
    rintro e w2 ⟨rfl, rfl⟩
    go_wp2_with fail
    go_ret
    exact ⟨⟨_, rfl⟩, hB⟩
set_option maxRecDepth 100000 in
theorem ISelect_any {x tt tg tc : Nat} {b : SB} (m : IxM w x tt tg tc b h r xs) (hT : Tab w) (n : Int) :
    Calls Tryz.prog 105 #[.pointer (some ⟨x, 0, none⟩), .int .i64 n] w fun e w' => (∃ a code, e = .returned (.tuple #[.int .i64 a, .int .i64 code]) ∧ (code = 0 ∨ code = 14)) ∧ w = w' := by
  have c0 := m.c0
  have c1 := m.c1
  obtain ⟨u, hu⟩ := m.tm
  have hrt := csV_rt r (h := h) m.hh.2
  have hcap := m.sm.lr
  obtain ⟨q1, q2⟩ := capN_bd m.hh.1 m.hh.2
  have h8 : 8 * 2 ^ h = capN h := rfl
  have hsm := m.sm
  have hall := sum_all (r := r) (h := h) hcap
  by_cases hn : 0 ≤ n ∧ n < sumR (csV r 0 (2 ^ h)) 0 (2 ^ h)
  · have hf := TFind_ok hu hrt n hn
    have hnx := fun i => SNext_any hsm hT i
    have hat := fun i => SAt_any hsm i
    have hst := fun s (hs : s ≤ 2 ^ h) => sum_to r (m := 2 ^ h) hs
    have hcl := csV_len r 0 (2 ^ h)
    have hcell := fun s (hs : s < 2 ^ h) => nth_csV (r := r) (first := 0) hs
    have HH := Lib.hid (show ∀ s, s < 2 ^ h → 8 * s + 8 ≤ r.length from fun s hs => by rw [hcap]; omega)
    have HC := Lib.hid q2
    have HM := Lib.hid (show n.toNat < cnt r r.length from by rw [hall] at hn; omega)
    have hn0 := hn.1
    have HL := Lib.hid hcap
    clear hall hcap q1 q2 h8 hrt hu m hn
    go_enter Tryz.func105, Tryz.ntmps105
    go_wp2_with fail
    go_step3
    go_wp2_with fail
    refine hf.mono ?_
    rintro e w1 ⟨⟨s, z, rfl, hAt⟩, rfl⟩
    have g1 := hAt.lt
    rw [hcl] at g1
    have g2 := hAt.eq
    have g3 := hAt.ge
    have g4 := hAt.own
    rw [hst s (by omega)] at g2
    rw [hcell s g1, Nat.zero_add] at g4
    have hsg := segC_add r s
    have hle := HH.out s g1
    have hcc := HC.out
    have hmm := HM.out
    have hll := HL.out
    obtain ⟨q, rfl⟩ : ∃ q : Nat, z = q := ⟨z.toNat, by omega⟩
    have hq : n.toNat = cnt r (8 * s) + q := by omega
    have n1 : IntKind.i64.wrap ((s : Int) * 8) = (s : Int) * 8 := IntWalk.i64_in _ (by omega)
    have hq8 : q < 8 := by have := segC_le r s; omega
    have HG := Lib.hid hmm
    have HQ := Lib.hid hq
    have HLE := Lib.hid hle
    have HS8 := Lib.hid (show r.length ≤ 4096 from by rw [hll]; exact hcc)
    have i1 : (q : Int) < 8 := by omega
    have i2 : (s : Int) ≤ 512 := by omega
    clear hst hcl hcell hf g1 g2 g3 g4 hsg hle hcc hmm hll hq8 hAt hq hn0
    go_wp2_with fail
    go_step3
    go_wp2_with fail
    refine (hnx _).mono ?_
    rintro e w1 ⟨⟨s0, rfl, hs0⟩, rfl⟩
    have first : ∃ t : Nat, s0 = t ∧ on r t = true ∧ cnt r t = cnt r (8 * s) := by
      rcases hs0 with ⟨t, rfl, t1, t2, t3⟩ | ⟨rfl, t1⟩
      · exact ⟨t, rfl, t2, cnt_none (by omega) fun j a b => t3 j (by omega) b⟩
      · exfalso
        have := HLE.out
        have h1 := cnt_none (r := r) (a := 8 * s) (b := r.length) (by omega) fun j a b => t1 j (by omega)
        have := HG.out
        have := HQ.out
        omega
    obtain ⟨t0, rfl, o0, d0⟩ := first
    have HD := Lib.hid d0
    clear hs0 d0
    go_wp2_with fail
    go_loop [7, 9] (fun a i => ∃ (j t : Nat), j ≤ q ∧ a = .int .i64 ((q - j : Nat) : Int) ∧ i = .int .i64 t ∧ on r t = true ∧ cnt r t = cnt r (8 * s) + j) (fun a _ => (intOf a).toNat)
    case atStart => exact ⟨0, t0, Nat.zero_le _, by simp, rfl, o0, HD.out⟩
    case round =>
      obtain ⟨j, t, hj, rfl, rfl, ot, ct⟩ := hrel
      have ht := on_lt ot
      by_cases hlt : j < q
      · obtain ⟨m, hm⟩ : ∃ m, m = q - j := ⟨_, rfl⟩
        rw [← hm]
        have m1 : 1 ≤ m := by omega
        have m2 : (m : Int) ≤ 8 := by omega
        have t1 : ((m : Int) == 0) = false := by simp; omega
        have n2 : IntKind.i64.wrap ((t : Int) + 1) = (t : Int) + 1 := IntWalk.i64_in _ (by have := HS8.out; omega)
        have n3 : IntKind.i64.wrap ((m : Int) - 1) = (m : Int) - 1 := IntWalk.i64_in _ (by omega)
        have CT := Lib.hid ct
        have HMM := Lib.hid hm
        clear ct ht hm
        go_wp2_with fail
        refine (hnx _).mono ?_
        rintro e w1 ⟨⟨s1, rfl, hs1⟩, rfl⟩
        have hfrom := cnt_from hs1 ot
        have HFR := Lib.hid hfrom
        clear hs1 hfrom
        go_wp2_with fail
        go_round
        case rel =>
          rcases HFR.out with ⟨rfl, h1⟩ | ⟨t', rfl, h1, h2, h3⟩
          · exfalso
            have := CT.out
            have := HG.out
            have := HQ.out
            omega
          · exact ⟨j + 1, t', by omega, by have := HMM.out; congr 1; omega, rfl, h2, by rw [h3, CT.out]; omega⟩
        case measure => simp [intOf]; omega
      · obtain rfl : j = q := by omega
        rw [Nat.sub_self]
        have hat1 := hat (t : Int)
        generalize atV r xs (t : Int) = y at *
        generalize hasB r (t : Int) = z at *
        clear ct ht
        go_wp2_with fail
        refine hat1.mono ?_
        rintro e w1 ⟨rfl, rfl⟩
        go_wp2_with fail
        try rw [Exit.noGoto_ret]
        go_ret2
        exact ⟨⟨_, 0, rfl, .inl rfl⟩, rfl⟩
  · have hf := TFind_none hu hrt n hn
    clear hn hall hcap q1 q2 h8 hrt hu m hsm
    go_enter Tryz.func105, Tryz.ntmps105
    go_wp2_with fail
    go_step3
    go_wp2_with fail
    refine hf.mono ?_
    rintro e w1 ⟨rfl, rfl⟩
    go_wp2_with fail
    try rw [Exit.noGoto_ret]
    go_ret2
    exact ⟨⟨_, 14, rfl, .inr rfl⟩, rfl⟩
end
end Go.Proofs.YtaonkbfekadalaaGreatDoor
/- What the methods of a machine come to that turn nothing. -/
namespace Go.Proofs.YtaonkbfekadalaaGreatDoor
open Go.RowKit
set_option linter.unusedVariables false

section
variable {w w' : World} {Z : Nat → Prop} {m : Nat} {K L t : List Int}
def cmdV (c : ByteArray) (A B : Int) : Value := .agg #[.string c, .int .i64 A, .int .i64 B]
theorem below_put8 {B g : Nat} {w0 : World} (h : Below B w0 w) (hg : B ≤ g) (a b c d e f h' i : Value) : Below B w0 ((((((((w.setCell ⟨g, 0, none⟩ a).setCell ⟨g, 1, none⟩ b).setCell ⟨g, 2, none⟩ c).setCell ⟨g, 3, none⟩ d).setCell ⟨g, 4, none⟩ e).setCell ⟨g, 5, none⟩ f).setCell ⟨g, 6, none⟩ h').setCell ⟨g, 7, none⟩ i) :=
  (((((((h.setCell (p := ⟨g, 0, none⟩) hg _).setCell (p := ⟨g, 1, none⟩) hg _).setCell (p := ⟨g, 2, none⟩) hg _).setCell (p := ⟨g, 3, none⟩) hg _).setCell (p := ⟨g, 4, none⟩) hg _).setCell (p := ⟨g, 5, none⟩) hg _).setCell (p := ⟨g, 6, none⟩) hg _).setCell (p := ⟨g, 7, none⟩) hg _
theorem OL.ri_only {base n cap g : Nat} {A : Option Addr} {xs : List Int} (h : OL w base (.slice A n cap) xs) (ho : Only (fun i => i = g) w w') (hg : g < base) : RI w' A xs := by
  obtain ⟨A', cap', e, hR⟩ := h.form
  injection e with e1 e2 e3
  subst e1
  intro hx
  obtain ⟨b, off, rfl, hr⟩ := hR hx
  have hb : base ≤ b := h.base_le b (by simp [Value.ownBlock])
  refine ⟨b, off, rfl, fun k hk => ?_⟩
  have h1 := hr k hk
  have hlt : b < w.heap.size := World.block_lt_of_cell? w ⟨b, off + k, none⟩ h1
  have h2 := ho.block b hlt (by omega)
  rw [show w'.cell? ⟨b, off + k, none⟩ = w.cell? ⟨b, off + k, none⟩ by simp only [World.cell?, h2]]
  exact h1
set_option maxRecDepth 100000 in
theorem mSize (hM : MacM Z w m K L t) (c : ByteArray) {A B : Int} :
    Calls Tryz.prog 52 #[.pointer (some ⟨m, 0, none⟩), cmdV c A B] w fun e w' => (∃ x : An, e = .returned (.agg x.cs) ∧ x.code = 0) ∧ Below w.heap.size w w' := by
  obtain ⟨W0, hW0, a0, a1, hB0, hz0⟩ := boxed c A B w
  have hM0 := hM.below hB0
  obtain ⟨s, P, h1, r, xs, b, Q, h2', r2, xs2, e1, e2, e3, e4, e5, e6⟩ := hM0
  have c0 : W0.cell? ⟨m, 0, none⟩ = some (.pointer (some ⟨s, 0, none⟩)) := by rw [e1.cell]; rfl
  have c1 : W0.cell? ⟨w.heap.size, 1, none⟩ = some (.int .i64 A) := by rw [a0.cell]; rfl
  have c2 : W0.cell? ⟨w.heap.size, 2, none⟩ = some (.int .i64 B) := by rw [a0.cell]; rfl
  have d0 : W0.drew.cell? ⟨m, 0, none⟩ = some (.pointer (some ⟨s, 0, none⟩)) := c0
  have d1 : W0.drew.cell? ⟨w.heap.size, 1, none⟩ = some (.int .i64 A) := c1
  have d2 : W0.drew.cell? ⟨w.heap.size, 2, none⟩ = some (.int .i64 B) := c2
  have hBd : Below W0.heap.size W0 W0.drew := below_drewN (Below.refl _ _) 1
  have a0d := a0.below hBd a0.lt
  have a1d := a1.below hBd a1.lt
  have e1d := e1.below hBd e1.lt
  have hBw : Below w.heap.size w W0.drew := hB0.trans (hBd.mono hB0.size)
  unfold cmdV
  unfold an0 anE An.cs at hW0 a1 a1d
  dsimp only at hW0 a1 a1d
  have hc := SLenS_ok e2
  obtain ⟨y0, y1, y2, y3, y4, y5, y6, y7⟩ := a1.eight
  obtain ⟨f0, f1, f2, f3, f4, f5, f6, f7⟩ := a1.frozen8
  clear e2 e3 e4 e5 e6 hM
  go_enter Tryz.func52, Tryz.ntmps52
  go_wp2_with fail
  refine hc.mono ?_
  rintro e w1 ⟨rfl, rfl⟩
  go_wp2_with fail
  refine bodyPost_ret (results_c rfl _ rfl (a1.put8 _ _ _ _ _ _ _ _) Tryz.underlying33 (by kernel_rfl)) rfl ?_
  exact ⟨⟨⟨0, _, false, 0, 0, 0, 0, none, 0, 0⟩, rfl, rfl⟩, below_put8 (hB0) (by omega) _ _ _ _ _ _ _ _⟩
set_option maxRecDepth 100000 in
theorem mKeys (hM : MacM Z w m K L t) (c : ByteArray) {A B : Int} :
    Calls Tryz.prog 53 #[.pointer (some ⟨m, 0, none⟩), cmdV c A B] w fun e w' => (∃ (x : An), e = .returned (.agg x.cs) ∧ x.code = 0 ∧ x.len = K.length ∧ RI w' x.A K) ∧ Below w.heap.size w w' := by
  obtain ⟨W0, hW0, a0, a1, hB0, hz0⟩ := boxed c A B w
  have hM0 := hM.below hB0
  obtain ⟨s, P, h1, r, xs, b, Q, h2', r2, xs2, e1, e2, e3, e4, e5, e6⟩ := hM0
  have c0 : W0.cell? ⟨m, 0, none⟩ = some (.pointer (some ⟨s, 0, none⟩)) := by rw [e1.cell]; rfl
  have c1 : W0.cell? ⟨w.heap.size, 1, none⟩ = some (.int .i64 A) := by rw [a0.cell]; rfl
  have c2 : W0.cell? ⟨w.heap.size, 2, none⟩ = some (.int .i64 B) := by rw [a0.cell]; rfl
  have d0 : W0.drew.cell? ⟨m, 0, none⟩ = some (.pointer (some ⟨s, 0, none⟩)) := c0
  have d1 : W0.drew.cell? ⟨w.heap.size, 1, none⟩ = some (.int .i64 A) := c1
  have d2 : W0.drew.cell? ⟨w.heap.size, 2, none⟩ = some (.int .i64 B) := c2
  have hBd : Below W0.heap.size W0 W0.drew := below_drewN (Below.refl _ _) 1
  have a0d := a0.below hBd a0.lt
  have a1d := a1.below hBd a1.lt
  have e1d := e1.below hBd e1.lt
  have hBw : Below w.heap.size w W0.drew := hB0.trans (hBd.mono hB0.size)
  unfold cmdV
  unfold an0 anE An.cs at hW0 a1 a1d
  dsimp only at hW0 a1 a1d
  have hc := SKeys_ok e2
  clear e2 e3 e4 e5 e6 hM
  go_enter Tryz.func53, Tryz.ntmps53
  go_wp2_with fail
  refine hc.mono ?_
  rintro e w1 ⟨⟨v, rfl, ho⟩, hB1⟩
  obtain ⟨A', cap, rfl, hR⟩ := ho.form
  have b1 := a1.below hB1 a1.lt
  obtain ⟨y0, y1, y2, y3, y4, y5, y6, y7⟩ := b1.eight
  obtain ⟨f0, f1, f2, f3, f4, f5, f6, f7⟩ := b1.frozen8
  have HR := Lib.hid (And.intro ho hR)
  clear ho hR
  go_wp2_with fail
  refine bodyPost_ret (results_c rfl _ rfl (b1.put8 _ _ _ _ _ _ _ _) Tryz.underlying33 (by kernel_rfl)) rfl ?_
  refine ⟨⟨⟨0, 0, false, 0, 0, 0, 0, A', _, cap⟩, rfl, rfl, rfl, ?_⟩, below_put8 (hB0.trans (hB1.mono hB0.size)) (by omega) _ _ _ _ _ _ _ _⟩
  exact HR.out.1.ri_only ((Only.refl (fun i => i = w.heap.size + 1) w1).put8 (g := w.heap.size + 1) (.inl rfl) _ _ _ _ _ _ _ _) (by omega)
set_option maxRecDepth 100000 in
theorem mHandles (hM : MacM Z w m K L t) (c : ByteArray) {A B : Int} :
    Calls Tryz.prog 65 #[.pointer (some ⟨m, 0, none⟩), cmdV c A B] w fun e w' => (∃ (x : An), e = .returned (.agg x.cs) ∧ x.code = 0 ∧ x.len = L.length ∧ RI w' x.A L) ∧ Below w.heap.size w w' := by
  obtain ⟨W0, hW0, a0, a1, hB0, hz0⟩ := boxed c A B w
  have hM0 := hM.below hB0
  obtain ⟨s, P, h1, r, xs, b, Q, h2', r2, xs2, e1, e2, e3, e4, e5, e6⟩ := hM0
  have c0 : W0.cell? ⟨m, 1, none⟩ = some (.pointer (some ⟨b.lb, 0, none⟩)) := by rw [e1.cell]; rfl
  have c1 : W0.cell? ⟨w.heap.size, 1, none⟩ = some (.int .i64 A) := by rw [a0.cell]; rfl
  have c2 : W0.cell? ⟨w.heap.size, 2, none⟩ = some (.int .i64 B) := by rw [a0.cell]; rfl
  have d0 : W0.drew.cell? ⟨m, 1, none⟩ = some (.pointer (some ⟨b.lb, 0, none⟩)) := c0
  have d1 : W0.drew.cell? ⟨w.heap.size, 1, none⟩ = some (.int .i64 A) := c1
  have d2 : W0.drew.cell? ⟨w.heap.size, 2, none⟩ = some (.int .i64 B) := c2
  have hBd : Below W0.heap.size W0 W0.drew := below_drewN (Below.refl _ _) 1
  have a0d := a0.below hBd a0.lt
  have a1d := a1.below hBd a1.lt
  have e1d := e1.below hBd e1.lt
  have hBw : Below w.heap.size w W0.drew := hB0.trans (hBd.mono hB0.size)
  unfold cmdV
  unfold an0 anE An.cs at hW0 a1 a1d
  dsimp only at hW0 a1 a1d
  have hc := LHandles_ok e3
  clear e2 e3 e4 e5 e6 hM
  go_enter Tryz.func65, Tryz.ntmps65
  go_wp2_with fail
  refine hc.mono ?_
  rintro e w1 ⟨⟨v, rfl, ho⟩, hB1⟩
  obtain ⟨A', cap, rfl, hR⟩ := ho.form
  have b1 := a1.below hB1 a1.lt
  obtain ⟨y0, y1, y2, y3, y4, y5, y6, y7⟩ := b1.eight
  obtain ⟨f0, f1, f2, f3, f4, f5, f6, f7⟩ := b1.frozen8
  have HR := Lib.hid (And.intro ho hR)
  clear ho hR
  go_wp2_with fail
  refine bodyPost_ret (results_c rfl _ rfl (b1.put8 _ _ _ _ _ _ _ _) Tryz.underlying33 (by kernel_rfl)) rfl ?_
  refine ⟨⟨⟨0, 0, false, 0, 0, 0, 0, A', _, cap⟩, rfl, rfl, rfl, ?_⟩, below_put8 (hB0.trans (hB1.mono hB0.size)) (by omega) _ _ _ _ _ _ _ _⟩
  exact HR.out.1.ri_only ((Only.refl (fun i => i = w.heap.size + 1) w1).put8 (g := w.heap.size + 1) (.inl rfl) _ _ _ _ _ _ _ _) (by omega)
theorem Blk.put8far {g g' : Nat} {ty : TypeId} {cs : Array Value} (hb : Blk w g ty cs) (hg : g ≠ g') (a b c d e f h i : Value) : Blk ((((((((w.setCell ⟨g', 0, none⟩ a).setCell ⟨g', 1, none⟩ b).setCell ⟨g', 2, none⟩ c).setCell ⟨g', 3, none⟩ d).setCell ⟨g', 4, none⟩ e).setCell ⟨g', 5, none⟩ f).setCell ⟨g', 6, none⟩ h).setCell ⟨g', 7, none⟩ i) g ty cs :=
  Blk.far (p := ⟨g', 7, none⟩) (Blk.far (p := ⟨g', 6, none⟩) (Blk.far (p := ⟨g', 5, none⟩) (Blk.far (p := ⟨g', 4, none⟩) (Blk.far (p := ⟨g', 3, none⟩) (Blk.far (p := ⟨g', 2, none⟩) (Blk.far (p := ⟨g', 1, none⟩) (Blk.far (p := ⟨g', 0, none⟩) hb hg _) hg _) hg _) hg _) hg _) hg _) hg _) hg _
theorem Blk.cell8 {g g' k : Nat} {ty : TypeId} {cs : Array Value} {v : Value} (hb : Blk w g ty cs) (hg : g ≠ g') (hv : cs[k]? = some v) (a b c d e f h i : Value) : ((((((((w.setCell ⟨g', 0, none⟩ a).setCell ⟨g', 1, none⟩ b).setCell ⟨g', 2, none⟩ c).setCell ⟨g', 3, none⟩ d).setCell ⟨g', 4, none⟩ e).setCell ⟨g', 5, none⟩ f).setCell ⟨g', 6, none⟩ h).setCell ⟨g', 7, none⟩ i).cell? ⟨g, k, none⟩ = some v := by
  rw [(hb.put8far hg a b c d e f h i).cell]; exact hv
theorem MacM.mlt (h : MacM Z w m K L t) : m < w.heap.size := by
  obtain ⟨s, P, h1, r, xs, b, Q, h2', r2, xs2, e1, _⟩ := h
  exact e1.lt
set_option maxRecDepth 100000 in
theorem mHas (hM : MacM Z w m K L t) (c : ByteArray) {A B : Int} :
    Calls Tryz.prog 51 #[.pointer (some ⟨m, 0, none⟩), cmdV c A B] w fun e w' => (∃ x : An, e = .returned (.agg x.cs) ∧ x.code = 0) ∧ Below w.heap.size w w' := by
  obtain ⟨W0, hW0, a0, a1, hB0, hz0⟩ := boxed c A B w
  have hM0 := hM.below hB0
  obtain ⟨s, P, h1, r, xs, b, Q, h2', r2, xs2, e1, e2, e3, e4, e5, e6⟩ := hM0
  have c0 : W0.cell? ⟨m, 0, none⟩ = some (.pointer (some ⟨s, 0, none⟩)) := by rw [e1.cell]; rfl
  have c1 : W0.cell? ⟨w.heap.size, 1, none⟩ = some (.int .i64 A) := by rw [a0.cell]; rfl
  have c2 : W0.cell? ⟨w.heap.size, 2, none⟩ = some (.int .i64 B) := by rw [a0.cell]; rfl
  have d0 : W0.drew.cell? ⟨m, 0, none⟩ = some (.pointer (some ⟨s, 0, none⟩)) := c0
  have d1 : W0.drew.cell? ⟨w.heap.size, 1, none⟩ = some (.int .i64 A) := c1
  have d2 : W0.drew.cell? ⟨w.heap.size, 2, none⟩ = some (.int .i64 B) := c2
  have hBd : Below W0.heap.size W0 W0.drew := below_drewN (Below.refl _ _) 1
  have a0d := a0.below hBd a0.lt
  have a1d := a1.below hBd a1.lt
  have e1d := e1.below hBd e1.lt
  have hBw : Below w.heap.size w W0.drew := hB0.trans (hBd.mono hB0.size)
  unfold cmdV
  unfold an0 anE An.cs at hW0 a1 a1d
  dsimp only at hW0 a1 a1d
  have n1 : w.heap.size ≠ w.heap.size + 1 := by omega
  have n2 : m ≠ w.heap.size + 1 := fun q => by have := hM.mlt; omega
  have hc : Calls Tryz.prog 100 #[.pointer (some ⟨s, 0, none⟩), .int .i64 A] W0.drew _ := SHas_any (e2.below hBd) A
  clear e2 e3 e4 e5 e6 hM
  go_enter Tryz.func51, Tryz.ntmps51
  go_wp2_with fail
  go_region_held3 (fun W => W.cell? ⟨m, 0, none⟩ = some (.pointer (some ⟨s, 0, none⟩)) ∧ W.cell? ⟨w.heap.size, 1, none⟩ = some (.int .i64 A))
    (with_reducible first | exact ⟨d0, d1⟩ | exact ⟨g0, g1⟩ | exact ⟨e1'.cell8 n2 rfl _ _ _ _ _ _ _ _, a0'.cell8 n1 rfl _ _ _ _ _ _ _ _⟩)
    ((go_at_call 100; refine hc.mono ?_; rintro e w1 ⟨⟨z, rfl⟩, hB1⟩; have e1' := e1d.below hB1 e1d.lt; have a0' := a0d.below hB1 a0d.lt; have b1 := a1d.below hB1 a1d.lt; have g0 : w1.cell? ⟨m, 0, none⟩ = some (.pointer (some ⟨s, 0, none⟩)) := (by rw [e1'.cell]; rfl); have g1 : w1.cell? ⟨w.heap.size, 1, none⟩ = some (.int .i64 A) := (by rw [a0'.cell]; rfl); obtain ⟨y0, y1, y2, y3, y4, y5, y6, y7⟩ := b1.eight; obtain ⟨f0, f1, f2, f3, f4, f5, f6, f7⟩ := b1.frozen8))
  go_wp2_with fail
  refine bodyPost_ret (results_c rfl _ rfl (b1.put8 _ _ _ _ _ _ _ _) Tryz.underlying33 (by kernel_rfl)) rfl ?_
  exact ⟨⟨⟨0, 0, z, 0, 0, 0, 0, none, 0, 0⟩, rfl, rfl⟩, below_put8 (hBw.trans (hB1.mono hBw.size)) (by omega) _ _ _ _ _ _ _ _⟩
set_option maxRecDepth 100000 in
theorem mFloor (hM : MacM Z w m K L t) (c : ByteArray) {A B : Int} :
    Calls Tryz.prog 54 #[.pointer (some ⟨m, 0, none⟩), cmdV c A B] w fun e w' => (∃ x : An, e = .returned (.agg x.cs) ∧ x.code = 0) ∧ Below w.heap.size w w' := by
  obtain ⟨W0, hW0, a0, a1, hB0, hz0⟩ := boxed c A B w
  have hM0 := hM.below hB0
  obtain ⟨s, P, h1, r, xs, b, Q, h2', r2, xs2, e1, e2, e3, e4, e5, e6⟩ := hM0
  have c0 : W0.cell? ⟨m, 0, none⟩ = some (.pointer (some ⟨s, 0, none⟩)) := by rw [e1.cell]; rfl
  have c1 : W0.cell? ⟨w.heap.size, 1, none⟩ = some (.int .i64 A) := by rw [a0.cell]; rfl
  have c2 : W0.cell? ⟨w.heap.size, 2, none⟩ = some (.int .i64 B) := by rw [a0.cell]; rfl
  have d0 : W0.drew.cell? ⟨m, 0, none⟩ = some (.pointer (some ⟨s, 0, none⟩)) := c0
  have d1 : W0.drew.cell? ⟨w.heap.size, 1, none⟩ = some (.int .i64 A) := c1
  have d2 : W0.drew.cell? ⟨w.heap.size, 2, none⟩ = some (.int .i64 B) := c2
  have hBd : Below W0.heap.size W0 W0.drew := below_drewN (Below.refl _ _) 1
  have a0d := a0.below hBd a0.lt
  have a1d := a1.below hBd a1.lt
  have e1d := e1.below hBd e1.lt
  have hBw : Below w.heap.size w W0.drew := hB0.trans (hBd.mono hB0.size)
  unfold cmdV
  unfold an0 anE An.cs at hW0 a1 a1d
  dsimp only at hW0 a1 a1d
  have n1 : w.heap.size ≠ w.heap.size + 1 := by omega
  have n2 : m ≠ w.heap.size + 1 := fun q => by have := hM.mlt; omega
  have hc : Calls Tryz.prog 101 #[.pointer (some ⟨s, 0, none⟩), .int .i64 A] W0.drew _ := SFloor_any (e2.below hBd) A
  clear e2 e3 e4 e5 e6 hM
  go_enter Tryz.func54, Tryz.ntmps54
  go_wp2_with fail
  go_region_held3 (fun W => W.cell? ⟨m, 0, none⟩ = some (.pointer (some ⟨s, 0, none⟩)) ∧ W.cell? ⟨w.heap.size, 1, none⟩ = some (.int .i64 A))
    (first | exact ⟨d0, d1⟩ | exact ⟨g0, g1⟩)
    ((go_at_call 101; refine hc.mono ?_; rintro e w1 ⟨⟨n, z, rfl⟩, hB1⟩; have e1' := e1d.below hB1 e1d.lt; have a0' := a0d.below hB1 a0d.lt; have b1 := a1d.below hB1 a1d.lt; have g0 : w1.cell? ⟨m, 0, none⟩ = some (.pointer (some ⟨s, 0, none⟩)) := (by rw [e1'.cell]; rfl); have g1 : w1.cell? ⟨w.heap.size, 1, none⟩ = some (.int .i64 A) := (by rw [a0'.cell]; rfl); obtain ⟨y0, y1, y2, y3, y4, y5, y6, y7⟩ := b1.eight; obtain ⟨f0, f1, f2, f3, f4, f5, f6, f7⟩ := b1.frozen8))
  go_wp2_with fail
  refine bodyPost_ret (results_c rfl _ rfl (b1.put8 _ _ _ _ _ _ _ _) Tryz.underlying33 (by kernel_rfl)) rfl ?_
  exact ⟨⟨⟨0, n, z, 0, 0, 0, 0, none, 0, 0⟩, rfl, rfl⟩, below_put8 (hBw.trans (hB1.mono hBw.size)) (by omega) _ _ _ _ _ _ _ _⟩
set_option maxRecDepth 100000 in
theorem mCeil (hM : MacM Z w m K L t) (c : ByteArray) {A B : Int} :
    Calls Tryz.prog 55 #[.pointer (some ⟨m, 0, none⟩), cmdV c A B] w fun e w' => (∃ x : An, e = .returned (.agg x.cs) ∧ x.code = 0) ∧ Below w.heap.size w w' := by
  obtain ⟨W0, hW0, a0, a1, hB0, hz0⟩ := boxed c A B w
  have hM0 := hM.below hB0
  obtain ⟨s, P, h1, r, xs, b, Q, h2', r2, xs2, e1, e2, e3, e4, e5, e6⟩ := hM0
  have c0 : W0.cell? ⟨m, 0, none⟩ = some (.pointer (some ⟨s, 0, none⟩)) := by rw [e1.cell]; rfl
  have c1 : W0.cell? ⟨w.heap.size, 1, none⟩ = some (.int .i64 A) := by rw [a0.cell]; rfl
  have c2 : W0.cell? ⟨w.heap.size, 2, none⟩ = some (.int .i64 B) := by rw [a0.cell]; rfl
  have d0 : W0.drew.cell? ⟨m, 0, none⟩ = some (.pointer (some ⟨s, 0, none⟩)) := c0
  have d1 : W0.drew.cell? ⟨w.heap.size, 1, none⟩ = some (.int .i64 A) := c1
  have d2 : W0.drew.cell? ⟨w.heap.size, 2, none⟩ = some (.int .i64 B) := c2
  have hBd : Below W0.heap.size W0 W0.drew := below_drewN (Below.refl _ _) 1
  have a0d := a0.below hBd a0.lt
  have a1d := a1.below hBd a1.lt
  have e1d := e1.below hBd e1.lt
  have hBw : Below w.heap.size w W0.drew := hB0.trans (hBd.mono hB0.size)
  unfold cmdV
  unfold an0 anE An.cs at hW0 a1 a1d
  dsimp only at hW0 a1 a1d
  have n1 : w.heap.size ≠ w.heap.size + 1 := by omega
  have n2 : m ≠ w.heap.size + 1 := fun q => by have := hM.mlt; omega
  have hc : Calls Tryz.prog 102 #[.pointer (some ⟨s, 0, none⟩), .int .i64 A] W0.drew _ := SCeil_any (e2.below hBd) A
  clear e2 e3 e4 e5 e6 hM
  go_enter Tryz.func55, Tryz.ntmps55
  go_wp2_with fail
  go_region_held3 (fun W => W.cell? ⟨m, 0, none⟩ = some (.pointer (some ⟨s, 0, none⟩)) ∧ W.cell? ⟨w.heap.size, 1, none⟩ = some (.int .i64 A))
    (first | exact ⟨d0, d1⟩ | exact ⟨g0, g1⟩)
    ((go_at_call 102; refine hc.mono ?_; rintro e w1 ⟨⟨n, z, rfl⟩, hB1⟩; have e1' := e1d.below hB1 e1d.lt; have a0' := a0d.below hB1 a0d.lt; have b1 := a1d.below hB1 a1d.lt; have g0 : w1.cell? ⟨m, 0, none⟩ = some (.pointer (some ⟨s, 0, none⟩)) := (by rw [e1'.cell]; rfl); have g1 : w1.cell? ⟨w.heap.size, 1, none⟩ = some (.int .i64 A) := (by rw [a0'.cell]; rfl); obtain ⟨y0, y1, y2, y3, y4, y5, y6, y7⟩ := b1.eight; obtain ⟨f0, f1, f2, f3, f4, f5, f6, f7⟩ := b1.frozen8))
  go_wp2_with fail
  refine bodyPost_ret (results_c rfl _ rfl (b1.put8 _ _ _ _ _ _ _ _) Tryz.underlying33 (by kernel_rfl)) rfl ?_
  exact ⟨⟨⟨0, n, z, 0, 0, 0, 0, none, 0, 0⟩, rfl, rfl⟩, below_put8 (hBw.trans (hB1.mono hBw.size)) (by omega) _ _ _ _ _ _ _ _⟩
set_option maxRecDepth 100000 in
theorem mLabel (hM : MacM Z w m K L t) (c : ByteArray) {A B : Int} (hA : inH A) :
    Calls Tryz.prog 64 #[.pointer (some ⟨m, 0, none⟩), cmdV c A B] w fun e w' => (e = .returned (.agg ((An.mk 0 (askV t A).1 false 0 0 0 0 none 0 0).or (askV t A).2).cs)) ∧ Below w.heap.size w w' := by
  obtain ⟨W0, hW0, a0, a1, hB0, hz0⟩ := boxed c A B w
  have hM0 := hM.below hB0
  obtain ⟨s, P, h1, r, xs, b, Q, h2', r2, xs2, e1, e2, e3, e4, e5, e6⟩ := hM0
  have c0 : W0.cell? ⟨m, 1, none⟩ = some (.pointer (some ⟨b.lb, 0, none⟩)) := by rw [e1.cell]; rfl
  have c1 : W0.cell? ⟨w.heap.size, 1, none⟩ = some (.int .i64 A) := by rw [a0.cell]; rfl
  have c2 : W0.cell? ⟨w.heap.size, 2, none⟩ = some (.int .i64 B) := by rw [a0.cell]; rfl
  have d0 : W0.drew.cell? ⟨m, 1, none⟩ = some (.pointer (some ⟨b.lb, 0, none⟩)) := c0
  have d1 : W0.drew.cell? ⟨w.heap.size, 1, none⟩ = some (.int .i64 A) := c1
  have d2 : W0.drew.cell? ⟨w.heap.size, 2, none⟩ = some (.int .i64 B) := c2
  have hBd : Below W0.heap.size W0 W0.drew := below_drewN (Below.refl _ _) 1
  have a0d := a0.below hBd a0.lt
  have a1d := a1.below hBd a1.lt
  have e1d := e1.below hBd e1.lt
  have hBw : Below w.heap.size w W0.drew := hB0.trans (hBd.mono hB0.size)
  unfold cmdV
  unfold an0 anE An.cs at hW0 a1 a1d
  dsimp only at hW0 a1 a1d
  have hc : Calls Tryz.prog 112 #[.pointer (some ⟨b.lb, 0, none⟩), .int .i64 A] W0.drew _ := LLabel_any (e3.below hBd) hA
  clear e2 e3 e4 e5 e6 hM
  generalize (askV t A).1 = u at *
  generalize (askV t A).2 = v at *
  have han := fun W => answer_any ⟨0, u, false, 0, 0, 0, 0, none, 0, 0⟩ v W
  generalize An.or _ v = z at *
  obtain ⟨z1, z2, z3, z4, z5, z6, z7, z8, z9, z10⟩ := z
  unfold An.cs at han ⊢
  dsimp only at han ⊢
  go_enter Tryz.func64, Tryz.ntmps64
  go_wp2_with fail
  go_region_held3 (fun W => W.cell? ⟨m, 1, none⟩ = some (.pointer (some ⟨b.lb, 0, none⟩)) ∧ W.cell? ⟨w.heap.size, 1, none⟩ = some (.int .i64 A))
    (exact ⟨d0, d1⟩)
    ((go_at_call 112; refine hc.mono ?_; rintro e w1 ⟨rfl, rfl⟩))
  go_wp2_with fail
  refine (han _).mono ?_
  rintro e w1 ⟨rfl, hB1⟩
  have b1 := a1d.below hB1 a1d.lt
  obtain ⟨y0, y1, y2, y3, y4, y5, y6, y7⟩ := b1.eight
  obtain ⟨f0, f1, f2, f3, f4, f5, f6, f7⟩ := b1.frozen8
  go_wp2_with fail
  refine bodyPost_ret (results_c rfl _ rfl (b1.put8 _ _ _ _ _ _ _ _) Tryz.underlying33 (by kernel_rfl)) rfl ?_
  exact ⟨rfl, below_put8 (hBw.trans (hB1.mono hBw.size)) (by omega) _ _ _ _ _ _ _ _⟩
set_option maxRecDepth 100000 in
theorem mBefore (hM : MacM Z w m K L t) (c : ByteArray) {A B : Int} (hA : inH A) (hB : inH B) :
    Calls Tryz.prog 63 #[.pointer (some ⟨m, 0, none⟩), cmdV c A B] w fun e w' => (e = .returned (.agg ((An.mk 0 0 (befV t A B).1 0 0 0 0 none 0 0).or (befV t A B).2).cs)) ∧ Below w.heap.size w w' := by
  obtain ⟨W0, hW0, a0, a1, hB0, hz0⟩ := boxed c A B w
  have hM0 := hM.below hB0
  obtain ⟨s, P, h1, r, xs, b, Q, h2', r2, xs2, e1, e2, e3, e4, e5, e6⟩ := hM0
  have c0 : W0.cell? ⟨m, 1, none⟩ = some (.pointer (some ⟨b.lb, 0, none⟩)) := by rw [e1.cell]; rfl
  have c1 : W0.cell? ⟨w.heap.size, 1, none⟩ = some (.int .i64 A) := by rw [a0.cell]; rfl
  have c2 : W0.cell? ⟨w.heap.size, 2, none⟩ = some (.int .i64 B) := by rw [a0.cell]; rfl
  have d0 : W0.drew.cell? ⟨m, 1, none⟩ = some (.pointer (some ⟨b.lb, 0, none⟩)) := c0
  have d1 : W0.drew.cell? ⟨w.heap.size, 1, none⟩ = some (.int .i64 A) := c1
  have d2 : W0.drew.cell? ⟨w.heap.size, 2, none⟩ = some (.int .i64 B) := c2
  have hBd : Below W0.heap.size W0 W0.drew := below_drewN (Below.refl _ _) 1
  have a0d := a0.below hBd a0.lt
  have a1d := a1.below hBd a1.lt
  have e1d := e1.below hBd e1.lt
  have hBw : Below w.heap.size w W0.drew := hB0.trans (hBd.mono hB0.size)
  unfold cmdV
  unfold an0 anE An.cs at hW0 a1 a1d
  dsimp only at hW0 a1 a1d
  have hc : Calls Tryz.prog 111 #[.pointer (some ⟨b.lb, 0, none⟩), .int .i64 A, .int .i64 B] W0.drew _ := LBefore_any (e3.below hBd) hA hB
  clear e2 e3 e4 e5 e6 hM
  generalize (befV t A B).1 = u at *
  generalize (befV t A B).2 = v at *
  have han := fun W => answer_any ⟨0, 0, u, 0, 0, 0, 0, none, 0, 0⟩ v W
  generalize An.or _ v = z at *
  obtain ⟨z1, z2, z3, z4, z5, z6, z7, z8, z9, z10⟩ := z
  unfold An.cs at han ⊢
  dsimp only at han ⊢
  go_enter Tryz.func63, Tryz.ntmps63
  go_wp2_with fail
  go_region_held3 (fun W => W.cell? ⟨m, 1, none⟩ = some (.pointer (some ⟨b.lb, 0, none⟩)) ∧ W.cell? ⟨w.heap.size, 1, none⟩ = some (.int .i64 A) ∧ W.cell? ⟨w.heap.size, 2, none⟩ = some (.int .i64 B))
    (exact ⟨d0, d1, d2⟩)
    ((go_at_call 111; refine hc.mono ?_; rintro e w1 ⟨rfl, rfl⟩))
  go_wp2_with fail
  refine (han _).mono ?_
  rintro e w1 ⟨rfl, hB1⟩
  have b1 := a1d.below hB1 a1d.lt
  obtain ⟨y0, y1, y2, y3, y4, y5, y6, y7⟩ := b1.eight
  obtain ⟨f0, f1, f2, f3, f4, f5, f6, f7⟩ := b1.frozen8
  go_wp2_with fail
  refine bodyPost_ret (results_c rfl _ rfl (b1.put8 _ _ _ _ _ _ _ _) Tryz.underlying33 (by kernel_rfl)) rfl ?_
  exact ⟨rfl, below_put8 (hBw.trans (hB1.mono hBw.size)) (by omega) _ _ _ _ _ _ _ _⟩
end
end Go.Proofs.YtaonkbfekadalaaGreatDoor
/- What rank and pick of a machine come to. -/
namespace Go.Proofs.YtaonkbfekadalaaGreatDoor
open Go.RowKit
set_option linter.unusedVariables false

section
variable {w w' : World} {Z : Nat → Prop} {m : Nat} {K L t : List Int}
set_option maxRecDepth 100000 in
theorem mRank (hM : MacM Z w m K L t) (c : ByteArray) {A B : Int} :
    Calls Tryz.prog 56 #[.pointer (some ⟨m, 0, none⟩), cmdV c A B] w fun e w' => (∃ x : An, e = .returned (.agg x.cs) ∧ x.code = 0) ∧ Below w.heap.size w w' := by
  obtain ⟨W0, hW0, a0, a1, hB0, hz0⟩ := boxed c A B w
  have hM0 := hM.below hB0
  obtain ⟨s, P, h1, r, xs, b, Q, h2', r2, xs2, e1, e2, e3, e4, e5, e6⟩ := hM0
  have c0 : W0.cell? ⟨m, 0, none⟩ = some (.pointer (some ⟨s, 0, none⟩)) := by rw [e1.cell]; rfl
  have c1 : W0.cell? ⟨w.heap.size, 1, none⟩ = some (.int .i64 A) := by rw [a0.cell]; rfl
  have c2 : W0.cell? ⟨w.heap.size, 2, none⟩ = some (.int .i64 B) := by rw [a0.cell]; rfl
  have d0 : W0.drew.cell? ⟨m, 0, none⟩ = some (.pointer (some ⟨s, 0, none⟩)) := c0
  have d1 : W0.drew.cell? ⟨w.heap.size, 1, none⟩ = some (.int .i64 A) := c1
  have d2 : W0.drew.cell? ⟨w.heap.size, 2, none⟩ = some (.int .i64 B) := c2
  have hBd : Below W0.heap.size W0 W0.drew := below_drewN (Below.refl _ _) 1
  have a0d := a0.below hBd a0.lt
  have a1d := a1.below hBd a1.lt
  have e1d := e1.below hBd e1.lt
  have hBw : Below w.heap.size w W0.drew := hB0.trans (hBd.mono hB0.size)
  unfold cmdV
  unfold an0 anE An.cs at hW0 a1 a1d
  dsimp only at hW0 a1 a1d
  have n1 : w.heap.size ≠ w.heap.size + 1 := by omega
  have n2 : m ≠ w.heap.size + 1 := fun q => by have := hM.mlt; omega
  have hc : Calls Tryz.prog 103 #[.pointer (some ⟨s, 0, none⟩)] W0.drew _ := ROf_ok (e2.below hBd)
  have hso := e2.so
  have HSO := Lib.hid hso
  clear e2 e3 e4 e5 e6 hM hso
  go_enter Tryz.func56, Tryz.ntmps56
  go_wp2_with fail
  go_region_held3 (fun W => W.cell? ⟨m, 0, none⟩ = some (.pointer (some ⟨s, 0, none⟩)) ∧ W.cell? ⟨w.heap.size, 1, none⟩ = some (.int .i64 A))
    (with_reducible first | exact ⟨d0, d1⟩ | exact ⟨g0_1, g1_1⟩ | exact ⟨g0_2, g1_2⟩ | exact ⟨e1_2.cell8 n2 rfl _ _ _ _ _ _ _ _, a0_2.cell8 n1 rfl _ _ _ _ _ _ _ _⟩)
    ((first | (go_at_call 103; refine hc.mono ?_; rintro e w1 ⟨x, tt, tg, tc, b', rfl, hx, hT1, hB1⟩; have e1_1 := e1d.below hB1 e1d.lt; have a0_1 := a0d.below hB1 a0d.lt; have b_1 := a1d.below hB1 a1d.lt; have g0_1 : w1.cell? ⟨m, 0, none⟩ = some (.pointer (some ⟨s, 0, none⟩)) := (by rw [e1_1.cell]; rfl); have g1_1 : w1.cell? ⟨w.heap.size, 1, none⟩ = some (.int .i64 A) := (by rw [a0_1.cell]; rfl); have hrk := IRank_any hx hT1 HSO.out A; clear hx) | (go_at_call 104; refine hrk.mono ?_; rintro e w2 ⟨⟨n, rfl⟩, hB2⟩; have e1_2 := e1_1.below hB2 e1_1.lt; have a0_2 := a0_1.below hB2 a0_1.lt; have b_2 := b_1.below hB2 b_1.lt; have g0_2 : w2.cell? ⟨m, 0, none⟩ = some (.pointer (some ⟨s, 0, none⟩)) := (by rw [e1_2.cell]; rfl); have g1_2 : w2.cell? ⟨w.heap.size, 1, none⟩ = some (.int .i64 A) := (by rw [a0_2.cell]; rfl); obtain ⟨y0, y1, y2, y3, y4, y5, y6, y7⟩ := b_2.eight; obtain ⟨f0, f1, f2, f3, f4, f5, f6, f7⟩ := b_2.frozen8)))
  go_wp2_with fail
  refine bodyPost_ret (results_c rfl _ rfl (b_2.put8 _ _ _ _ _ _ _ _) Tryz.underlying33 (by kernel_rfl)) rfl ?_
  exact ⟨⟨⟨0, n, false, 0, 0, 0, 0, none, 0, 0⟩, rfl, rfl⟩, below_put8 ((hBw.trans (hB1.mono hBw.size)).trans (hB2.mono (hBw.trans (hB1.mono hBw.size)).size)) (by omega) _ _ _ _ _ _ _ _⟩
set_option maxRecDepth 100000 in
theorem mPick (hM : MacM Z w m K L t) (c : ByteArray) {A B : Int} :
    Calls Tryz.prog 57 #[.pointer (some ⟨m, 0, none⟩), cmdV c A B] w fun e w' => (∃ x : An, e = .returned (.agg x.cs) ∧ (x.code = 0 ∨ x.code = 14)) ∧ Below w.heap.size w w' := by
  obtain ⟨W0, hW0, a0, a1, hB0, hz0⟩ := boxed c A B w
  have hM0 := hM.below hB0
  obtain ⟨s, P, h1, r, xs, b, Q, h2', r2, xs2, e1, e2, e3, e4, e5, e6⟩ := hM0
  have c0 : W0.cell? ⟨m, 0, none⟩ = some (.pointer (some ⟨s, 0, none⟩)) := by rw [e1.cell]; rfl
  have c1 : W0.cell? ⟨w.heap.size, 1, none⟩ = some (.int .i64 A) := by rw [a0.cell]; rfl
  have c2 : W0.cell? ⟨w.heap.size, 2, none⟩ = some (.int .i64 B) := by rw [a0.cell]; rfl
  have d0 : W0.drew.cell? ⟨m, 0, none⟩ = some (.pointer (some ⟨s, 0, none⟩)) := c0
  have d1 : W0.drew.cell? ⟨w.heap.size, 1, none⟩ = some (.int .i64 A) := c1
  have d2 : W0.drew.cell? ⟨w.heap.size, 2, none⟩ = some (.int .i64 B) := c2
  have hBd : Below W0.heap.size W0 W0.drew := below_drewN (Below.refl _ _) 1
  have a0d := a0.below hBd a0.lt
  have a1d := a1.below hBd a1.lt
  have e1d := e1.below hBd e1.lt
  have hBw : Below w.heap.size w W0.drew := hB0.trans (hBd.mono hB0.size)
  unfold cmdV
  unfold an0 anE An.cs at hW0 a1 a1d
  dsimp only at hW0 a1 a1d
  have n1 : w.heap.size ≠ w.heap.size + 1 := by omega
  have n2 : m ≠ w.heap.size + 1 := fun q => by have := hM.mlt; omega
  have hc : Calls Tryz.prog 103 #[.pointer (some ⟨s, 0, none⟩)] W0.drew _ := ROf_ok (e2.below hBd)
  clear e2 e3 e4 e5 e6 hM
  go_enter Tryz.func57, Tryz.ntmps57
  go_wp2_with fail
  go_region_held3 (fun W => W.cell? ⟨m, 0, none⟩ = some (.pointer (some ⟨s, 0, none⟩)) ∧ W.cell? ⟨w.heap.size, 1, none⟩ = some (.int .i64 A))
    (with_reducible first | exact ⟨d0, d1⟩ | exact ⟨g0_1, g1_1⟩)
    ((first | (go_at_call 103; refine hc.mono ?_; rintro e w1 ⟨x, tt, tg, tc, b', rfl, hx, hT1, hB1⟩; have e1_1 := e1d.below hB1 e1d.lt; have a0_1 := a0d.below hB1 a0d.lt; have b_1 := a1d.below hB1 a1d.lt; have g0_1 : w1.cell? ⟨m, 0, none⟩ = some (.pointer (some ⟨s, 0, none⟩)) := (by rw [e1_1.cell]; rfl); have g1_1 : w1.cell? ⟨w.heap.size, 1, none⟩ = some (.int .i64 A) := (by rw [a0_1.cell]; rfl); have hrk := ISelect_any hx hT1 A; clear hx) | (go_at_call 105; refine hrk.mono ?_; rintro e w2 ⟨⟨n, v, rfl, hv⟩, rfl⟩)))
  have hBw1 := hBw.trans (hB1.mono hBw.size)
  have han := fun W => answer_any ⟨0, n, false, 0, 0, 0, 0, none, 0, 0⟩ v W
  obtain ⟨z, hz⟩ : ∃ z, z = An.or ⟨0, n, false, 0, 0, 0, 0, none, 0, 0⟩ v := ⟨_, rfl⟩
  rw [← hz] at han
  have hzc : z.code = 0 ∨ z.code = 14 := by
    rw [hz]; unfold An.or
    rcases hv with rfl | rfl
    · exact .inl rfl
    · exact .inr rfl
  clear hz hv
  obtain ⟨z1, z2, z3, z4, z5, z6, z7, z8, z9, z10⟩ := z
  dsimp only at hzc
  have HZC := Lib.hid hzc
  clear hzc
  unfold An.cs at han
  dsimp only at han
  go_wp2_with fail
  refine (han _).mono ?_
  rintro e w2 ⟨rfl, hB2⟩
  have b2 := b_1.below hB2 b_1.lt
  obtain ⟨y0, y1, y2, y3, y4, y5, y6, y7⟩ := b2.eight
  obtain ⟨f0, f1, f2, f3, f4, f5, f6, f7⟩ := b2.frozen8
  go_wp2_with fail
  refine bodyPost_ret (results_c rfl _ rfl (b2.put8 _ _ _ _ _ _ _ _) Tryz.underlying33 (by kernel_rfl)) rfl ?_
  exact ⟨⟨⟨z1, z2, z3, z4, z5, z6, z7, z8, z9, z10⟩, rfl, HZC.out⟩, below_put8 (hBw1.trans (hB2.mono hBw1.size)) (by omega) _ _ _ _ _ _ _ _⟩
end
end Go.Proofs.YtaonkbfekadalaaGreatDoor
