/- TopScript. -/
import Derived.Test.YtaonkbfekadalaaGreatDoorM39
namespace Go.Proofs.YtaonkbfekadalaaGreatDoor
open Go.RowKit
set_option linter.unusedVariables false

theorem word_list {s : ByteArray} {l : List UInt8} (h : s.toList = l) : s = ⟨l.toArray⟩ := by
  subst h
  rw [ByteArray.toList_eq]
theorem or3 {s a b c : List UInt8} (h : ((s == a) = true ∨ (s == b) = true) ∨ (s == c) = true) : s = a ∨ s = b ∨ s = c := by
  simp only [beq_iff_eq] at h
  rcases h with (q | q) | q
  · exact .inl q
  · exact .inr (.inl q)
  · exact .inr (.inr q)
theorem or3n {s a b c : List UInt8} (h : ((s == a) = false ∧ (s == b) = false) ∧ (s == c) = false) : ¬ s = a ∧ ¬ s = b ∧ ¬ s = c := by
  simp only [beq_eq_false_iff_ne] at h
  exact ⟨h.1.1, h.1.2, h.2⟩
theorem made_yes {s : ByteArray} {z : Int} {a b : Nat} (h : a = b + (if z = 0 ∧ makes s then 1 else 0)) (hz : z = 0) (hs : s.toList = [102, 105, 114, 115, 116] ∨ s.toList = [97, 102, 116, 101, 114] ∨ s.toList = [97, 104, 101, 97, 100]) : a = b + 1 := by
  have hm : makes s := by
    rcases hs with q | q | q
    · exact .inl (word_list q)
    · exact .inr (.inl (word_list q))
    · exact .inr (.inr (word_list q))
  rw [h, if_pos ⟨hz, hm⟩]
theorem made_no {s : ByteArray} {z : Int} {a b : Nat} (h : a = b + (if z = 0 ∧ makes s then 1 else 0)) (hs : ¬ z = 0 ∨ (¬ s.toList = [102, 105, 114, 115, 116] ∧ ¬ s.toList = [97, 102, 116, 101, 114] ∧ ¬ s.toList = [97, 104, 101, 97, 100])) : a = b := by
  rw [h, if_neg]
  · rfl
  · rintro ⟨q1, q2⟩
    rcases hs with q | ⟨a1, a2, a3⟩
    · exact q q1
    · rcases q2 with rfl | rfl | rfl
      · exact a1 (by decide +kernel)
      · exact a2 (by decide +kernel)
      · exact a3 (by decide +kernel)
set_option maxRecDepth 100000 in
set_option maxHeartbeats 8000000 in
theorem TopScript_walk {w : World} {A : Option Addr} {c n : Nat} {cs : List Cd} (hl : cs.length = n) (hC : CI w A cs) (hI : ∀ (k : Nat) (d : Cd), cs[k]? = some d → inH d.a ∧ inH d.b ∧ d.s.size ≤ 4611686018427387904) (hn : n ≤ 4611686018427387904) (hG : GW w)
    (hal : ∀ W, GW W → Calls Tryz.prog 4 #[] W fun e w' => e = .returned (.bool true) ∧ Below W.heap.size W w') :
    Calls Tryz.prog 3 #[.slice A n c] w fun e w' => e = .returned (.bool true) ∧ Below w.heap.size w w' := by
  have HL := Lib.hid hl
  have HI := Lib.hid hI
  have HN := Lib.hid hn
  have HC := Lib.hid hC
  have hal0 := hal w hG
  have HAL := Lib.hid hal
  have hnew := NewM_ok w hG.t2
  have hw2 := hG.t2.pos
  clear hl hI hC hal
  go_enter Tryz.func3, Tryz.ntmps3
  go_wp2_with fail
  go_loop [3] (fun i => ∃ q : Nat, q ≤ n ∧ q ≤ 81 ∧ i = .int .i64 q ∧ ∀ (j : Nat) (d : Cd), j < q → cs[j]? = some d → d.s.size ≤ 40) (fun i => n - (intOf i).toNat)
  case atStart => exact ⟨0, Nat.zero_le _, by omega, rfl, fun j d hj => by omega⟩
  case round =>
    obtain ⟨q, hq, hq81, rfl, hsm⟩ := hrel
    have HSM := Lib.hid hsm
    clear hsm
    by_cases hlt : q < n ∧ q < 81
    · obtain ⟨h1, h2⟩ := hlt
      obtain ⟨d, hd⟩ : ∃ d, cs[q]? = some d := ⟨_, List.getElem?_eq_getElem (by rw [HL.out]; exact h1)⟩
      obtain ⟨g, off, rfl, hc⟩ := HC.out (by rw [HL.out]; omega)
      obtain ⟨c0, c1, c2⟩ := hc q d hd
      have hsz := (HI.out q d hd).2.2
      have j1 : (0 : Int) ≤ (q : Int) := by omega
      have j2 : (q : Int) < (n : Int) := by omega
      have j3 : (q : Int) < 81 := by omega
      have n1 : IntKind.i64.wrap ((q : Int) + 1) = (q : Int) + 1 := IntWalk.i64_in _ (by omega)
      have HD := Lib.hid hd
      clear hc hd
      generalize hs : d.s = s at *
      have HS := Lib.hid hs
      clear hs
      by_cases hs40 : s.size ≤ 40
      · have t1 : ¬ (40 : Int) < (s.size : Int) := by omega
        clear hs40
        go_wp2_with fail
        go_round
        case rel =>
          refine ⟨q + 1, by omega, by omega, by go_num, fun j d' hj hd' => ?_⟩
          by_cases e : j = q
          · subst e
            have := HD.out
            rw [hd'] at this
            injection this with this
            subst this
            rw [HS.out]
            omega
          · exact HSM.out j d' (by omega) hd'
        case measure => simp [intOf]; omega
      · have t1 : (40 : Int) < (s.size : Int) := by omega
        clear hs40
        go_wp2_with fail
        refine hal0.mono ?_
        rintro e w1 ⟨rfl, hB⟩
        go_wp2_with fail
        go_ret
        exact ⟨rfl, hB⟩
    · by_cases h80 : 80 < n
      · have j80 : (80 : Int) < (n : Int) := by omega
        rcases (by omega : q = n ∨ (q = 81 ∧ q < n)) with rfl | ⟨rfl, h1⟩
        · have j1 : ¬ ((q : Int) < (q : Int)) := by omega
          go_wp2_with fail
          refine hal0.mono ?_
          rintro e w1 ⟨rfl, hB⟩
          go_wp2_with fail
          go_ret
          exact ⟨rfl, hB⟩
        · have j1 : (81 : Int) < (n : Int) := by omega
          have j2 : ((81 : Nat) : Int) < (n : Int) := by omega
          go_wp2_with fail
          refine hal0.mono ?_
          rintro e w1 ⟨rfl, hB⟩
          go_wp2_with fail
          go_ret
          exact ⟨rfl, hB⟩
      · obtain rfl : q = n := by omega
        clear hlt
        have j80 : ¬ (80 : Int) < (q : Int) := by omega
        have j1 : ¬ ((q : Int) < (q : Int)) := by omega
        go_wp2_with fail
        refine hnew.mono ?_
        rintro e w1 ⟨⟨m, rfl, hM⟩, hB1⟩
        have HM1 := Lib.hid hM
        clear hM
        go_wp2_with fail
        go_loopw [5, 6] (fun a i wr => ∃ (k : Nat) (K L t : List Int), k ≤ q ∧ i = .int .i64 k ∧ a = .int .i64 (t.length : Nat) ∧ t.length ≤ k ∧ K.length ≤ k ∧ L.length ≤ k ∧ MacM (fun i => w.heap.size ≤ i) wr m K L t ∧ Below w.heap.size w wr) (fun _ i _ => q - (intOf i).toNat)
        case atStart => exact ⟨0, [], [], [], Nat.zero_le _, rfl, rfl, Nat.le_refl _, Nat.le_refl _, Nat.le_refl _, HM1.out, hB1⟩
        case round =>
          obtain ⟨k, K, L, t, hk, rfl, rfl, ht, hK, hL, hM, hB⟩ := hrel
          by_cases hlt : k < q
          · obtain ⟨d, hd⟩ : ∃ d, cs[k]? = some d := ⟨_, List.getElem?_eq_getElem (by rw [HL.out]; exact hlt)⟩
            have hC' := HC.out.below hB (Nat.le_refl _)
            obtain ⟨g, off, rfl, hc⟩ := hC' (by rw [HL.out]; omega)
            obtain ⟨c0, c1, c2⟩ := hc k d hd
            have hdd := HI.out k d hd
            have h40 := HSM.out k d hlt hd
            have hG' := hG.below hB (Nat.le_refl _)
            have hdo := Do_any hM (fun i hi => by omega) h40 hdd.1 hdd.2.1 hG'.t1 (by omega) (by omega) (by omega)
            unfold cmdV at hdo
            have hsz := hdd.2.2
            have j0 : (0 : Int) ≤ (k : Int) := by omega
            have j2 : (k : Int) < (q : Int) := by omega
            have n1 : IntKind.i64.wrap ((k : Int) + 1) = (k : Int) + 1 := IntWalk.i64_in _ (by omega)
            have n2 : IntKind.i64.wrap ((t.length : Int) + 1) = (t.length : Int) + 1 := IntWalk.i64_in _ (by omega)
            have hlt' : g < wr.heap.size := World.block_lt_of_cell? wr ⟨g, off + k * 3, none⟩ c0
            have HD := Lib.hid hd
            clear hc hd hdd
            generalize hs : d.s = s at *
            generalize d.a = a at *
            generalize d.b = b at *
            have HS := Lib.hid hs
            have HM := Lib.hid hM
            have HB := Lib.hid hB
            clear hs hM hB
            generalize htl : t.length = tl at *
            have HTL := Lib.hid htl
            clear htl
            go_wp2_with fail
            refine hdo.mono ?_
            rintro e w2 ⟨⟨x, rfl, x16, K', L', t', g1, g2, g3, hM'⟩, hO⟩
            obtain ⟨z1, z2, z3, z4, z5, z6, z7, z8, z9, z10⟩ := x
            have hB2 : Below w.heap.size w w2 := Only.below HB.out hO HB.out.size (fun i q => q)
            have hC2 := HC.out.below hB2 (Nat.le_refl _)
            obtain ⟨g', off', eA, hc⟩ := hC2 (by rw [HL.out]; omega)
            injection eA with eA
            injection eA with eA1 eA2
            subst eA1 eA2
            obtain ⟨b0, b1, b2⟩ := hc k d HD.out
            rw [HS.out] at b0
            have HH := Lib.hid (And.intro g1 (And.intro g2 (And.intro g3 hM')))
            clear g1 g2 g3 hM' hc b1 b2 c0 c1 c2 hdo hC' hC2
            unfold An.cs
            dsimp only at x16 ⊢
            have x16' : (z1 == 16) = false := by simp [x16]
            have b33 := Blk.made w2 33 #[.int .i64 z1, .int .i64 z2, .bool z3, .int .i64 z4, .int .i64 z5, .int .i64 z6, .int .i64 z7, .slice z8 z9 z10]
            have e0 : (w2.alloc (.cells #[.int .i64 z1, .int .i64 z2, .bool z3, .int .i64 z4, .int .i64 z5, .int .i64 z6, .int .i64 z7, .slice z8 z9 z10] 33)).cell? ⟨w2.heap.size, 0, none⟩ = some (.int .i64 z1) := by rw [b33.cell]; rfl
            have hBa : Below w2.heap.size w2 (w2.alloc (.cells #[.int .i64 z1, .int .i64 z2, .bool z3, .int .i64 z4, .int .i64 z5, .int .i64 z6, .int .i64 z7, .slice z8 z9 z10] 33)) := (Below.refl _ w2).alloc (Nat.le_refl _) _
            have a0 := cell_below hBa (Nat.le_refl _) b0
            generalize hW3 : w2.alloc (.cells #[.int .i64 z1, .int .i64 z2, .bool z3, .int .i64 z4, .int .i64 z5, .int .i64 z6, .int .i64 z7, .slice z8 z9 z10] 33) = w3 at *
            go_wp2_with fail
            all_goals (
              obtain ⟨g1, g2, g3, hM'⟩ := HH.out
              have hM3 : MacM (fun i => w.heap.size ≤ i) w3 m K' L' t' := (hM'.below hBa).mono (fun i _ q => by
                have := HB.out.size
                rcases q with q | q
                · exact q.1
                · omega)
              have hB3 := hB2.trans (hBa.mono hB2.size)
              first
              | (have hq : t'.length = tl + 1 := made_yes g3 (by assumption) (by first | exact .inl (by assumption) | exact .inr (.inl (by assumption)) | exact .inr (.inr (by assumption)) | exact or3 (by assumption))
                 exact ⟨⟨k + 1, K', L', t', by omega, by push_cast; rfl, by rw [hq]; push_cast; rfl, by omega, by omega, by omega, hM3, hB3⟩, by simp [intOf]; omega⟩)
              | (have hq : t'.length = tl := made_no g3 (by first | exact .inl (by assumption) | exact .inr ⟨by assumption, by assumption, by assumption⟩ | exact .inr (or3n (by assumption)))
                 exact ⟨⟨k + 1, K', L', t', by omega, by push_cast; rfl, by rw [hq], by omega, by omega, by omega, hM3, hB3⟩, by simp [intOf]; omega⟩))
          · obtain rfl : k = q := by omega
            clear hlt
            have hG' := hG.below hB (Nat.le_refl _)
            have hdo := Do_handles hM hG'.t1
            unfold cmdV at hdo
            have HM := Lib.hid hM
            have HB := Lib.hid hB
            clear hM hB
            generalize htl : t.length = tl at *
            have HTL := Lib.hid htl
            clear htl
            have n2 : IntKind.i64.wrap ((tl : Int) + 2) = (tl : Int) + 2 := IntWalk.i64_in _ (by omega)
            have hmk : ∀ W : World, (Instr.makeSlice 35 (.int .i64 ((tl : Int) + 2)) (.int .i64 ((tl : Int) + 2))).run Tryz.prog W = .ok (.slice (some ⟨W.heap.size, 0, none⟩) (tl + 2) (tl + 2)) (W.alloc (.cells (falses (tl + 2)) 4)) := fun W => by
              have := make_bools (tl + 2) (by omega) W
              push_cast at this
              exact this
            go_wp2_with fail
            refine hdo.mono ?_
            rintro e w2 ⟨⟨x, rfl, x0, xl, xr, xb⟩, hB2⟩
            obtain ⟨z1, z2, z3, z4, z5, z6, z7, HA, z9, z10⟩ := x
            dsimp only at x0 xl xr xb
            subst x0 xl
            unfold An.cs
            dsimp only
            have HX := Lib.hid (And.intro xr xb)
            clear xr xb
            have hfd : ∀ W : World, (Instr.field 33 (.agg #[.int .i64 0, .int .i64 z2, .bool z3, .int .i64 z4, .int .i64 z5, .int .i64 z6, .int .i64 z7, .slice HA L.length z10]) 4).run Tryz.prog W = .ok (.slice HA L.length z10) W := fun _ => by kernel_rfl
            go_wp2_with fail
            have s2 := hB2.size
            have hBw2 := HB.out.trans (hB2.mono HB.out.size)
            have hBa : Below w2.heap.size w2 (w2.alloc (.cells (falses (tl + 2)) 4)) := (Below.refl _ _).alloc (Nat.le_refl _) _
            have lv := LB.made w2 (tl + 2)
            have hg2 : w.heap.size ≤ w2.heap.size := hBw2.size
            have hM3 : MacM (fun i => w.heap.size ≤ i ∧ i < w2.heap.size) (w2.alloc (.cells (falses (tl + 2)) 4)) m K L t := ((HM.out.below hB2).mono fun i hi q => ⟨q, hi⟩).below hBa
            have xr3 := HX.out.1.below hBa (Nat.le_refl _)
            have xb3 : ∀ a, HA = some a → a.block < w2.heap.size ∨ L.length = 0 := by
              rintro a rfl
              by_cases hL0 : 0 < L.length
              · obtain ⟨b, off, e1, e2⟩ := HX.out.1 hL0
                injection e1 with e1
                subst e1
                exact .inl (World.block_lt_of_cell? w2 ⟨b, off + 0, none⟩ (e2 0 hL0))
              · exact .inr (by omega)
            have hB3 := hBw2.trans (hBa.mono hBw2.size)
            have HDF := Lib.hid HM.out.df
            have HRI := Lib.hid HM.out.rise
            have HS0 := Lib.hid (And.intro hM3 (And.intro lv (And.intro xr3 hB3)))
            clear hM3 lv xr3 hB3 hBa hB2 hBw2
            generalize hlv : w2.heap.size = lv at *
            have HXB := Lib.hid xb3
            clear xb3
            go_loopw [10, 11] (fun z i wr => ∃ (k : Nat) (v : Int), k ≤ L.length ∧ i = .int .i64 k ∧ z = .int .i64 v ∧ (∀ j, j < L.length → k ≤ j → v < slotV t (nth L j)) ∧ MacM (fun i => w.heap.size ≤ i ∧ i < lv) wr m K L t ∧ LB wr lv (fun q => decide (∃ j, j < k ∧ nth L j = (q : Int))) (tl + 2) ∧ RI wr HA L ∧ Below w.heap.size w wr) (fun _ i _ => L.length - (intOf i).toNat)
            case atStart =>
              obtain ⟨q1, q2, q3, q4⟩ := HS0.out
              refine ⟨0, -1, Nat.zero_le _, rfl, rfl, fun j hj _ => ?_, q1, q2.congr fun k _ => by simp, q3, q4⟩
              have := (HDF.out.at_ j hj).2.2.2.1
              omega
            case round =>
              obtain ⟨p, v, hp, rfl, rfl, hv, hM, hl, hr, hB⟩ := hrel
              by_cases hlt : p < L.length
              · obtain ⟨b, off, rfl, hc⟩ := hr (by omega)
                have cp := hc p hlt
                have hat := HDF.out.at_ p hlt
                obtain ⟨hx, hhx⟩ : ∃ hx : Nat, nth L p = (hx : Int) := ⟨(nth L p).toNat, by omega⟩
                have hbl : b < lv ∨ L.length = 0 := HXB.out _ rfl
                rw [hhx] at cp hat
                have htl := HTL.out
                have j0 : (0 : Int) ≤ (p : Int) := by omega
                have j1 : (p : Int) < (L.length : Int) := by omega
                have j2 : ¬ ((hx : Int) < 1) := by omega
                have j3 : ¬ ((tl : Int) < (hx : Int)) := by omega
                have j4 : (0 : Int) ≤ (hx : Int) := by omega
                have j5 : (hx : Int) < ((tl + 2 : Nat) : Int) := by omega
                have j5' : (hx : Int) < (tl : Int) + 2 := by omega
                have lc := hl.cell (k := hx) (by omega)
                have hnot : decide (∃ j, j < p ∧ nth L j = (hx : Int)) = false := by
                  apply decide_eq_false
                  rintro ⟨j, h1, h2⟩
                  have := HDF.out.inj j p (by omega) hlt (by rw [h2, hhx])
                  omega
                rw [hnot] at lc
                have lf := hl.frozen hx
                have hvp := hv p hlt (Nat.le_refl _)
                rw [hhx] at hvp
                have n1 : IntKind.i64.wrap ((p : Int) + 1) = (p : Int) + 1 := IntWalk.i64_in _ (by omega)
                have hO1 : Only (fun i => i = lv) wr (wr.setCell ⟨lv, hx, none⟩ (.bool true)) := (Only.refl (fun i => i = lv) wr).put (p := ⟨lv, hx, none⟩) (.inl rfl) _
                have hM1 := hM.only hO1 (fun i q1 q2 => by omega) (fun i q => by omega)
                have hl1 : LB (wr.setCell ⟨lv, hx, none⟩ (.bool true)) lv (fun q => decide (∃ j, j < p + 1 ∧ nth L j = (q : Int))) (tl + 2) := (hl.put hx true).congr fun k hk => by
                  by_cases e : k = hx
                  · subst e
                    rw [if_pos rfl]
                    exact (decide_eq_true ⟨p, by omega, hhx⟩).symm
                  · rw [if_neg e]
                    apply decide_eq_decide.2
                    constructor
                    · rintro ⟨j, h1, h2⟩; exact ⟨j, by omega, h2⟩
                    · rintro ⟨j, h1, h2⟩
                      by_cases ej : j = p
                      · subst ej; rw [hhx] at h2; omega
                      · exact ⟨j, by omega, h2⟩
                have hB1 : Below w.heap.size w (wr.setCell ⟨lv, hx, none⟩ (.bool true)) := hB.setCell (p := ⟨lv, hx, none⟩) (by omega) _
                have hr1 : RI (wr.setCell ⟨lv, hx, none⟩ (.bool true)) (some ⟨b, off, none⟩) L := hr.only_ hO1 (by rintro a e q; cases e; simp at q; omega)
                obtain ⟨b', off', e1, hc1⟩ := hr1 (by omega)
                injection e1 with e1
                injection e1 with e1 e2
                subst e1 e2
                have cp1 := hc1 p hlt
                rw [hhx] at cp1
                have hdo := Do_label (A := (hx : Int)) hM1 (by unfold inH; omega) (hG.below hB1 (Nat.le_refl _)).t1
                rw [ask_live hat.1] at hdo
                unfold cmdV An.or An.cs at hdo
                rw [if_pos rfl] at hdo
                dsimp only at hdo
                have j6 : ¬ (slotV t (hx : Int) ≤ v) := by omega
                have hsv : slotV t (hx : Int) < 4096 := hat.2.2.2.2
                have HV := Lib.hid hv
                have HH1 := Lib.hid (And.intro hM1 (And.intro hl1 (And.intro hr1 hB1)))
                have HHX := Lib.hid hhx
                have HAT := Lib.hid hat
                clear hc hc1 hv hM hM1 hl hl1 hr hr1 hB hB1 hO1 hnot hhx hat
                generalize hsve : slotV t (hx : Int) = sv at *
                have HSV := Lib.hid hsve
                clear hsve
                generalize hW1 : wr.setCell ⟨lv, hx, none⟩ (.bool true) = W1 at *
                go_wp2_with fail
                refine hdo.mono ?_
                rintro e w3 ⟨rfl, hB3⟩
                have b33 := Blk.made w3 33 #[.int .i64 0, .int .i64 sv, .bool false, .int .i64 0, .int .i64 0, .int .i64 0, .int .i64 0, .slice none 0 0]
                have hBa : Below w3.heap.size w3 (w3.alloc (.cells #[.int .i64 0, .int .i64 sv, .bool false, .int .i64 0, .int .i64 0, .int .i64 0, .int .i64 0, .slice none 0 0] 33)) := (Below.refl _ w3).alloc (Nat.le_refl _) _
                obtain ⟨y0, y1, y2, y3, y4, y5, y6, y7⟩ := b33.eight
                go_wp2_with fail
                generalize hW4 : w3.alloc (.cells #[.int .i64 0, .int .i64 sv, .bool false, .int .i64 0, .int .i64 0, .int .i64 0, .int .i64 0, .slice none 0 0] 33) = w4 at *
                have hBW : Below W1.heap.size W1 w4 := hB3.trans (hBa.mono hB3.size)
                obtain ⟨hM1, hl1, hr1, hB1⟩ := HH1.out
                have HS4 := Lib.hid (And.intro (hM1.below hBW) (And.intro (hl1.below hBW hl1.lt) (And.intro (hr1.below hBW (Nat.le_refl _)) (hB1.trans (hBW.mono hB1.size)))))
                clear hM1 hl1 hr1 hB1 hBW hBa hB3 y0 y1 y2 y3 y4 y5 y6 y7 b33 hW4 hdo cp cp1 lc lf hW1 j2 j3 j4 j5 j5' j6
                go_loopw [13] (fun i wr => ∃ (y : Nat), y ≤ L.length ∧ i = .int .i64 y ∧ MacM (fun i => w.heap.size ≤ i ∧ i < lv) wr m K L t ∧ LB wr lv (fun q => decide (∃ j, j < p + 1 ∧ nth L j = (q : Int))) (tl + 2) ∧ RI wr (some ⟨b, off, none⟩) L ∧ Below w.heap.size w wr) (fun i _ => L.length - (intOf i).toNat)
                case atStart =>
                  exact ⟨0, Nat.zero_le _, rfl, HS4.out⟩
                case round =>
                  obtain ⟨y, hy, rfl, hM, hl, hr, hB⟩ := hrel
                  by_cases hlt2 : y < L.length
                  · have hL0 : 0 < L.length := by omega
                    obtain ⟨b', off', e1, hc⟩ := hr hL0
                    injection e1 with e1
                    injection e1 with e1 e2
                    subst e1 e2
                    obtain ⟨hyv, hhy⟩ : ∃ hx : Nat, nth L y = (hx : Int) := ⟨(nth L y).toNat, by have := (HDF.out.at_ y hlt2).2.1; omega⟩
                    have cp := hc p hlt
                    have cy := hc y hlt2
                    have haty := HDF.out.at_ y hlt2
                    rw [HHX.out] at cp
                    rw [hhy] at cy haty
                    have hb2 : befV t (hx : Int) (hyv : Int) = (decide (p < y), 0) := by
                      unfold befV
                      rw [if_pos HAT.out.1, if_pos haty.1]
                      congr 1
                      apply decide_eq_decide.2
                      rw [← HHX.out, ← hhy]
                      constructor
                      · intro q
                        rcases Nat.lt_trichotomy p y with q1 | q1 | q1
                        · exact q1
                        · subst q1; omega
                        · have := HDF.out.ri y p q1 hlt; omega
                      · intro q; exact HDF.out.ri p y q hlt2
                    have k0 : (0 : Int) ≤ (p : Int) := by omega
                    have k1 : (p : Int) < (L.length : Int) := by omega
                    have k2 : (0 : Int) ≤ (y : Int) := by omega
                    have k3 : (y : Int) < (L.length : Int) := by omega
                    have n5 : IntKind.i64.wrap ((y : Int) + 1) = (y : Int) + 1 := IntWalk.i64_in _ (by omega)
                    have ix : inH (hx : Int) := by have := HAT.out; have := HTL.out; unfold inH; omega
                    have iy : inH (hyv : Int) := by have := HTL.out; unfold inH; omega
                    have hBd : Below wr.heap.size wr wr.drew := below_drewN (Below.refl _ _) 1
                    have hBA : Below wr.heap.size wr (wr.alloc (.cells #[.int .i64 0, .int .i64 0, .bool false, .int .i64 0, .int .i64 0, .int .i64 0, .int .i64 0, .slice none 0 0] 33)).drew := below_drewN ((Below.refl _ wr).alloc (Nat.le_refl _) (.cells #[.int .i64 0, .int .i64 0, .bool false, .int .i64 0, .int .i64 0, .int .i64 0, .int .i64 0, .slice none 0 0] 33)) 1
                    have hd1 : Calls Tryz.prog 6 _ wr.drew _ := Do_before (hM.below hBd) ix iy (hG.below (hB.trans (hBd.mono hB.size)) (Nat.le_refl _)).t1
                    have hd2 : Calls Tryz.prog 6 _ (wr.alloc (.cells #[.int .i64 0, .int .i64 0, .bool false, .int .i64 0, .int .i64 0, .int .i64 0, .int .i64 0, .slice none 0 0] 33)).drew _ := Do_before (hM.below hBA) ix iy (hG.below (hB.trans (hBA.mono hB.size)) (Nat.le_refl _)).t1
                    rw [hb2] at hd1 hd2
                    unfold cmdV An.or An.cs at hd1 hd2
                    rw [if_pos rfl] at hd1 hd2
                    dsimp only at hd1 hd2
                    have g0 : wr.drew.cell? ⟨b, off + p, none⟩ = some (.int .i64 (hx : Nat)) := cp
                    have g1 : wr.drew.cell? ⟨b, off + y, none⟩ = some (.int .i64 (hyv : Nat)) := cy
                    have gA0 := cell_below hBA (Nat.le_refl _) cp
                    have gA1 := cell_below hBA (Nat.le_refl _) cy
                    have b7 : Blk (wr.alloc (.cells #[.int .i64 0, .int .i64 0, .bool false, .int .i64 0, .int .i64 0, .int .i64 0, .int .i64 0, .slice none 0 0] 33)).drew wr.heap.size 33 #[.int .i64 0, .int .i64 0, .bool false, .int .i64 0, .int .i64 0, .int .i64 0, .int .i64 0, .slice none 0 0] := Blk.made wr 33 _
                    have hblt : b < wr.heap.size := World.block_lt_of_cell? wr ⟨b, off + p, none⟩ cp
                    have HR := Lib.hid (And.intro hM (And.intro hl (And.intro hr hB)))
                    have HQ := Lib.hid (And.intro hhy haty)
                    clear hM hl hr hB hhy haty hc hb2
                    by_cases hpy : p < y
                    all_goals (
                      first
                      | (have k5 : (p : Int) < (y : Int) := (by omega)
                         rw [decide_eq_true hpy] at hd1 hd2)
                      | (have k5 : ¬ ((p : Int) < (y : Int)) := (by omega)
                         rw [decide_eq_false hpy] at hd1 hd2))
                    all_goals clear hpy
                    · go_wp2_with fail
                      go_region_held3 (fun W => W.cell? ⟨b, off + p, none⟩ = some (.int .i64 (hx : Nat)) ∧ W.cell? ⟨b, off + y, none⟩ = some (.int .i64 (hyv : Nat)))
                        (with_reducible first | exact ⟨g0, g1⟩ | exact ⟨gA0, gA1⟩ | exact ⟨q0, q1⟩ | exact ⟨r0 _, r1 _⟩ | exact ⟨v0 _ _ _ _ _ _ _ _, v1 _ _ _ _ _ _ _ _⟩)
                        ((go_at_call 6
                          first
                            | (refine hd1.mono ?_
                               rintro e w5 ⟨rfl, hB5⟩
                               have hB5' : Below wr.heap.size wr w5 := (by with_reducible exact hBd.trans (hB5.mono hBd.size)))
                            | (refine hd2.mono ?_
                               rintro e w5 ⟨rfl, hB5⟩
                               have k1 := b7.below hB5 b7.lt
                               obtain ⟨y0, y1, y2, y3, y4, y5, y6, y7⟩ := k1.eight
                               obtain ⟨f0, f1, f2, f3, f4, f5, f6, f7⟩ := k1.frozen8
                               have hB5' : Below wr.heap.size wr w5 := (by with_reducible exact hBA.trans (hB5.mono hBA.size))
                               have v0 : ∀ a1 a2 a3 a4 a5 a6 a7 a8, ((((((((w5.setCell ⟨wr.heap.size, 0, none⟩ a1).setCell ⟨wr.heap.size, 1, none⟩ a2).setCell ⟨wr.heap.size, 2, none⟩ a3).setCell ⟨wr.heap.size, 3, none⟩ a4).setCell ⟨wr.heap.size, 4, none⟩ a5).setCell ⟨wr.heap.size, 5, none⟩ a6).setCell ⟨wr.heap.size, 6, none⟩ a7).setCell ⟨wr.heap.size, 7, none⟩ a8).cell? ⟨b, off + p, none⟩ = some (.int .i64 (hx : Nat)) := (fun a1 a2 a3 a4 a5 a6 a7 a8 => cell_below (below_put8 hB5' (Nat.le_refl _) a1 a2 a3 a4 a5 a6 a7 a8) (Nat.le_refl _) cp)
                               have v1 : ∀ a1 a2 a3 a4 a5 a6 a7 a8, ((((((((w5.setCell ⟨wr.heap.size, 0, none⟩ a1).setCell ⟨wr.heap.size, 1, none⟩ a2).setCell ⟨wr.heap.size, 2, none⟩ a3).setCell ⟨wr.heap.size, 3, none⟩ a4).setCell ⟨wr.heap.size, 4, none⟩ a5).setCell ⟨wr.heap.size, 5, none⟩ a6).setCell ⟨wr.heap.size, 6, none⟩ a7).setCell ⟨wr.heap.size, 7, none⟩ a8).cell? ⟨b, off + y, none⟩ = some (.int .i64 (hyv : Nat)) := (fun a1 a2 a3 a4 a5 a6 a7 a8 => cell_below (below_put8 hB5' (Nat.le_refl _) a1 a2 a3 a4 a5 a6 a7 a8) (Nat.le_refl _) cy))
                          have q0 := cell_below hB5' (Nat.le_refl _) cp
                          have q1 := cell_below hB5' (Nat.le_refl _) cy
                          have r0 : ∀ o, (w5.alloc o).cell? ⟨b, off + p, none⟩ = some (.int .i64 (hx : Nat)) := (fun o => cell_below ((Below.refl _ w5).alloc (Nat.le_refl _) o) (Nat.le_refl _) q0)
                          have r1 : ∀ o, (w5.alloc o).cell? ⟨b, off + y, none⟩ = some (.int .i64 (hyv : Nat)) := (fun o => cell_below ((Below.refl _ w5).alloc (Nat.le_refl _) o) (Nat.le_refl _) q1)))
                      all_goals (
                        first
                        | (have k5' := k1.put8 (.int .i64 0) (.int .i64 0) (.bool true) (.int .i64 0) (.int .i64 0) (.int .i64 0) (.int .i64 0) (.slice none 0 0)
                           have hBf := below_put8 hB5' (Nat.le_refl _) (.int .i64 0) (.int .i64 0) (.bool true) (.int .i64 0) (.int .i64 0) (.int .i64 0) (.int .i64 0) (.slice none 0 0)
                           generalize ((((((((w5.setCell ⟨wr.heap.size, 0, none⟩ (.int .i64 0)).setCell ⟨wr.heap.size, 1, none⟩ (.int .i64 0)).setCell ⟨wr.heap.size, 2, none⟩ (.bool true)).setCell ⟨wr.heap.size, 3, none⟩ (.int .i64 0)).setCell ⟨wr.heap.size, 4, none⟩ (.int .i64 0)).setCell ⟨wr.heap.size, 5, none⟩ (.int .i64 0)).setCell ⟨wr.heap.size, 6, none⟩ (.int .i64 0)).setCell ⟨wr.heap.size, 7, none⟩ (.slice none 0 0)) = Wf at *)
                        | (have k5' := Blk.made w5 33 #[.int .i64 0, .int .i64 0, .bool true, .int .i64 0, .int .i64 0, .int .i64 0, .int .i64 0, .slice none 0 0]
                           have hBf := hB5'.alloc hB5'.size (.cells #[.int .i64 0, .int .i64 0, .bool true, .int .i64 0, .int .i64 0, .int .i64 0, .int .i64 0, .slice none 0 0] 33)
                           generalize w5.alloc (.cells #[.int .i64 0, .int .i64 0, .bool true, .int .i64 0, .int .i64 0, .int .i64 0, .int .i64 0, .slice none 0 0] 33) = Wf at *)
                        obtain ⟨x0, x1, x2, x3, x4, x5, x6, x7⟩ := k5'.eight
                        clear hd1 hd2)
                      all_goals go_wp2_with fail
                      all_goals (
                        obtain ⟨hM, hl, hr, hB⟩ := HR.out
                        refine ⟨⟨y + 1, by omega, by push_cast; rfl, hM.below hBf, hl.below hBf hl.lt, hr.below hBf (Nat.le_refl _), hB.trans (hBf.mono hB.size)⟩, by simp [intOf]; omega⟩)
                    · go_wp2_with fail
                      go_region_held3 (fun W => W.cell? ⟨b, off + p, none⟩ = some (.int .i64 (hx : Nat)) ∧ W.cell? ⟨b, off + y, none⟩ = some (.int .i64 (hyv : Nat)))
                        (with_reducible first | exact ⟨g0, g1⟩ | exact ⟨gA0, gA1⟩ | exact ⟨q0, q1⟩ | exact ⟨r0 _, r1 _⟩ | exact ⟨v0 _ _ _ _ _ _ _ _, v1 _ _ _ _ _ _ _ _⟩)
                        ((go_at_call 6
                          first
                            | (refine hd1.mono ?_
                               rintro e w5 ⟨rfl, hB5⟩
                               have hB5' : Below wr.heap.size wr w5 := (by with_reducible exact hBd.trans (hB5.mono hBd.size)))
                            | (refine hd2.mono ?_
                               rintro e w5 ⟨rfl, hB5⟩
                               have k1 := b7.below hB5 b7.lt
                               obtain ⟨y0, y1, y2, y3, y4, y5, y6, y7⟩ := k1.eight
                               obtain ⟨f0, f1, f2, f3, f4, f5, f6, f7⟩ := k1.frozen8
                               have hB5' : Below wr.heap.size wr w5 := (by with_reducible exact hBA.trans (hB5.mono hBA.size))
                               have v0 : ∀ a1 a2 a3 a4 a5 a6 a7 a8, ((((((((w5.setCell ⟨wr.heap.size, 0, none⟩ a1).setCell ⟨wr.heap.size, 1, none⟩ a2).setCell ⟨wr.heap.size, 2, none⟩ a3).setCell ⟨wr.heap.size, 3, none⟩ a4).setCell ⟨wr.heap.size, 4, none⟩ a5).setCell ⟨wr.heap.size, 5, none⟩ a6).setCell ⟨wr.heap.size, 6, none⟩ a7).setCell ⟨wr.heap.size, 7, none⟩ a8).cell? ⟨b, off + p, none⟩ = some (.int .i64 (hx : Nat)) := (fun a1 a2 a3 a4 a5 a6 a7 a8 => cell_below (below_put8 hB5' (Nat.le_refl _) a1 a2 a3 a4 a5 a6 a7 a8) (Nat.le_refl _) cp)
                               have v1 : ∀ a1 a2 a3 a4 a5 a6 a7 a8, ((((((((w5.setCell ⟨wr.heap.size, 0, none⟩ a1).setCell ⟨wr.heap.size, 1, none⟩ a2).setCell ⟨wr.heap.size, 2, none⟩ a3).setCell ⟨wr.heap.size, 3, none⟩ a4).setCell ⟨wr.heap.size, 4, none⟩ a5).setCell ⟨wr.heap.size, 5, none⟩ a6).setCell ⟨wr.heap.size, 6, none⟩ a7).setCell ⟨wr.heap.size, 7, none⟩ a8).cell? ⟨b, off + y, none⟩ = some (.int .i64 (hyv : Nat)) := (fun a1 a2 a3 a4 a5 a6 a7 a8 => cell_below (below_put8 hB5' (Nat.le_refl _) a1 a2 a3 a4 a5 a6 a7 a8) (Nat.le_refl _) cy))
                          have q0 := cell_below hB5' (Nat.le_refl _) cp
                          have q1 := cell_below hB5' (Nat.le_refl _) cy
                          have r0 : ∀ o, (w5.alloc o).cell? ⟨b, off + p, none⟩ = some (.int .i64 (hx : Nat)) := (fun o => cell_below ((Below.refl _ w5).alloc (Nat.le_refl _) o) (Nat.le_refl _) q0)
                          have r1 : ∀ o, (w5.alloc o).cell? ⟨b, off + y, none⟩ = some (.int .i64 (hyv : Nat)) := (fun o => cell_below ((Below.refl _ w5).alloc (Nat.le_refl _) o) (Nat.le_refl _) q1)))
                      all_goals (
                        first
                        | (have k5' := k1.put8 (.int .i64 0) (.int .i64 0) (.bool false) (.int .i64 0) (.int .i64 0) (.int .i64 0) (.int .i64 0) (.slice none 0 0)
                           have hBf := below_put8 hB5' (Nat.le_refl _) (.int .i64 0) (.int .i64 0) (.bool false) (.int .i64 0) (.int .i64 0) (.int .i64 0) (.int .i64 0) (.slice none 0 0)
                           generalize ((((((((w5.setCell ⟨wr.heap.size, 0, none⟩ (.int .i64 0)).setCell ⟨wr.heap.size, 1, none⟩ (.int .i64 0)).setCell ⟨wr.heap.size, 2, none⟩ (.bool false)).setCell ⟨wr.heap.size, 3, none⟩ (.int .i64 0)).setCell ⟨wr.heap.size, 4, none⟩ (.int .i64 0)).setCell ⟨wr.heap.size, 5, none⟩ (.int .i64 0)).setCell ⟨wr.heap.size, 6, none⟩ (.int .i64 0)).setCell ⟨wr.heap.size, 7, none⟩ (.slice none 0 0)) = Wf at *)
                        | (have k5' := Blk.made w5 33 #[.int .i64 0, .int .i64 0, .bool false, .int .i64 0, .int .i64 0, .int .i64 0, .int .i64 0, .slice none 0 0]
                           have hBf := hB5'.alloc hB5'.size (.cells #[.int .i64 0, .int .i64 0, .bool false, .int .i64 0, .int .i64 0, .int .i64 0, .int .i64 0, .slice none 0 0] 33)
                           generalize w5.alloc (.cells #[.int .i64 0, .int .i64 0, .bool false, .int .i64 0, .int .i64 0, .int .i64 0, .int .i64 0, .slice none 0 0] 33) = Wf at *)
                        obtain ⟨x0, x1, x2, x3, x4, x5, x6, x7⟩ := k5'.eight
                        clear hd1 hd2)
                      all_goals go_wp2_with fail
                      all_goals (
                        obtain ⟨hM, hl, hr, hB⟩ := HR.out
                        refine ⟨⟨y + 1, by omega, by push_cast; rfl, hM.below hBf, hl.below hBf hl.lt, hr.below hBf (Nat.le_refl _), hB.trans (hBf.mono hB.size)⟩, by simp [intOf]; omega⟩)
                  · obtain rfl : y = L.length := by omega
                    clear hlt2
                    go_wp2_with fail
                    refine ⟨⟨p + 1, sv, by omega, by push_cast; rfl, rfl, fun j hj1 hj2 => ?_, hM, hl, hr, hB⟩, by simp [intOf]; omega⟩
                    rw [← HSV.out, ← HHX.out]
                    exact HDF.out.ri p j (by omega) hj1
              · obtain rfl : p = L.length := by omega
                clear hlt
                have htl := HTL.out
                have n1 : IntKind.i64.wrap ((tl : Int) + 1) = (tl : Int) + 1 := IntWalk.i64_in _ (by omega)
                have HS5 := Lib.hid (And.intro hM (And.intro hl hB))
                clear hM hl hB hr hv
                go_wp2_with fail
                go_loopw [15] (fun i wr => ∃ (y : Nat), y ≤ tl + 2 ∧ i = .int .i64 y ∧ MacM (fun i => w.heap.size ≤ i ∧ i < lv) wr m K L t ∧ LB wr lv (fun q => decide (∃ j, j < L.length ∧ nth L j = (q : Int))) (tl + 2) ∧ Below w.heap.size w wr) (fun i _ => tl + 2 - (intOf i).toNat)
                case atStart => exact ⟨0, Nat.zero_le _, rfl, HS5.out⟩
                case round =>
                  obtain ⟨y, hy, rfl, hM, hl, hB⟩ := hrel
                  by_cases hlt : y < tl + 2
                  · have k0 : (0 : Int) ≤ (y : Int) := by omega
                    have k1 : (y : Int) ≤ (tl : Int) + 1 := by omega
                    have k2 : (y : Int) < ((tl + 2 : Nat) : Int) := by omega
                    have k3 : (y : Int) < (tl : Int) + 2 := by omega
                    have n5 : IntKind.i64.wrap ((y : Int) + 1) = (y : Int) + 1 := IntWalk.i64_in _ (by omega)
                    have lc := hl.cell (k := y) hlt
                    have hdo := Do_label (A := (y : Int)) hM (by unfold inH; omega) (hG.below hB (Nat.le_refl _)).t1
                    by_cases hex : ∃ j, j < L.length ∧ nth L j = (y : Int)
                    · rw [decide_eq_true hex] at lc
                      have HS6 := Lib.hid (And.intro hM (And.intro hl hB))
                      clear hex hdo hM hl hB
                      go_wp2_with fail
                      obtain ⟨hM, hl, hB⟩ := HS6.out
                      exact ⟨⟨y + 1, by omega, by push_cast; rfl, hM, hl, hB⟩, by simp [intOf]; omega⟩
                    · rw [decide_eq_false hex] at lc
                      have hd : live t (y : Int) = false := by
                        cases hlv : live t (y : Int)
                        · rfl
                        · exact absurd (HDF.out.all _ hlv) hex
                      rw [ask_dead hd] at hdo
                      unfold cmdV An.or at hdo
                      rw [if_neg (by decide)] at hdo
                      unfold anE An.cs at hdo
                      dsimp only at hdo
                      have hfd0 : ∀ W : World, (Instr.field 33 (.agg #[.int .i64 17, .int .i64 0, .bool false, .int .i64 0, .int .i64 0, .int .i64 0, .int .i64 0, .slice none 0 0]) 0).run Tryz.prog W = .ok (.int .i64 17) W := fun _ => by kernel_rfl
                      have HS6 := Lib.hid (And.intro hM (And.intro hl hB))
                      clear hex hM hl hB hd
                      go_wp2_with fail
                      refine hdo.mono ?_
                      rintro e w6 ⟨rfl, hB6⟩
                      go_wp2_with fail
                      obtain ⟨hM, hl, hB⟩ := HS6.out
                      exact ⟨⟨y + 1, by omega, by push_cast; rfl, hM.below hB6, hl.below hB6 hl.lt, hB.trans (hB6.mono hB.size)⟩, by simp [intOf]; omega⟩
                  · obtain rfl : y = tl + 2 := by omega
                    have k1 : ¬ (((tl + 2 : Nat) : Int) ≤ (tl : Int) + 1) := by omega
                    have k1' : ¬ ((tl : Int) + 2 ≤ (tl : Int) + 1) := by omega
                    have hdo := Do_keys hM (hG.below hB (Nat.le_refl _)).t1
                    unfold cmdV at hdo
                    clear hlt hl hy
                    have HB9 := Lib.hid hB
                    clear hB hM
                    go_wp2_with fail
                    refine hdo.mono ?_
                    rintro e w6 ⟨⟨x, rfl, x0, xl, xr, xb⟩, hB6⟩
                    obtain ⟨y1, y2, y3, y4, y5, y6, y7, KA, y9, y10⟩ := x
                    dsimp only at x0 xl xr xb
                    subst x0 xl
                    unfold An.cs
                    dsimp only
                    have hfd4 : ∀ W : World, (Instr.field 33 (.agg #[.int .i64 0, .int .i64 y2, .bool y3, .int .i64 y4, .int .i64 y5, .int .i64 y6, .int .i64 y7, .slice KA K.length y10]) 4).run Tryz.prog W = .ok (.slice KA K.length y10) W := fun _ => by kernel_rfl
                    have hri := Rising_ok (c := y10) rfl xr HRI.out (by omega)
                    have hBw6 := HB9.out.trans (hB6.mono HB9.out.size)
                    clear xr xb hdo
                    go_wp2_with fail
                    refine hri.mono ?_
                    rintro e w7 ⟨rfl, hB7⟩
                    have hBw7 := hBw6.trans (hB7.mono hBw6.size)
                    have hal7 := HAL.out w7 (hG.below hBw7 (Nat.le_refl _))
                    go_wp2_with fail
                    refine hal7.mono ?_
                    rintro e w8 ⟨rfl, hB8⟩
                    go_wp2_with fail
                    go_ret
                    exact ⟨rfl, hBw7.trans (hB8.mono hBw7.size)⟩
end Go.Proofs.YtaonkbfekadalaaGreatDoor
