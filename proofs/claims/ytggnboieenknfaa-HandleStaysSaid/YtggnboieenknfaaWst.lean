/- HandleStays: the walk of the law. -/
import Derived.Test.YtggnboieenknfaaHl
namespace Go.Proofs.Ytggnboieenknfaa
open Go.RowKit Go.Maps
set_option linter.unusedVariables false

def oneCells (o y s : Int) : Array Value := #[.int .i64 o, .int .i64 y, .int .i64 s]

set_option maxRecDepth 1000000 in
set_option maxHeartbeats 3200000 in
theorem HandleStays_in {B : Option Addr} {len lcap : Nat} {zs : List Act3} {o y s : Int} {w : World} (hz : ActsIn w B len zs) (hy : inB y) (h100 : (len : Int) ≤ 100) :
    Calls Try.prog 6 #[.slice B len lcap, .agg #[.int .i64 o, .int .i64 y, .int .i64 s]] w fun e w' => e = .returned (.bool true) ∧ Below w.heap.size w w' := by
  have hbox := Blk.made w 34 (oneCells o y s)
  unfold oneCells at hbox
  have hbx0 : Below w.heap.size w (w.alloc (.cells #[.int .i64 o, .int .i64 y, .int .i64 s] 34)) := (Below.refl _ w).alloc (Nat.le_refl _) _
  have hsz0 : (w.alloc (.cells #[.int .i64 o, .int .i64 y, .int .i64 s] 34)).heap.size = w.heap.size + 1 := by simp
  go_enter Try.func6, Try.ntmps6
  go_wp2_with fail
  generalize w.alloc (.cells #[.int .i64 o, .int .i64 y, .int .i64 s] 34) = w0 at *
  refine (HNew_ok _).mono ?_
  generalize hP : w0.heap.size + 1 = P
  generalize hG : w0.heap.size = G at *
  have hGP : G < P := by omega
  have HG := Lib.hid hG
  clear hG hP
  rintro e w1 ⟨rfl, hm, hb1⟩
  generalize hX : w.heap.size = X at *
  have HX := Lib.hid hX
  clear hX
  have hXG : X < G := by omega
  have hs1 : Solo w X 34 (oneCells o y s) P G [] w1 := ⟨hbox.below hb1 hXG, hm, by rw [HX.out]; exact hbx0.trans (hb1.mono (by omega))⟩
  have hXa : w.heap.size ≤ X := by rw [HX.out]; exact Nat.le_refl _
  clear hbox hbx0 hm hb1 hsz0
  go_wp2_with fail
  go_loopw [6] (fun i wr => ∃ k : Nat, k ≤ len ∧ i = .int .i64 k ∧ Solo w X 34 (oneCells o y s) P G (playF [] zs k) wr) (fun i _ => len - (intOf i).toNat)
  case atStart => exact ⟨0, Nat.zero_le _, rfl, hs1⟩
  case round =>
    clear hs1
    obtain ⟨k, hk, rfl, hT⟩ := hrel
    by_cases hlt : k < len
    · obtain ⟨ab, aoff, rfl, q0, q1, q2⟩ := (hz.below hT.be).at_ hlt
      have j1 : (0 : Int) ≤ (k : Int) := by omega
      have j2 : (k : Int) < (len : Int) := by omega
      have hstep : playF [] zs (k + 1) = (actH (playF [] zs k) (act zs k).o (act zs k).i (act zs k).n).1 := rfl
      have HST := Lib.hid hstep
      have hql := playF_len [] zs k
      have hq1 : (playF [] zs k).length ≤ 1000000 := by simp at hql; omega
      have hin : inB (act zs k).i := (hz.hb k).2.1
      clear hstep hql
      generalize playF [] zs k = q at *
      go_wp2_with fail
      refine (hT.does hq1 hXa hXG hGP _ hin _).mono ?_
      rintro e w4 ⟨rfl, hT4⟩
      go_wp2_with fail
      go_roundw
      case rel => exact ⟨k + 1, by omega, by go_num, by rw [HST.out]; exact hT4⟩
      case measure => simp [intOf]; omega
    · obtain rfl : k = len := by omega
      have hql := playF_len [] zs k
      have hq0 : (playF [] zs k).length ≤ 100 := by simp at hql; omega
      clear hql
      generalize playF [] zs k = q at *
      go_wp2_with fail
      refine (HClone_ok hT.tm).mono ?_
      have hwz := hT.be.size
      have hPw := hT.tm.hp.lt
      generalize hP2 : wr.heap.size + 1 = P2
      generalize hG2 : wr.heap.size = G2 at *
      have h34 : G2 < P2 := by omega
      have HG2 := Lib.hid hG2
      clear hG2 hP2
      rintro e w2 ⟨rfl, hu, hb2⟩
      have hD := hT.clone (by rw [HG2.out]; exact hb2) hu
      clear hT hu hb2
      have hl1 := actH_len q o y s
      have rd : ∀ {W : World} {x z : List Int}, Duo w X 34 (oneCells o y s) P G P2 G2 x z W → W.cell? ⟨X, 0, none⟩ = some (.int .i64 o) ∧ W.cell? ⟨X, 1, none⟩ = some (.int .i64 y) ∧ W.cell? ⟨X, 2, none⟩ = some (.int .i64 s) := by
        intro W x z h
        refine ⟨?_, ?_, ?_⟩ <;> (rw [h.bx.cell]; rfl)
      obtain ⟨a0, a1, a2⟩ := rd hD
      go_wp2_with fail
      refine (hD.does1 (by omega) hXa hXG hGP (by omega) h34 _ hy _).mono ?_
      rintro e w3 ⟨rfl, hD3⟩
      clear a0 a1 a2 hD
      have F0 := @stay_free q o y s
      have F1 := @stay_move q o y s
      have F2 := @stay_same q o y s
      have F3 := @took q o y s
      have F4 := @not_took q o y s
      have F5 : (actH q o y s).1.length = (actH q o y s).1.length := rfl
      rcases hact : actH q o y s with ⟨q', nn, ee⟩
      rw [hact] at hD3 hl1 F0 F1 F2 F3 F4
      clear hact F5
      simp only at hD3 hl1 F0 F1 F2 F3 F4 ⊢
      have hq' : q'.length ≤ 1000000 := by omega
      have hll := liveL_length q
      have hcl := cntL_le q
      go_wp2_with fail
      refine (HAll_n hD3.t2 (by omega)).mono ?_
      rintro e w7 ⟨⟨A7, c7, rfl, hR7⟩, hb7⟩
      have hD7 := hD3.below hb7
      clear hD3 hb7
      go_wp2_with fail
      go_loopw [11] (fun i wv => ∃ j : Nat, j ≤ cntL q ∧ i = .int .i64 j ∧ Duo w X 34 (oneCells o y s) P G P2 G2 q' q wv ∧ RI wv A7 (liveL q)) (fun i _ => cntL q - (intOf i).toNat)
      case atStart => exact ⟨0, Nat.zero_le _, rfl, hD7, hR7⟩
      case round =>
        clear hD7 hR7
        obtain ⟨j, hj, rfl, hD, hR⟩ := hrel
        by_cases hlj : j < cntL q
        · obtain ⟨hlv, hin⟩ := liveL_at (q := q) (by omega) hlj
          obtain ⟨ab, aoff, rfl, hcell⟩ := hR.at_ (by rw [hll]; exact hlj)
          have hS1 := HSlot_any hD.t2 hin
          have hS2 := HSlot_any hD.t1 hin
          obtain ⟨a0, a1, a2⟩ := rd hD
          rw [askV_live hlv] at hS1
          have j1 : (0 : Int) ≤ (j : Int) := by omega
          have j2 : (j : Int) < (cntL q : Nat) := by omega
          have HLL := Lib.hid hll
          clear hll F3 F4 rd
          generalize nth (liveL q) j = hh at *
          generalize cntL q = c at *
          by_cases e1 : hh = y
          · subst e1
            by_cases e2 : ee = 0
            · by_cases e3 : o = 2
              · rw [F0 hlv e2 e3] at hS2
                subst e2
                subst e3
                clear F0 F1 F2
                generalize slotV q hh = sv at *
                go_wp2_with fail
                refine hS1.mono ?_
                rintro e w10 ⟨rfl, rfl⟩
                go_wp2_with fail
                refine hS2.mono ?_
                rintro e w10 ⟨rfl, rfl⟩
                go_wp2_with fail
                go_roundw
                case rel => exact ⟨j + 1, by omega, by go_num, hD, hR⟩
                case measure => simp [intOf]; omega
              · by_cases e4 : o = 1
                · rw [F1 hlv e2 e4] at hS2
                  subst e2
                  subst e4
                  clear F0 F1 F2 e3
                  generalize slotV q hh = sv at *
                  go_wp2_with fail
                  refine hS1.mono ?_
                  rintro e w10 ⟨rfl, rfl⟩
                  go_wp2_with fail
                  refine hS2.mono ?_
                  rintro e w10 ⟨rfl, rfl⟩
                  go_wp2_with fail
                  go_roundw
                  case rel => exact ⟨j + 1, by omega, by go_num, hD, hR⟩
                  case measure => simp [intOf]; omega
                · rw [F2 hlv (fun h => h.2.2.elim e3 e4)] at hS2
                  subst e2
                  have t3 : (o == 2) = false := by simpa using e3
                  have t4 : (o == 1) = false := by simpa using e4
                  clear F0 F1 F2 e3 e4
                  generalize slotV q hh = sv at *
                  go_wp2_with fail
                  refine hS1.mono ?_
                  rintro e w10 ⟨rfl, rfl⟩
                  go_wp2_with fail
                  refine hS2.mono ?_
                  rintro e w10 ⟨rfl, rfl⟩
                  go_wp2_with fail
                  go_roundw
                  case rel => exact ⟨j + 1, by omega, by go_num, hD, hR⟩
                  case measure => simp [intOf]; omega
            · rw [F2 hlv (fun h => e2 h.2.1)] at hS2
              have t2 : (ee == 0) = false := by simpa using e2
              clear F0 F1 F2 e2
              generalize slotV q hh = sv at *
              go_wp2_with fail
              refine hS1.mono ?_
              rintro e w10 ⟨rfl, rfl⟩
              go_wp2_with fail
              refine hS2.mono ?_
              rintro e w10 ⟨rfl, rfl⟩
              go_wp2_with fail
              go_roundw
              case rel => exact ⟨j + 1, by omega, by go_num, hD, hR⟩
              case measure => simp [intOf]; omega
          · rw [F2 hlv (fun h => e1 h.1)] at hS2
            have t1 : (hh == y) = false := by simpa using e1
            clear F0 F1 F2 e1
            generalize slotV q hh = sv at *
            go_wp2_with fail
            refine hS1.mono ?_
            rintro e w10 ⟨rfl, rfl⟩
            go_wp2_with fail
            refine hS2.mono ?_
            rintro e w10 ⟨rfl, rfl⟩
            go_wp2_with fail
            go_roundw
            case rel => exact ⟨j + 1, by omega, by go_num, hD, hR⟩
            case measure => simp [intOf]; omega
        · obtain rfl : j = cntL q := by omega
          obtain ⟨a0, a1, a2⟩ := rd hD
          have hbe := hD.be
          clear F0 F1 F2
          by_cases et : o = 0 ∧ ee = 0
          · obtain ⟨eo, ez⟩ := et
            obtain ⟨eq3, hs0⟩ := F3 eo ez
            clear F3 F4 rd
            injection eq3 with eq1 eq2
            injection eq2 with eq2 _
            subst eq1
            subst eq2
            subst eo
            subst ez
            have hS := HSlot_any hD.t1 (x := (q.length : Int) + 1) ⟨by omega, by omega⟩
            rw [askV_live (by rw [live_snoc q hs0, if_pos rfl]), slotV_nat, nth_snoc_eq] at hS
            have hT2 := HTaken_ok hD.t2
            have hL1 := HLen_ok hD.t1
            have hL2 := HLen_ok hD.t2
            have hcs : ((cntL (q ++ [s]) : Nat) : Int) = (cntL q : Nat) + 1 := by rw [cntL_snoc, if_pos hs0]; omega
            rw [hcs] at hL1
            clear hcs hs0
            have i5 : ((cntL q : Nat) : Int) ≤ 100 := by omega
            have i6 : (q.length : Int) ≤ 100 := by omega
            generalize cntL q = c at *
            go_wp2_with fail
            refine hS.mono ?_
            rintro e w10 ⟨rfl, rfl⟩
            go_wp2_with fail
            refine hT2.mono ?_
            rintro e w10 ⟨rfl, rfl⟩
            go_wp2_with fail
            refine hL1.mono ?_
            rintro e w10 ⟨rfl, rfl⟩
            go_wp2_with fail
            refine hL2.mono ?_
            rintro e w10 ⟨rfl, rfl⟩
            go_wp2_with fail
            refine (awake_any _).mono ?_
            rintro e w11 ⟨rfl, hb11⟩
            go_wp2_with fail
            go_ret
            exact ⟨rfl, hbe.trans (hb11.mono hbe.size)⟩
          · have hT1 := HTaken_ok hD.t1
            have hT2 := HTaken_ok hD.t2
            rw [F4 et] at hT1
            clear F3 F4
            by_cases eo : o = 0
            · have t2 : (ee == 0) = false := by
                have : ¬ ee = 0 := fun h => et ⟨eo, h⟩
                simpa using this
              subst eo
              clear et
              go_wp2_with fail
              refine hT1.mono ?_
              rintro e w10 ⟨rfl, rfl⟩
              go_wp2_with fail
              refine hT2.mono ?_
              rintro e w10 ⟨rfl, rfl⟩
              go_wp2_with fail
              refine (awake_any _).mono ?_
              rintro e w11 ⟨rfl, hb11⟩
              go_wp2_with fail
              go_ret
              exact ⟨rfl, hbe.trans (hb11.mono hbe.size)⟩
            · have t2 : (o == 0) = false := by simpa using eo
              clear et eo
              go_wp2_with fail
              refine hT1.mono ?_
              rintro e w10 ⟨rfl, rfl⟩
              go_wp2_with fail
              refine hT2.mono ?_
              rintro e w10 ⟨rfl, rfl⟩
              go_wp2_with fail
              refine (awake_any _).mono ?_
              rintro e w11 ⟨rfl, hb11⟩
              go_wp2_with fail
              go_ret
              exact ⟨rfl, hbe.trans (hb11.mono hbe.size)⟩

set_option maxRecDepth 1000000 in
set_option maxHeartbeats 3200000 in
theorem HandleStays_any (B : Option Addr) (len lcap : Nat) (zs : List Act3) (o y s : Int) (w : World) (hz : ActsIn w B len zs) (ho : inI o) (hy : inI y) (hs : inI s) :
    Calls Try.prog 6 #[.slice B len lcap, .agg #[.int .i64 o, .int .i64 y, .int .i64 s]] w fun e w' => e = .returned (.bool true) ∧ Below w.heap.size w w' := by
  have hbx0 : Below w.heap.size w (w.alloc (.cells #[.int .i64 o, .int .i64 y, .int .i64 s] 34)) := (Below.refl _ w).alloc (Nat.le_refl _) _
  by_cases h : (len : Int) ≤ 100
  · exact HandleStays_in hz hy h
  · have t : decide (100 < (len : Int)) = true := by simp; omega
    clear h
    go_enter Try.func6, Try.ntmps6
    go_wp2_with fail
    refine (awake_any _).mono ?_
    rintro e w8 ⟨rfl, hb8⟩
    go_wp2_with fail
    go_ret
    exact ⟨rfl, hbx0.trans (hb8.mono hbx0.size)⟩
end Go.Proofs.Ytggnboieenknfaa
