/- HandleOnce: the walk of the law. -/
import Derived.Test.YtggnboieenknfaaHj
namespace Go.Proofs.Ytggnboieenknfaa
open Go.RowKit Go.Maps
set_option linter.unusedVariables false

/-- The table and the caller's row of freed handles. -/
structure One (a : World) (P b F : Nat) (q : List Int) (W : World) : Prop where
  tm : TM W P b q
  fr : Blk W F 4 (dcells q)
  be : Below a.heap.size a W
theorem One.alloc {a : World} {P b F : Nat} {q : List Int} {W : World} (h : One a P b F q W) (o : Obj) : One a P b F q (W.alloc o) := ⟨h.tm.alloc o, h.fr.alloc o, h.be.alloc h.be.size o⟩
theorem One.does {a : World} {P b F : Nat} {q : List Int} {W : World} (h : One a P b F q W) (hq : q.length ≤ 1000000) (h1 : P < F) (h2 : b < F) (h3 : a.heap.size ≤ P) (h4 : a.heap.size ≤ b) (o : Int) {i : Int} (hi : inB i) (n : Int) :
    Calls Try.prog 10 #[.pointer (some ⟨P, 0, none⟩), .agg #[.int .i64 o, .int .i64 i, .int .i64 n]] W fun e w' =>
      e = .returned (.tuple #[.int .i64 (actH q o i n).2.1, .int .i64 (actH q o i n).2.2]) ∧ TM w' P b (actH q o i n).1 ∧ Blk w' F 4 (dcells q) ∧ Below a.heap.size a w' ∧ ∀ (g : Nat) (t : TypeId) (cs : Array Value), F < g → Blk W g t cs → Blk w' g t cs := by
  obtain ⟨ht, hr, hb⟩ := h
  refine (does_any ht hq o hi n).mono ?_
  rintro e w' ⟨rfl, ht', hk⟩
  exact ⟨rfl, ht', hr.turn hk (by omega) (by omega), hk.below hb hb.size h3 h4, fun g t cs hg hB => hB.turn hk (by omega) (by omega)⟩

theorem act_take_ok {q : List Int} {y s : Int} (hs : 0 ≤ s ∧ s < 4096) : actH q 0 y s = (q ++ [s], (q.length : Int) + 1, 0) := by simp [actH, takeV, hs]
theorem act_take_bad {q : List Int} {y s : Int} (hs : ¬ (0 ≤ s ∧ s < 4096)) : actH q 0 y s = (q, 0, 10) := by
  unfold actH takeV
  rw [if_pos rfl, if_neg hs]
theorem act_free_ok {q : List Int} {j : Nat} {s : Int} (hl : live q ((j : Int) + 1) = true) : actH q 2 ((j : Int) + 1) s = (q.set j (-1), 0, 0) := by
  unfold actH freeV
  rw [if_neg (by decide), if_neg (by decide), if_pos rfl, if_pos hl, show ((j : Int) + 1 - 1).toNat = j by omega]
theorem act_free_bad {q : List Int} {y s : Int} (hl : live q y = false) : actH q 2 y s = (q, 0, 17) := by
  unfold actH freeV
  rw [if_neg (by decide), if_neg (by decide), if_pos rfl, if_neg (by simp [hl])]
theorem act_else {q : List Int} {o y s : Int} (h0 : ¬ o = 0) (h2 : ¬ o = 2) : ∃ (q' : List Int) (n e : Int), actH q o y s = (q', n, e) ∧ q'.length = q.length ∧ (∀ j, dead q' j = dead q j) ∧ (live q y = false → e = 17) := by
  unfold actH
  rw [if_neg h0, if_neg h2]
  by_cases h1 : o = 1
  · rw [if_pos h1]
    refine ⟨(moveV q y s).1, 0, (moveV q y s).2, rfl, moveV_len q y s, ?_, ?_⟩
    · unfold moveV
      split
      · rename_i hl
        split
        · rename_i hs
          obtain ⟨k, rfl, hk, _⟩ := live_true hl
          rw [show ((k : Int) + 1 - 1).toNat = k by omega]
          exact fun j => dead_set hk hl hs.1 j
        · exact fun j => rfl
      · exact fun j => rfl
    · intro hl; unfold moveV; rw [if_neg (by simp [hl])]
  · rw [if_neg h1]
    exact ⟨q, (askV q y).1, (askV q y).2, rfl, rfl, fun j => rfl, fun hl => by unfold askV; rw [if_neg (by simp [hl])]⟩

set_option maxRecDepth 1000000 in
set_option maxHeartbeats 3200000 in
theorem HandleOnce_in {B : Option Addr} {len lcap : Nat} {zs : List Act3} {w : World} (hz : ActsIn w B len zs) (h150 : (len : Int) ≤ 150) :
    Calls Try.prog 4 #[.slice B len lcap] w fun e w' => e = .returned (.bool true) ∧ Below w.heap.size w w' := by
  have hmb := make_bools
  go_enter Try.func4, Try.ntmps4
  go_wp2_with fail
  refine (HNew_ok _).mono ?_
  generalize hP : w.heap.size + 1 = P
  generalize hG : w.heap.size = G
  have hGP : G < P := by omega
  have HG := Lib.hid hG
  clear hG hP
  rintro e w1 ⟨rfl, hm, hb1⟩
  rw [← HG.out] at hb1
  have hgP := hm.hp.lt
  have hGa : w.heap.size ≤ G := by rw [HG.out]; exact Nat.le_refl _
  have hPa : w.heap.size ≤ P := by omega
  have h0 : One w P G w1.heap.size [] (w1.alloc (.cells (dcells []) 4)) := ⟨hm.alloc _, Blk.made w1 4 _, hb1.alloc hb1.size _⟩
  have hga := hb1.size
  go_wp2_with fail
  have hgG : G < w1.heap.size := by omega
  clear hm hb1 hmb
  generalize hF0 : w1.heap.size = F at *
  clear hF0
  go_loopw [4, 6] (fun tk i wr => ∃ k : Nat, k ≤ len ∧ i = .int .i64 k ∧ tk = .int .i64 ((playF [] zs k).length : Int) ∧ One w P G F (playF [] zs k) wr) (fun _ i _ => len - (intOf i).toNat)
  case atStart => exact ⟨0, Nat.zero_le _, rfl, rfl, h0⟩
  case round =>
    obtain ⟨k, hk, rfl, rfl, hT⟩ := hrel
    by_cases hlt : k < len
    · obtain ⟨ab, aoff, rfl, q0, q1, q2⟩ := (hz.below hT.be).at_ hlt
      have j1 : (0 : Int) ≤ (k : Int) := by omega
      have j2 : (k : Int) < (len : Int) := by omega
      have hstep : playF [] zs (k + 1) = (actH (playF [] zs k) (act zs k).o (act zs k).i (act zs k).n).1 := rfl
      have HST := Lib.hid hstep
      have hql := playF_len [] zs k
      have hq1 : (playF [] zs k).length ≤ 150 := by simp at hql; omega
      have hin : inB (act zs k).i := (hz.hb k).2.1
      clear hstep hql
      generalize playF [] zs k = q at *
      generalize (act zs k).o = oo at *
      generalize (act zs k).i = yy at *
      generalize (act zs k).n = ss at *
      have hT1 := hT.alloc (.cells #[.int .i64 oo, .int .i64 yy, .int .i64 ss] 34)
      have qb := Blk.made wr 34 #[.int .i64 oo, .int .i64 yy, .int .i64 ss]
      have hFw : F < wr.heap.size := hT.fr.lt
      have i5 : (q.length : Int) ≤ 150 := by omega
      have i6 : (0 : Int) ≤ (q.length : Int) := by omega
      have hLive := HLive_any hT1.tm hin
      have hDoes := hT1.does (by omega) hgP hgG hPa hGa oo hin ss
      by_cases y1 : 1 ≤ yy
      · by_cases y2 : yy ≤ (q.length : Int)
        · obtain ⟨j, rfl⟩ : ∃ j : Nat, yy = (j : Int) + 1 := ⟨(yy - 1).toNat, by omega⟩
          have hj : j < q.length := by omega
          have cc : wr.cell? ⟨F, (j + 1) % 200, none⟩ = some (.bool (!live q ((j : Int) + 1))) := by rw [Nat.mod_eq_of_lt (show j + 1 < 200 by omega), hT.fr.cell, dcells_get q (by omega), dead_mid hj]
          cases hlv : live q ((j : Int) + 1)
          · rw [hlv] at cc hLive
            simp only [Bool.not_false] at cc
            by_cases o0 : oo = 0
            · subst o0
              by_cases hs : 0 ≤ ss ∧ ss < 4096
              · rw [act_take_ok hs] at hDoes HST
                go_wp2_with fail
                refine hLive.mono ?_
                rintro e w4 ⟨rfl, rfl⟩
                go_wp2_with fail
                refine hDoes.mono ?_
                rintro e w5 ⟨rfl, hT5, hF5, hb5, hkeep⟩
                have qb5 := hkeep _ _ _ hFw qb
                clear hkeep
                have d0 : w5.cell? ⟨wr.heap.size, 0, none⟩ = some (.int .i64 0) := by rw [qb5.cell]; rfl
                have d1 : w5.cell? ⟨wr.heap.size, 1, none⟩ = some (.int .i64 ((j : Int) + 1)) := by rw [qb5.cell]; rfl
                have hTk := HTaken_ok hT5
                rw [show (((q ++ [ss]).length : Nat) : Int) = (q.length : Int) + 1 by simp] at hTk
                go_wp2_with fail
                refine hTk.mono ?_
                rintro e w6 ⟨rfl, rfl⟩
                go_wp2_with fail
                go_roundw
                case rel => exact ⟨k + 1, by omega, by go_num, by rw [HST.out]; simp, by rw [HST.out]; exact ⟨hT5, by rw [dcells_same (dead_take hs.1)]; exact hF5, hb5⟩⟩
                case measure => simp [intOf]; omega
              · rw [act_take_bad hs] at hDoes HST
                clear hs
                go_wp2_with fail
                refine hLive.mono ?_
                rintro e w4 ⟨rfl, rfl⟩
                go_wp2_with fail
                refine hDoes.mono ?_
                rintro e w5 ⟨rfl, hT5, hF5, hb5, hkeep⟩
                have qb5 := hkeep _ _ _ hFw qb
                clear hkeep
                have d0 : w5.cell? ⟨wr.heap.size, 0, none⟩ = some (.int .i64 0) := by rw [qb5.cell]; rfl
                have d1 : w5.cell? ⟨wr.heap.size, 1, none⟩ = some (.int .i64 ((j : Int) + 1)) := by rw [qb5.cell]; rfl
                have hTk := HTaken_ok hT5
                have _hx := hTk
                go_wp2_with fail
                refine hTk.mono ?_
                rintro e w6 ⟨rfl, rfl⟩
                go_wp2_with fail
                go_roundw
                case rel => exact ⟨k + 1, by omega, by go_num, by rw [HST.out], by rw [HST.out]; exact ⟨hT5, hF5, hb5⟩⟩
                case measure => simp [intOf]; omega
            · by_cases o2 : oo = 2
              · subst o2
                clear o0
                rw [act_free_bad hlv] at hDoes HST
                go_wp2_with fail
                refine hLive.mono ?_
                rintro e w4 ⟨rfl, rfl⟩
                go_wp2_with fail
                refine hDoes.mono ?_
                rintro e w5 ⟨rfl, hT5, hF5, hb5, hkeep⟩
                have qb5 := hkeep _ _ _ hFw qb
                clear hkeep
                have d0 : w5.cell? ⟨wr.heap.size, 0, none⟩ = some (.int .i64 2) := by rw [qb5.cell]; rfl
                have d1 : w5.cell? ⟨wr.heap.size, 1, none⟩ = some (.int .i64 ((j : Int) + 1)) := by rw [qb5.cell]; rfl
                have hTk := HTaken_ok hT5
                have _hx := hTk
                go_wp2_with fail
                refine hTk.mono ?_
                rintro e w6 ⟨rfl, rfl⟩
                go_wp2_with fail
                go_roundw
                case rel => exact ⟨k + 1, by omega, by go_num, by rw [HST.out], by rw [HST.out]; exact ⟨hT5, hF5, hb5⟩⟩
                case measure => simp [intOf]; omega
              · obtain ⟨q', nn, ee, hact, hlq, hdq, hee⟩ := act_else (q := q) (y := ((j : Int) + 1)) (s := ss) o0 o2
                rw [hact] at hDoes HST
                have t0 : (oo == 0) = false := by simpa using o0
                have t2 : (oo == 2) = false := by simpa using o2
                have t3 : (oo != 0) = true := by simpa using o0
                clear hact o2
                obtain rfl : ee = 17 := hee hlv
                clear hee
                go_wp2_with fail
                refine hLive.mono ?_
                rintro e w4 ⟨rfl, rfl⟩
                go_wp2_with fail
                refine hDoes.mono ?_
                rintro e w5 ⟨rfl, hT5, hF5, hb5, hkeep⟩
                have qb5 := hkeep _ _ _ hFw qb
                clear hkeep
                have d0 : w5.cell? ⟨wr.heap.size, 0, none⟩ = some (.int .i64 oo) := by rw [qb5.cell]; rfl
                have d1 : w5.cell? ⟨wr.heap.size, 1, none⟩ = some (.int .i64 ((j : Int) + 1)) := by rw [qb5.cell]; rfl
                have hTk := HTaken_ok hT5
                rw [hlq] at hTk
                go_wp2_with fail
                refine hTk.mono ?_
                rintro e w6 ⟨rfl, rfl⟩
                go_wp2_with fail
                go_roundw
                case rel => exact ⟨k + 1, by omega, by go_num, by rw [HST.out]; rw [hlq], by rw [HST.out]; exact ⟨hT5, by rw [dcells_same hdq]; exact hF5, hb5⟩⟩
                case measure => simp [intOf]; omega
          · rw [hlv] at cc hLive
            simp only [Bool.not_true] at cc
            by_cases o0 : oo = 0
            · subst o0
              by_cases hs : 0 ≤ ss ∧ ss < 4096
              · rw [act_take_ok hs] at hDoes HST
                go_wp2_with fail
                refine hLive.mono ?_
                rintro e w4 ⟨rfl, rfl⟩
                go_wp2_with fail
                refine hDoes.mono ?_
                rintro e w5 ⟨rfl, hT5, hF5, hb5, hkeep⟩
                have qb5 := hkeep _ _ _ hFw qb
                clear hkeep
                have d0 : w5.cell? ⟨wr.heap.size, 0, none⟩ = some (.int .i64 0) := by rw [qb5.cell]; rfl
                have d1 : w5.cell? ⟨wr.heap.size, 1, none⟩ = some (.int .i64 ((j : Int) + 1)) := by rw [qb5.cell]; rfl
                have hTk := HTaken_ok hT5
                rw [show (((q ++ [ss]).length : Nat) : Int) = (q.length : Int) + 1 by simp] at hTk
                go_wp2_with fail
                refine hTk.mono ?_
                rintro e w6 ⟨rfl, rfl⟩
                go_wp2_with fail
                go_roundw
                case rel => exact ⟨k + 1, by omega, by go_num, by rw [HST.out]; simp, by rw [HST.out]; exact ⟨hT5, by rw [dcells_same (dead_take hs.1)]; exact hF5, hb5⟩⟩
                case measure => simp [intOf]; omega
              · rw [act_take_bad hs] at hDoes HST
                clear hs
                go_wp2_with fail
                refine hLive.mono ?_
                rintro e w4 ⟨rfl, rfl⟩
                go_wp2_with fail
                refine hDoes.mono ?_
                rintro e w5 ⟨rfl, hT5, hF5, hb5, hkeep⟩
                have qb5 := hkeep _ _ _ hFw qb
                clear hkeep
                have d0 : w5.cell? ⟨wr.heap.size, 0, none⟩ = some (.int .i64 0) := by rw [qb5.cell]; rfl
                have d1 : w5.cell? ⟨wr.heap.size, 1, none⟩ = some (.int .i64 ((j : Int) + 1)) := by rw [qb5.cell]; rfl
                have hTk := HTaken_ok hT5
                have _hx := hTk
                go_wp2_with fail
                refine hTk.mono ?_
                rintro e w6 ⟨rfl, rfl⟩
                go_wp2_with fail
                go_roundw
                case rel => exact ⟨k + 1, by omega, by go_num, by rw [HST.out], by rw [HST.out]; exact ⟨hT5, hF5, hb5⟩⟩
                case measure => simp [intOf]; omega
            · by_cases o2 : oo = 2
              · subst o2
                clear o0
                rw [act_free_ok hlv] at hDoes HST
                go_wp2_with fail
                refine hLive.mono ?_
                rintro e w4 ⟨rfl, rfl⟩
                go_wp2_with fail
                refine hDoes.mono ?_
                rintro e w5 ⟨rfl, hT5, hF5, hb5, hkeep⟩
                have qb5 := hkeep _ _ _ hFw qb
                clear hkeep
                have d0 : w5.cell? ⟨wr.heap.size, 0, none⟩ = some (.int .i64 2) := by rw [qb5.cell]; rfl
                have d1 : w5.cell? ⟨wr.heap.size, 1, none⟩ = some (.int .i64 ((j : Int) + 1)) := by rw [qb5.cell]; rfl
                have c5 : w5.cell? ⟨F, (j + 1) % 200, none⟩ = some (.bool (dead q (j + 1))) := by rw [Nat.mod_eq_of_lt (show j + 1 < 200 by omega), hF5.cell, dcells_get q (by omega)]
                have f5 := hF5.frozen ((j + 1) % 200)
                have hT6 : TM (w5.setCell ⟨F, (j + 1) % 200, none⟩ (.bool true)) P G (q.set j (-1)) := hT5.grown (grown_put w5 F _ _) (by intro e; injection e with e; omega) (by intro e; injection e with e; omega)
                have hF6 : Blk (w5.setCell ⟨F, (j + 1) % 200, none⟩ (.bool true)) F 4 (dcells (q.set j (-1))) := by
                  have := hF5.put ((j + 1) % 200) (.bool true)
                  rw [← dcells_free hj]
                  rw [show (dcells q).setIfInBounds (j + 1) (.bool true) = (dcells q).setIfInBounds ((j + 1) % 200) (.bool true) by rw [Nat.mod_eq_of_lt (show j + 1 < 200 by omega)]]
                  exact this
                have hb6 : Below w.heap.size w (w5.setCell ⟨F, (j + 1) % 200, none⟩ (.bool true)) := hb5.setCell (p := ⟨F, (j + 1) % 200, none⟩) hga _
                have hTk := HTaken_ok hT6
                simp only [List.length_set] at hTk
                go_wp2_with fail
                refine hTk.mono ?_
                rintro e w6 ⟨rfl, rfl⟩
                go_wp2_with fail
                go_roundw
                case rel => exact ⟨k + 1, by omega, by go_num, by rw [HST.out]; simp, by rw [HST.out]; exact ⟨hT6, hF6, hb6⟩⟩
                case measure => simp [intOf]; omega
              · obtain ⟨q', nn, ee, hact, hlq, hdq, hee⟩ := act_else (q := q) (y := ((j : Int) + 1)) (s := ss) o0 o2
                rw [hact] at hDoes HST
                have t0 : (oo == 0) = false := by simpa using o0
                have t2 : (oo == 2) = false := by simpa using o2
                have t3 : (oo != 0) = true := by simpa using o0
                clear hact o2
                clear hee
                go_wp2_with fail
                refine hLive.mono ?_
                rintro e w4 ⟨rfl, rfl⟩
                go_wp2_with fail
                refine hDoes.mono ?_
                rintro e w5 ⟨rfl, hT5, hF5, hb5, hkeep⟩
                have qb5 := hkeep _ _ _ hFw qb
                clear hkeep
                have d0 : w5.cell? ⟨wr.heap.size, 0, none⟩ = some (.int .i64 oo) := by rw [qb5.cell]; rfl
                have d1 : w5.cell? ⟨wr.heap.size, 1, none⟩ = some (.int .i64 ((j : Int) + 1)) := by rw [qb5.cell]; rfl
                have hTk := HTaken_ok hT5
                rw [hlq] at hTk
                go_wp2_with fail
                refine hTk.mono ?_
                rintro e w6 ⟨rfl, rfl⟩
                go_wp2_with fail
                go_roundw
                case rel => exact ⟨k + 1, by omega, by go_num, by rw [HST.out]; rw [hlq], by rw [HST.out]; exact ⟨hT5, by rw [dcells_same hdq]; exact hF5, hb5⟩⟩
                case measure => simp [intOf]; omega
        · have hlv := live_hi (r := q) y2
          rw [hlv] at hLive
          have t : decide (yy ≤ (q.length : Int)) = false := by simp; omega
          clear y2
          by_cases o0 : oo = 0
          · subst o0
            by_cases hs : 0 ≤ ss ∧ ss < 4096
            · rw [act_take_ok hs] at hDoes HST
              go_wp2_with fail
              refine hLive.mono ?_
              rintro e w4 ⟨rfl, rfl⟩
              go_wp2_with fail
              refine hDoes.mono ?_
              rintro e w5 ⟨rfl, hT5, hF5, hb5, hkeep⟩
              have qb5 := hkeep _ _ _ hFw qb
              clear hkeep
              have d0 : w5.cell? ⟨wr.heap.size, 0, none⟩ = some (.int .i64 0) := by rw [qb5.cell]; rfl
              have d1 : w5.cell? ⟨wr.heap.size, 1, none⟩ = some (.int .i64 yy) := by rw [qb5.cell]; rfl
              have hTk := HTaken_ok hT5
              rw [show (((q ++ [ss]).length : Nat) : Int) = (q.length : Int) + 1 by simp] at hTk
              go_wp2_with fail
              refine hTk.mono ?_
              rintro e w6 ⟨rfl, rfl⟩
              go_wp2_with fail
              go_roundw
              case rel => exact ⟨k + 1, by omega, by go_num, by rw [HST.out]; simp, by rw [HST.out]; exact ⟨hT5, by rw [dcells_same (dead_take hs.1)]; exact hF5, hb5⟩⟩
              case measure => simp [intOf]; omega
            · rw [act_take_bad hs] at hDoes HST
              clear hs
              go_wp2_with fail
              refine hLive.mono ?_
              rintro e w4 ⟨rfl, rfl⟩
              go_wp2_with fail
              refine hDoes.mono ?_
              rintro e w5 ⟨rfl, hT5, hF5, hb5, hkeep⟩
              have qb5 := hkeep _ _ _ hFw qb
              clear hkeep
              have d0 : w5.cell? ⟨wr.heap.size, 0, none⟩ = some (.int .i64 0) := by rw [qb5.cell]; rfl
              have d1 : w5.cell? ⟨wr.heap.size, 1, none⟩ = some (.int .i64 yy) := by rw [qb5.cell]; rfl
              have hTk := HTaken_ok hT5
              have _hx := hTk
              go_wp2_with fail
              refine hTk.mono ?_
              rintro e w6 ⟨rfl, rfl⟩
              go_wp2_with fail
              go_roundw
              case rel => exact ⟨k + 1, by omega, by go_num, by rw [HST.out], by rw [HST.out]; exact ⟨hT5, hF5, hb5⟩⟩
              case measure => simp [intOf]; omega
          · by_cases o2 : oo = 2
            · subst o2
              clear o0
              rw [act_free_bad hlv] at hDoes HST
              go_wp2_with fail
              refine hLive.mono ?_
              rintro e w4 ⟨rfl, rfl⟩
              go_wp2_with fail
              refine hDoes.mono ?_
              rintro e w5 ⟨rfl, hT5, hF5, hb5, hkeep⟩
              have qb5 := hkeep _ _ _ hFw qb
              clear hkeep
              have d0 : w5.cell? ⟨wr.heap.size, 0, none⟩ = some (.int .i64 2) := by rw [qb5.cell]; rfl
              have d1 : w5.cell? ⟨wr.heap.size, 1, none⟩ = some (.int .i64 yy) := by rw [qb5.cell]; rfl
              have hTk := HTaken_ok hT5
              have _hx := hTk
              go_wp2_with fail
              refine hTk.mono ?_
              rintro e w6 ⟨rfl, rfl⟩
              go_wp2_with fail
              go_roundw
              case rel => exact ⟨k + 1, by omega, by go_num, by rw [HST.out], by rw [HST.out]; exact ⟨hT5, hF5, hb5⟩⟩
              case measure => simp [intOf]; omega
            · obtain ⟨q', nn, ee, hact, hlq, hdq, hee⟩ := act_else (q := q) (y := yy) (s := ss) o0 o2
              rw [hact] at hDoes HST
              have t0 : (oo == 0) = false := by simpa using o0
              have t2 : (oo == 2) = false := by simpa using o2
              have t3 : (oo != 0) = true := by simpa using o0
              clear hact o2
              obtain rfl : ee = 17 := hee hlv
              clear hee
              go_wp2_with fail
              refine hLive.mono ?_
              rintro e w4 ⟨rfl, rfl⟩
              go_wp2_with fail
              refine hDoes.mono ?_
              rintro e w5 ⟨rfl, hT5, hF5, hb5, hkeep⟩
              have qb5 := hkeep _ _ _ hFw qb
              clear hkeep
              have d0 : w5.cell? ⟨wr.heap.size, 0, none⟩ = some (.int .i64 oo) := by rw [qb5.cell]; rfl
              have d1 : w5.cell? ⟨wr.heap.size, 1, none⟩ = some (.int .i64 yy) := by rw [qb5.cell]; rfl
              have hTk := HTaken_ok hT5
              rw [hlq] at hTk
              go_wp2_with fail
              refine hTk.mono ?_
              rintro e w6 ⟨rfl, rfl⟩
              go_wp2_with fail
              go_roundw
              case rel => exact ⟨k + 1, by omega, by go_num, by rw [HST.out]; rw [hlq], by rw [HST.out]; exact ⟨hT5, by rw [dcells_same hdq]; exact hF5, hb5⟩⟩
              case measure => simp [intOf]; omega
      · have hlv := live_lo (r := q) y1
        rw [hlv] at hLive
        have t : decide (1 ≤ yy) = false := by simp; omega
        clear y1
        by_cases o0 : oo = 0
        · subst o0
          by_cases hs : 0 ≤ ss ∧ ss < 4096
          · rw [act_take_ok hs] at hDoes HST
            go_wp2_with fail
            refine hLive.mono ?_
            rintro e w4 ⟨rfl, rfl⟩
            go_wp2_with fail
            refine hDoes.mono ?_
            rintro e w5 ⟨rfl, hT5, hF5, hb5, hkeep⟩
            have qb5 := hkeep _ _ _ hFw qb
            clear hkeep
            have d0 : w5.cell? ⟨wr.heap.size, 0, none⟩ = some (.int .i64 0) := by rw [qb5.cell]; rfl
            have d1 : w5.cell? ⟨wr.heap.size, 1, none⟩ = some (.int .i64 yy) := by rw [qb5.cell]; rfl
            have hTk := HTaken_ok hT5
            rw [show (((q ++ [ss]).length : Nat) : Int) = (q.length : Int) + 1 by simp] at hTk
            go_wp2_with fail
            refine hTk.mono ?_
            rintro e w6 ⟨rfl, rfl⟩
            go_wp2_with fail
            go_roundw
            case rel => exact ⟨k + 1, by omega, by go_num, by rw [HST.out]; simp, by rw [HST.out]; exact ⟨hT5, by rw [dcells_same (dead_take hs.1)]; exact hF5, hb5⟩⟩
            case measure => simp [intOf]; omega
          · rw [act_take_bad hs] at hDoes HST
            clear hs
            go_wp2_with fail
            refine hLive.mono ?_
            rintro e w4 ⟨rfl, rfl⟩
            go_wp2_with fail
            refine hDoes.mono ?_
            rintro e w5 ⟨rfl, hT5, hF5, hb5, hkeep⟩
            have qb5 := hkeep _ _ _ hFw qb
            clear hkeep
            have d0 : w5.cell? ⟨wr.heap.size, 0, none⟩ = some (.int .i64 0) := by rw [qb5.cell]; rfl
            have d1 : w5.cell? ⟨wr.heap.size, 1, none⟩ = some (.int .i64 yy) := by rw [qb5.cell]; rfl
            have hTk := HTaken_ok hT5
            have _hx := hTk
            go_wp2_with fail
            refine hTk.mono ?_
            rintro e w6 ⟨rfl, rfl⟩
            go_wp2_with fail
            go_roundw
            case rel => exact ⟨k + 1, by omega, by go_num, by rw [HST.out], by rw [HST.out]; exact ⟨hT5, hF5, hb5⟩⟩
            case measure => simp [intOf]; omega
        · by_cases o2 : oo = 2
          · subst o2
            clear o0
            rw [act_free_bad hlv] at hDoes HST
            go_wp2_with fail
            refine hLive.mono ?_
            rintro e w4 ⟨rfl, rfl⟩
            go_wp2_with fail
            refine hDoes.mono ?_
            rintro e w5 ⟨rfl, hT5, hF5, hb5, hkeep⟩
            have qb5 := hkeep _ _ _ hFw qb
            clear hkeep
            have d0 : w5.cell? ⟨wr.heap.size, 0, none⟩ = some (.int .i64 2) := by rw [qb5.cell]; rfl
            have d1 : w5.cell? ⟨wr.heap.size, 1, none⟩ = some (.int .i64 yy) := by rw [qb5.cell]; rfl
            have hTk := HTaken_ok hT5
            have _hx := hTk
            go_wp2_with fail
            refine hTk.mono ?_
            rintro e w6 ⟨rfl, rfl⟩
            go_wp2_with fail
            go_roundw
            case rel => exact ⟨k + 1, by omega, by go_num, by rw [HST.out], by rw [HST.out]; exact ⟨hT5, hF5, hb5⟩⟩
            case measure => simp [intOf]; omega
          · obtain ⟨q', nn, ee, hact, hlq, hdq, hee⟩ := act_else (q := q) (y := yy) (s := ss) o0 o2
            rw [hact] at hDoes HST
            have t0 : (oo == 0) = false := by simpa using o0
            have t2 : (oo == 2) = false := by simpa using o2
            have t3 : (oo != 0) = true := by simpa using o0
            clear hact o2
            obtain rfl : ee = 17 := hee hlv
            clear hee
            go_wp2_with fail
            refine hLive.mono ?_
            rintro e w4 ⟨rfl, rfl⟩
            go_wp2_with fail
            refine hDoes.mono ?_
            rintro e w5 ⟨rfl, hT5, hF5, hb5, hkeep⟩
            have qb5 := hkeep _ _ _ hFw qb
            clear hkeep
            have d0 : w5.cell? ⟨wr.heap.size, 0, none⟩ = some (.int .i64 oo) := by rw [qb5.cell]; rfl
            have d1 : w5.cell? ⟨wr.heap.size, 1, none⟩ = some (.int .i64 yy) := by rw [qb5.cell]; rfl
            have hTk := HTaken_ok hT5
            rw [hlq] at hTk
            go_wp2_with fail
            refine hTk.mono ?_
            rintro e w6 ⟨rfl, rfl⟩
            go_wp2_with fail
            go_roundw
            case rel => exact ⟨k + 1, by omega, by go_num, by rw [HST.out]; rw [hlq], by rw [HST.out]; exact ⟨hT5, by rw [dcells_same hdq]; exact hF5, hb5⟩⟩
            case measure => simp [intOf]; omega
    · obtain rfl : k = len := by omega
      have hql := playF_len [] zs k
      have hq1 : (playF [] zs k).length ≤ 150 := by simp at hql; omega
      generalize playF [] zs k = q at *
      have hcl := cntL_le q
      have i5 : (q.length : Int) ≤ 150 := by omega
      have i6 : (0 : Int) ≤ (q.length : Int) := by omega
      go_wp2_with fail
      refine (HAll_n hT.tm (by omega)).mono ?_
      rintro e w4 ⟨⟨A4, c4, rfl, hR4⟩, hb4⟩
      have hT4 : One w P G F q w4 := ⟨hT.tm.below hb4, hT.fr.below hb4 hT.fr.lt, hT.be.trans (hb4.mono hT.be.size)⟩
      clear hT hb4 h0
      go_wp2_with fail
      go_loopw [12, 13] (fun kk hh wv => ∃ j : Nat, j ≤ q.length ∧ kk = .int .i64 ((liveTo q j).length : Nat) ∧ hh = .int .i64 ((j : Int) + 1) ∧ One w P G F q wv ∧ RI wv A4 (liveL q)) (fun _ hh _ => q.length + 1 - (intOf hh).toNat)
      case atStart => exact ⟨0, Nat.zero_le _, rfl, rfl, hT4, hR4⟩
      case round =>
        clear hT4 hR4
        obtain ⟨j, hj, rfl, rfl, hT, hR⟩ := hrel
        by_cases hlj : j < q.length
        · have j3 : (0 : Int) ≤ (j : Int) := by omega
          have j4 : (j : Int) + 1 ≤ (q.length : Int) := by omega
          have cc := hT.fr.cell (j + 1)
          rw [dcells_get q (by omega), dead_mid hlj] at cc
          have hLive := HLive_any hT.tm (x := (j : Int) + 1) ⟨by omega, by omega⟩
          have hsucc := liveTo_succ q j
          have j6 : (j : Int) + 1 < 200 := by omega
          cases hlv : live q ((j : Int) + 1)
          · rw [hlv] at cc hLive hsucc
            simp only [Bool.not_false, Bool.false_eq_true, if_false, List.append_nil] at cc hsucc
            clear hlv
            go_wp2_with fail
            refine hLive.mono ?_
            rintro e w5 ⟨rfl, rfl⟩
            go_wp2_with fail
            go_roundw
            case rel => exact ⟨j + 1, by omega, by rw [hsucc], by go_num, hT, hR⟩
            case measure => simp [intOf]; omega
          · have hnth := liveL_nth hlj hlv
            rw [hlv] at cc hLive hsucc
            simp only [Bool.not_true, if_true] at cc hsucc
            clear hlv
            obtain ⟨hn1, hn2⟩ := hnth
            obtain ⟨ab, aoff, rfl, hcell⟩ := hR.at_ hn1
            rw [hn2] at hcell
            rw [liveL_length] at hn1
            have hlen : (liveTo q (j + 1)).length = (liveTo q j).length + 1 := by rw [hsucc]; simp
            clear hsucc hn2
            have HLN := Lib.hid hlen
            clear hlen
            generalize (liveTo q j).length = kk at *
            have j7 : (kk : Int) < (cntL q : Nat) := by omega
            have j8 : ¬ ((cntL q : Nat) : Int) ≤ (kk : Int) := by omega
            have j9 : (0 : Int) ≤ (kk : Int) := by omega
            have j10 : ((cntL q : Nat) : Int) ≤ 150 := by omega
            go_wp2_with fail
            refine hLive.mono ?_
            rintro e w5 ⟨rfl, rfl⟩
            go_wp2_with fail
            go_roundw
            case rel => exact ⟨j + 1, by omega, by rw [HLN.out]; go_num, by go_num, hT, hR⟩
            case measure => simp [intOf]; omega
        · obtain rfl : j = q.length := by omega
          have hll : (liveTo q q.length).length = cntL q := liveL_length q
          rw [hll]
          have hl0 := HLive_any hT.tm (x := 0) ⟨by omega, by omega⟩
          rw [live_lo (by omega)] at hl0
          have hl1 := HLive_any hT.tm (x := (q.length : Int) + 1) ⟨by omega, by omega⟩
          rw [live_hi (by omega)] at hl1
          have hLen := HLen_ok hT.tm
          generalize hcc : cntL q = c at *
          have k3 : (q.length : Int) < (q.length : Int) + 1 := by omega
          have k4 : ¬ (q.length : Int) + 1 ≤ (q.length : Int) := by omega
          have hbe := hT.be
          go_wp2_with fail
          refine hLen.mono ?_
          rintro e w5 ⟨rfl, rfl⟩
          go_wp2_with fail
          refine hl0.mono ?_
          rintro e w5 ⟨rfl, rfl⟩
          go_wp2_with fail
          refine hl1.mono ?_
          rintro e w5 ⟨rfl, rfl⟩
          go_wp2_with fail
          refine (awake_any _).mono ?_
          rintro e w8 ⟨rfl, hb8⟩
          go_wp2_with fail
          go_ret
          exact ⟨rfl, hbe.trans (hb8.mono hbe.size)⟩

set_option maxRecDepth 1000000 in
theorem HandleOnce_any (B : Option Addr) (len lcap : Nat) (zs : List Act3) (w : World) (hz : ActsIn w B len zs) :
    Calls Try.prog 4 #[.slice B len lcap] w fun e w' => e = .returned (.bool true) ∧ Below w.heap.size w w' := by
  by_cases h : (len : Int) ≤ 150
  · exact HandleOnce_in hz h
  · have t : decide (150 < (len : Int)) = true := by simp; omega
    clear h
    go_enter Try.func4, Try.ntmps4
    go_wp2_with fail
    refine (awake_any _).mono ?_
    rintro e w8 ⟨rfl, hb8⟩
    go_wp2_with fail
    go_ret
    exact ⟨rfl, hb8⟩
end Go.Proofs.Ytggnboieenknfaa

