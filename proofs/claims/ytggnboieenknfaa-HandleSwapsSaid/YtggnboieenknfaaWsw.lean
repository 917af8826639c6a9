/- HandleSwaps: the walk of the law. -/
import Derived.Test.YtggnboieenknfaaHl
namespace Go.Proofs.Ytggnboieenknfaa
open Go.RowKit Go.Maps
set_option linter.unusedVariables false

/-- The caller's two calls, boxed. -/
def twoCells (o0 y0 s0 o1 y1 s1 : Int) : Array Value := #[.int .i64 o0, .int .i64 y0, .int .i64 s0, .int .i64 o1, .int .i64 y1, .int .i64 s1]

set_option maxRecDepth 1000000 in
set_option maxHeartbeats 3200000 in
theorem HandleSwaps_in {B : Option Addr} {len lcap : Nat} {zs : List Act3} {o0 y0 s0 o1 y1 s1 : Int} {w : World} (hz : ActsIn w B len zs) (hy0 : inB y0) (hy1 : inB y1) (h60 : (len : Int) ≤ 60) (n0 : o0 ≠ 0) (n1 : o1 ≠ 0) (ny : y0 ≠ y1) :
    Calls Try.prog 5 #[.slice B len lcap, .agg #[.int .i64 o0, .int .i64 y0, .int .i64 s0, .int .i64 o1, .int .i64 y1, .int .i64 s1]] w fun e w' => e = .returned (.bool true) ∧ Below w.heap.size w w' := by
  have t0 : (o0 == 0) = false := by simpa using n0
  have t1 : (o1 == 0) = false := by simpa using n1
  have t2 : (y0 == y1) = false := by simpa using ny
  have hbox := Blk.made w 42 (twoCells o0 y0 s0 o1 y1 s1)
  unfold twoCells at hbox
  have hbx0 : Below w.heap.size w (w.alloc (.cells #[.int .i64 o0, .int .i64 y0, .int .i64 s0, .int .i64 o1, .int .i64 y1, .int .i64 s1] 42)) := (Below.refl _ w).alloc (Nat.le_refl _) _
  have hsz0 : (w.alloc (.cells #[.int .i64 o0, .int .i64 y0, .int .i64 s0, .int .i64 o1, .int .i64 y1, .int .i64 s1] 42)).heap.size = w.heap.size + 1 := by simp
  go_enter Try.func5, Try.ntmps5
  go_wp2_with fail
  generalize w.alloc (.cells #[.int .i64 o0, .int .i64 y0, .int .i64 s0, .int .i64 o1, .int .i64 y1, .int .i64 s1] 42) = w0 at *
  refine (HNew_ok _).mono ?_
  generalize hP : w0.heap.size + 1 = P
  generalize hG : w0.heap.size = G at *
  have hGP : G < P := by omega
  have HG := Lib.hid hG
  clear hG hP
  rintro e w1 ⟨rfl, hm, hb1⟩
  generalize hX : w.heap.size = X at *
  have HX := Lib.hid hX
  clear hX
  have hXG : X < G := by omega
  have hs1 : Solo w X 42 (twoCells o0 y0 s0 o1 y1 s1) P G [] w1 := ⟨hbox.below hb1 hXG, hm, by rw [HX.out]; exact hbx0.trans (hb1.mono (by omega))⟩
  have hXa : w.heap.size ≤ X := by rw [HX.out]; exact Nat.le_refl _
  clear hbox hbx0 hm hb1 hsz0
  go_wp2_with fail
  go_loopw [6] (fun i wr => ∃ k : Nat, k ≤ len ∧ i = .int .i64 k ∧ Solo w X 42 (twoCells o0 y0 s0 o1 y1 s1) P G (playF [] zs k) wr) (fun i _ => len - (intOf i).toNat)
  case atStart => exact ⟨0, Nat.zero_le _, rfl, hs1⟩
  case round =>
    clear hs1
    obtain ⟨k, hk, rfl, hT⟩ := hrel
    by_cases hlt : k < len
    · obtain ⟨ab, aoff, rfl, q0, q1, q2⟩ := (hz.below hT.be).at_ hlt
      have j1 : (0 : Int) ≤ (k : Int) := by omega
      have j2 : (k : Int) < (len : Int) := by omega
      have hstep : playF [] zs (k + 1) = (actH (playF [] zs k) (act zs k).o (act zs k).i (act zs k).n).1 := rfl
      have HST := Lib.hid hstep
      have hql := playF_len [] zs k
      have hq1 : (playF [] zs k).length ≤ 1000000 := by simp at hql; omega
      have hin : inB (act zs k).i := (hz.hb k).2.1
      clear hstep hql
      generalize playF [] zs k = q at *
      go_wp2_with fail
      refine (hT.does hq1 hXa hXG hGP _ hin _).mono ?_
      rintro e w4 ⟨rfl, hT4⟩
      go_wp2_with fail
      go_roundw
      case rel => exact ⟨k + 1, by omega, by go_num, by rw [HST.out]; exact hT4⟩
      case measure => simp [intOf]; omega
    · obtain rfl : k = len := by omega
      have hql := playF_len [] zs k
      have hq0 : (playF [] zs k).length ≤ 60 := by simp at hql; omega
      clear hql
      generalize playF [] zs k = q at *
      go_wp2_with fail
      refine (HClone_ok hT.tm).mono ?_
      have hwz := hT.be.size
      have hPw := hT.tm.hp.lt
      generalize hP2 : wr.heap.size + 1 = P2
      generalize hG2 : wr.heap.size = G2 at *
      have h34 : G2 < P2 := by omega
      have HG2 := Lib.hid hG2
      clear hG2 hP2
      rintro e w2 ⟨rfl, hu, hb2⟩
      have hD := hT.clone (by rw [HG2.out]; exact hb2) hu
      clear hT hu hb2
      have hl1 := actH_len q o0 y0 s0
      have hl2 := actH_len (actH q o0 y0 s0).1 o1 y1 s1
      have hl3 := actH_len q o1 y1 s1
      have hst0 := swap_told n0 n1 q ny s0 s1
      have hst1 := swap_told n1 n0 q (fun e => ny e.symm) s1 s0
      have hsl := swap_list n0 n1 q ny s0 s1
      have rd : ∀ {W : World} {x y : List Int}, Duo w X 42 (twoCells o0 y0 s0 o1 y1 s1) P G P2 G2 x y W → W.cell? ⟨X, 0, none⟩ = some (.int .i64 o0) ∧ W.cell? ⟨X, 1, none⟩ = some (.int .i64 y0) ∧ W.cell? ⟨X, 2, none⟩ = some (.int .i64 s0) ∧ W.cell? ⟨X, 3, none⟩ = some (.int .i64 o1) ∧ W.cell? ⟨X, 4, none⟩ = some (.int .i64 y1) ∧ W.cell? ⟨X, 5, none⟩ = some (.int .i64 s1) := by
        intro W x y h
        refine ⟨?_, ?_, ?_, ?_, ?_, ?_⟩ <;> (rw [h.bx.cell]; rfl)
      obtain ⟨a0, a1, a2, a3, a4, a5⟩ := rd hD
      go_wp2_with fail
      refine (hD.does1 (by omega) hXa hXG hGP (by omega) h34 _ hy0 _).mono ?_
      rintro e w3 ⟨rfl, hD3⟩
      clear a0 a1 a2 a3 a4 a5 hD
      obtain ⟨a0, a1, a2, a3, a4, a5⟩ := rd hD3
      go_wp2_with fail
      refine (hD3.does1 (by omega) hXa hXG hGP (by omega) h34 _ hy1 _).mono ?_
      rintro e w4 ⟨rfl, hD4⟩
      clear a0 a1 a2 a3 a4 a5 hD3
      obtain ⟨a0, a1, a2, a3, a4, a5⟩ := rd hD4
      go_wp2_with fail
      refine (hD4.does2 (by omega) hXa hXG hGP (by omega) h34 _ hy1 _).mono ?_
      rintro e w5 ⟨rfl, hD5⟩
      clear a0 a1 a2 a3 a4 a5 hD4
      obtain ⟨a0, a1, a2, a3, a4, a5⟩ := rd hD5
      go_wp2_with fail
      refine (hD5.does2 (by omega) hXa hXG hGP (by omega) h34 _ hy0 _).mono ?_
      rintro e w6 ⟨rfl, hD6⟩
      clear a0 a1 a2 a3 a4 a5 hD5 rd
      try rw [hst0]
      try rw [hst1]
      rw [hsl] at hD6
      generalize (actH q o0 y0 s0).2 = told0 at *
      generalize (actH q o1 y1 s1).2 = told1 at *
      generalize (actH (actH q o0 y0 s0).1 o1 y1 s1).1 = x at *
      have hx1 : x.length ≤ 1000000 := by omega
      have hx2 : x.length ≤ 1000 := by omega
      clear hl1 hl2 hl3 hst0 hst1 hsl
      have hll := liveL_length x
      have hcl := cntL_le x
      go_wp2_with fail
      refine (HAll_n hD6.t1 hx1).mono ?_
      rintro e w7 ⟨⟨A7, c7, rfl, hR7⟩, hb7⟩
      have hD7 := hD6.below hb7
      go_wp2_with fail
      refine (HAll_n hD7.t2 hx1).mono ?_
      rintro e w8 ⟨⟨A8, c8, rfl, hR8⟩, hb8⟩
      have hD8 := hD7.below hb8
      have hR7' := hR7.below hb8 (Nat.le_refl _)
      go_wp2_with fail
      refine (ints_same hll hR7' hR8 (by omega)).mono ?_
      rintro e w9 ⟨rfl, hb9⟩
      have hD9 := hD8.below hb9
      have hR9 := hR7'.below hb9 (Nat.le_refl _)
      clear hD6 hD7 hD8 hR7 hR7' hR8 hb7 hb8 hb9
      go_wp2_with fail
      go_loopw [17] (fun i wv => ∃ j : Nat, j ≤ cntL x ∧ i = .int .i64 j ∧ Duo w X 42 (twoCells o0 y0 s0 o1 y1 s1) P G P2 G2 x x wv ∧ RI wv A7 (liveL x)) (fun i _ => cntL x - (intOf i).toNat)
      case atStart => exact ⟨0, Nat.zero_le _, rfl, hD9, hR9⟩
      case round =>
        clear hD9 hR9
        obtain ⟨j, hj, rfl, hD, hR⟩ := hrel
        by_cases hlj : j < cntL x
        · obtain ⟨hlv, hin⟩ := liveL_at hx1 hlj
          obtain ⟨ab, aoff, rfl, hcell⟩ := hR.at_ (by rw [hll]; exact hlj)
          have hS1 := HSlot_any hD.t1 hin
          have hS2 := HSlot_any hD.t2 hin
          rw [askV_live hlv] at hS1 hS2
          have j1 : (0 : Int) ≤ (j : Int) := by omega
          have j2 : (j : Int) < (cntL x : Nat) := by omega
          have HLL := Lib.hid hll
          clear hll hlv
          generalize nth (liveL x) j = hh at *
          generalize slotV x hh = sv at *
          generalize cntL x = c at *
          go_wp2_with fail
          refine hS1.mono ?_
          rintro e w10 ⟨rfl, rfl⟩
          go_wp2_with fail
          refine hS2.mono ?_
          rintro e w10 ⟨rfl, rfl⟩
          go_wp2_with fail
          go_roundw
          case rel => exact ⟨j + 1, by omega, by go_num, hD, hR⟩
          case measure => simp [intOf]; omega
        · obtain rfl : j = cntL x := by omega
          go_wp2_with fail
          refine (awake_any _).mono ?_
          rintro e w11 ⟨rfl, hb11⟩
          go_wp2_with fail
          go_ret
          exact ⟨rfl, hD.be.trans (hb11.mono hD.be.size)⟩

set_option maxRecDepth 1000000 in
set_option maxHeartbeats 3200000 in
theorem HandleSwaps_any (B : Option Addr) (len lcap : Nat) (zs : List Act3) (o0 y0 s0 o1 y1 s1 : Int) (w : World) (hz : ActsIn w B len zs) (hy0 : inI y0) (hy1 : inI y1) :
    Calls Try.prog 5 #[.slice B len lcap, .agg #[.int .i64 o0, .int .i64 y0, .int .i64 s0, .int .i64 o1, .int .i64 y1, .int .i64 s1]] w fun e w' => e = .returned (.bool true) ∧ Below w.heap.size w w' := by
  have hbx0 : Below w.heap.size w (w.alloc (.cells #[.int .i64 o0, .int .i64 y0, .int .i64 s0, .int .i64 o1, .int .i64 y1, .int .i64 s1] 42)) := (Below.refl _ w).alloc (Nat.le_refl _) _
  by_cases h : (len : Int) ≤ 60
  · by_cases n0 : o0 = 0
    · subst n0
      go_enter Try.func5, Try.ntmps5
      go_wp2_with fail
      refine (awake_any _).mono ?_
      rintro e w8 ⟨rfl, hb8⟩
      go_wp2_with fail
      go_ret
      exact ⟨rfl, hbx0.trans (hb8.mono hbx0.size)⟩
    · by_cases n1 : o1 = 0
      · subst n1
        have t0 : (o0 == 0) = false := by simpa using n0
        go_enter Try.func5, Try.ntmps5
        go_wp2_with fail
        refine (awake_any _).mono ?_
        rintro e w8 ⟨rfl, hb8⟩
        go_wp2_with fail
        go_ret
        exact ⟨rfl, hbx0.trans (hb8.mono hbx0.size)⟩
      · by_cases ny : y0 = y1
        · subst ny
          have t0 : (o0 == 0) = false := by simpa using n0
          have t1 : (o1 == 0) = false := by simpa using n1
          go_enter Try.func5, Try.ntmps5
          go_wp2_with fail
          refine (awake_any _).mono ?_
          rintro e w8 ⟨rfl, hb8⟩
          go_wp2_with fail
          go_ret
          exact ⟨rfl, hbx0.trans (hb8.mono hbx0.size)⟩
        · exact HandleSwaps_in hz hy0 hy1 h n0 n1 ny
  · have t : decide (60 < (len : Int)) = true := by simp; omega
    clear h
    go_enter Try.func5, Try.ntmps5
    go_wp2_with fail
    refine (awake_any _).mono ?_
    rintro e w8 ⟨rfl, hb8⟩
    go_wp2_with fail
    go_ret
    exact ⟨rfl, hbx0.trans (hb8.mono hbx0.size)⟩
end Go.Proofs.Ytggnboieenknfaa
