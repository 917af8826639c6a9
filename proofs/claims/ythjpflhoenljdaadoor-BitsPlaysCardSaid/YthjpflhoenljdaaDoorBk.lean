/- A row behind acts, and the document's row: made. -/
import Derived.Test.YthjpflhoenljdaaDoorBj
import Derived.Test.YthjpflhoenljdaaDoorAr
namespace Go.Proofs.YthjpflhoenljdaaDoor
open Go.RowKit
set_option linter.unusedVariables false

/-- The row behind the first k acts. -/
def playB (r : List Bool) (zs : List Act2) : Nat → List Bool
  | 0 => r
  | k + 1 => (setB (playB r zs k) (act zs k).i (act zs k).b).1
theorem playB_succ (r : List Bool) (zs : List Act2) (k : Nat) : playB r zs (k + 1) = (setB (playB r zs k) (act zs k).i (act zs k).b).1 := rfl
theorem playB_len (r : List Bool) (zs : List Act2) (k : Nat) : (playB r zs k).length = r.length := by
  induction k with
  | zero => rfl
  | succ k ih => rw [playB_succ, setB_len, ih]

theorem Tryd.infoB : (Tryd.prog.info? 4).map (fun i => (i.zero, i.size, i.bytes)) = some (some (.bool false), 1, 1) := by kernel_rfl
def falses (n : Nat) : Array Value := (List.replicate n (Value.bool false)).toArray
theorem made_falses (n : Nat) : madeCells #[.bool false] (n * 1) = falses n := by
  apply Array.ext
  · simp [madeCells, falses]
  · intro i h1 h2
    simp [madeCells, falses, Nat.mod_one]
theorem make_bools (n : Nat) (hn : n ≤ 4398046511104) (W : World) :
    (Instr.makeSlice 26 (.int .i64 (n : Int)) (.int .i64 (n : Int))).run Tryd.prog W = .ok (.slice (some ⟨W.heap.size, 0, none⟩) n n) (W.alloc (.cells (falses n) 4)) := by
  obtain ⟨i0, hi, hz0, hz1, hz2⟩ := info_parts Tryd.infoB
  have h := run_make (P := Tryd.prog) W 26 4 i0 (.bool false) Tryd.underlying26 hi hz0 .i64 .i64 (n : Int) (n : Int) (by omega) (by omega) (by rw [hz2]; omega) (by omega)
  rw [h, hz1]
  simp only [Int.toNat_natCast, Value.cells, made_falses]
theorem BB_offs {w : World} {g n : Nat} (h : Blk w g 4 (falses n)) : BB w g (offs n) := ⟨_, h, fun k hk => by
  rw [offs_len] at hk
  rw [on_offs]; simp [falses, hk]⟩

/-- The row and the document's row beside each other. -/
structure Duo (a : World) (P G Q n : Nat) (r y : List Bool) (W : World) : Prop where
  bm : BM W P G (nw n) n r
  bb : BB W Q y
  be : Below a.heap.size a W
section
variable {a W W' : World} {P G Q n : Nat} {r y : List Bool}
theorem Duo.drewN (h : Duo a P G Q n r y W) (d : Nat) : Duo a P G Q n r y (W.drewN d) := ⟨h.bm.drewN d, h.bb.drewN d, below_drewN h.be d⟩
theorem Duo.below (h : Duo a P G Q n r y W) (hb : Below W.heap.size W W') : Duo a P G Q n r y W' := ⟨h.bm.below hb, h.bb.below hb, below_ge h.be hb (Nat.le_refl _)⟩
theorem duo_set (h : Duo a P G Q n r y W) (hne : Q ≠ G) (hG : a.heap.size ≤ G) (i : Int) (b : Bool) :
    Calls Tryd.prog 20 #[.pointer (some ⟨P, 0, none⟩), .int .i64 i, .bool b] W fun e w' => e = .returned (.int .i64 (setB r i b).2) ∧ Duo a P G Q n (setB r i b).1 y w' := by
  refine (BSet_any h.bm i b).mono ?_
  rintro e w' ⟨rfl, hm, hg⟩
  exact ⟨rfl, hm, h.bb.grown hg (fun e => by injection e with e; exact hne e), h.be.grown hg h.be.size (row_some hG)⟩
theorem Duo.put (h : Duo a P G Q n r y W) (hne : G ≠ Q) (hnp : P ≠ Q) (hQ : a.heap.size ≤ Q) {i : Nat} (hi : i < y.length) (b : Bool) : Duo a P G Q n r (y.set i b) (W.setCell ⟨Q, i, none⟩ (.bool b)) :=
  ⟨h.bm.far hnp hne _, h.bb.put hi b, h.be.setCell hQ _⟩
end

set_option maxRecDepth 100000 in
set_option maxHeartbeats 1600000 in
theorem made_ok {w : World} {B : Option Addr} {c' N len : Nat} {zs : List Act2} (h1 : 1 ≤ N) (h2 : N ≤ 65536) (hz : ActsIn w B len zs) :
    Calls Tryd.prog 10 #[.int .i64 (N : Nat), .slice B len c'] w fun e w' => ∃ Q, w.heap.size ≤ Q ∧ e = .returned (.tuple #[.pointer (some ⟨w.heap.size + 1, 0, none⟩), .slice (some ⟨Q, 0, none⟩) N N]) ∧
      Duo w (w.heap.size + 1) w.heap.size Q N (playB (offs N) zs len) (playB (offs N) zs len) w' ∧ Q ≠ w.heap.size ∧ Q ≠ w.heap.size + 1 := by
  have hlm := hz.hm
  have i1 : (1 : Int) ≤ (N : Int) := by omega
  have i2 : (N : Int) ≤ 65536 := by omega
  have hmk := make_bools N (by omega)
  go_enter Tryd.func10, Tryd.ntmps10
  go_wp2_with fail
  refine (BNew_ok N h1 h2 w).mono ?_
  generalize hP : w.heap.size + 1 = P
  generalize hG : w.heap.size = G
  have HG := Lib.hid hG
  have HP := Lib.hid hP
  have hGP : G ≤ P := by omega
  clear hG hP
  rintro e w1 ⟨rfl, hm, hb⟩
  rw [← HG.out] at hb
  have hGa : w.heap.size ≤ G := by rw [HG.out]; exact Nat.le_refl _
  have hPl := hm.hp.lt
  have hGl := hm.hg.lt
  have hD : Duo w P G w1.heap.size N (offs N) (offs N) (w1.alloc (.cells (falses N) 4)) := ⟨hm.alloc _, BB_offs (Blk.made w1 4 (falses N)), hb.alloc hb.size _⟩
  have hsz := hb.size
  generalize hQ : w1.heap.size = Q at *
  have HQ := Lib.hid hQ
  have hQa : w.heap.size ≤ Q := by omega
  have n1 : Q ≠ G := by omega
  have n2 : Q ≠ P := by omega
  clear hm hb hQ
  go_wp2_with fail
  rw [HQ.out]
  generalize w1.alloc (.cells (falses N) 4) = w2 at hD ⊢
  go_loopw [9] (fun i wr => ∃ k : Nat, k ≤ len ∧ i = .int .i64 k ∧ Duo w P G Q N (playB (offs N) zs k) (playB (offs N) zs k) wr) (fun i _ => len - (intOf i).toNat)
  case atStart => exact ⟨0, Nat.zero_le _, rfl, hD⟩
  case round =>
    obtain ⟨k, hk, rfl, hDk⟩ := hrel
    by_cases hlt : k < len
    · have hzk := hz.below hDk.be
      obtain ⟨ab, aoff, rfl, q0, q1⟩ := hzk.at_ hlt
      have j0 : (0 : Int) ≤ (k : Int) := by omega
      have j1 : (k : Int) < (len : Int) := by omega
      have hyl : (playB (offs N) zs k).length = N := by rw [playB_len, offs_len]
      have hps := playB_succ (offs N) zs k
      have HPS := Lib.hid hps
      have HYL := Lib.hid hyl
      clear hps hyl
      generalize playB (offs N) zs k = y at *
      have hset := duo_set (hDk.drewN 1) n1 hGa (act zs k).i (act zs k).b
      go_wp2_with fail
      go_still_tail 11, (by kernel_rfl)
      change wpList _ _ _ _ _ wr.drew
      have hdr : wr.drew = wr.drewN 1 := rfl
      rw [hdr]
      clear hdr hDk hzk
      generalize wr.drewN 1 = w3 at *
      go_wp2_with fail
      refine hset.mono ?_
      rintro e w4 ⟨rfl, hD4⟩
      have hq4 := hz.same hD4.be hlt
      obtain ⟨q0', q1'⟩ := hq4
      clear q0 q1 hset
      by_cases hin : 0 ≤ (act zs k).i ∧ (act zs k).i < (N : Int)
      · obtain ⟨I, hI⟩ := Int.eq_ofNat_of_zero_le hin.1
        have es : setB y (act zs k).i (act zs k).b = (y.set I (act zs k).b, 0) := by
          unfold setB
          rw [HYL.out, if_pos hin, hI, Int.toNat_natCast]
        have hst := HPS.out
        rw [es] at hD4 hst ⊢
        have HST := Lib.hid hst
        have b1 : (I : Int) < (N : Int) := by rw [← hI]; exact hin.2
        have b0 : (0 : Int) ≤ (I : Int) := by omega
        clear es hst
        have hDp := (hD4.drewN 1).put (fun e => n1 e.symm) (fun e => n2 e.symm) hQa (i := I) (by rw [HYL.out]; omega) (act zs k).b
        have fq := (hD4.drewN 1).bb.frozen I
        have cq := (hD4.drewN 1).bb.cell (k := I) (by rw [HYL.out]; omega)
        rw [hI] at q0'
        clear hin
        have HI := Lib.hid hI
        clear hI
        go_wp2_with fail
        go_still_tail 12, (by kernel_rfl)
        change wpList _ _ _ _ _ w4.drew
        have hdr : w4.drew = w4.drewN 1 := rfl
        rw [hdr]
        clear hdr hD4 q0' q1'
        generalize w4.drewN 1 = w5 at *
        go_wp2_with fail
        go_roundw
        case rel => exact ⟨k + 1, by omega, by go_num, by rw [HST.out]; exact hDp⟩
        case measure => simp [intOf]; omega
      · have es : setB y (act zs k).i (act zs k).b = (y, 10) := by
          unfold setB
          rw [HYL.out, if_neg hin]
        have hst := HPS.out
        rw [es] at hD4 hst ⊢
        have HST := Lib.hid hst
        clear es hst
        by_cases hneg : (act zs k).i < 0
        · clear hin
          have t1 : decide (0 ≤ (act zs k).i) = false := by simp; omega
          go_wp2_with fail
          go_roundw
          case rel => exact ⟨k + 1, by omega, by go_num, by rw [HST.out]; exact hD4⟩
          case measure => simp [intOf]; omega
        · have t1 : decide ((act zs k).i < (N : Int)) = false := by simp; omega
          have t2 : 0 ≤ (act zs k).i := by omega
          clear hin hneg
          go_wp2_with fail
          go_roundw
          case rel => exact ⟨k + 1, by omega, by go_num, by rw [HST.out]; exact hD4⟩
          case measure => simp [intOf]; omega
    · obtain rfl : k = len := by omega
      go_wp2_with fail
      go_ret2
      exact ⟨Q, by rw [HG.out]; omega, by rw [HP.out]; rfl, by rw [HP.out, HG.out]; exact hDk, by rw [HG.out]; exact n1, by rw [HP.out]; exact n2⟩
end Go.Proofs.YthjpflhoenljdaaDoor
