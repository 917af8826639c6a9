/- What New, Has, ahead, Count and Range come to. -/
import Derived.Test.YthjpflhoenljdaaDoorBd
namespace Go.Proofs.YthjpflhoenljdaaDoor
open Go.RowKit
set_option linter.unusedVariables false

theorem ret_nat {a b : Nat} (h : a = b) : Ending.returned (.int .i64 (a : Int)) = .returned (.int .i64 (b : Int)) := by rw [h]

/-- Whether a bit is on, at any number. -/
def hasB (r : List Bool) (i : Int) : Bool := decide (0 ≤ i) && on r i.toNat
theorem hasB_nat (r : List Bool) (i : Nat) : hasB r (i : Int) = on r i := by simp [hasB]

set_option maxRecDepth 100000 in
theorem BHas_any {w : World} {p g cap n : Nat} {r : List Bool} (h : BM w p g cap n r) (i : Int) :
    Calls Tryd.prog 19 #[.pointer (some ⟨p, 0, none⟩), .int .i64 i] w fun e w' => e = .returned (.bool (hasB r i)) ∧ w = w' := by
  have c1 := h.c1
  have hn := h.hn
  have hlen := BLen_ok h
  by_cases h0 : i < 0
  · have e : hasB r i = false := by unfold hasB; rw [decide_eq_false (by omega)]; rfl
    have t0 : decide (0 ≤ i) = false := by simp; omega
    rw [e]
    clear e
    go_enter Tryd.func19, Tryd.ntmps19
    go_wp2_with fail
    go_ret
    exact ⟨rfl, rfl⟩
  · have h0' : 0 ≤ i := by omega
    obtain ⟨I, rfl⟩ := Int.eq_ofNat_of_zero_le h0'
    rw [hasB_nat]
    by_cases hI : I < n
    · have hIw : I / 64 < nw n := by unfold nw; omega
      have cg := h.hg.cell hIw
      have i1 : (I : Int) < (n : Int) := by omega
      have i2 : (n : Int) ≤ 65536 := by omega
      have hI64 : I % 64 < 64 := Nat.mod_lt _ (by decide)
      have hw := word_lt r (I / 64)
      have hb : (word r (I / 64)).testBit (I % 64) = on r I := by
        rw [word_bit, show 64 * (I / 64) + I % 64 = I by omega]
        simp [hI64]
      have hy : word r (I / 64) / 2 ^ (I % 64) < 18446744073709551616 := Nat.lt_of_le_of_lt (Nat.div_le_self _ _) hw
      have k1 : ((word r (I / 64) : Nat) : Int) / 2 ^ (I % 64) = ((word r (I / 64) / 2 ^ (I % 64) : Nat) : Int) := by
        rw [Int.natCast_ediv]; congr 1
      have k2 := bits_and_u64_nat (word r (I / 64) / 2 ^ (I % 64)) 1 hy (by decide)
      rw [Nat.and_one_is_mod] at k2
      have hz : (word r (I / 64) / 2 ^ (I % 64)) % 2 = (if on r I then 1 else 0) := by
        have h1 := shr_bit (word r (I / 64)) (I % 64) 0
        rw [Nat.zero_add, hb, Nat.testBit_zero] at h1
        rw [← h1]
        have := Nat.mod_two_eq_zero_or_one (word r (I / 64) / 2 ^ (I % 64))
        rcases this with h2 | h2 <;> rw [h2] <;> rfl
      rw [hz] at k2
      clear hz hb hw hy h
      generalize word r (I / 64) / 2 ^ (I % 64) = Y at *
      generalize word r (I / 64) = W0 at *
      cases ho : on r I
      · have k3 : bits .and .u64 (Y : Int) 1 = 0 := by rw [ho] at k2; exact k2
        clear k2 ho
        go_enter Tryd.func19, Tryd.ntmps19
        go_wp2_with fail
        refine hlen.mono ?_
        rintro e w1 ⟨rfl, rfl⟩
        go_wp2_with fail
        go_ret
        exact ⟨rfl, rfl⟩
      · have k3 : bits .and .u64 (Y : Int) 1 = 1 := by rw [ho] at k2; exact k2
        clear k2 ho
        go_enter Tryd.func19, Tryd.ntmps19
        go_wp2_with fail
        refine hlen.mono ?_
        rintro e w1 ⟨rfl, rfl⟩
        go_wp2_with fail
        go_ret
        exact ⟨rfl, rfl⟩
    · have e : on r I = false := on_end (by rw [h.hl]; omega)
      have h1 : (n : Int) ≤ (I : Int) := by omega
      have t0 : decide ((I : Int) < (n : Int)) = false := by simp; omega
      have t1 : decide (I < n) = false := by simp; omega
      rw [e]
      clear e
      go_enter Tryd.func19, Tryd.ntmps19
      go_wp2_with fail
      refine hlen.mono ?_
      rintro e w1 ⟨rfl, rfl⟩
      go_wp2_with fail
      go_ret
      exact ⟨rfl, rfl⟩

/-- All bits off. -/
def offs (n : Nat) : List Bool := List.replicate n false
theorem offs_len (n : Nat) : (offs n).length = n := by simp [offs]
theorem on_offs (n i : Nat) : on (offs n) i = false := by
  unfold on offs
  by_cases h : i < n <;> simp [h]
theorem word_offs (n k : Nat) : word (offs n) k = 0 := (word_eq (by decide) fun i _ => by rw [on_offs]; simp).symm
theorem cnt_offs (n m : Nat) : cnt (offs n) m = 0 := by
  have := cnt_none (r := offs n) (Nat.zero_le m) (fun j _ _ => on_offs n j)
  simpa [cnt] using this
theorem Tryd.infoW : (Tryd.prog.info? 53).map (fun i => (i.zero, i.size, i.bytes)) = some (some (.int .u64 0), 1, 8) := by kernel_rfl
def zerosW (n : Nat) : Array Value := (List.replicate n (Value.int .u64 0)).toArray
theorem made_zerosW (n : Nat) : madeCells #[.int .u64 0] (n * 1) = zerosW n := by
  apply Array.ext
  · simp [madeCells, zerosW]
  · intro i h1 h2
    simp [madeCells, zerosW, Nat.mod_one]
theorem make_words (n : Nat) (hn : n ≤ 4398046511104) (W : World) :
    (Instr.makeSlice 47 (.int .i64 (n : Int)) (.int .i64 (n : Int))).run Tryd.prog W = .ok (.slice (some ⟨W.heap.size, 0, none⟩) n n) (W.alloc (.cells (zerosW n) 53)) := by
  obtain ⟨i0, hi, hz0, hz1, hz2⟩ := info_parts Tryd.infoW
  have h := run_make (P := Tryd.prog) W 47 53 i0 (.int .u64 0) Tryd.underlying47 hi hz0 .i64 .i64 (n : Int) (n : Int) (by omega) (by omega) (by rw [hz2]; omega) (by omega)
  rw [h, hz1]
  simp only [Int.toNat_natCast, Value.cells, made_zerosW]

set_option maxRecDepth 100000 in
theorem BNew_ok (N : Nat) (h1 : 1 ≤ N) (h2 : N ≤ 65536) (w : World) :
    Calls Tryd.prog 21 #[.int .i64 (N : Nat)] w fun e w' => e = .returned (.tuple #[.pointer (some ⟨w.heap.size + 1, 0, none⟩), .int .i64 0]) ∧ BM w' (w.heap.size + 1) w.heap.size (nw N) N (offs N) ∧ Below w.heap.size w w' := by
  have i1 : (1 : Int) ≤ (N : Int) := by omega
  have i2 : (N : Int) ≤ 65536 := by omega
  have e1 : ((N : Int) + 64 - 1).tdiv 64 = ((nw N : Nat) : Int) := by
    unfold nw
    rw [Int.tdiv_eq_ediv_of_nonneg (by omega)]; omega
  have e2 : ((N : Int) + 64 - 1) / 64 = ((nw N : Nat) : Int) := by unfold nw; omega
  have hM : nw N ≤ 1024 := by unfold nw; omega
  have hmk := make_words (nw N) (by omega)
  have z0 := (Blk.made w 53 (zerosW (nw N))).alloc (.cells #[.int .i64 (N : Int), .slice (some ⟨w.heap.size, 0, none⟩) (nw N) (nw N)] 55)
  have z1 := Blk.made (w.alloc (.cells (zerosW (nw N)) 53)) 55 #[.int .i64 (N : Int), .slice (some ⟨w.heap.size, 0, none⟩) (nw N) (nw N)]
  rw [World.size_alloc] at z1
  have hw : BW ((w.alloc (.cells (zerosW (nw N)) 53)).alloc (.cells #[.int .i64 (N : Int), .slice (some ⟨w.heap.size, 0, none⟩) (nw N) (nw N)] 55)) w.heap.size (word (offs N)) (nw N) :=
    ⟨_, z0, fun k hk => by rw [word_offs]; simp [zerosW, hk]⟩
  have hM2 : (nw N : Int) ≤ 1024 := by omega
  generalize hm : nw N = M at *
  have HM := Lib.hid hm
  clear hm
  go_enter Tryd.func21, Tryd.ntmps21
  go_wp2_with fail
  go_ret2
  refine ⟨rfl, ⟨offs_len N, ⟨h1, h2⟩, ?_, ?_, ?_⟩, ((Below.refl _ w).alloc (Nat.le_refl _) _).alloc (by simp) _⟩
  · rw [HM.out]; exact z1
  · rw [HM.out]; exact hw
  · rw [HM.out]; exact ⟨Nat.le_refl _, by omega⟩
theorem BNew_bad (n : Int) (h : n < 1 ∨ 65536 < n) (w : World) :
    Calls Tryd.prog 21 #[.int .i64 n] w fun e w' => e = .returned (.tuple #[.pointer none, .int .i64 10]) ∧ w = w' := by
  rcases h with h | h
  · go_enter Tryd.func21, Tryd.ntmps21
    go_wp2_with fail
    go_ret2
    exact ⟨rfl, rfl⟩
  · go_enter Tryd.func21, Tryd.ntmps21
    go_wp2_with fail
    go_ret2
    exact ⟨rfl, rfl⟩

theorem shl_wrap (x s : Nat) : IntKind.u64.wrap ((x : Int) * 2 ^ s) = ((x * 2 ^ s % 18446744073709551616 : Nat) : Int) := by
  have e : (x : Int) * 2 ^ s = ((x * 2 ^ s : Nat) : Int) := by rw [Int.natCast_mul]; congr 1
  rw [e, IntKind.wrap_u64]
  omega

set_option maxRecDepth 100000 in
set_option maxHeartbeats 400000 in
theorem Bahead_ok {w : World} {p g cap n : Nat} {r : List Bool} (h : BM w p g cap n r) (T : Nat) (hT : T ≤ n) :
    Calls Tryd.prog 28 #[.pointer (some ⟨p, 0, none⟩), .int .i64 (T : Nat)] w fun e w' => e = .returned (.int .i64 (cnt r T : Nat)) ∧ w = w' := by
  have c1 := h.c1
  have hn := h.hn
  have i1 : (T : Int) ≤ (n : Int) := by omega
  have i2 : (n : Int) ≤ 65536 := by omega
  have hnw : 64 * nw n ≤ n + 63 := by unfold nw; omega
  have hnw2 : n ≤ 64 * nw n := by unfold nw; omega
  have hg := h.hg
  clear h
  go_enter Tryd.func28, Tryd.ntmps28
  go_wp2_with fail
  go_loop [5, 10] (fun a i => ∃ q : Nat, q ≤ T / 64 ∧ i = .int .i64 q ∧ a = .int .i64 ((cnt r (64 * q) : Nat) : Int)) (fun _ i => T / 64 - (intOf i).toNat)
  case atStart => exact ⟨0, Nat.zero_le _, rfl, rfl⟩
  case round =>
    obtain ⟨q, hq, rfl, rfl⟩ := hrel
    by_cases hlt : q < T / 64
    · have cg := hg.cell (k := q) (by omega)
      have j1 : (q : Int) < ((T / 64 : Nat) : Int) := by omega
      have hpw := pop_word r q 64 (Nat.le_refl _)
      rw [show 64 * q + 64 = 64 * (q + 1) by omega] at hpw
      have hcl := cnt_le r (64 * (q + 1))
      have hon := Ones_ok (word r q) (word_lt r q) w
      have HPW := Lib.hid hpw
      have j2 : ((cnt r (64 * q) : Nat) : Int) + ((popN (word r q) 64 : Nat) : Int) = ((cnt r (64 * (q + 1)) : Nat) : Int) := by omega
      have j3 : ((cnt r (64 * (q + 1)) : Nat) : Int) ≤ 65600 := by omega
      have j4 : (q : Int) < 1024 := by omega
      clear hpw hcl
      generalize hC1 : cnt r (64 * (q + 1)) = C1 at *
      have HC1 := Lib.hid hC1
      clear hC1
      generalize cnt r (64 * q) = C0 at *
      generalize popN (word r q) 64 = PW at *
      generalize word r q = WQ at *
      go_wp2_with fail
      refine hon.mono ?_
      rintro e w1 ⟨rfl, rfl⟩
      go_wp2_with fail
      go_round
      case rel => exact ⟨q + 1, by omega, by go_num, by rw [HC1.out]⟩
      case measure => simp [intOf]; omega
    · obtain rfl : q = T / 64 := by omega
      by_cases hL : T % 64 = 0
      · have j1 : ((T % 64 : Nat) : Int) = 0 := by omega
        have j2 : (T : Int) % 64 = 0 := by omega
        have hC : cnt r (64 * (T / 64)) = cnt r T := by rw [show 64 * (T / 64) = T by omega]
        rw [hC]
        clear hL
        go_wp2_with fail
        go_ret
        exact ⟨rfl, rfl⟩
      · have j1 : 0 < ((T % 64 : Nat) : Int) := by omega
        have j2 : 0 < (T : Int) % 64 := by omega
        have hL64 : T % 64 < 64 := Nat.mod_lt _ (by decide)
        have cg := hg.cell (k := T / 64) (by omega)
        have hpw := pop_word r (T / 64) (T % 64) (by omega)
        rw [show 64 * (T / 64) + T % 64 = T by omega] at hpw
        have hsh := pop_shl (word r (T / 64)) (s := 64 - T % 64) (by omega)
        rw [show 64 - (64 - T % 64) = T % 64 by omega] at hsh
        have hon := Ones_ok _ (Nat.mod_lt (word r (T / 64) * 2 ^ (64 - T % 64)) (by decide : 0 < 18446744073709551616)) w
        rw [hsh] at hon
        have k1 := shl_wrap (word r (T / 64)) (64 - T % 64)
        have hcl := cnt_le r T
        have j3 : ((cnt r (64 * (T / 64)) : Nat) : Int) + ((popN (word r (T / 64)) (T % 64) : Nat) : Int) = ((cnt r T : Nat) : Int) := by omega
        have j4 : ((cnt r T : Nat) : Int) ≤ 65536 := by omega
        clear hL hL64 hpw hsh hcl
        generalize hC1 : cnt r T = C1 at *
        have HC1 := Lib.hid hC1
        clear hC1
        generalize cnt r (64 * (T / 64)) = C0 at *
        generalize popN (word r (T / 64)) (T % 64) = PW at *
        generalize word r (T / 64) * 2 ^ (64 - T % 64) % 18446744073709551616 = SH at *
        go_wp2_with fail
        refine hon.mono ?_
        rintro e w1 ⟨rfl, rfl⟩
        go_wp2_with fail
        go_ret
        exact ⟨ret_nat HC1.out.symm, rfl⟩

theorem BCount_ok {w : World} {p g cap n : Nat} {r : List Bool} (h : BM w p g cap n r) :
    Calls Tryd.prog 23 #[.pointer (some ⟨p, 0, none⟩)] w fun e w' => e = .returned (.int .i64 (cnt r n : Nat)) ∧ w = w' := by
  go_enter Tryd.func23, Tryd.ntmps23
  go_wp2_with fail
  refine (BLen_ok h).mono ?_
  rintro e w1 ⟨rfl, rfl⟩
  go_wp2_with fail
  refine (Bahead_ok h n (Nat.le_refl _)).mono ?_
  rintro e w1 ⟨rfl, rfl⟩
  go_wp2_with fail
  go_ret
  exact ⟨rfl, rfl⟩

theorem BRange_ok {w : World} {p g cap n : Nat} {r : List Bool} (h : BM w p g cap n r) (a b : Nat) (hab : a ≤ b) (hb : b ≤ n) :
    Calls Tryd.prog 11 #[.pointer (some ⟨p, 0, none⟩), .int .i64 (a : Nat), .int .i64 (b : Nat)] w fun e w' => e = .returned (.tuple #[.int .i64 ((cnt r b - cnt r a : Nat) : Int), .int .i64 0]) ∧ w = w' := by
  have c0 := h.c0
  have hn := h.hn
  have i1 : (a : Int) ≤ (b : Int) := by omega
  have i2 : (b : Int) ≤ (n : Int) := by omega
  have h1 := Bahead_ok h b hb
  have h2 := Bahead_ok h a (by omega)
  have hm := cnt_mono r hab
  have hl := cnt_le r b
  have j1 : ((cnt r b : Nat) : Int) - ((cnt r a : Nat) : Int) = ((cnt r b - cnt r a : Nat) : Int) := by omega
  have j2 : ((cnt r b - cnt r a : Nat) : Int) ≤ 65536 := by omega
  have j3 : IntKind.i64.wrap (((cnt r b - cnt r a : Nat) : Int)) = ((cnt r b - cnt r a : Nat) : Int) := IntWalk.i64_in _ (by omega)
  clear hm hl
  generalize cnt r b - cnt r a = D at *
  generalize cnt r b = CB at *
  generalize cnt r a = CA at *
  go_enter Tryd.func11, Tryd.ntmps11
  go_wp2_with fail
  refine h1.mono ?_
  rintro e w1 ⟨rfl, rfl⟩
  go_wp2_with fail
  refine h2.mono ?_
  rintro e w1 ⟨rfl, rfl⟩
  go_wp2_with fail
  go_ret2
  exact ⟨rfl, rfl⟩
theorem BRange_bad {w : World} {p g cap n : Nat} {r : List Bool} (h : BM w p g cap n r) (a b : Int) (hno : ¬ (0 ≤ a ∧ a ≤ b ∧ b ≤ n)) :
    Calls Tryd.prog 11 #[.pointer (some ⟨p, 0, none⟩), .int .i64 a, .int .i64 b] w fun e w' => e = .returned (.tuple #[.int .i64 0, .int .i64 10]) ∧ w = w' := by
  have c0 := h.c0
  by_cases h1 : a < 0
  · clear hno
    go_enter Tryd.func11, Tryd.ntmps11
    go_wp2_with fail
    go_ret2
    exact ⟨rfl, rfl⟩
  · have h1' : 0 ≤ a := by omega
    by_cases h2 : b < a
    · clear hno h1
      go_enter Tryd.func11, Tryd.ntmps11
      go_wp2_with fail
      go_ret2
      exact ⟨rfl, rfl⟩
    · have h2' : a ≤ b := by omega
      have h3 : (n : Int) < b := by omega
      clear hno h1 h2
      go_enter Tryd.func11, Tryd.ntmps11
      go_wp2_with fail
      go_ret2
      exact ⟨rfl, rfl⟩
end Go.Proofs.YthjpflhoenljdaaDoor
