/- Joined texts: Bd, Be, Bf, Bg. -/
import Derived.Lib.MinMax
import Derived.Test.YtaonkbfekadalaaGreatDoorM04
import Derived.Test.YtaonkbfekadalaaGreatDoorM05
/- What New, Len, Has and Set come to. -/
namespace Go.Proofs.YtaonkbfekadalaaGreatDoor
open Go.RowKit
set_option linter.unusedVariables false

/-- Block g begins with m words. -/
def BW (w : World) (g : Nat) (f : Nat → Nat) (m : Nat) : Prop := ∃ cs, Blk w g 191 cs ∧ ∀ k, k < m → cs[k]? = some (.int .u64 (f k : Nat))
section
variable {w w' : World} {g m : Nat} {f : Nat → Nat}
theorem BW.cell (h : BW w g f m) {k : Nat} (hk : k < m) : w.cell? ⟨g, k, none⟩ = some (.int .u64 (f k : Nat)) := by
  obtain ⟨cs, hb, hc⟩ := h
  rw [hb.cell, hc k hk]
theorem BW.frozen (h : BW w g f m) (k : Nat) : w.frozen? ⟨g, k, none⟩ = false := by
  obtain ⟨cs, hb, _⟩ := h
  exact hb.frozen k
theorem BW.lt (h : BW w g f m) : g < w.heap.size := by
  obtain ⟨cs, hb, _⟩ := h
  exact hb.lt
theorem BW.put (h : BW w g f m) (i x : Nat) : BW (w.setCell ⟨g, i, none⟩ (.int .u64 (x : Nat))) g (fun k => if k = i then x else f k) m := by
  obtain ⟨cs, hb, hc⟩ := h
  refine ⟨_, hb.put i _, fun k hk => ?_⟩
  have h1 := hc k hk
  have hlt : k < cs.size := by
    rcases Nat.lt_or_ge k cs.size with h2 | h2
    · exact h2
    · rw [Array.getElem?_eq_none h2] at h1; cases h1
  rw [Array.getElem?_setIfInBounds]
  by_cases e : i = k
  · subst e; simp [hlt]
  · rw [if_neg e, h1]
    simp only [if_neg (fun h : k = i => e h.symm)]
theorem BW.far (h : BW w g f m) {p : Addr} (hp : g ≠ p.block) (u : Value) : BW (w.setCell p u) g f m := by
  obtain ⟨cs, hb, hc⟩ := h
  exact ⟨cs, hb.far hp u, hc⟩
theorem BW.alloc (h : BW w g f m) (o : Obj) : BW (w.alloc o) g f m := by
  obtain ⟨cs, hb, hc⟩ := h
  exact ⟨cs, hb.alloc o, hc⟩
theorem BW.drewN (h : BW w g f m) (n : Nat) : BW (w.drewN n) g f m := h
theorem BW.below {B : Nat} (h : BW w g f m) (hb : Below B w w') (hg : g < B) : BW w' g f m := by
  obtain ⟨cs, h1, hc⟩ := h
  exact ⟨cs, h1.below hb hg, hc⟩
theorem BW.grown {row : Option Nat} (h : BW w g f m) (hb : w.grownBy w' row) (hg : some g ≠ row) : BW w' g f m := by
  obtain ⟨cs, h1, hc⟩ := h
  exact ⟨cs, h1.grown hb hg, hc⟩
theorem BW.congr {f' : Nat → Nat} (h : BW w g f m) (e : ∀ k, k < m → f k = f' k) : BW w g f' m := by
  obtain ⟨cs, h1, hc⟩ := h
  exact ⟨cs, h1, fun k hk => by rw [← e k hk]; exact hc k hk⟩
end

/-- How many words a row has. -/
def nw (n : Nat) : Nat := (n + 63) / 64

/-- A row of bits lies at p, its words in block g. -/
structure BM (w : World) (p g cap n : Nat) (r : List Bool) : Prop where
  hl : r.length = n
  hn : 1 ≤ n ∧ n ≤ 65536
  hp : Blk w p 189 #[.int .i64 (n : Int), .slice (some ⟨g, 0, none⟩) (nw n) cap]
  hg : BW w g (word r) (nw n)
  cap : nw n ≤ cap ∧ cap ≤ 9223372036854775807
section
variable {w w' : World} {p g cap n : Nat} {r : List Bool}
theorem BM.c0 (h : BM w p g cap n r) : w.cell? ⟨p, 0, none⟩ = some (.int .i64 (n : Int)) := by rw [h.hp.cell]; rfl
theorem BM.c1 (h : BM w p g cap n r) : w.cell? ⟨p, 1, none⟩ = some (.slice (some ⟨g, 0, none⟩) (nw n) cap) := by rw [h.hp.cell]; rfl
theorem BM.ne (h : BM w p g cap n r) : g ≠ p := by
  obtain ⟨cs, hb, _⟩ := h.hg
  exact hb.ne_ h.hp (by decide)
theorem BM.drewN (h : BM w p g cap n r) (d : Nat) : BM (w.drewN d) p g cap n r := ⟨h.hl, h.hn, h.hp, h.hg, h.cap⟩
theorem BM.alloc (h : BM w p g cap n r) (o : Obj) : BM (w.alloc o) p g cap n r := ⟨h.hl, h.hn, h.hp.alloc o, h.hg.alloc o, h.cap⟩
theorem BM.below (h : BM w p g cap n r) (hb : Below w.heap.size w w') : BM w' p g cap n r := ⟨h.hl, h.hn, h.hp.below hb h.hp.lt, h.hg.below hb h.hg.lt, h.cap⟩
theorem BM.grown {row : Option Nat} (h : BM w p g cap n r) (hb : w.grownBy w' row) (h1 : some p ≠ row) (h2 : some g ≠ row) : BM w' p g cap n r := ⟨h.hl, h.hn, h.hp.grown hb h1, h.hg.grown hb h2, h.cap⟩
theorem BM.far (h : BM w p g cap n r) {q : Addr} (h1 : p ≠ q.block) (h2 : g ≠ q.block) (u : Value) : BM (w.setCell q u) p g cap n r := ⟨h.hl, h.hn, h.hp.far h1 u, h.hg.far h2 u, h.cap⟩
end

theorem BLen_ok {w : World} {p g cap n : Nat} {r : List Bool} (h : BM w p g cap n r) :
    Calls Tryz.prog 173 #[.pointer (some ⟨p, 0, none⟩)] w fun e w' => e = .returned (.int .i64 (n : Int)) ∧ w = w' := by
  have c0 := h.c0
  go_enter Tryz.func173, Tryz.ntmps173
  go_wp2
  go_ret
  exact ⟨rfl, rfl⟩

theorem word_set {r : List Bool} {i k : Nat} (h : i < r.length) (b : Bool) (x : Nat) (hx : x < 18446744073709551616)
    (hb : ∀ j, j < 64 → x.testBit j = (if j = i % 64 then b else (word r (i / 64)).testBit j)) : word (r.set i b) k = if k = i / 64 then x else word r k := by
  by_cases e : k = i / 64
  · rw [if_pos e]
    refine (word_eq hx fun j hj => ?_).symm
    rw [hb j hj, on_set h, word_bit]
    subst e
    by_cases e2 : j = i % 64
    · rw [if_pos e2, if_pos (by omega)]
    · rw [if_neg e2, if_neg (by omega)]; simp [hj]
  · rw [if_neg e]
    refine (word_eq (word_lt _ _) fun j hj => ?_).symm
    rw [on_set h, word_bit, if_neg (by omega)]
    simp [hj]

theorem bits_andNot_u64_nat (a b : Nat) (ha : a < 18446744073709551616) (hb : b < 18446744073709551616) :
    bits .andNot .u64 (a : Int) (b : Int) = ((a &&& (18446744073709551615 - b) : Nat) : Int) := by
  have hx : a &&& (18446744073709551615 - b) < 2 ^ 64 := Nat.and_lt_two_pow _ (by omega)
  have h1 : (BitVec.ofInt 64 (a : Int)).toNat = a := by
    rw [BitVec.ofInt_natCast, BitVec.toNat_ofNat]; exact Nat.mod_eq_of_lt (by omega)
  have h2 : (BitVec.ofInt 64 (b : Int)).toNat = b := by
    rw [BitVec.ofInt_natCast, BitVec.toNat_ofNat]; exact Nat.mod_eq_of_lt (by omega)
  show IntKind.u64.wrap ((BitVec.ofInt 64 (a : Int) &&& ~~~ BitVec.ofInt 64 (b : Int)).toNat : Int) = _
  rw [BitVec.toNat_and, BitVec.toNat_not, h1, h2, IntKind.wrap_u64]
  have e : (2 : Nat) ^ 64 - 1 - b = 18446744073709551615 - b := by omega
  rw [e]
  omega
theorem pow_lt64 {i : Nat} (h : i < 64) : 2 ^ i < 18446744073709551616 := Nat.pow_lt_pow_right (a := 2) (by decide) (show i < 64 from h)
theorem pow_wrap {i : Nat} (h : i < 64) : IntKind.u64.wrap (2 ^ i : Int) = ((2 ^ i : Nat) : Int) := by
  have := u64_in _ (pow_lt64 h)
  rw [← this]
  congr 1
theorem or_bit (x i j : Nat) : (x ||| 2 ^ i).testBit j = (if j = i then true else x.testBit j) := by
  rw [Nat.testBit_or, Nat.testBit_two_pow]
  by_cases e : j = i
  · subst e; simp
  · rw [if_neg e, decide_eq_false (fun h : i = j => e h.symm), Bool.or_false]
theorem andNot_bit {x i : Nat} (hi : i < 64) (j : Nat) (hj : j < 64) : (x &&& (18446744073709551615 - 2 ^ i)).testBit j = (if j = i then false else x.testBit j) := by
  rw [Nat.testBit_and]
  have e : 18446744073709551615 - 2 ^ i = 2 ^ 64 - (2 ^ i + 1) := by omega
  rw [e, Nat.testBit_two_pow_sub_succ (pow_lt64 hi), Nat.testBit_two_pow]
  by_cases e : j = i
  · subst e; simp
  · rw [if_neg e, decide_eq_false (fun h : i = j => e h.symm)]; simp [hj]

set_option maxRecDepth 100000 in
theorem BSet_ok {w : World} {p g cap n : Nat} {r : List Bool} (h : BM w p g cap n r) (I : Nat) (hI : I < n) (b : Bool) :
    Calls Tryz.prog 125 #[.pointer (some ⟨p, 0, none⟩), .int .i64 (I : Nat), .bool b] w fun e w' => e = .returned (.int .i64 0) ∧ BM w' p g cap n (r.set I b) ∧ w.grownBy w' (some g) := by
  have c0 := h.c0
  have c1 := h.c1
  have hn := h.hn
  have hIw : I / 64 < nw n := by unfold nw; omega
  have cg := h.hg.cell hIw
  have fg := h.hg.frozen (I / 64)
  have hIr : I < r.length := by rw [h.hl]; exact hI
  have i0 : (0 : Int) ≤ (I : Int) := by omega
  have i1 : (I : Int) < (n : Int) := by omega
  have hI64 : I % 64 < 64 := Nat.mod_lt _ (by decide)
  have k1 := pow_wrap hI64
  have hw := word_lt r (I / 64)
  have hpl := pow_lt64 hI64
  have fin : ∀ x : Nat, x < 18446744073709551616 → (∀ j, j < 64 → x.testBit j = (if j = I % 64 then b else (word r (I / 64)).testBit j)) →
      BM (w.setCell ⟨g, I / 64, none⟩ (.int .u64 (x : Nat))) p g cap n (r.set I b) := fun x hx hb =>
    ⟨by rw [List.length_set, h.hl], hn, h.hp.far (fun e => h.ne e.symm) _, (h.hg.put (I / 64) x).congr (fun k _ => by rw [word_set hIr b x hx hb]), h.cap⟩
  have i2 : (n : Int) ≤ 65536 := by omega
  clear hI hIr hn
  cases b
  · have k2 := bits_andNot_u64_nat (word r (I / 64)) (2 ^ (I % 64)) hw hpl
    have hx := fin _ (Nat.lt_of_le_of_lt Nat.and_le_left hw) (fun j hj => andNot_bit hI64 j hj)
    clear hw hpl fin h hI64
    generalize word r (I / 64) &&& (18446744073709551615 - 2 ^ (I % 64)) = X at *
    generalize (2 : Nat) ^ (I % 64) = B at *
    go_enter Tryz.func125, Tryz.ntmps125
    go_wp2
    go_ret
    exact ⟨rfl, hx, grown_put _ _ _ _⟩
  · have k2 := bits_or_u64_nat (word r (I / 64)) (2 ^ (I % 64)) hw hpl
    have hx := fin _ (Nat.or_lt_two_pow (n := 64) hw hpl) (fun j hj => or_bit _ _ j)
    clear hw hpl fin h hI64
    generalize word r (I / 64) ||| 2 ^ (I % 64) = X at *
    generalize (2 : Nat) ^ (I % 64) = B at *
    go_enter Tryz.func125, Tryz.ntmps125
    go_wp2
    go_ret
    exact ⟨rfl, hx, grown_put _ _ _ _⟩
end Go.Proofs.YtaonkbfekadalaaGreatDoor
/- What New, Has, ahead, Count and Range come to. -/
namespace Go.Proofs.YtaonkbfekadalaaGreatDoor
open Go.RowKit
set_option linter.unusedVariables false

theorem ret_nat {a b : Nat} (h : a = b) : Ending.returned (.int .i64 (a : Int)) = .returned (.int .i64 (b : Int)) := by rw [h]

/-- Whether a bit is on, at any number. -/
def hasB (r : List Bool) (i : Int) : Bool := decide (0 ≤ i) && on r i.toNat
theorem hasB_nat (r : List Bool) (i : Nat) : hasB r (i : Int) = on r i := by simp [hasB]

set_option maxRecDepth 100000 in
theorem BHas_any {w : World} {p g cap n : Nat} {r : List Bool} (h : BM w p g cap n r) (i : Int) :
    Calls Tryz.prog 119 #[.pointer (some ⟨p, 0, none⟩), .int .i64 i] w fun e w' => e = .returned (.bool (hasB r i)) ∧ w = w' := by
  have c1 := h.c1
  have hn := h.hn
  have hlen := BLen_ok h
  by_cases h0 : i < 0
  · have e : hasB r i = false := by unfold hasB; rw [decide_eq_false (by omega)]; rfl
    have t0 : decide (0 ≤ i) = false := by simp; omega
    rw [e]
    clear e
    go_enter Tryz.func119, Tryz.ntmps119
    go_wp2_with fail
    go_ret
    exact ⟨rfl, rfl⟩
  · have h0' : 0 ≤ i := by omega
    obtain ⟨I, rfl⟩ := Int.eq_ofNat_of_zero_le h0'
    rw [hasB_nat]
    by_cases hI : I < n
    · have hIw : I / 64 < nw n := by unfold nw; omega
      have cg := h.hg.cell hIw
      have i1 : (I : Int) < (n : Int) := by omega
      have i2 : (n : Int) ≤ 65536 := by omega
      have hI64 : I % 64 < 64 := Nat.mod_lt _ (by decide)
      have hw := word_lt r (I / 64)
      have hb : (word r (I / 64)).testBit (I % 64) = on r I := by
        rw [word_bit, show 64 * (I / 64) + I % 64 = I by omega]
        simp [hI64]
      have hy : word r (I / 64) / 2 ^ (I % 64) < 18446744073709551616 := Nat.lt_of_le_of_lt (Nat.div_le_self _ _) hw
      have k1 : ((word r (I / 64) : Nat) : Int) / 2 ^ (I % 64) = ((word r (I / 64) / 2 ^ (I % 64) : Nat) : Int) := by
        rw [Int.natCast_ediv]; congr 1
      have k2 := bits_and_u64_nat (word r (I / 64) / 2 ^ (I % 64)) 1 hy (by decide)
      rw [Nat.and_one_is_mod] at k2
      have hz : (word r (I / 64) / 2 ^ (I % 64)) % 2 = (if on r I then 1 else 0) := by
        have h1 := shr_bit (word r (I / 64)) (I % 64) 0
        rw [Nat.zero_add, hb, Nat.testBit_zero] at h1
        rw [← h1]
        have := Nat.mod_two_eq_zero_or_one (word r (I / 64) / 2 ^ (I % 64))
        rcases this with h2 | h2 <;> rw [h2] <;> rfl
      rw [hz] at k2
      clear hz hb hw hy h
      generalize word r (I / 64) / 2 ^ (I % 64) = Y at *
      generalize word r (I / 64) = W0 at *
      cases ho : on r I
      · have k3 : bits .and .u64 (Y : Int) 1 = 0 := by rw [ho] at k2; exact k2
        clear k2 ho
        go_enter Tryz.func119, Tryz.ntmps119
        go_wp2_with fail
        refine hlen.mono ?_
        rintro e w1 ⟨rfl, rfl⟩
        go_wp2_with fail
        go_ret
        exact ⟨rfl, rfl⟩
      · have k3 : bits .and .u64 (Y : Int) 1 = 1 := by rw [ho] at k2; exact k2
        clear k2 ho
        go_enter Tryz.func119, Tryz.ntmps119
        go_wp2_with fail
        refine hlen.mono ?_
        rintro e w1 ⟨rfl, rfl⟩
        go_wp2_with fail
        go_ret
        exact ⟨rfl, rfl⟩
    · have e : on r I = false := on_end (by rw [h.hl]; omega)
      have h1 : (n : Int) ≤ (I : Int) := by omega
      have t0 : decide ((I : Int) < (n : Int)) = false := by simp; omega
      have t1 : decide (I < n) = false := by simp; omega
      rw [e]
      clear e
      go_enter Tryz.func119, Tryz.ntmps119
      go_wp2_with fail
      refine hlen.mono ?_
      rintro e w1 ⟨rfl, rfl⟩
      go_wp2_with fail
      go_ret
      exact ⟨rfl, rfl⟩

/-- All bits off. -/
def offs (n : Nat) : List Bool := List.replicate n false
theorem offs_len (n : Nat) : (offs n).length = n := by simp [offs]
theorem on_offs (n i : Nat) : on (offs n) i = false := by
  unfold on offs
  by_cases h : i < n <;> simp [h]
theorem word_offs (n k : Nat) : word (offs n) k = 0 := (word_eq (by decide) fun i _ => by rw [on_offs]; simp).symm
theorem cnt_offs (n m : Nat) : cnt (offs n) m = 0 := by
  have := cnt_none (r := offs n) (Nat.zero_le m) (fun j _ _ => on_offs n j)
  simpa [cnt] using this
theorem Tryz.infoW : (Tryz.prog.info? 191).map (fun i => (i.zero, i.size, i.bytes)) = some (some (.int .u64 0), 1, 8) := by kernel_rfl
def zerosW (n : Nat) : Array Value := (List.replicate n (Value.int .u64 0)).toArray
theorem made_zerosW (n : Nat) : madeCells #[.int .u64 0] (n * 1) = zerosW n := by
  apply Array.ext
  · simp [madeCells, zerosW]
  · intro i h1 h2
    simp [madeCells, zerosW, Nat.mod_one]
theorem make_words (n : Nat) (hn : n ≤ 4398046511104) (W : World) :
    (Instr.makeSlice 187 (.int .i64 (n : Int)) (.int .i64 (n : Int))).run Tryz.prog W = .ok (.slice (some ⟨W.heap.size, 0, none⟩) n n) (W.alloc (.cells (zerosW n) 191)) := by
  obtain ⟨i0, hi, hz0, hz1, hz2⟩ := info_parts Tryz.infoW
  have h := run_make (P := Tryz.prog) W 187 191 i0 (.int .u64 0) Tryz.underlying187 hi hz0 .i64 .i64 (n : Int) (n : Int) (by omega) (by omega) (by rw [hz2]; omega) (by omega)
  rw [h, hz1]
  simp only [Int.toNat_natCast, Value.cells, made_zerosW]

set_option maxRecDepth 100000 in
theorem BNew_ok (N : Nat) (h1 : 1 ≤ N) (h2 : N ≤ 65536) (w : World) :
    Calls Tryz.prog 114 #[.int .i64 (N : Nat)] w fun e w' => e = .returned (.tuple #[.pointer (some ⟨w.heap.size + 1, 0, none⟩), .int .i64 0]) ∧ BM w' (w.heap.size + 1) w.heap.size (nw N) N (offs N) ∧ Below w.heap.size w w' := by
  have i1 : (1 : Int) ≤ (N : Int) := by omega
  have i2 : (N : Int) ≤ 65536 := by omega
  have e1 : ((N : Int) + 64 - 1).tdiv 64 = ((nw N : Nat) : Int) := by
    unfold nw
    rw [Int.tdiv_eq_ediv_of_nonneg (by omega)]; omega
  have e2 : ((N : Int) + 64 - 1) / 64 = ((nw N : Nat) : Int) := by unfold nw; omega
  have hM : nw N ≤ 1024 := by unfold nw; omega
  have hmk := make_words (nw N) (by omega)
  have z0 := (Blk.made w 191 (zerosW (nw N))).alloc (.cells #[.int .i64 (N : Int), .slice (some ⟨w.heap.size, 0, none⟩) (nw N) (nw N)] 189)
  have z1 := Blk.made (w.alloc (.cells (zerosW (nw N)) 191)) 189 #[.int .i64 (N : Int), .slice (some ⟨w.heap.size, 0, none⟩) (nw N) (nw N)]
  rw [World.size_alloc] at z1
  have hw : BW ((w.alloc (.cells (zerosW (nw N)) 191)).alloc (.cells #[.int .i64 (N : Int), .slice (some ⟨w.heap.size, 0, none⟩) (nw N) (nw N)] 189)) w.heap.size (word (offs N)) (nw N) :=
    ⟨_, z0, fun k hk => by rw [word_offs]; simp [zerosW, hk]⟩
  have hM2 : (nw N : Int) ≤ 1024 := by omega
  generalize hm : nw N = M at *
  have HM := Lib.hid hm
  clear hm
  go_enter Tryz.func114, Tryz.ntmps114
  go_wp2_with fail
  go_ret2
  refine ⟨rfl, ⟨offs_len N, ⟨h1, h2⟩, ?_, ?_, ?_⟩, ((Below.refl _ w).alloc (Nat.le_refl _) _).alloc (by simp) _⟩
  · rw [HM.out]; exact z1
  · rw [HM.out]; exact hw
  · rw [HM.out]; exact ⟨Nat.le_refl _, by omega⟩
theorem shl_wrap (x s : Nat) : IntKind.u64.wrap ((x : Int) * 2 ^ s) = ((x * 2 ^ s % 18446744073709551616 : Nat) : Int) := by
  have e : (x : Int) * 2 ^ s = ((x * 2 ^ s : Nat) : Int) := by rw [Int.natCast_mul]; congr 1
  rw [e, IntKind.wrap_u64]
  omega

set_option maxRecDepth 100000 in
set_option maxHeartbeats 400000 in
theorem Bahead_ok {w : World} {p g cap n : Nat} {r : List Bool} (h : BM w p g cap n r) (T : Nat) (hT : T ≤ n) :
    Calls Tryz.prog 174 #[.pointer (some ⟨p, 0, none⟩), .int .i64 (T : Nat)] w fun e w' => e = .returned (.int .i64 (cnt r T : Nat)) ∧ w = w' := by
  have c1 := h.c1
  have hn := h.hn
  have i1 : (T : Int) ≤ (n : Int) := by omega
  have i2 : (n : Int) ≤ 65536 := by omega
  have hnw : 64 * nw n ≤ n + 63 := by unfold nw; omega
  have hnw2 : n ≤ 64 * nw n := by unfold nw; omega
  have hg := h.hg
  clear h
  go_enter Tryz.func174, Tryz.ntmps174
  go_wp2_with fail
  go_loop [5, 10] (fun a i => ∃ q : Nat, q ≤ T / 64 ∧ i = .int .i64 q ∧ a = .int .i64 ((cnt r (64 * q) : Nat) : Int)) (fun _ i => T / 64 - (intOf i).toNat)
  case atStart => exact ⟨0, Nat.zero_le _, rfl, rfl⟩
  case round =>
    obtain ⟨q, hq, rfl, rfl⟩ := hrel
    by_cases hlt : q < T / 64
    · have cg := hg.cell (k := q) (by omega)
      have j1 : (q : Int) < ((T / 64 : Nat) : Int) := by omega
      have hpw := pop_word r q 64 (Nat.le_refl _)
      rw [show 64 * q + 64 = 64 * (q + 1) by omega] at hpw
      have hcl := cnt_le r (64 * (q + 1))
      have hon := Ones_ok (word r q) (word_lt r q) w
      have HPW := Lib.hid hpw
      have j2 : ((cnt r (64 * q) : Nat) : Int) + ((popN (word r q) 64 : Nat) : Int) = ((cnt r (64 * (q + 1)) : Nat) : Int) := by omega
      have j3 : ((cnt r (64 * (q + 1)) : Nat) : Int) ≤ 65600 := by omega
      have j4 : (q : Int) < 1024 := by omega
      clear hpw hcl
      generalize hC1 : cnt r (64 * (q + 1)) = C1 at *
      have HC1 := Lib.hid hC1
      clear hC1
      generalize cnt r (64 * q) = C0 at *
      generalize popN (word r q) 64 = PW at *
      generalize word r q = WQ at *
      go_wp2_with fail
      refine hon.mono ?_
      rintro e w1 ⟨rfl, rfl⟩
      go_wp2_with fail
      go_round
      case rel => exact ⟨q + 1, by omega, by go_num, by rw [HC1.out]⟩
      case measure => simp [intOf]; omega
    · obtain rfl : q = T / 64 := by omega
      by_cases hL : T % 64 = 0
      · have j1 : ((T % 64 : Nat) : Int) = 0 := by omega
        have j2 : (T : Int) % 64 = 0 := by omega
        have hC : cnt r (64 * (T / 64)) = cnt r T := by rw [show 64 * (T / 64) = T by omega]
        rw [hC]
        clear hL
        go_wp2_with fail
        go_ret
        exact ⟨rfl, rfl⟩
      · have j1 : 0 < ((T % 64 : Nat) : Int) := by omega
        have j2 : 0 < (T : Int) % 64 := by omega
        have hL64 : T % 64 < 64 := Nat.mod_lt _ (by decide)
        have cg := hg.cell (k := T / 64) (by omega)
        have hpw := pop_word r (T / 64) (T % 64) (by omega)
        rw [show 64 * (T / 64) + T % 64 = T by omega] at hpw
        have hsh := pop_shl (word r (T / 64)) (s := 64 - T % 64) (by omega)
        rw [show 64 - (64 - T % 64) = T % 64 by omega] at hsh
        have hon := Ones_ok _ (Nat.mod_lt (word r (T / 64) * 2 ^ (64 - T % 64)) (by decide : 0 < 18446744073709551616)) w
        rw [hsh] at hon
        have k1 := shl_wrap (word r (T / 64)) (64 - T % 64)
        have hcl := cnt_le r T
        have j3 : ((cnt r (64 * (T / 64)) : Nat) : Int) + ((popN (word r (T / 64)) (T % 64) : Nat) : Int) = ((cnt r T : Nat) : Int) := by omega
        have j4 : ((cnt r T : Nat) : Int) ≤ 65536 := by omega
        clear hL hL64 hpw hsh hcl
        generalize hC1 : cnt r T = C1 at *
        have HC1 := Lib.hid hC1
        clear hC1
        generalize cnt r (64 * (T / 64)) = C0 at *
        generalize popN (word r (T / 64)) (T % 64) = PW at *
        generalize word r (T / 64) * 2 ^ (64 - T % 64) % 18446744073709551616 = SH at *
        go_wp2_with fail
        refine hon.mono ?_
        rintro e w1 ⟨rfl, rfl⟩
        go_wp2_with fail
        go_ret
        exact ⟨ret_nat HC1.out.symm, rfl⟩

theorem BCount_ok {w : World} {p g cap n : Nat} {r : List Bool} (h : BM w p g cap n r) :
    Calls Tryz.prog 120 #[.pointer (some ⟨p, 0, none⟩)] w fun e w' => e = .returned (.int .i64 (cnt r n : Nat)) ∧ w = w' := by
  go_enter Tryz.func120, Tryz.ntmps120
  go_wp2_with fail
  refine (BLen_ok h).mono ?_
  rintro e w1 ⟨rfl, rfl⟩
  go_wp2_with fail
  refine (Bahead_ok h n (Nat.le_refl _)).mono ?_
  rintro e w1 ⟨rfl, rfl⟩
  go_wp2_with fail
  go_ret
  exact ⟨rfl, rfl⟩

theorem BRange_ok {w : World} {p g cap n : Nat} {r : List Bool} (h : BM w p g cap n r) (a b : Nat) (hab : a ≤ b) (hb : b ≤ n) :
    Calls Tryz.prog 185 #[.pointer (some ⟨p, 0, none⟩), .int .i64 (a : Nat), .int .i64 (b : Nat)] w fun e w' => e = .returned (.tuple #[.int .i64 ((cnt r b - cnt r a : Nat) : Int), .int .i64 0]) ∧ w = w' := by
  have c0 := h.c0
  have hn := h.hn
  have i1 : (a : Int) ≤ (b : Int) := by omega
  have i2 : (b : Int) ≤ (n : Int) := by omega
  have h1 := Bahead_ok h b hb
  have h2 := Bahead_ok h a (by omega)
  have hm := cnt_mono r hab
  have hl := cnt_le r b
  have j1 : ((cnt r b : Nat) : Int) - ((cnt r a : Nat) : Int) = ((cnt r b - cnt r a : Nat) : Int) := by omega
  have j2 : ((cnt r b - cnt r a : Nat) : Int) ≤ 65536 := by omega
  have j3 : IntKind.i64.wrap (((cnt r b - cnt r a : Nat) : Int)) = ((cnt r b - cnt r a : Nat) : Int) := IntWalk.i64_in _ (by omega)
  clear hm hl
  generalize cnt r b - cnt r a = D at *
  generalize cnt r b = CB at *
  generalize cnt r a = CA at *
  go_enter Tryz.func185, Tryz.ntmps185
  go_wp2_with fail
  refine h1.mono ?_
  rintro e w1 ⟨rfl, rfl⟩
  go_wp2_with fail
  refine h2.mono ?_
  rintro e w1 ⟨rfl, rfl⟩
  go_wp2_with fail
  go_ret2
  exact ⟨rfl, rfl⟩
end Go.Proofs.YtaonkbfekadalaaGreatDoor
/- What Next comes to. -/
namespace Go.Proofs.YtaonkbfekadalaaGreatDoor
open Go.RowKit
set_option linter.unusedVariables false

/-- s is the first bit that is on and no less than i; -1: there is none. -/
def IsNext (r : List Bool) (i s : Int) : Prop :=
  (∃ j : Nat, s = j ∧ i ≤ (j : Int) ∧ on r j = true ∧ ∀ k : Nat, i ≤ (k : Int) → k < j → on r k = false) ∨ (s = -1 ∧ ∀ k : Nat, i ≤ (k : Int) → on r k = false)
theorem IsNext.uniq {r : List Bool} {i s s' : Int} (h : IsNext r i s) (h' : IsNext r i s') : s = s' := by
  rcases h with ⟨j, rfl, h1, h2, h3⟩ | ⟨rfl, h1⟩ <;> rcases h' with ⟨j', rfl, h1', h2', h3'⟩ | ⟨rfl, h1'⟩
  · rcases Nat.lt_trichotomy j j' with h | h | h
    · rw [h3' j h1 h] at h2; cases h2
    · rw [h]
    · rw [h3 j' h1' h] at h2'; cases h2'
  · rw [h1' j h1] at h2; cases h2
  · rw [h1 j' h1'] at h2'; cases h2'
  · rfl
theorem IsNext.bd {r : List Bool} {i s : Int} (h : IsNext r i s) : -1 ≤ s ∧ s < r.length := by
  rcases h with ⟨j, rfl, h1, h2, h3⟩ | ⟨rfl, h1⟩
  · refine ⟨by omega, ?_⟩
    rcases Nat.lt_or_ge j r.length with h | h
    · omega
    · rw [on_end h] at h2; cases h2
  · exact ⟨by omega, by omega⟩

/-- What the loop knows: of the words ahead of the q-th one nothing from I on is on; X is the q-th one from I on. -/
structure NextAt (r : List Bool) (I q X : Nat) : Prop where
  lt : X < 18446744073709551616
  bit : ∀ j, j < 64 → X.testBit j = (decide (I ≤ 64 * q + j) && on r (64 * q + j))
  none : ∀ k, I ≤ k → k < 64 * q → on r k = false
theorem NextAt.start {r : List Bool} {I : Nat} : NextAt r I (I / 64) (word r (I / 64) / 2 ^ (I % 64) * 2 ^ (I % 64)) := by
  have hw := word_lt r (I / 64)
  have hle : word r (I / 64) / 2 ^ (I % 64) * 2 ^ (I % 64) ≤ word r (I / 64) := Nat.div_mul_le_self _ _
  refine ⟨Nat.lt_of_le_of_lt hle hw, fun j hj => ?_, fun k h1 h2 => by omega⟩
  rw [Nat.testBit_mul_two_pow, shr_bit, word_bit]
  by_cases h : I % 64 ≤ j
  · rw [show j - I % 64 + I % 64 = j by omega]
    simp [h, hj, show I ≤ 64 * (I / 64) + j by omega]
  · simp [h, show ¬ I ≤ 64 * (I / 64) + j by omega]
theorem NextAt.hit {r : List Bool} {I q X : Nat} (h : NextAt r I q X) (h0 : X ≠ 0) : IsNext r I ((64 * q + Lib.ctz 64 X : Nat) : Int) := by
  obtain ⟨c1, c2, c3⟩ := ctz_spec h0 h.lt
  have hb := h.bit _ c1
  rw [c2] at hb
  simp at hb
  refine .inl ⟨_, rfl, by omega, hb.2, fun k k1 k2 => ?_⟩
  by_cases hk : k < 64 * q
  · exact h.none k (by omega) hk
  · have hb2 := h.bit (k - 64 * q) (by omega)
    rw [c3 _ (by omega), show 64 * q + (k - 64 * q) = k by omega] at hb2
    simp at hb2
    exact hb2 (by omega)
theorem NextAt.past {r : List Bool} {I q : Nat} (h : NextAt r I q 0) : ∀ k, I ≤ k → k < 64 * (q + 1) → on r k = false := fun k k1 k2 => by
  by_cases hk : k < 64 * q
  · exact h.none k (by omega) hk
  · have hb2 := h.bit (k - 64 * q) (by omega)
    rw [Nat.zero_testBit, show 64 * q + (k - 64 * q) = k by omega] at hb2
    simp at hb2
    exact hb2 k1
theorem NextAt.step {r : List Bool} {I q : Nat} (h : NextAt r I q 0) (hq : I ≤ 64 * (q + 1)) : NextAt r I (q + 1) (word r (q + 1)) :=
  ⟨word_lt _ _, fun j hj => by rw [word_bit]; simp [hj, show I ≤ 64 * (q + 1) + j by omega], h.past⟩

set_option maxRecDepth 100000 in
set_option maxHeartbeats 800000 in
theorem BNext_nat {w : World} {p g cap n : Nat} {r : List Bool} (h : BM w p g cap n r) (hT : Tab w) (i : Int) (I : Nat) (hi : (max i 0) = (I : Int)) :
    Calls Tryz.prog 202 #[.pointer (some ⟨p, 0, none⟩), .int .i64 i] w fun e w' => (∃ s : Int, e = .returned (.int .i64 s) ∧ IsNext r I s) ∧ w = w' := by
  have c1 := h.c1
  have hn := h.hn
  have hlen := BLen_ok h
  by_cases hI : n ≤ I
  · have i1 : (n : Int) ≤ (I : Int) := by omega
    go_enter Tryz.func202, Tryz.ntmps202
    go_wp2_with fail
    refine hlen.mono ?_
    rintro e w1 ⟨rfl, rfl⟩
    go_wp2_with fail
    go_ret
    exact ⟨⟨_, rfl, .inr ⟨rfl, fun k hk => on_end (by rw [h.hl]; omega)⟩⟩, rfl⟩
  · have i1 : (I : Int) < (n : Int) := by omega
    have i2 : (n : Int) ≤ 65536 := by omega
    have i0 : (0 : Int) ≤ (I : Int) := by omega
    have hIw : I / 64 < nw n := by unfold nw; omega
    have hnw : n ≤ 64 * nw n := by unfold nw; omega
    have hnw2 : 64 * nw n ≤ n + 63 := by unfold nw; omega
    have cg := h.hg.cell hIw
    have hst := NextAt.start (r := r) (I := I)
    have k1 : ((word r (I / 64) : Nat) : Int) / 2 ^ (I % 64) = ((word r (I / 64) / 2 ^ (I % 64) : Nat) : Int) := by
      rw [Int.natCast_ediv]; congr 1
    have k2 := shl_wrap (word r (I / 64) / 2 ^ (I % 64)) (I % 64)
    rw [Nat.mod_eq_of_lt hst.lt] at k2
    generalize word r (I / 64) / 2 ^ (I % 64) * 2 ^ (I % 64) = X0 at *
    generalize word r (I / 64) / 2 ^ (I % 64) = Y0 at *
    generalize hm : nw n = M at *
    have HI := Lib.hid hI
    clear hI
    go_enter Tryz.func202, Tryz.ntmps202
    go_wp2_with fail
    refine hlen.mono ?_
    rintro e w1 ⟨rfl, rfl⟩
    go_wp2_with fail
    go_loop [5, 6] (fun x k => ∃ q X : Nat, I / 64 ≤ q ∧ q < M ∧ k = .int .i64 q ∧ x = .int .u64 (X : Nat) ∧ NextAt r I q X) (fun _ k => M - (intOf k).toNat)
    case atStart => exact ⟨I / 64, X0, Nat.le_refl _, hIw, by go_num, by rw [k2], hst⟩
    case round =>
      obtain ⟨q, X, hq1, hq, rfl, rfl, hat⟩ := hrel
      have j1 : (q : Int) ≤ 1024 := by omega
      have j0 : (0 : Int) ≤ (q : Int) := by omega
      by_cases h0 : X = 0
      · subst h0
        by_cases hlast : q + 1 = M
        · have t1 : ((q : Int) + 1 == (M : Int)) = true := by simp; omega
          have hnone : ∀ k, I ≤ k → on r k = false := fun k hk => by
            by_cases hk2 : k < 64 * (q + 1)
            · exact hat.past k hk hk2
            · exact on_end (by rw [h.hl]; omega)
          clear hlast
          go_wp2_with fail
          go_ret
          exact ⟨⟨_, rfl, .inr ⟨rfl, fun k hk => hnone k (by omega)⟩⟩, rfl⟩
        · have t1 : ((q : Int) + 1 == (M : Int)) = false := by simp; omega
          have cq := h.hg.cell (k := q + 1) (by omega)
          have t2 : (q : Int) + 1 < (M : Int) := by omega
          have t3 : ((q : Int) + 1).toNat = q + 1 := by omega
          have hst2 := hat.step (by omega)
          have hqm : q + 1 < M := by omega
          clear hlast
          go_wp2_with fail
          go_round
          case rel => exact ⟨q + 1, _, by omega, hqm, by go_num, rfl, hst2⟩
          case measure => simp [intOf]; omega
      · have hc := Ctz_ok X hat.lt h0 w hT
        have hh := hat.hit h0
        have hcl := (ctz_spec h0 hat.lt).1
        have t0 : ((X : Int) != 0) = true := by simp; omega
        have t3 : (q : Int) * 64 + ((Lib.ctz 64 X : Nat) : Int) = ((64 * q + Lib.ctz 64 X : Nat) : Int) := by omega
        have t4 : ((64 * q + Lib.ctz 64 X : Nat) : Int) ≤ 70000 := by omega
        have t5 : IntKind.i64.wrap ((64 * q + Lib.ctz 64 X : Nat) : Int) = ((64 * q + Lib.ctz 64 X : Nat) : Int) := IntWalk.i64_in _ (by omega)
        clear hcl
        generalize 64 * q + Lib.ctz 64 X = Z at *
        generalize Lib.ctz 64 X = C at *
        clear h0
        go_wp2_with fail
        refine hc.mono ?_
        rintro e w1 ⟨rfl, rfl⟩
        go_wp2_with fail
        go_ret
        exact ⟨⟨_, rfl, hh⟩, rfl⟩

/-- NEXT, AT EVERY NUMBER. -/
theorem BNext_any {w : World} {p g cap n : Nat} {r : List Bool} (h : BM w p g cap n r) (hT : Tab w) (i : Int) :
    Calls Tryz.prog 202 #[.pointer (some ⟨p, 0, none⟩), .int .i64 i] w fun e w' => (∃ s : Int, e = .returned (.int .i64 s) ∧ IsNext r i s) ∧ w = w' := by
  refine (BNext_nat h hT i (max i 0).toNat (by omega)).mono ?_
  rintro e w' ⟨⟨s, rfl, hs⟩, hw⟩
  refine ⟨⟨s, rfl, ?_⟩, hw⟩
  rcases hs with ⟨j, rfl, h1, h2, h3⟩ | ⟨rfl, h1⟩
  · exact .inl ⟨j, rfl, by omega, h2, fun k k1 k2 => h3 k (by omega) k2⟩
  · exact .inr ⟨rfl, fun k hk => h1 k (by omega)⟩
end Go.Proofs.YtaonkbfekadalaaGreatDoor
/- What Prev comes to. -/
namespace Go.Proofs.YtaonkbfekadalaaGreatDoor
open Go.RowKit
set_option linter.unusedVariables false

/-- s is the last bit that is on and no greater than i; -1: there is none. -/
def IsPrev (r : List Bool) (i s : Int) : Prop :=
  (∃ j : Nat, s = j ∧ (j : Int) ≤ i ∧ on r j = true ∧ ∀ k : Nat, j < k → (k : Int) ≤ i → on r k = false) ∨ (s = -1 ∧ ∀ k : Nat, (k : Int) ≤ i → on r k = false)
theorem IsPrev.uniq {r : List Bool} {i s s' : Int} (h : IsPrev r i s) (h' : IsPrev r i s') : s = s' := by
  rcases h with ⟨j, rfl, h1, h2, h3⟩ | ⟨rfl, h1⟩ <;> rcases h' with ⟨j', rfl, h1', h2', h3'⟩ | ⟨rfl, h1'⟩
  · rcases Nat.lt_trichotomy j j' with h | h | h
    · rw [h3 j' h h1'] at h2'; cases h2'
    · rw [h]
    · rw [h3' j h h1] at h2; cases h2
  · rw [h1' j h1] at h2; cases h2
  · rw [h1 j' h1'] at h2'; cases h2'
  · rfl
theorem IsPrev.bd {r : List Bool} {i s : Int} (h : IsPrev r i s) : -1 ≤ s ∧ s < r.length := by
  rcases h with ⟨j, rfl, h1, h2, h3⟩ | ⟨rfl, h1⟩
  · refine ⟨by omega, ?_⟩
    rcases Nat.lt_or_ge j r.length with h | h
    · omega
    · rw [on_end h] at h2; cases h2
  · exact ⟨by omega, by omega⟩

/-- What the loop knows: of the words behind the q-th one nothing up to I is on; X is the q-th one up to I. -/
structure PrevAt (r : List Bool) (I q X : Nat) : Prop where
  lt : X < 18446744073709551616
  bit : ∀ j, j < 64 → X.testBit j = (decide (64 * q + j ≤ I) && on r (64 * q + j))
  none : ∀ k, k ≤ I → 64 * (q + 1) ≤ k → on r k = false
theorem PrevAt.start {r : List Bool} {I s : Nat} (hs : s = 63 - I % 64) : PrevAt r I (I / 64) ((word r (I / 64) * 2 ^ s % 18446744073709551616) / 2 ^ s) := by
  have hlt : word r (I / 64) * 2 ^ s % 18446744073709551616 < 18446744073709551616 := Nat.mod_lt _ (by decide)
  refine ⟨Nat.lt_of_le_of_lt (Nat.div_le_self _ _) hlt, fun j hj => ?_, fun k h1 h2 => by omega⟩
  rw [shr_bit]
  by_cases h : j + s < 64
  · rw [shl_bit _ _ _ h, word_bit, show j + s - s = j by omega]
    simp [hj, show 64 * (I / 64) + j ≤ I by omega]
  · rw [Nat.testBit_lt_two_pow (Nat.lt_of_lt_of_le hlt (Nat.pow_le_pow_right (n := 2) (by decide) (show 64 ≤ j + s by omega)))]
    simp [show ¬ 64 * (I / 64) + j ≤ I by omega]
theorem PrevAt.hit {r : List Bool} {I q X : Nat} (h : PrevAt r I q X) (h0 : X ≠ 0) : IsPrev r I ((64 * q + Lib.bitLen X - 1 : Nat) : Int) := by
  obtain ⟨c0, c1, c2, c3⟩ := bitLen_spec h0 h.lt
  have hb := h.bit (Lib.bitLen X - 1) (by omega)
  rw [c2] at hb
  simp at hb
  have e : 64 * q + Lib.bitLen X - 1 = 64 * q + (Lib.bitLen X - 1) := by omega
  rw [e]
  refine .inl ⟨_, rfl, by omega, hb.2, fun k k1 k2 => ?_⟩
  by_cases hk : 64 * (q + 1) ≤ k
  · exact h.none k (by omega) hk
  · have hb2 := h.bit (k - 64 * q) (by omega)
    rw [c3 _ (by omega), show 64 * q + (k - 64 * q) = k by omega] at hb2
    simp at hb2
    exact hb2 (by omega)
theorem PrevAt.past {r : List Bool} {I q : Nat} (h : PrevAt r I q 0) : ∀ k, k ≤ I → 64 * q ≤ k → on r k = false := fun k k1 k2 => by
  by_cases hk : 64 * (q + 1) ≤ k
  · exact h.none k (by omega) hk
  · have hb2 := h.bit (k - 64 * q) (by omega)
    rw [Nat.zero_testBit, show 64 * q + (k - 64 * q) = k by omega] at hb2
    simp at hb2
    exact hb2 k1
theorem PrevAt.step {r : List Bool} {I q : Nat} (h : PrevAt r I (q + 1) 0) (hq : 64 * (q + 1) ≤ I + 1) : PrevAt r I q (word r q) :=
  ⟨word_lt _ _, fun j hj => by rw [word_bit]; simp [hj, show 64 * q + j ≤ I by omega], h.past⟩

set_option maxRecDepth 100000 in
set_option maxHeartbeats 800000 in
theorem BPrev_nat {w : World} {p g cap n : Nat} {r : List Bool} (h : BM w p g cap n r) (i : Int) (I : Nat) (hi : (min i ((n : Int) - 1)) = (I : Int)) :
    Calls Tryz.prog 136 #[.pointer (some ⟨p, 0, none⟩), .int .i64 i] w fun e w' => (∃ s : Int, e = .returned (.int .i64 s) ∧ IsPrev r I s) ∧ w = w' := by
  have c1 := h.c1
  have hn := h.hn
  have hlen := BLen_ok h
  have i1 : (I : Int) < (n : Int) := by omega
  have i2 : (n : Int) ≤ 65536 := by omega
  have i3 : (1 : Int) ≤ (n : Int) := by omega
  have i0 : (0 : Int) ≤ (I : Int) := by omega
  have hIw : I / 64 < nw n := by unfold nw; omega
  have hnw : n ≤ 64 * nw n := by unfold nw; omega
  have hnw2 : 64 * nw n ≤ n + 63 := by unfold nw; omega
  have cg := h.hg.cell hIw
  have hst := PrevAt.start (r := r) (I := I) (s := 63 - I % 64) rfl
  have k1 := shl_wrap (word r (I / 64)) (63 - I % 64)
  have k2 : ((word r (I / 64) * 2 ^ (63 - I % 64) % 18446744073709551616 : Nat) : Int) / 2 ^ (63 - I % 64) = ((word r (I / 64) * 2 ^ (63 - I % 64) % 18446744073709551616 / 2 ^ (63 - I % 64) : Nat) : Int) := by
    rw [Int.natCast_ediv]; congr 1
  generalize word r (I / 64) * 2 ^ (63 - I % 64) % 18446744073709551616 / 2 ^ (63 - I % 64) = X0 at *
  generalize word r (I / 64) * 2 ^ (63 - I % 64) % 18446744073709551616 = Y0 at *
  generalize hm : nw n = M at *
  go_enter Tryz.func136, Tryz.ntmps136
  go_wp2_with fail
  refine hlen.mono ?_
  rintro e w1 ⟨rfl, rfl⟩
  go_wp2_with fail
  go_loop [6, 7] (fun x k => ∃ q X : Nat, q ≤ I / 64 ∧ k = .int .i64 q ∧ x = .int .u64 (X : Nat) ∧ PrevAt r I q X) (fun _ k => (intOf k).toNat)
  case atStart =>
    exact ⟨I / 64, X0, Nat.le_refl _, by go_num, by rw [k2], hst⟩
  case round =>
    obtain ⟨q, X, hq1, rfl, rfl, hat⟩ := hrel
    have j1 : (q : Int) ≤ 1024 := by omega
    have j0 : (0 : Int) ≤ (q : Int) := by omega
    by_cases h0 : X = 0
    · subst h0
      cases q with
      | zero =>
        have hnone : ∀ k, k ≤ I → on r k = false := fun k hk => hat.past k hk (by omega)
        go_wp2_with fail
        go_ret
        exact ⟨⟨_, rfl, .inr ⟨rfl, fun k hk => hnone k (by omega)⟩⟩, rfl⟩
      | succ q =>
        have cq := h.hg.cell (k := q) (by omega)
        have t1 : ((q + 1 : Nat) : Int) - 1 = (q : Int) := by omega
        have t2 : (q : Int) + 1 - 1 = (q : Int) := by omega
        have t4 : (q : Int) < (M : Int) := by omega
        have t5 : (0 : Int) ≤ (q : Int) := by omega
        have t6 : ¬ ((q : Int) < 0) := by omega
        have hst2 := hat.step (by omega)
        have hqm : q ≤ I / 64 := by omega
        go_wp2_with fail
        go_round
        case rel => exact ⟨q, _, hqm, by go_num, rfl, hst2⟩
        case measure => simp [intOf]
    · have hc := bits_Len64 (X : Int) w (by omega) (by have := hat.lt; omega)
      rw [Int.toNat_natCast] at hc
      have hh := hat.hit h0
      obtain ⟨hcl0, hcl, _⟩ := bitLen_spec h0 hat.lt
      have t0 : ((X : Int) != 0) = true := by simp; omega
      have t3 : (q : Int) * 64 + ((Lib.bitLen X : Nat) : Int) - 1 = ((64 * q + Lib.bitLen X - 1 : Nat) : Int) := by omega
      have t4 : ((64 * q + Lib.bitLen X - 1 : Nat) : Int) ≤ 70000 := by omega
      have t6 : (1 : Int) ≤ ((Lib.bitLen X : Nat) : Int) := by omega
      have t7 : ((Lib.bitLen X : Nat) : Int) ≤ 64 := by omega
      clear hcl hcl0
      generalize 64 * q + Lib.bitLen X - 1 = Z at *
      generalize Lib.bitLen X = C at *
      clear h0
      go_wp2_with fail
      refine hc.mono ?_
      rintro e w1 ⟨rfl, rfl⟩
      go_wp2_with fail
      go_ret
      exact ⟨⟨_, rfl, hh⟩, rfl⟩
/-- PREV, AT EVERY NUMBER. -/
theorem BPrev_any {w : World} {p g cap n : Nat} {r : List Bool} (h : BM w p g cap n r) (i : Int) :
    Calls Tryz.prog 136 #[.pointer (some ⟨p, 0, none⟩), .int .i64 i] w fun e w' => (∃ s : Int, e = .returned (.int .i64 s) ∧ IsPrev r i s) ∧ w = w' := by
  have hn := h.hn
  by_cases hi : i < 0
  · have hlen := BLen_ok h
    have i1 : min i ((n : Int) - 1) = i := by omega
    have i2 : (n : Int) ≤ 65536 := by omega
    have i3 : (1 : Int) ≤ (n : Int) := by omega
    go_enter Tryz.func136, Tryz.ntmps136
    go_wp2_with fail
    refine hlen.mono ?_
    rintro e w1 ⟨rfl, rfl⟩
    go_wp2_with fail
    go_ret
    exact ⟨⟨_, rfl, .inr ⟨rfl, fun k hk => by omega⟩⟩, rfl⟩
  · refine (BPrev_nat h i (min i ((n : Int) - 1)).toNat (by omega)).mono ?_
    rintro e w' ⟨⟨s, rfl, hs⟩, hw⟩
    refine ⟨⟨s, rfl, ?_⟩, hw⟩
    rcases hs with ⟨j, rfl, h1, h2, h3⟩ | ⟨rfl, h1⟩
    · refine .inl ⟨j, rfl, by omega, h2, fun k k1 k2 => ?_⟩
      by_cases hk : (k : Int) < n
      · exact h3 k k1 (by omega)
      · exact on_end (by rw [h.hl]; omega)
    · refine .inr ⟨rfl, fun k hk => ?_⟩
      by_cases hk : (k : Int) < n
      · exact h1 k (by omega)
      · exact on_end (by rw [h.hl]; omega)
end Go.Proofs.YtaonkbfekadalaaGreatDoor
